import Derived.Test.YthghiokcinpnlaaDoorRf1
namespace Go.Proofs.YthghiokcinpnlaaDoor
open Go Go.Ev Go.RowKit
set_option maxRecDepth 20000
set_option linter.unusedVariables false

/-! ### the reference: padding -/
def zPad (n : Nat) : Nat := (119 - n % 64) % 64
def digs (n : Nat) : Nat → List Int
  | 0 => []
  | k + 1 => ((n / 256 ^ k % 256 : Nat) : Int) :: digs n k
theorem digs_length (n : Nat) : ∀ k, (digs n k).length = k
  | 0 => rfl
  | k + 1 => by rw [digs, List.length_cons, digs_length n k]
def padded (bs : List Int) : List Int := bs ++ [128] ++ List.replicate (zPad bs.length) 0 ++ digs (bs.length * 8) 8
theorem padded_length (bs : List Int) : (padded bs).length = bs.length + 9 + zPad bs.length := by simp [padded, digs_length]; omega

set_option maxHeartbeats 1000000 in
theorem pad_spec {a : Option Addr} {l c : Nat} {bs : List Int} {w : World} (hr : Row w a .u8 bs) (hl : l = bs.length) (hs : l ≤ 1000000) :
    Calls Tryd.prog 61 #[.slice a l c, .int .i64 64, .int .i64 8] w fun e w' => ∃ a' c' o', e = .returned (.slice a' (padded bs).length c') ∧ OwnS .u8 5 w' a' (padded bs).length c' (padded bs) o' ∧ (∀ k, o' = some k → w.heap.size ≤ k) ∧ Below w.heap.size w w' := by
  refine calls_of_ev tysOk extsOk Tryd.func61 rfl rfl rfl ?_
  refine RdP.row' hr ((Nat.mul_one l).trans hl) ?_
  refine App.own (OwnS.nil w) hl (by omega) (by decide) fun a1 c1 o1 w1 r1 r2 r3 => ?_
  rw [List.nil_append] at r1
  have b1 : Below w.heap.size w w1 := Chg.below (r2.mono (Nat.le_refl _) (fun k _ h => by cases h))
  have o1w : ∀ k, o1 = some k → w.heap.size ≤ k := fun k hk => by
    rcases r3 with r3 | r3
    · rw [r3] at hk; cases hk
    · rw [r3] at hk; cases hk; exact Nat.le_refl _
  have b2 : Below w1.heap.size w1 (w1.alloc (.cells #[.int .u8 128] 5)) := (Below.refl _ _).alloc (Nat.le_refl _) _
  have x2 := Buf.of (K := .u8) (xs := [128]) (Blk.newA w1 #[.int .u8 128] 5)
  refine RdP.row' x2.row rfl ?_
  refine App.own (r1.below b2) rfl (by omega) (by decide) fun a3 c3 o3 w3 q1 q2 q3 => ?_
  have o3w : ∀ k, o3 = some k → w.heap.size ≤ k := fun k hk => by
    rcases q3 with q3 | q3
    · exact o1w k (q3 ▸ hk)
    · rw [q3] at hk; cases hk; exact Nat.le_trans b1.size b2.size
  have b02 := b1.trans (b2.mono b1.size)
  have b3 : Below w.heap.size w w3 := Chg.below ((Chg.of_below (s := fun _ => False) b02).thenC q2 b02.size (fun k hk e => by have := o1w k e; omega))
  refine LoopP.go (S := Nat × Option Addr × Nat × Option Nat) 134152320 (by kernel_rfl) (fun s => [(7, .slice s.2.1 (l + 1 + s.1) s.2.2.1)])
    (fun s W => s.1 ≤ zPad l ∧ OwnS .u8 5 W s.2.1 (l + 1 + s.1) s.2.2.1 (bs ++ [128] ++ List.replicate s.1 0) s.2.2.2 ∧ (∀ k, s.2.2.2 = some k → w.heap.size ≤ k) ∧ Below w.heap.size w W)
    (fun s => zPad l - s.1) (0, a3, c3, o3) ⟨congrArg (fun n => Value.slice a3 n c3) (show 0 + l + 1 = l + 1 + 0 by omega), trivial⟩ ⟨Nat.zero_le _, by rw [show l + 1 + (0, a3, c3, o3).1 = 0 + l + 1 from (by show l + 1 + 0 = _; omega), List.replicate_zero, List.append_nil]; exact q1, o3w, b3⟩ ?_
  rintro ⟨z, oa, oc, oo⟩ j W ⟨k1, k2, k3, k4⟩
  simp only at k1 k2 k3
  have hz64 : zPad l < 64 := Nat.mod_lt _ (by decide)
  have ht : ((l + 1 + z : Nat) : Int).tmod 64 = (((l + 1 + z) % 64 : Nat) : Int) := by rw [Int.tmod_eq_emod_of_nonneg (by omega)]; rfl
  refine ChkP.go (by decide) ?_
  refine IfP.bne (fun hne => ?_) (fun heq => ?_)
  · have hne : (l + 1 + z) % 64 ≠ 56 := fun e => hne (by rw [ht, e]; rfl)
    have hlt : z + 1 ≤ zPad l := by unfold zPad at k1 ⊢; omega
    have b5 : Below W.heap.size W (W.alloc (.cells #[.int .u8 0] 5)) := (Below.refl _ _).alloc (Nat.le_refl _) _
    have x5 := Buf.of (K := .u8) (xs := [0]) (Blk.newA W #[.int .u8 0] 5)
    refine RdP.row' x5.row rfl ?_
    refine App.own (k2.below b5) rfl (by omega) (by decide) fun a6 c6 o6 w6 t1 t2 t3 => ?_
    have b05 := k4.trans (b5.mono k4.size)
    have b6 : Below w.heap.size w w6 := Chg.below ((Chg.of_below (s := fun _ => False) b05).thenC t2 b05.size (fun k hk e => by have := k3 k e; omega))
    refine ⟨rfl, (z + 1, a6, c6, o6), ⟨⟨by show Value.slice a6 (l + 1 + z + 1) c6 = _; rfl, trivial⟩, hlt, ?_, fun k hk => ?_, b6⟩, by show zPad l - (z + 1) < zPad l - z; omega⟩
    · have : bs ++ [128] ++ List.replicate (z + 1) (0 : Int) = bs ++ [128] ++ List.replicate z 0 ++ [0] := by rw [List.replicate_succ', ← List.append_assoc]
      rw [this]; exact t1
    · rcases t3 with t3 | t3
      · exact k3 k (t3 ▸ hk)
      · rw [t3] at hk; cases hk; exact b05.size
  · have heq : (l + 1 + z) % 64 = 56 := by rw [ht] at heq; have : (((l + 1 + z) % 64 : Nat) : Int) = 56 := heq; omega
    have hz : z = zPad l := by unfold zPad at k1 ⊢; omega
    subst hz
    have e1 : IntKind.u64.wrap (IntKind.u64.wrap (l : Int) * 8) = ((l * 8 : Nat) : Int) := by
      rw [u64_of l (by omega), show ((l : Int) * 8) = ((l * 8 : Nat) : Int) by omega]; exact u64_of _ (by omega)
    refine Mk.to 8 8 rfl rfl (Nat.le_refl _) (by decide) rfl fun w7 m7 b7 s7 => ?_
    have k27 := k2.below b7
    have hoW := k2.lt
    have b07 := k4.trans (b7.mono k4.size)
    refine LoopP.go (S := Nat) 140703128618240 (by kernel_rfl) (fun k => [(10, .int .i64 (7 - k)), (8, .int .u64 ((l * 8 / 256 ^ k : Nat) : Int))])
      (fun k V => k ≤ 8 ∧ Buf .u8 5 V W.heap.size (List.replicate (8 - k) 0 ++ digs (l * 8) k) 8 ∧ Chg w7.heap.size (fun b => b = W.heap.size) w7 V) (fun k => 8 - k) 0
      ⟨rfl, by rw [Nat.pow_zero, Nat.div_one]; exact congrArg (Value.int .u64) e1, trivial⟩ ⟨by omega, by simpa [digs] using m7, Chg.refl _ _ _⟩ ?_
    rintro k j V ⟨v1, v2, v3⟩
    refine IfP.dec (fun hk => ?_) (fun hk => ?_)
    · have hk : k ≤ 7 := by omega
      generalize hN : l * 8 / 256 ^ k = N
      refine ChkP.go (by decide) ?_
      have e2 : IntKind.u8.wrap ((N : Int).tmod 256) = ((N % 256 : Nat) : Int) := by
        rw [Int.tmod_eq_emod_of_nonneg (by omega)]
        exact IntWalk.u8_in _ (by omega)
      refine IdxP.toBuf (7 - k) (by omega) v2 (by omega) (by simp [digs_length]; omega) fun V1 g1 g2 g3 => ?_
      refine ChkP.go (by decide) ?_
      have e3 : IntKind.u64.wrap ((N : Int).tdiv 256) = ((l * 8 / 256 ^ (k + 1) : Nat) : Int) := by
        rw [Int.tdiv_eq_ediv_of_nonneg (by omega), Nat.pow_succ, ← Nat.div_div_eq_div_mul, hN, show ((N : Int) / 256) = ((N / 256 : Nat) : Int) by omega]
        refine u64_of _ ?_
        have : N ≤ l * 8 := by rw [← hN]; exact Nat.div_le_self _ _
        omega
      have e4 : IntKind.i64.wrap ((7 - (k : Int)) - 1) = 7 - ((k + 1 : Nat) : Int) := by rw [IntWalk.i64_in _ (by omega)]; omega
      refine ⟨rfl, k + 1, ⟨⟨congrArg (Value.int .i64) e4, congrArg (Value.int .u64) e3, trivial⟩, by omega, ?_, v3.thenC g2 v3.size (fun _ _ h => h)⟩, by omega⟩
      rw [show IntKind.u8.wrap ((N : Int).tmod 256) = _ from e2] at g1
      have e5 : (List.replicate (8 - k) (0 : Int) ++ digs (l * 8) k).set (7 - k) ((N % 256 : Nat) : Int) = List.replicate (8 - (k + 1)) 0 ++ digs (l * 8) (k + 1) := by
        rw [show 8 - k = (8 - (k + 1)) + 1 by omega, List.replicate_succ', List.append_assoc]
        have := set_split (List.replicate (8 - (k + 1)) (0 : Int)) 0 ((N % 256 : Nat) : Int) (digs (l * 8) k)
        rw [List.length_replicate, show 8 - (k + 1) = 7 - k by omega] at this
        rw [show 8 - (k + 1) = 7 - k by omega]
        rw [List.singleton_append, this, digs, hN]
      rw [e5] at g1
      exact g1
    · have hk8 : k = 8 := by omega
      subst hk8
      rw [Nat.sub_self, List.replicate_zero, List.nil_append] at v2
      have k2V := k27.chg v3 (fun b hb => by have := hoW b hb; have := b7.size; omega) (fun b hb => by have := hoW b hb; omega)
      have b0V : Below w.heap.size w V := Chg.below ((Chg.of_below (s := fun _ => False) b07).thenC v3 b07.size (fun b hb e => by have := k4.size; omega))
      refine RdP.row' v2.row (digs_length _ _).symm ?_
      refine App.own k2V (digs_length _ _).symm (by omega) (by decide) fun a8 c8 o8 w8 t1 t2 t3 => ?_
      have b8 : Below w.heap.size w w8 := Chg.below ((Chg.of_below (s := fun _ => False) b0V).thenC t2 b0V.size (fun k hk e => by have := k3 k e; omega))
      have hlen : (padded bs).length = l + 1 + zPad l + 8 := by rw [padded_length, hl]; omega
      rw [hlen]
      refine ⟨rfl, a8, c8, o8, rfl, ?_, fun k hk => ?_, b8⟩
      · rw [padded, ← hl]; exact t1
      · rcases t3 with t3 | t3
        · exact k3 k (t3 ▸ hk)
        · rw [t3] at hk; cases hk; exact b0V.size
end Go.Proofs.YthghiokcinpnlaaDoor
