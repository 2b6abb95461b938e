import Derived.Test.YthghiokcinpnlaaDoorLb5
namespace Go.Proofs.YthghiokcinpnlaaDoor
open Go Go.Ev Go.RowKit
set_option maxRecDepth 20000
set_option linter.unusedVariables false

theorem bits_nat (op : BinOp) (a b : Int) : ∃ v : Nat, v < 18446744073709551616 ∧ Go.bits op .u64 a b = (v : Int) := by
  have h1 := bits_u64_nonneg op a b
  have h2 : Go.bits op .u64 a b < 18446744073709551616 := by
    show IntKind.u64.wrap _ < _
    rw [IntKind.wrap_u64]; omega
  exact ⟨(Go.bits op .u64 a b).toNat, by omega, by omega⟩

theorem StP.buf {K : IntKind} {T : TypeId} {w : World} {b i c : Nat} {xs : List Int} {v : Int} {k : World → Prop} (h : Buf K T w b xs c) (hi : i < xs.length)
    (hk : ∀ w', Buf K T w' b (xs.set i v) c → Chg w.heap.size (fun k => k = b) w w' → w'.heap.size = w.heap.size → k w') : StP ⟨b, i, none⟩ (.int K v) k w := by
  have h' := h
  obtain ⟨sp, hB, e⟩ := h'
  exact StP.blk hB rfl (by simp; omega) (hk _ (h.set i hi v) ((Chg.refl _ _ _).setCell _ _ (fun _ => rfl)) (size_setCell _ _ _))
theorem Limbs.set {xs : List Nat} (h : Limbs xs) (i : Nat) {v : Nat} (hv : v < 18446744073709551616) : Limbs (xs.set i v) := fun x hx => by
  rcases List.mem_or_eq_of_mem_set hx with h1 | rfl
  · exact h x h1
  · exact hv
theorem ints_set_nat (xs : List Nat) (i v : Nat) : (ints xs).set i (v : Int) = ints (xs.set i v) := by unfold ints; rw [List.map_set]; rfl
set_option maxHeartbeats 1000000 in
theorem fromBytes_spec {bs : List Int} {a : Option Addr} {l c : Nat} {w : World} (hr : Row w a .u8 bs) (hl : l = bs.length) (hs : l ≤ 1000000) :
    Calls Tryd.prog 24 #[.slice a l c] w fun e w' => ∃ xs a' c', e = .returned (.slice a' (trimmed xs).length c') ∧ NRow w' a' (trimmed xs) ∧ Limbs xs ∧ xs.length = (l + 7) / 8 ∧ (trimmed xs).length ≤ c' ∧ (∀ p, a' = some p → w.heap.size ≤ p.block) ∧ Below w.heap.size w w' := by
  refine calls_of_ev tysOk extsOk Tryd.func24 rfl rfl rfl ?_
  refine ChkP.go (by decide) ?_
  have e0 : IntKind.i64.wrap (Int.tdiv (IntKind.i64.wrap ((l : Int) + 7)) 8) = (((l + 7) / 8 : Nat) : Int) := by
    rw [show (l : Int) + 7 = ((l + 7 : Nat) : Int) by omega, i64_of _ (by omega), show (8 : Int) = ((8 : Nat) : Int) from rfl, ← Int.ofNat_tdiv, i64_of _ (by omega)]
  refine Mk.to ((l + 7) / 8) ((l + 7) / 8) e0 e0 (Nat.le_refl _) (by omega) rfl fun w1 p1 a1 s1 => ?_
  refine LoopP.go (S := Nat) 274877890672 (by kernel_rfl) (fun i => [(14, .int .i64 i)])
    (fun i W => i ≤ l ∧ (∃ xs, Buf .u64 39 W w.heap.size (ints xs) ((l + 7) / 8) ∧ Limbs xs ∧ xs.length = (l + 7) / 8) ∧ Below w.heap.size w W) (fun i => l - i) 0 ⟨rfl, trivial⟩
    ⟨by omega, ⟨List.replicate ((l + 7) / 8) 0, by rw [ints_zeros]; exact p1, (fun x hx => by rw [List.eq_of_mem_replicate hx]; decide), by simp⟩, a1⟩ ?_
  rintro i j W ⟨h1, ⟨xs, h2, h3, h4⟩, h5⟩
  refine IfP.dec (fun hlt => ?_) (fun hge => ?_)
  · have hlt' : i < l := by omega
    refine IdxP.ld i rfl (hr.below h5) hl hlt' fun _ _ _ => ?_
    have ek : IntKind.i64.wrap (IntKind.i64.wrap ((l : Int) - 1) - (i : Int)) = ((l - 1 - i : Nat) : Int) := by
      rw [show (l : Int) - 1 = ((l - 1 : Nat) : Int) by omega, i64_of _ (by omega), show ((l - 1 : Nat) : Int) - (i : Int) = ((l - 1 - i : Nat) : Int) by omega, i64_of _ (by omega)]
    obtain ⟨k, hk⟩ : ∃ k, l - 1 - i = k := ⟨_, rfl⟩
    rw [hk] at ek
    have eq8 : IntKind.i64.wrap (Int.tdiv (IntKind.i64.wrap (IntKind.i64.wrap ((l : Int) - 1) - (i : Int))) 8) = ((k / 8 : Nat) : Int) := by
      rw [ek, show (8 : Int) = ((8 : Nat) : Int) from rfl, ← Int.ofNat_tdiv, i64_of _ (by omega)]
    have er8 : IntKind.i64.wrap (Int.tmod (IntKind.i64.wrap (IntKind.i64.wrap ((l : Int) - 1) - (i : Int))) 8 * 8) = ((k % 8 * 8 : Nat) : Int) := by
      rw [ek, show (8 : Int) = ((8 : Nat) : Int) from rfl, ← Int.ofNat_tmod, show (((k % 8 : Nat) : Int) * ((8 : Nat) : Int)) = ((k % 8 * 8 : Nat) : Int) by omega, i64_of _ (by omega)]
    have hil := ints_length xs
    refine DrawP.tail tysOk extsOk mixed 13 (by kernel_rfl) rfl ?_
    refine ChkP.go (by decide) ?_
    refine IdxP.ld (k / 8) eq8 (Buf.row (Buf.drw h2)) (by omega) (by omega) fun _ _ _ => ?_
    refine ChkP.go (by decide) ?_
    refine ChkP.go (by rw [er8]; omega) ?_
    refine IdxP.at (k / 8) eq8 (by omega) ?_
    have h2d := Buf.drw h2
    have h5d := h5.drew
    have hcell : (k / 8 : Nat) < (ints xs).length := by omega
    have hnext : IntKind.i64.wrap ((i : Int) + 1) = ((i + 1 : Nat) : Int) := by rw [show (i : Int) + 1 = ((i + 1 : Nat) : Int) by omega]; exact i64_of _ (by omega)
    refine StP.buf (i := 0 + k / 8 * 1) h2d (by omega) fun w2 g1 g2 g3 => ?_
    refine ⟨rfl, i + 1, ⟨⟨congrArg (Value.int .i64) hnext, trivial⟩, by omega, ?_, ?_⟩, by omega⟩
    · obtain ⟨v, hv1, hv2⟩ := bits_nat .or ((ints xs).getD (k / 8) 0) _
      rw [hv2, show 0 + k / 8 * 1 = k / 8 by omega, ints_set_nat] at g1
      exact ⟨_, g1, h3.set _ hv1, by rw [List.length_set]; exact h4⟩
    · exact Chg.below ((Chg.of_below (s := fun _ => False) h5d).thenC g2 h5d.size (fun k hk e => absurd e (by show ¬ (k = w.heap.size); omega)))
  · have hlen : (ints xs).length = (l + 7) / 8 := by rw [ints_length, h4]
    refine CallP.intro (trim_spec (xs := xs) h2.row h4.symm (Nat.le_refl _) (by omega)) ?_
    rintro e w4 ⟨a', rfl, q1, q2, hw⟩
    have hw := hw.symm
    subst hw
    refine ⟨_, rfl, rfl, xs, a', _, rfl, q1, h3, h4, ?_, ?_, h5⟩
    · rw [trimmed_length, h4]; exact Nat.le_trans (trimLen_le _ _) (by omega)
    · intro p hp
      obtain ⟨q, e1, e2⟩ := q2 p hp
      cases e1
      exact Nat.le_of_eq e2
end Go.Proofs.YthghiokcinpnlaaDoor
