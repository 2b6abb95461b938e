import Derived.Test.YthghiokcinpnlaaDoorHc1
import Derived.Test.YthghiokcinpnlaaDoorEvOwn
namespace Go.Proofs.YthghiokcinpnlaaDoor
open Go Go.Ev Go.RowKit
set_option maxRecDepth 20000
set_option linter.unusedVariables false

/-- the head of a hash is at hb, and nothing else is said. -/
theorem new_spec (w : World) : Calls Tryd.prog 57 #[.int .i64 3] w fun e w' => ∃ hb, e = .returned (.pointer (some ⟨hb, 0, none⟩)) ∧ w.heap.size ≤ hb ∧ Blk w' hb (hcells 3 start (.slice none 0 0) 0) 101 ∧ Below w.heap.size w w' := by
  refine calls_of_ev tysOk extsOk Tryd.func57 rfl rfl rfl ?_
  refine CallP.same (size_spec _) ?_
  refine IfP.neg rfl ?_
  refine CallP.intro (start_spec _) ?_
  rintro e w1 ⟨rfl, hw1⟩
  refine ⟨_, rfl, ?_⟩
  refine ⟨rfl, w1.heap.size, rfl, hw1.size, ?_, hw1.alloc hw1.size _⟩
  exact Blk.newA _ _ _
theorem take_spec (hb : Nat) (a : Option Addr) (l c : Nat) (n : Int) (wait : Value) (hs p kt : List Int) (w : World)
    (hB : Blk w hb (hcells 3 hs wait n) 101) (hs8 : hs.length = 8) (hr : Row w a .u8 p) (hl : l = p.length) (h64 : 64 ≤ l) (hc : l ≤ c)
    (hoff : ∀ q, a = some q → q.block ≠ hb) (hk : Row w (some ⟨3, 0, none⟩) .u64 kt) (hkl : kt.length = 80) (hk0 : 3 ≠ hb) :
    Calls Tryd.prog 71 #[.pointer (some ⟨hb, 0, none⟩), .slice a l c] w fun e w' => e = .returned (.tuple #[]) ∧ Blk w' hb (hcells 3 (compress kt hs p) wait n) 101 ∧ Chg w.heap.size (fun k => k = hb) w w' := by
  refine calls_of_ev tysOk extsOk Tryd.func71 rfl rfl rfl ?_
  refine NilP.go ?_
  refine LdI.go (n := 3) (hB.cell 0) ?_
  refine IfP.neg rfl ?_
  refine IfP.neg rfl ?_
  refine IfP.pos rfl ?_
  refine CallP.intro (sha256_spec hb a l c 3 n wait hs p kt w hB hs8 hr hl h64 hc hoff hk hkl hk0) ?_
  rintro e w1 ⟨rfl, h1, h2⟩
  exact ⟨_, rfl, rfl, rfl, h1, h2⟩

theorem clone_spec (a : Option Addr) (l c : Nat) (xs : List Int) (w : World) (hr : Row w a .u8 xs) (hl : l = xs.length) (h0 : 0 < l) (hs : l ≤ 1000000000) :
    Calls Tryd.prog 72 #[.slice a l c] w fun e w' => ∃ b c', e = .returned (.slice (some ⟨b, 0, none⟩) l c') ∧ w.heap.size ≤ b ∧ Buf .u8 5 w' b xs c' ∧ Below w.heap.size w w' := by
  refine calls_of_ev tysOk extsOk Tryd.func72 rfl rfl rfl ?_
  obtain ⟨b, o, rfl, _⟩ := hr 0 (by omega)
  refine IfP.neg rfl ?_
  have hr' := hr.alloc (.cells (#[] : Array Value) 5)
  refine RdP.row' hr' (by rw [hl]; exact Nat.mul_one _) ?_
  have hb1 : Below w.heap.size w (w.alloc (.cells (#[] : Array Value) 5)) := (Below.refl _ _).alloc (Nat.le_refl _) _
  refine App.grow (xs := []) (Row.nil _ _ _) rfl hl (by omega) (by omega) (by decide) fun c' w' h1 h2 h3 h4 => ?_
  rw [Nat.zero_add, List.nil_append] at *
  exact ⟨rfl, _, c', rfl, hb1.size, h1, hb1.trans (h3.mono hb1.size)⟩

theorem chunks_spec (a : Option Addr) (l c : Nat) (w : World) : Calls Tryd.prog 70 #[.slice a l c, .int .i64 64] w fun e w' => ∃ nb bb, e = .returned (.func (.func 76) #[] #[.pointer (some ⟨nb, 0, none⟩), .pointer (some ⟨bb, 0, none⟩)]) ∧ w.heap.size ≤ bb ∧ bb < nb ∧ Blk w' nb [.int .i64 64] 3 ∧ Blk w' bb [.slice a l c] 22 ∧ Below w.heap.size w w' := by
  refine calls_of_ev tysOk extsOk Tryd.func70 rfl rfl rfl ?_
  have hb := (Below.refl w.heap.size w).alloc (Nat.le_refl _) (.cells (#[.slice a l c] : Array Value) 22)
  refine ⟨rfl, _, w.heap.size, rfl, Nat.le_refl _, by rw [size_alloc]; exact Nat.lt_succ_self _, ?_, Blk.alloc ?_ _, ?_⟩
  · exact Blk.newA _ _ _
  · exact Blk.newA _ _ _
  · exact hb.alloc hb.size _

theorem chunks1_spec {nb bb lp : Nat} {all : List Int} {a0 : Option Addr} {l0 c0 : Nat} {I : Nat → World → Prop} {J : World → Prop} {S : Nat → Prop} {w : World}
    (hI : ∀ i W W', I i W → Chg W.heap.size (fun k => k = bb) W W' → I i W') (hnb : Blk w nb [.int .i64 64] 3) (hbb : Blk w bb [.slice a0 l0 c0] 22)
    (hr : Row w a0 .u8 all) (hl : l0 = all.length) (hc : l0 ≤ c0) (hs : l0 ≤ 1000000000) (hS1 : ¬ S nb) (hS2 : ¬ S bb) (hS3 : ∀ p, a0 = some p → ¬ S p.block ∧ p.block ≠ bb) (hne : nb ≠ bb) (h0 : I 0 w)
    (hy : ∀ i W p cp, 64 * i < l0 → I i W → w.heap.size ≤ p → Buf .u8 5 W p ((all.drop (64 * i)).take 64) cp →
      YieldP Tryd.prog none lp #[.int .i64 i, .slice (some ⟨p, 0, none⟩) (min 64 (l0 - 64 * i)) cp] (fun v W' => (v = .bool true ∧ I (i + 1) W' ∧ Chg W.heap.size S W W') ∨ (v = .bool false ∧ J W')) W) :
    Calls Tryd.prog 76 #[.func (.yield lp) #[] #[], .pointer (some ⟨nb, 0, none⟩), .pointer (some ⟨bb, 0, none⟩)] w fun e w' => e = .returned (.tuple #[]) ∧ (J w' ∨ ∃ i, l0 ≤ 64 * i ∧ I i w') := by
  refine calls_of_ev tysOk extsOk Tryd.func76 rfl rfl rfl ?_
  refine LdI.go (hnb.cell 0) ?_
  refine IfP.neg rfl ?_
  refine LoopP.go (S := Nat) 268435248 (by kernel_rfl) (fun i => [(4, .int .i64 i)])
    (fun i W => (∃ a c, Blk W bb [.slice a (l0 - 64 * i) c] 22 ∧ Row W a .u8 (all.drop (64 * i)) ∧ l0 - 64 * i ≤ c ∧ (∀ p, a = some p → ∃ q, a0 = some q ∧ q.block = p.block)) ∧ I i W ∧ Blk W nb [.int .i64 64] 3 ∧ w.heap.size ≤ W.heap.size) (fun i => l0 - 64 * i) 0 ⟨rfl, trivial⟩
    ⟨⟨a0, c0, by simpa using hbb, by simpa using hr, by omega, fun p hp => ⟨p, hp, rfl⟩⟩, h0, hnb, Nat.le_refl _⟩ ?_
  rintro i j W ⟨⟨a, c, h1, h2, h3, h4⟩, h5, h6, h7⟩
  refine LdSl.go (h1.cell 0) ?_
  refine IfP.dec (fun hlt => ?_) (fun hge => ?_)
  · have hlt' : 64 * i < l0 := by omega
    have hdl : (all.drop (64 * i)).length = l0 - 64 * i := by simp [hl]
    refine LdI.go (h6.cell 0) ?_
    refine LdSl.go (h1.cell 0) ?_
    refine LdSl.go (h1.cell 0) ?_
    have hmin : (if ((l0 - 64 * i : Nat) : Int) < 64 then ((l0 - 64 * i : Nat) : Int) else 64) = ((min 64 (l0 - 64 * i) : Nat) : Int) := by split <;> omega
    refine SlcP.row 0 (min 64 (l0 - 64 * i)) rfl hmin h2 hdl.symm h3 (by omega) (by omega) fun a' ha' ho' => ?_
    rw [List.drop_zero, Nat.sub_zero, Nat.sub_zero] at *
    have htk : (all.drop (64 * i)).take (min 64 (l0 - 64 * i)) = (all.drop (64 * i)).take 64 := by rw [← hdl]; exact List.take_eq_take_min.symm
    rw [htk] at ha'
    refine CallP.intro (clone_spec a' _ c _ W ha' (by simp [hl]) (by omega) (by omega)) ?_
    rintro e W1 ⟨p, cp, rfl, g1, g2, g3⟩
    refine ⟨_, rfl, ?_⟩
    have hI1 := hI i W W1 h5 (Chg.of_below g3)
    have hbW : bb < W.heap.size := h1.lt
    have hnW : nb < W.heap.size := h6.lt
    refine (hy i W1 p cp hlt' hI1 (Nat.le_trans h7 g1) g2).mono ?_
    rintro v W2 (⟨rfl, k1, k2⟩ | ⟨rfl, k1⟩)
    · refine IfP.no ?_
      have f1 := (h1.belowS g3).chg k2 (Nat.lt_of_lt_of_le hbW g3.size) hS2
      have f6 := (h6.belowS g3).chg k2 (Nat.lt_of_lt_of_le hnW g3.size) hS1
      have f2 := (h2.below g3).chg k2 (fun q hq => by obtain ⟨q', e1, e2⟩ := h4 q hq; rw [← e2]; exact (hS3 q' e1).1)
      refine LdSl.go (f1.cell 0) ?_
      rw [hmin]
      refine SlcP.row (min 64 (l0 - 64 * i)) (l0 - 64 * i) rfl rfl f2 hdl.symm h3 (by omega) (Nat.le_refl _) fun a2 ha2 ho2 => ?_
      refine StP.blk f1 rfl Nat.one_pos ?_
      have hnext : IntKind.i64.wrap ((i : Int) + 1) = ((i + 1 : Nat) : Int) := by rw [show (i : Int) + 1 = ((i + 1 : Nat) : Int) by omega]; exact i64_of _ (by omega)
      refine ⟨rfl, i + 1, ⟨⟨congrArg (Value.int .i64) hnext, trivial⟩, ⟨a2, c - min 64 (l0 - 64 * i), ?_, ?_, by omega, ?_⟩, ?_, ?_, ?_⟩, by omega⟩
      · have := f1.setCell 0 (.slice a2 (l0 - 64 * i - min 64 (l0 - 64 * i)) (c - min 64 (l0 - 64 * i)))
        rw [show l0 - 64 * (i + 1) = l0 - 64 * i - min 64 (l0 - 64 * i) by omega]
        exact this
      · rw [List.take_of_length_le (by rw [hdl]; exact Nat.le_refl _), List.drop_drop] at ha2
        have hdd : all.drop (64 * i + min 64 (l0 - 64 * i)) = all.drop (64 * (i + 1)) := by
          rcases Nat.lt_or_ge (l0 - 64 * i) 64 with hx | hx
          · rw [List.drop_of_length_le (by omega), List.drop_of_length_le (by omega)]
          · congr 1; omega
        rw [hdd] at ha2
        refine ha2.setCell _ _ ?_
        intro q hq
        obtain ⟨q', e1, e2⟩ := ho2 q hq
        obtain ⟨q2, e3, e4⟩ := h4 q' e1
        rw [← e2, ← e4]; exact (hS3 q2 e3).2
      · intro q hq
        obtain ⟨q', e1, e2⟩ := ho2 q hq
        obtain ⟨q2, e3, e4⟩ := h4 q' e1
        exact ⟨q2, e3, e4.trans e2⟩
      · exact hI _ _ _ k1 ((Chg.refl _ _ _).setCell _ _ (fun _ => rfl))
      · exact f6.setCell_ne _ _ (fun h => hne h.symm)
      · rw [size_setCell]; exact Nat.le_trans h7 (Nat.le_trans g3.size k2.size)
    · refine IfP.yes ?_
      exact ⟨rfl, rfl, .inl k1⟩
  · exact ⟨rfl, rfl, .inr ⟨i, by omega, h5⟩⟩
end Go.Proofs.YthghiokcinpnlaaDoor
