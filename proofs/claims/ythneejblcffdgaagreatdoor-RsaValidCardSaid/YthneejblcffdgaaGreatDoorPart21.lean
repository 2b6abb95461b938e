/- Texts of this proof, one behind the other: Nm27 Nm28 Nm29 Ktab Nm30. -/
import Derived.Test.YthneejblcffdgaaGreatDoorPart20
import Derived.Test.YthneejblcffdgaaGreatDoorPart5
namespace Go.Proofs.YthneejblcffdgaaGreatDoor
open Go Go.Ev Go.RowKit
set_option maxRecDepth 20000
set_option linter.unusedVariables false
set_option linter.unusedSimpArgs false

/-! ### rsa: Valid -/
abbrev Sl := Option Addr × Nat × Nat
abbrev sl (s : Sl) : Value := .slice s.1 s.2.1 s.2.2
def NumL (w : World) (s : Sl) (n : Nat) : Prop := NumS w s.1 s.2.1 s.2.2 n ∧ s.2.1 ≤ 50
theorem NumL.below {w w' : World} {s : Sl} {n : Nat} (h : NumL w s n) (hb : Below w.heap.size w w') : NumL w' s n := ⟨h.1.below hb, h.2⟩
/-- a key's five numbers. -/
structure KeyL (w : World) (s1 s2 s3 s4 s5 : Sl) (N E D P Q : Nat) : Prop where
  n : NumL w s1 N
  e : NumL w s2 E
  d : NumL w s3 D
  p : NumL w s4 P
  q : NumL w s5 Q
theorem KeyL.below {w w' : World} {s1 s2 s3 s4 s5 : Sl} {N E D P Q : Nat} (h : KeyL w s1 s2 s3 s4 s5 N E D P Q) (hb : Below w.heap.size w w') : KeyL w' s1 s2 s3 s4 s5 N E D P Q :=
  ⟨h.1.below hb, h.2.below hb, h.3.below hb, h.4.below hb, h.5.below hb⟩
def ValidC (N E D P Q : Nat) : Prop := 256 ≤ blen N ∧ blen N ≤ 4096 ∧ P ≠ Q ∧ D < N ∧ E < N ∧ E % 2 = 1 ∧ 2 ≤ E ∧ P * Q = N ∧ probV P = true ∧ probV Q = true ∧ E * D % (P - 1) = 1 ∧ E * D % (Q - 1) = 1
open Classical in
noncomputable def validV (N E D P Q : Nat) : Bool := decide (ValidC N E D P Q)
theorem cmpV_ge (n m : Nat) : cmpV n m ≥ 0 ↔ m ≤ n := by
  unfold cmpV
  split
  · omega
  · split <;> omega
theorem blen_mul {p q : Nat} (hp : 0 < p) (hq : 0 < q) : blen p + blen q ≤ blen (p * q) + 1 := by
  have h1 := blen_ok p
  have h2 := blen_ok q
  have h3 := (blen_ok (p * q)).1
  rcases h1.2 with g1 | g1
  · have := h1.1; rw [g1] at this; omega
  rcases h2.2 with g2 | g2
  · have := h2.1; rw [g2] at this; omega
  have h4 : 2 ^ (blen p - 1) * 2 ^ (blen q - 1) ≤ p * q := Nat.mul_le_mul g1 g2
  rw [← Nat.pow_add] at h4
  have := (Nat.pow_lt_pow_iff_right (by decide : 1 < 2)).1 (Nat.lt_of_le_of_lt h4 h3)
  omega
theorem prob_two {n : Nat} (h : probV n = true) : 2 ≤ n := by
  unfold probV at h
  by_cases h2 : n % 2 = 0 ∨ n < 2
  · rw [if_pos h2] at h
    have := of_decide_eq_true h
    omega
  · omega
theorem rsize_spec {kb : Nat} {s1 s2 s3 s4 s5 : Sl} {N E D P Q : Nat} {w : World} (hk : KeyL w s1 s2 s3 s4 s5 N E D P Q) :
    Calls Tryz.prog 13 #[.agg #[sl s1, sl s2, sl s3, sl s4, sl s5]] w fun e w' => e = .returned (.int .i64 (((blen N + 7) / 8 : Nat) : Int)) ∧ Below w.heap.size w w' := by
  refine calls_of_ev tysOk extsOk Tryz.func13 rfl rfl rfl ?_
  have hx0 : Blk (w.alloc (.cells (#[sl s1, sl s2, sl s3, sl s4, sl s5] : Array Value) 25)) w.heap.size [sl s1, sl s2, sl s3, sl s4, sl s5] 25 := Blk.newA _ _ _
  have hA0 : Below w.heap.size w (w.alloc (.cells (#[sl s1, sl s2, sl s3, sl s4, sl s5] : Array Value) 25)) := (Below.refl _ _).alloc (Nat.le_refl _) _
  refine LdSl.go (hx0.cell 0) ?_
  refine CallP.intro (bitsV_spec (hk.below hA0).n.1) ?_
  rintro e w1 ⟨rfl, rfl⟩
  refine ⟨_, rfl, ?_⟩
  refine ChkP.go (by decide) ?_
  have hbl : blen N ≤ 64 * 50 := Nat.le_trans (blen_le hk.n.1.lt) (by have := hk.n.2; omega)
  refine ⟨rfl, ?_, hA0⟩
  have e1 : IntKind.i64.wrap ((blen N : Int) + 7) = ((blen N + 7 : Nat) : Int) := IntWalk.i64_in _ (by omega)
  show Ending.returned (.int .i64 (IntKind.i64.wrap ((IntKind.i64.wrap ((blen N : Int) + 7)).tdiv 8))) = _
  rw [e1, show (8 : Int) = ((8 : Nat) : Int) by rfl, ← Int.ofNat_tdiv]
  exact congrArg (fun z => Ending.returned (.int .i64 z)) (i64_of _ (by omega))
set_option maxHeartbeats 2000000 in
theorem valid_spec {s1 s2 s3 s4 s5 : Sl} {N E D P Q : Nat} {w : World} (hk : KeyL w s1 s2 s3 s4 s5 N E D P Q) :
    Calls Tryz.prog 6 #[.agg #[sl s1, sl s2, sl s3, sl s4, sl s5]] w fun e w' => e = .returned (.bool (validV N E D P Q)) ∧ Below w.heap.size w w' := by
  refine calls_of_ev tysOk extsOk Tryz.func6 rfl rfl rfl ?_
  have hx : Blk (w.alloc (.cells (#[sl s1, sl s2, sl s3, sl s4, sl s5] : Array Value) 25)) w.heap.size [sl s1, sl s2, sl s3, sl s4, sl s5] 25 := Blk.newA _ _ _
  have hA0 : Below w.heap.size w (w.alloc (.cells (#[sl s1, sl s2, sl s3, sl s4, sl s5] : Array Value) 25)) := (Below.refl _ _).alloc (Nat.le_refl _) _
  refine LdSl.go (hx.cell 0) ?_
  refine CallP.intro (bitsV_spec (hk.below hA0).n.1) ?_
  rintro e w1 ⟨rfl, hw1⟩
  refine ⟨_, rfl, ?_⟩
  have hx1 : Blk w1 w.heap.size [sl s1, sl s2, sl s3, sl s4, sl s5] 25 := by rw [hw1]; exact hx
  have b1 : Below w.heap.size w w1 := by rw [hw1]; exact hA0
  have k1 := hk.below b1
  clear hw1 hx hA0
  have hF : ¬ ValidC N E D P Q → Ending.returned (.bool false) = Ending.returned (.bool (validV N E D P Q)) := fun h => congrArg (fun z => Ending.returned (.bool z)) (@decide_eq_false _ (Classical.propDecidable _) h).symm
  have hbl : blen N ≤ 64 * 50 := Nat.le_trans (blen_le hk.n.1.lt) (by have := hk.n.2; omega)
  have hblP : blen P ≤ 64 * 50 := Nat.le_trans (blen_le hk.p.1.lt) (by have := hk.p.2; omega)
  have hblQ : blen Q ≤ 64 * 50 := Nat.le_trans (blen_le hk.q.1.lt) (by have := hk.q.2; omega)
  refine IfP.ndec (fun h1 => ?_) (fun h1 => ?_)
  rotate_left
  · have h1 : (blen N : Int) < 256 := h1
    (repeat (first | refine IfP.yes ?_ | refine IfP.no ?_ | refine NilP.go ?_))
    exact ⟨rfl, hF (fun h => by have := h.1; omega), b1⟩
  have h1 : 256 ≤ blen N := by have h1 : ¬ ((blen N : Int) < 256) := h1; omega
  (repeat (first | refine IfP.yes ?_ | refine IfP.no ?_ | refine NilP.go ?_))
  refine IfP.ndec (fun h2 => ?_) (fun h2 => ?_)
  rotate_left
  · have h2 : (blen N : Int) > 4096 := h2
    omega
  have h2 : blen N ≤ 4096 := by have h2 : ¬ ((blen N : Int) > 4096) := h2; omega
  (repeat (first | refine IfP.yes ?_ | refine IfP.no ?_ | refine NilP.go ?_))
  refine LdSl.go (hx1.cell 3) ?_
  (repeat (first | refine IfP.yes ?_ | refine IfP.no ?_ | refine NilP.go ?_))
  refine LdSl.go (hx1.cell 4) ?_
  (repeat (first | refine IfP.yes ?_ | refine IfP.no ?_ | refine NilP.go ?_))
  refine CallP.intro (cmpV_spec k1.p.1 k1.q.1) ?_
  rintro e w2 ⟨rfl, b2⟩
  refine ⟨_, rfl, ?_⟩
  (repeat (first | refine IfP.yes ?_ | refine IfP.no ?_ | refine NilP.go ?_))
  have hx2 := hx1.belowS b2
  have k2 := k1.below b2
  have c2 := b1.trans (b2.mono b1.size)
  refine IfP.nbeq (fun h3 => ?_) (fun h3 => ?_)
  rotate_left
  · (repeat (first | refine IfP.yes ?_ | refine IfP.no ?_ | refine NilP.go ?_))
    refine ⟨rfl, hF (fun h => h.2.2.1 ?_), c2⟩
    have : (cmpV P Q == 0) = true := by rw [h3]; rfl
    rw [cmpV_zero] at this
    exact of_decide_eq_true this
  have h3 : P ≠ Q := fun h => h3 (cmpV_eq h)
  (repeat (first | refine IfP.yes ?_ | refine IfP.no ?_ | refine NilP.go ?_))
  refine LdSl.go (hx2.cell 2) ?_
  (repeat (first | refine IfP.yes ?_ | refine IfP.no ?_ | refine NilP.go ?_))
  refine LdSl.go (hx2.cell 0) ?_
  (repeat (first | refine IfP.yes ?_ | refine IfP.no ?_ | refine NilP.go ?_))
  refine CallP.intro (cmpV_spec k2.d.1 k2.n.1) ?_
  rintro e w3 ⟨rfl, b3⟩
  refine ⟨_, rfl, ?_⟩
  (repeat (first | refine IfP.yes ?_ | refine IfP.no ?_ | refine NilP.go ?_))
  have hx3 := hx2.belowS b3
  have k3 := k2.below b3
  have c3 := c2.trans (b3.mono c2.size)
  refine IfP.ndec (fun h4 => ?_) (fun h4 => ?_)
  rotate_left
  · (repeat (first | refine IfP.yes ?_ | refine IfP.no ?_ | refine NilP.go ?_))
    refine ⟨rfl, hF (fun h => ?_), c3⟩
    have := (cmpV_ge D N).1 h4
    have := h.2.2.2.1
    omega
  have h4 : D < N := by
    rcases Nat.lt_or_ge D N with h | h
    · exact h
    · exact absurd ((cmpV_ge D N).2 h) h4
  (repeat (first | refine IfP.yes ?_ | refine IfP.no ?_ | refine NilP.go ?_))
  refine LdSl.go (hx3.cell 1) ?_
  (repeat (first | refine IfP.yes ?_ | refine IfP.no ?_ | refine NilP.go ?_))
  refine LdSl.go (hx3.cell 0) ?_
  (repeat (first | refine IfP.yes ?_ | refine IfP.no ?_ | refine NilP.go ?_))
  refine CallP.intro (cmpV_spec k3.e.1 k3.n.1) ?_
  rintro e w4 ⟨rfl, b4⟩
  refine ⟨_, rfl, ?_⟩
  (repeat (first | refine IfP.yes ?_ | refine IfP.no ?_ | refine NilP.go ?_))
  have hx4 := hx3.belowS b4
  have k4 := k3.below b4
  have c4 := c3.trans (b4.mono c3.size)
  refine IfP.ndec (fun h5 => ?_) (fun h5 => ?_)
  rotate_left
  · (repeat (first | refine IfP.yes ?_ | refine IfP.no ?_ | refine NilP.go ?_))
    refine ⟨rfl, hF (fun h => ?_), c4⟩
    have := (cmpV_ge E N).1 h5
    have := h.2.2.2.2.1
    omega
  have h5 : E < N := by
    rcases Nat.lt_or_ge E N with h | h
    · exact h
    · exact absurd ((cmpV_ge E N).2 h) h5
  (repeat (first | refine IfP.yes ?_ | refine IfP.no ?_ | refine NilP.go ?_))
  refine LdSl.go (hx4.cell 1) ?_
  (repeat (first | refine IfP.yes ?_ | refine IfP.no ?_ | refine NilP.go ?_))
  refine CallP.intro (bit_spec (i := 0) k4.e.1 (by decide)) ?_
  rintro e w5 ⟨rfl, hw⟩
  have hw := hw.symm
  subst hw
  refine ⟨_, rfl, ?_⟩
  (repeat (first | refine IfP.yes ?_ | refine IfP.no ?_ | refine NilP.go ?_))
  have h20 : E / 2 ^ 0 % 2 = E % 2 := by rw [Nat.pow_zero, Nat.div_one]
  refine IfP.nbeq (fun h6 => ?_) (fun h6 => ?_)
  rotate_left
  · (repeat (first | refine IfP.yes ?_ | refine IfP.no ?_ | refine NilP.go ?_))
    refine ⟨rfl, hF (fun h => ?_), c4⟩
    have h6 : E / 2 ^ 0 % 2 = 0 := Int.ofNat_inj.1 h6
    have := h.2.2.2.2.2.1
    omega
  have h6 : E % 2 = 1 := by
    have : E % 2 ≠ 0 := fun h => h6 (by rw [h20, h]; rfl)
    omega
  (repeat (first | refine IfP.yes ?_ | refine IfP.no ?_ | refine NilP.go ?_))
  refine LdSl.go (hx4.cell 1) ?_
  (repeat (first | refine IfP.yes ?_ | refine IfP.no ?_ | refine NilP.go ?_))
  refine CallP.intro (bitsV_spec k4.e.1) ?_
  rintro e w5 ⟨rfl, hw⟩
  have hw := hw.symm
  subst hw
  refine ⟨_, rfl, ?_⟩
  (repeat (first | refine IfP.yes ?_ | refine IfP.no ?_ | refine NilP.go ?_))
  refine IfP.dec (fun h7 => ?_) (fun h7 => ?_)
  · refine ⟨rfl, hF (fun h => ?_), c4⟩
    have h7 : (blen E : Int) < 2 := h7
    have := (blen_lt2 E).1 (by omega)
    have := h.2.2.2.2.2.2.1
    omega
  have h7 : 2 ≤ E := by
    rcases Nat.lt_or_ge E 2 with h | h
    · exact absurd (show (blen E : Int) < 2 by have := (blen_lt2 E).2 h; omega) h7
    · exact h
  have hcP : ∀ x : Int, (cmpV (P * Q) N != 0) = decide (P * Q ≠ N) := fun _ => by
    have := cmpV_zero (P * Q) N
    simp only [bne, this, decide_not]
  refine DrawP.tree tysOk extsOk mixed [] (.take 0 (.take 3 (.take 7 (.held 1 (.held 4 (.held 8 (.alt 2 (.alt 5 (.held 6 (.held 9 (.take 10 (.take 11 (.take 13 (.take 16 (.held 12 (.held 14 (.held 17 (.alt 15 (.alt 18 (.held 19 (.held 20 .done)) .nil) .nil)))))))))) .nil) .nil))))))) 2361182115534915764224 (by kernel_rfl) (by kernel_rfl)
    (X := Bool) (fun W' => Blk W' w.heap.size [sl s1, sl s2, sl s3, sl s4, sl s5] 25) (fun b => [(70, .bool b)])
    (fun b W' => Below w.heap.size w W' ∧ Blk W' w.heap.size [sl s1, sl s2, sl s3, sl s4, sl s5] 25 ∧ (b = false ↔ P * Q = N)) ?_ ?_
  · intro w0 e0 b0 s0
    have q1 := hx4.belowS b0
    have j0 := k4.below b0
    have c5 := c4.trans (b0.mono c4.size)
    refine ⟨q1, ?_⟩
    refine HeldP.go (fun w' hS => LdSl.go (hS.cell 3) rfl) ?_
    refine HeldP.go (fun w' hS => LdSl.go (hS.cell 4) rfl) ?_
    refine HeldP.go (fun w' hS => rfl) ?_
    refine ⟨?_, trivial⟩
    refine CallP.intro (bitsV_spec j0.p.1) ?_
    rintro e w6 ⟨rfl, hw⟩
    have hw := hw.symm
    subst hw
    refine ⟨_, rfl, q1, ?_⟩
    refine ⟨?_, trivial⟩
    refine CallP.intro (bitsV_spec j0.q.1) ?_
    rintro e w6 ⟨rfl, hw⟩
    have hw := hw.symm
    subst hw
    refine ⟨_, rfl, q1, ?_⟩
    refine HeldP.go (fun w' hS => rfl) ?_
    refine HeldP.go (fun w' hS => rfl) ?_
    have e56 : IntKind.i64.wrap ((blen P : Int) + (blen Q : Int)) = ((blen P + blen Q : Nat) : Int) := wrapAddI (by omega)
    have e58 : IntKind.i64.wrap ((blen N : Int) + 1) = ((blen N + 1 : Nat) : Int) := IntWalk.i64_in _ (by omega)
    rw [e56, e58]
    refine IfP.ndec (fun h8 => ?_) (fun h8 => ?_)
    · (repeat (first | refine IfP.yes ?_ | refine IfP.no ?_ | refine NilP.go ?_))
      refine HeldP.go (fun w' hS => LdSl.go (hS.cell 3) rfl) ?_
      (repeat (first | refine IfP.yes ?_ | refine IfP.no ?_ | refine NilP.go ?_))
      refine HeldP.go (fun w' hS => LdSl.go (hS.cell 4) rfl) ?_
      (repeat (first | refine IfP.yes ?_ | refine IfP.no ?_ | refine NilP.go ?_))
      refine HeldP.go (fun w' hS => LdSl.go (hS.cell 0) rfl) ?_
      refine ⟨IfP.yes ?_, trivial⟩
      refine CallP.intro (mul_spec j0.p.1 j0.q.1 (by have := j0.p.2; omega) (by have := j0.q.2; omega)) ?_
      rintro e w7 ⟨ta, tl, tc, rfl, t1, t2, t3⟩
      have q2 := q1.belowS t3
      refine ⟨_, rfl, q2, ?_⟩
      refine ⟨IfP.yes ?_, trivial⟩
      have c6 := c5.trans (t3.mono c5.size)
      refine CallP.intro (cmpV_spec t1.s (j0.below t3).n.1) ?_
      rintro e w8 ⟨rfl, t4⟩
      refine ⟨_, rfl, q2.belowS t4, ?_⟩
      (repeat (first | refine IfP.yes ?_ | refine IfP.no ?_ | refine NilP.go ?_))
      refine HeldP.go (fun w' hS => rfl) ?_
      refine HeldP.go (fun w' hS => IfP.no rfl) ?_
      refine ⟨cmpV (P * Q) N != 0, ⟨rfl, trivial⟩, c6.trans (t4.mono c6.size), q2.belowS t4, ?_⟩
      rw [hcP 0]
      simp
    · have h8 : blen P + blen Q > blen N + 1 := by have h8 : ((blen P + blen Q : Nat) : Int) > ((blen N + 1 : Nat) : Int) := h8; omega
      (repeat (first | refine IfP.yes ?_ | refine IfP.no ?_ | refine NilP.go ?_))
      refine ⟨IfP.no ⟨q1, ?_⟩, trivial⟩
      refine ⟨IfP.no ⟨q1, ?_⟩, trivial⟩
      (repeat (first | refine IfP.yes ?_ | refine IfP.no ?_ | refine NilP.go ?_))
      refine HeldP.go (fun w' hS => IfP.yes rfl) ?_
      refine ⟨true, ⟨rfl, trivial⟩, c5, q1, ?_⟩
      refine ⟨(fun h => by cases h), fun h => ?_⟩
      rcases Nat.eq_zero_or_pos P with h0 | h0
      · rw [h0, Nat.zero_mul] at h; omega
      rcases Nat.eq_zero_or_pos Q with h9 | h9
      · rw [h9, Nat.mul_zero] at h; omega
      have := blen_mul h0 h9
      rw [h] at this
      omega
  · rintro b j W ⟨d1, d3, d2⟩
    cases b with
    | true =>
      refine IfP.yes ?_
      refine ⟨rfl, hF (fun h => ?_), d1⟩
      have := d2.2 h.2.2.2.2.2.2.2.1
      cases this
    | false =>
    have hPQ := d2.1 rfl
    refine IfP.no ?_
    refine DrawP.tree tysOk extsOk mixed [] (.take 0 (.held 1 (.alt 2 (.alt 3 (.held 4 (.take 5 (.take 6 (.held 7 (.alt 8 (.alt 9 (.held 10 (.held 11 .done)) .nil) .nil))))) .nil) .nil))) 9669045373675598575042560 (by kernel_rfl) (by kernel_rfl)
      (X := Unit) (fun W' => Blk W' w.heap.size [sl s1, sl s2, sl s3, sl s4, sl s5] 25) (fun _ => [(82, .bool (!(probV P && probV Q)))])
      (fun _ W' => Below w.heap.size w W' ∧ Blk W' w.heap.size [sl s1, sl s2, sl s3, sl s4, sl s5] 25) ?_ ?_
    · intro w0 e0 b0 s0
      have q1 := d3.belowS b0
      have c5 := d1.trans (b0.mono d1.size)
      have j0 := hk.below c5
      refine ⟨q1, ?_⟩
      refine HeldP.go (fun w' hS => LdSl.go (hS.cell 3) rfl) ?_
      refine ⟨?_, trivial⟩
      refine CallP.same (few_spec _) ?_
      refine ⟨q1, ?_⟩
      refine ⟨?_, trivial⟩
      refine CallP.intro (prob_spec j0.p.1 (by have := j0.p.2; omega)) ?_
      rintro e w7 ⟨rfl, t3⟩
      have q2 := q1.belowS t3
      have c6 := c5.trans (t3.mono c5.size)
      refine ⟨_, rfl, q2, ?_⟩
      refine HeldP.go (fun w' hS => rfl) ?_
      cases hP : probV P with
      | false =>
        (repeat (first | refine IfP.yes ?_ | refine IfP.no ?_ | refine NilP.go ?_))
        refine ⟨IfP.no ⟨q2, ?_⟩, trivial⟩
        refine ⟨IfP.no ⟨q2, ?_⟩, trivial⟩
        (repeat (first | refine IfP.yes ?_ | refine IfP.no ?_ | refine NilP.go ?_))
        refine HeldP.go (fun w' hS => IfP.yes rfl) ?_
        exact ⟨(), ⟨rfl, trivial⟩, c6, q2⟩
      | true =>
        (repeat (first | refine IfP.yes ?_ | refine IfP.no ?_ | refine NilP.go ?_))
        refine HeldP.go (fun w' hS => LdSl.go (hS.cell 4) rfl) ?_
        refine ⟨IfP.yes ?_, trivial⟩
        refine CallP.same (few_spec _) ?_
        refine ⟨q2, ?_⟩
        refine ⟨IfP.yes ?_, trivial⟩
        refine CallP.intro (prob_spec (j0.below t3).q.1 (by have := j0.q.2; omega)) ?_
        rintro e w8 ⟨rfl, t4⟩
        have q3 := q2.belowS t4
        refine ⟨_, rfl, q3, ?_⟩
        (repeat (first | refine IfP.yes ?_ | refine IfP.no ?_ | refine NilP.go ?_))
        refine HeldP.go (fun w' hS => rfl) ?_
        refine HeldP.go (fun w' hS => IfP.no rfl) ?_
        exact ⟨(), ⟨rfl, trivial⟩, c6.trans (t4.mono c6.size), q3⟩
    · rintro ⟨⟩ j W2 ⟨x1, x2⟩
      cases hpp : (probV P && probV Q) with
      | false =>
        refine IfP.yes ?_
        refine ⟨rfl, hF (fun h => ?_), x1⟩
        rw [h.2.2.2.2.2.2.2.2.1, h.2.2.2.2.2.2.2.2.2.1] at hpp
        cases hpp
      | true =>
        rw [Bool.and_eq_true] at hpp
        refine IfP.no ?_
        have j1 := hk.below x1
        refine LdSl.go (x2.cell 1) ?_
        refine LdSl.go (x2.cell 2) ?_
        refine CallP.intro (mul_spec j1.e.1 j1.d.1 (by have := j1.e.2; omega) (by have := j1.d.2; omega)) ?_
        rintro e w7 ⟨ta, tl, tc, rfl, t1, t2, t3⟩
        refine ⟨_, rfl, ?_⟩
        have x3 := x2.belowS t3
        have c3 := x1.trans (t3.mono x1.size)
        have j2 := hk.below c3
        have htl : tl ≤ 200 := by
          rw [t1.2.1]
          refine Nat.le_trans (limbs_len_le (k := s2.2.1 + s3.2.1) ?_) (by have := j1.e.2; have := j1.d.2; omega)
          rw [Nat.pow_add]
          exact Nat.mul_lt_mul_of_lt_of_lt j1.e.1.lt j1.d.1.lt
        refine LdSl.go (x3.cell 3) ?_
        refine CallP.intro (less1_spec j2.p.1) ?_
        rintro e w8 ⟨ua, ul, uc, rfl, u1, u2, u3⟩
        refine ⟨_, rfl, ?_⟩
        have x4 := x3.belowS u3
        have c4' := c3.trans (u3.mono c3.size)
        refine CallP.intro (one_spec (t1.below u3).s u1.s htl) ?_
        rintro e w9 ⟨rfl, u4⟩
        refine ⟨_, rfl, ?_⟩
        have x5 := x4.belowS u4
        have c5' := c4'.trans (u4.mono c4'.size)
        have hp2 := prob_two hpp.1
        have hq2 := prob_two hpp.2
        refine IfP.dec (fun g1 => ?_) (fun g1 => ?_)
        · (repeat (first | refine IfP.yes ?_ | refine IfP.no ?_ | refine NilP.go ?_))
          refine LdSl.go (x5.cell 4) ?_
          (repeat (first | refine IfP.yes ?_ | refine IfP.no ?_ | refine NilP.go ?_))
          refine CallP.intro (less1_spec (hk.below c5').q.1) ?_
          rintro e w10 ⟨va, vl, vc, rfl, v1, v2, v3⟩
          refine ⟨_, rfl, ?_⟩
          have c6' := c5'.trans (v3.mono c5'.size)
          (repeat (first | refine IfP.yes ?_ | refine IfP.no ?_ | refine NilP.go ?_))
          refine CallP.intro (one_spec (((t1.below u3).below u4).below v3).s v1.s htl) ?_
          rintro e w11 ⟨rfl, v4⟩
          refine ⟨_, rfl, ?_⟩
          (repeat (first | refine IfP.yes ?_ | refine IfP.no ?_ | refine NilP.go ?_))
          refine ⟨rfl, congrArg (fun z => Ending.returned (.bool z)) ?_, c6'.trans (v4.mono c6'.size)⟩
          by_cases g2 : E * D % (Q - 1) = 1
          · rw [decide_eq_true (show Q - 1 ≠ 0 ∧ E * D % (Q - 1) = 1 from ⟨by omega, g2⟩)]
            exact (@decide_eq_true _ (Classical.propDecidable _) ⟨h1, h2, h3, h4, h5, h6, h7, hPQ, hpp.1, hpp.2, g1.2, g2⟩).symm
          · rw [decide_eq_false (fun h => g2 h.2)]
            exact (@decide_eq_false _ (Classical.propDecidable _) (fun h => g2 h.2.2.2.2.2.2.2.2.2.2.2)).symm
        · (repeat (first | refine IfP.yes ?_ | refine IfP.no ?_ | refine NilP.go ?_))
          exact ⟨rfl, hF (fun h => g1 ⟨by omega, h.2.2.2.2.2.2.2.2.2.2.1⟩), c5'⟩
end Go.Proofs.YthneejblcffdgaaGreatDoor

namespace Go.Proofs.YthneejblcffdgaaGreatDoor
open Go Go.Ev Go.RowKit
set_option maxRecDepth 20000
set_option linter.unusedVariables false
set_option linter.unusedSimpArgs false

/-! ### rsa: powers -/
theorem raise_spec {s1 s2 s3 s4 s5 sx se : Sl} {N E D P Q x v : Nat} {w : World} (hk : KeyL w s1 s2 s3 s4 s5 N E D P Q) (hx : NumL w sx x) (he : NumL w se v) (hlt : x < N) (hp : 1 < N) (ho : N % 2 = 1) (h1 : blen x ≤ 4096) (h2 : blen v ≤ 4096) (h3 : blen N ≤ 4096) :
    Calls Tryz.prog 32 #[.agg #[sl s1, sl s2, sl s3, sl s4, sl s5], sl sx, sl se] w fun e w' => ∃ a' l' c', e = .returned (.tuple #[.slice a' l' c', .bool true]) ∧ NumN w' a' l' c' (x ^ v % N) ∧ (∀ p, a' = some p → w.heap.size ≤ p.block) ∧ Below w.heap.size w w' := by
  refine calls_of_ev tysOk extsOk Tryz.func32 rfl rfl rfl ?_
  have hb : Blk (w.alloc (.cells (#[sl s1, sl s2, sl s3, sl s4, sl s5] : Array Value) 25)) w.heap.size [sl s1, sl s2, sl s3, sl s4, sl s5] 25 := Blk.newA _ _ _
  have hA0 : Below w.heap.size w (w.alloc (.cells (#[sl s1, sl s2, sl s3, sl s4, sl s5] : Array Value) 25)) := (Below.refl _ _).alloc (Nat.le_refl _) _
  refine LdSl.go (hb.cell 0) ?_
  refine CallP.intro (cmpV_spec (hx.below hA0).1 (hk.below hA0).n.1) ?_
  rintro e w1 ⟨rfl, b1⟩
  refine ⟨_, rfl, ?_⟩
  have c1 : Below w.heap.size w w1 := hA0.trans (b1.mono hA0.size)
  refine IfP.neg (decide_eq_false (by rw [cmpV_lt hlt]; decide)) ?_
  refine LdSl.go ((hb.belowS b1).cell 0) ?_
  have k1 := hk.below c1
  refine CallP.intro (exp_spec (hx.below c1).1 (he.below c1).1 k1.n.1 (by have := hx.2; omega) (by have := k1.n.2; omega) h1 h2 h3 hp ho) ?_
  rintro e w2 ⟨a', l', c', rfl, g1, g2, g3⟩
  exact ⟨_, rfl, rfl, a', l', c', rfl, g1, fun p hp => Nat.le_trans c1.size (g2 p hp), c1.trans (g3.mono c1.size)⟩
theorem public_spec {s1 s2 s3 s4 s5 sx : Sl} {N E D P Q x : Nat} {w : World} (hk : KeyL w s1 s2 s3 s4 s5 N E D P Q) (hx : NumL w sx x) (hlt : x < N) (hp : 1 < N) (ho : N % 2 = 1) (h1 : blen x ≤ 4096) (h2 : blen E ≤ 4096) (h3 : blen N ≤ 4096) :
    Calls Tryz.prog 9 #[.agg #[sl s1, sl s2, sl s3, sl s4, sl s5], sl sx] w fun e w' => ∃ a' l' c', e = .returned (.tuple #[.slice a' l' c', .bool true]) ∧ NumN w' a' l' c' (x ^ E % N) ∧ (∀ p, a' = some p → w.heap.size ≤ p.block) ∧ Below w.heap.size w w' := by
  refine calls_of_ev tysOk extsOk Tryz.func9 rfl rfl rfl ?_
  have hb : Blk (w.alloc (.cells (#[sl s1, sl s2, sl s3, sl s4, sl s5] : Array Value) 25)) w.heap.size [sl s1, sl s2, sl s3, sl s4, sl s5] 25 := Blk.newA _ _ _
  have hA0 : Below w.heap.size w (w.alloc (.cells (#[sl s1, sl s2, sl s3, sl s4, sl s5] : Array Value) 25)) := (Below.refl _ _).alloc (Nat.le_refl _) _
  have k0 := hk.below hA0
  refine LdAgg.go hb (Nat.le_refl _) ?_
  refine LdSl.go (hb.cell 1) ?_
  refine CallP.intro (raise_spec k0 (hx.below hA0) k0.e hlt hp ho h1 h2 h3) ?_
  rintro e w2 ⟨a', l', c', rfl, g1, g2, g3⟩
  exact ⟨_, rfl, rfl, a', l', c', rfl, g1, fun p hp => Nat.le_trans hA0.size (g2 p hp), hA0.trans (g3.mono hA0.size)⟩
theorem private_spec {s1 s2 s3 s4 s5 sx : Sl} {N E D P Q x : Nat} {w : World} (hk : KeyL w s1 s2 s3 s4 s5 N E D P Q) (hx : NumL w sx x) (hlt : x < N) (hp : 1 < N) (ho : N % 2 = 1) (h1 : blen x ≤ 4096) (h2 : blen D ≤ 4096) (h3 : blen N ≤ 4096) :
    Calls Tryz.prog 10 #[.agg #[sl s1, sl s2, sl s3, sl s4, sl s5], sl sx] w fun e w' => ∃ a' l' c', e = .returned (.tuple #[.slice a' l' c', .bool true]) ∧ NumN w' a' l' c' (x ^ D % N) ∧ (∀ p, a' = some p → w.heap.size ≤ p.block) ∧ Below w.heap.size w w' := by
  refine calls_of_ev tysOk extsOk Tryz.func10 rfl rfl rfl ?_
  have hb : Blk (w.alloc (.cells (#[sl s1, sl s2, sl s3, sl s4, sl s5] : Array Value) 25)) w.heap.size [sl s1, sl s2, sl s3, sl s4, sl s5] 25 := Blk.newA _ _ _
  have hA0 : Below w.heap.size w (w.alloc (.cells (#[sl s1, sl s2, sl s3, sl s4, sl s5] : Array Value) 25)) := (Below.refl _ _).alloc (Nat.le_refl _) _
  have k0 := hk.below hA0
  refine LdAgg.go hb (Nat.le_refl _) ?_
  refine LdSl.go (hb.cell 2) ?_
  refine CallP.intro (raise_spec k0 (hx.below hA0) k0.d hlt hp ho h1 h2 h3) ?_
  rintro e w2 ⟨a', l', c', rfl, g1, g2, g3⟩
  exact ⟨_, rfl, rfl, a', l', c', rfl, g1, fun p hp => Nat.le_trans hA0.size (g2 p hp), hA0.trans (g3.mono hA0.size)⟩
theorem exponent_spec {a : Option Addr} {l c n : Nat} {w : World} (ha : NumS w a l c n) (ho : n % 2 = 1) (hb : blen n ≤ 64) :
    Calls Tryz.prog 34 #[.slice a l c] w fun e w' => e = .returned (.bool true) ∧ w' = w := by
  refine calls_of_ev tysOk extsOk Tryz.func34 rfl rfl rfl ?_
  refine CallP.intro (bit_spec (i := 0) ha (by decide)) ?_
  rintro e w1 ⟨rfl, hw⟩
  have hw := hw.symm
  subst hw
  refine ⟨_, rfl, ?_⟩
  rw [show n / 2 ^ 0 % 2 = 1 by rw [Nat.pow_zero, Nat.div_one]; exact ho]
  (repeat (first | refine IfP.yes ?_ | refine IfP.no ?_ | refine NilP.go ?_))
  refine CallP.intro (bitsV_spec ha) ?_
  rintro e w1 ⟨rfl, hw⟩
  have hw := hw.symm
  subst hw
  refine ⟨_, rfl, ?_⟩
  (repeat (first | refine IfP.yes ?_ | refine IfP.no ?_ | refine NilP.go ?_))
  exact ⟨rfl, congrArg (fun z => Ending.returned (.bool z)) (decide_eq_true (show (blen n : Int) ≤ 64 by omega)), rfl⟩
end Go.Proofs.YthneejblcffdgaaGreatDoor

namespace Go.Proofs.YthneejblcffdgaaGreatDoor
open Go Go.Ev Go.RowKit
set_option maxRecDepth 20000
set_option linter.unusedVariables false
set_option linter.unusedSimpArgs false

/-! ### limb: FromBytes by value -/
def beV (l : List Nat) : Nat := l.foldl (fun a b => 256 * a + b) 0
theorem beV_snoc (l : List Nat) (x : Nat) : beV (l ++ [x]) = 256 * beV l + x := by unfold beV; rw [List.foldl_append]; rfl
theorem beV_take {l : List Nat} {i : Nat} (h : i < l.length) : beV (l.take (i + 1)) = 256 * beV (l.take i) + l.getD i 0 := by
  rw [List.take_succ_eq_append_getElem h, beV_snoc, List.getD_eq_getElem?_getD, List.getElem?_eq_getElem h]; rfl
theorem be_limb {V M k : Nat} (h : V = 256 ^ (k + 1) * M) : ∃ q, V / B64 ^ (k / 8) % B64 = 2 ^ (8 * (k % 8) + 8) * q := by
  have e1 : (256 : Nat) ^ (k + 1) = B64 ^ (k / 8) * 2 ^ (8 * (k % 8) + 8) := by
    rw [B64_two, ← Nat.pow_add, show (256 : Nat) = 2 ^ 8 by decide, ← Nat.pow_mul]
    congr 1; omega
  rw [h, e1, Nat.mul_assoc, Nat.mul_div_cancel_left _ (B64_pos _)]
  have e2 : B64 = 2 ^ (8 * (k % 8) + 8) * 2 ^ (56 - 8 * (k % 8)) := by
    rw [← Nat.pow_add, show 8 * (k % 8) + 8 + (56 - 8 * (k % 8)) = 64 by omega]
  rw [e2, Nat.mul_mod_mul_left]
  exact ⟨_, rfl⟩
theorem be_or {x c k : Nat} (hx : ∃ q, x = 2 ^ (8 * (k % 8) + 8) * q) (hx2 : x < B64) (hc : c < 256) :
    Go.bits .or .u64 (x : Int) (IntKind.u64.wrap ((c : Int) * 2 ^ (min ((k % 8 * 8 : Nat) : Int).toNat IntKind.u64.bits))) = ((x + c * 2 ^ (k % 8 * 8) : Nat) : Int) ∧ x + c * 2 ^ (k % 8 * 8) < B64 := by
  obtain ⟨q, hq⟩ := hx
  have hs : c * 2 ^ (k % 8 * 8) < 2 ^ (8 * (k % 8) + 8) := by
    rw [Nat.pow_add, Nat.mul_comm (2 ^ (8 * (k % 8))), show 8 * (k % 8) = k % 8 * 8 by omega]
    exact (Nat.mul_lt_mul_right (Nat.pow_pos (by decide))).2 hc
  have h64 : 2 ^ (8 * (k % 8) + 8) ≤ B64 := by
    show _ ≤ 2 ^ 64
    exact Nat.pow_le_pow_right (by decide) (by omega)
  rw [shl_run (by omega), Nat.mod_eq_of_lt (by omega), u64_or_nat _ _ hx2 (by show _ < B64; omega)]
  have e : x ||| c * 2 ^ (k % 8 * 8) = x + c * 2 ^ (k % 8 * 8) := by rw [hq, Nat.two_pow_add_eq_or_of_lt hs]
  refine ⟨by rw [e], ?_⟩
  rw [← e]
  exact Nat.or_lt_two_pow (n := 64) hx2 (by show _ < B64; omega)
set_option maxHeartbeats 1000000 in
theorem fromBytesV_spec {bl : List Nat} {a : Option Addr} {l c : Nat} {w : World} (hr : Row w a .u8 (ints bl)) (hl : l = bl.length) (hs : l ≤ 1600) (hb : ∀ x ∈ bl, x < 256) :
    Calls Tryz.prog 37 #[.slice a l c] w fun e w' => ∃ a' l' c', e = .returned (.slice a' l' c') ∧ NumN w' a' l' c' (beV bl) ∧ (∀ p, a' = some p → w.heap.size ≤ p.block) ∧ Below w.heap.size w w' := by
  refine calls_of_ev tysOk extsOk Tryz.func37 rfl rfl rfl ?_
  refine ChkP.go (by decide) ?_
  have e0 : IntKind.i64.wrap (Int.tdiv (IntKind.i64.wrap ((l : Int) + 7)) 8) = (((l + 7) / 8 : Nat) : Int) := by
    rw [show (l : Int) + 7 = ((l + 7 : Nat) : Int) by omega, i64_of _ (by omega), show (8 : Int) = ((8 : Nat) : Int) from rfl, ← Int.ofNat_tdiv, i64_of _ (by omega)]
  refine Mk.to ((l + 7) / 8) ((l + 7) / 8) e0 e0 (Nat.le_refl _) (by omega) rfl fun w1 p1 a1 s1 => ?_
  refine LoopP.go (S := Nat) 274877890672 (by kernel_rfl) (fun i => [(14, .int .i64 i)])
    (fun i W => i ≤ l ∧ (∃ xs, Buf .u64 34 W w.heap.size (ints xs) ((l + 7) / 8) ∧ Limbs xs ∧ xs.length = (l + 7) / 8 ∧ val xs = 256 ^ (l - i) * beV (bl.take i)) ∧ Below w.heap.size w W) (fun i => l - i) 0 ⟨rfl, trivial⟩
    ⟨by omega, ⟨List.replicate ((l + 7) / 8) 0, by rw [ints_zeros]; exact p1, (fun x hx => by rw [List.eq_of_mem_replicate hx]; decide), by simp, by rw [val_zeros]; rfl⟩, a1⟩ ?_
  rintro i j W ⟨h1, ⟨xs, h2, h3, h4, h6⟩, h5⟩
  refine IfP.dec (fun hlt => ?_) (fun hge => ?_)
  · have hlt' : i < l := by omega
    refine IdxP.ld i rfl (hr.below h5) (by rw [ints_length]; exact hl) hlt' fun _ _ _ => ?_
    rw [ints_getD]
    have ek : IntKind.i64.wrap (IntKind.i64.wrap ((l : Int) - 1) - (i : Int)) = ((l - 1 - i : Nat) : Int) := by
      rw [show (l : Int) - 1 = ((l - 1 : Nat) : Int) by omega, i64_of _ (by omega), show ((l - 1 : Nat) : Int) - (i : Int) = ((l - 1 - i : Nat) : Int) by omega, i64_of _ (by omega)]
    obtain ⟨k, hk⟩ : ∃ k, l - 1 - i = k := ⟨_, rfl⟩
    rw [hk] at ek
    have eq8 : IntKind.i64.wrap (Int.tdiv (IntKind.i64.wrap (IntKind.i64.wrap ((l : Int) - 1) - (i : Int))) 8) = ((k / 8 : Nat) : Int) := by
      rw [ek, show (8 : Int) = ((8 : Nat) : Int) from rfl, ← Int.ofNat_tdiv, i64_of _ (by omega)]
    have er8 : IntKind.i64.wrap (Int.tmod (IntKind.i64.wrap (IntKind.i64.wrap ((l : Int) - 1) - (i : Int))) 8 * 8) = ((k % 8 * 8 : Nat) : Int) := by
      rw [ek, show (8 : Int) = ((8 : Nat) : Int) from rfl, ← Int.ofNat_tmod, show (((k % 8 : Nat) : Int) * ((8 : Nat) : Int)) = ((k % 8 * 8 : Nat) : Int) by omega, i64_of _ (by omega)]
    have hil := ints_length xs
    refine DrawP.tail tysOk extsOk mixed 13 (by kernel_rfl) rfl ?_
    refine ChkP.go (by decide) ?_
    refine IdxP.ld (k / 8) eq8 (Buf.row (Buf.drw h2)) (by omega) (by omega) fun _ _ _ => ?_
    refine ChkP.go (by decide) ?_
    refine ChkP.go (by rw [er8]; omega) ?_
    refine IdxP.at (k / 8) eq8 (by omega) ?_
    have h2d := Buf.drw h2
    have h5d := h5.drew
    have hcell : (k / 8 : Nat) < (ints xs).length := by omega
    have hnext : IntKind.i64.wrap ((i : Int) + 1) = ((i + 1 : Nat) : Int) := by rw [show (i : Int) + 1 = ((i + 1 : Nat) : Int) by omega]; exact i64_of _ (by omega)
    refine StP.buf (i := 0 + k / 8 * 1) h2d (by omega) fun w2 g1 g2 g3 => ?_
    refine ⟨rfl, i + 1, ⟨⟨congrArg (Value.int .i64) hnext, trivial⟩, by omega, ?_, ?_⟩, by omega⟩
    · have hc : bl.getD i 0 < 256 := by
        rw [List.getD_eq_getElem?_getD, List.getElem?_eq_getElem (by omega)]
        exact hb _ (List.getElem_mem _)
      have hx := getD_val xs h3 (k / 8)
      have hxl := h3.getD (k / 8)
      have hpw : val xs = 256 ^ (k + 1) * beV (bl.take i) := by rw [h6, show l - i = k + 1 by omega]
      obtain ⟨e1, e2⟩ := be_or (x := xs.getD (k / 8) 0) (c := bl.getD i 0) (k := k) (by rw [hx]; exact be_limb hpw) hxl hc
      rw [er8, ints_getD, u64_of _ (by omega), e1, show 0 + k / 8 * 1 = k / 8 by omega, ints_set_nat] at g1
      refine ⟨_, g1, h3.set _ e2, by rw [List.length_set]; exact h4, ?_⟩
      have hv := val_set xs (k / 8) (xs.getD (k / 8) 0 + bl.getD i 0 * 2 ^ (k % 8 * 8)) (by omega)
      have hp : B64 ^ (k / 8) * 2 ^ (k % 8 * 8) = 256 ^ k := by
        rw [B64_two, ← Nat.pow_add, show (256 : Nat) = 2 ^ 8 by decide, ← Nat.pow_mul]
        congr 1; omega
      have h9 : B64 ^ (k / 8) * (bl.getD i 0 * 2 ^ (k % 8 * 8)) = 256 ^ k * bl.getD i 0 := by
        rw [← hp]; ac_rfl
      rw [Nat.mul_add, h9] at hv
      rw [beV_take (by omega), show l - (i + 1) = k by omega, Nat.mul_add]
      have h10 : 256 ^ k * (256 * beV (bl.take i)) = val xs := by rw [hpw, Nat.pow_succ]; ac_rfl
      omega
    · exact Chg.below ((Chg.of_below (s := fun _ => False) h5d).thenC g2 h5d.size (fun k hk e => absurd e (by show ¬ (k = w.heap.size); omega)))
  · have hi : i = l := by omega
    subst hi
    rw [Nat.sub_self, Nat.pow_zero, Nat.one_mul, List.take_of_length_le (by omega)] at h6
    refine CallP.intro (trimN_spec (l := (i + 7) / 8) (c := (i + 7) / 8) ⟨xs, h2.row, h3, h4.symm, Nat.le_refl _, by omega, h6⟩) ?_
    rintro e w4 ⟨a', rfl, q1, q2, hw⟩
    have hw := hw.symm
    subst hw
    refine ⟨_, rfl, rfl, a', _, _, rfl, q1, ?_, h5⟩
    intro p hp
    obtain ⟨q, e1, e2⟩ := q2 p hp
    cases e1
    exact Nat.le_of_eq e2
end Go.Proofs.YthneejblcffdgaaGreatDoor

namespace Go.Proofs.YthneejblcffdgaaGreatDoor
open Go Go.Ev Go.RowKit
set_option maxRecDepth 100000
/-! ### the table of the hashes; the empty tape's first bytes -/
def nilK : List Int := [163, 231, 119, 109, 209, 252, 104, 13, 131, 176, 149, 81, 210, 177, 23, 122, 92, 129, 11, 219, 219, 97, 176, 35, 144, 156, 111, 10, 66, 194, 210, 4]
def nilV : List Int := [197, 96, 156, 230, 204, 27, 175, 214, 140, 65, 12, 182, 114, 69, 248, 10, 180, 71, 137, 197, 26, 155, 48, 11, 222, 15, 181, 157, 30, 21, 88, 50]
theorem nil_k : hmac ktab (List.replicate 32 0) [List.replicate 32 1, [0], []] = nilK := by kernel_rfl
theorem nil_v : hmac ktab nilK [List.replicate 32 1] = nilV := by kernel_rfl
theorem nil_kv : newKV ktab [] = (nilK, nilV) := by
  unfold newKV updKV
  simp only [nil_k, nil_v]
  rfl
theorem nil_out : (hmac ktab nilK [nilV]).take 8 = [180, 66, 153, 144, 126, 78, 66, 170] := by kernel_rfl
theorem nil_bytes : bytesOf ktab nilK nilV 8 = [180, 66, 153, 144, 126, 78, 66, 170] := by
  rw [← nil_out]; rfl
end Go.Proofs.YthneejblcffdgaaGreatDoor

namespace Go.Proofs.YthneejblcffdgaaGreatDoor
open Go Go.Ev Go.RowKit
set_option maxRecDepth 100000
set_option linter.unusedVariables false

/-! ### the first prime off the empty tape -/
def pmF : Nat → Nat → Nat → Nat → Nat
  | 0, _, _, n => 1 % n
  | f + 1, b, e, n => if e = 0 then 1 % n else if e % 2 = 1 then b * pmF f (b * b % n) (e / 2) n % n else pmF f (b * b % n) (e / 2) n
theorem pmF_eq : ∀ (f b e n : Nat), e < 2 ^ f → pmF f b e n = b ^ e % n
  | 0, b, e, n, h => by
    have : e = 0 := by rw [Nat.pow_zero] at h; omega
    subst this; rfl
  | f + 1, b, e, n, h => by
    have h2 : e / 2 < 2 ^ f := by rw [Nat.pow_succ] at h; omega
    have ih := pmF_eq f (b * b % n) (e / 2) n h2
    have hs : (b * b % n) ^ (e / 2) % n = b ^ (2 * (e / 2)) % n := by
      rw [← Nat.pow_mod, Nat.pow_mul, Nat.pow_two]
    unfold pmF
    split
    · rename_i h0; rw [h0, Nat.pow_zero]
    · split
      · rename_i h1
        rw [ih, hs, Nat.mul_mod_mod, ← Nat.pow_succ', show (2 * (e / 2)).succ = e by omega]
      · rw [ih, hs, show 2 * (e / 2) = e by omega]
def mrF (n w s d : Nat) : Bool := Nat.beq (pmF 64 w d n) 1 || (List.range s).any fun i => Nat.beq (pmF 64 w (d * 2 ^ i) n) (n - 1)
def goodF (n s d : Nat) : Bool := Nat.beq (n - 1) (2 ^ s * d) && Nat.beq (d % 2) 1 && Nat.ble 3 n && Nat.ble n 18446744073709551615 && Nat.beq (n % 2) 1
theorem blen64 {n : Nat} (h : n < B64) : blen n ≤ 64 := by
  have h1 : n < 2 ^ 64 := h
  rcases (blen_ok n).2 with g | g
  · omega
  · have := (Nat.pow_lt_pow_iff_right (by decide : 1 < 2)).1 (Nat.lt_of_le_of_lt g h1)
    omega
theorem goodF_ok {n s d w : Nat} (h : goodF n s d = true) (hw : w % n ≠ 0) : strongV n w = mrF n (w % n) s d := by
  unfold goodF at h
  simp only [Bool.and_eq_true, Nat.beq_eq, Nat.ble_eq] at h
  obtain ⟨⟨⟨⟨h1, h2⟩, h3⟩, h4⟩, h5⟩ := h
  have hb := blen64 (n := n) (show n < 18446744073709551616 by omega)
  have hle : ∀ i, i ≤ s → d * 2 ^ i < 2 ^ 64 := fun i hi => by
    have : d * 2 ^ i ≤ 2 ^ s * d := by
      rw [Nat.mul_comm]; exact Nat.mul_le_mul_right _ (Nat.pow_le_pow_right (by decide) hi)
    have h6 : (2 : Nat) ^ 64 = 18446744073709551616 := by decide
    omega
  unfold strongV
  rw [if_neg (by omega), if_neg (by omega), if_neg hw]
  have hiff : mrF n (w % n) s d = true ↔ MR n (w % n) := by
    rw [MR.at h1 h2]
    unfold mrF MRat
    rw [Bool.or_eq_true, Nat.beq_eq, pmF_eq 64 _ _ _ (by have := hle 0 (Nat.zero_le _); rwa [Nat.pow_zero, Nat.mul_one] at this), List.any_eq_true]
    constructor
    · rintro (g | ⟨i, hi, g⟩)
      · exact .inl g
      · have hi := List.mem_range.1 hi
        rw [Nat.beq_eq, pmF_eq 64 _ _ _ (hle i (by omega))] at g
        exact .inr ⟨i, hi, g⟩
    · rintro (g | ⟨i, hi, g⟩)
      · exact .inl g
      · refine .inr ⟨i, List.mem_range.2 hi, ?_⟩
        rw [Nat.beq_eq, pmF_eq 64 _ _ _ (hle i (by omega))]
        exact g
  cases hm : mrF n (w % n) s d with
  | true => exact @decide_eq_true _ (Classical.propDecidable _) (hiff.1 hm)
  | false => exact @decide_eq_false _ (Classical.propDecidable _) (fun g => by rw [hiff.2 g] at hm; cases hm)
def nilP : Nat := 17600799139590718123
def nilT : List (Nat × Nat) := [(1, 8800399569795359061), (2, 4400199784897679531), (1, 8800399569795359063), (4, 1100049946224419883), (1, 8800399569795359065), (2, 4400199784897679533), (1, 8800399569795359067), (3, 2200099892448839767), (1, 8800399569795359069), (2, 4400199784897679535), (1, 8800399569795359071), (6, 275012486556104971), (1, 8800399569795359073), (2, 4400199784897679537), (1, 8800399569795359075), (3, 2200099892448839769), (1, 8800399569795359077), (2, 4400199784897679539), (1, 8800399569795359079), (4, 1100049946224419885), (1, 8800399569795359081), (2, 4400199784897679541), (1, 8800399569795359083), (3, 2200099892448839771)]
def chk0 (i : Nat) : Bool := partV (nilP + 2 * i) || !(Nat.beq (Nat.gcd (nilP + 2 * i - 1) 3) 1) || (goodF (nilP + 2 * i) (nilT.getD i (0, 0)).1 (nilT.getD i (0, 0)).2 && !(mrF (nilP + 2 * i) 2 (nilT.getD i (0, 0)).1 (nilT.getD i (0, 0)).2))
theorem chk0_ok {i : Nat} (h : chk0 i = true) : okN (nilP + 2 * i) 3 = false := by
  unfold chk0 at h
  unfold okN
  rw [Bool.or_eq_true, Bool.or_eq_true] at h
  have hn : nilP = 17600799139590718123 := rfl
  rcases h with (h | h) | h
  · rw [h]; rfl
  · have : ¬ Nat.gcd (nilP + 2 * i - 1) 3 = 1 := fun g => by
      rw [g] at h; exact absurd h (by decide)
    rw [decide_eq_false this]; simp
  · rw [Bool.and_eq_true] at h
    have hm : 2 % (nilP + 2 * i) = 2 := Nat.mod_eq_of_lt (by omega)
    have hs := goodF_ok (w := 2) h.1 (by rw [hm]; decide)
    rw [hm] at hs
    have hp : probV (nilP + 2 * i) = false := by
      unfold probV
      have hg := h.1
      unfold goodF at hg
      simp only [Bool.and_eq_true, Nat.beq_eq, Nat.ble_eq] at hg
      rw [if_neg (by omega)]
      split
      · rfl
      · have : strongV (nilP + 2 * i) 2 = false := by
          rw [hs]
          cases hq : mrF (nilP + 2 * i) 2 (nilT.getD i (0, 0)).1 (nilT.getD i (0, 0)).2 with
          | false => rfl
          | true => rw [hq] at h; exact absurd h.2 (by decide)
        unfold few12
        rw [List.all_cons, this, Bool.false_and]
    rw [hp]; simp
theorem nil_no : ∀ i, i < 23 → okN (nilP + 2 * i) 3 = false := by
  intro i hi
  have h : (List.range 23).all chk0 = true := by kernel_rfl
  rw [List.all_eq_true] at h
  exact chk0_ok (h i (List.mem_range.2 hi))
def nilQ : Nat := 17600799139590718169
theorem nil_yes : okN (nilP + 2 * 23) 3 = true := by
  have h : (!partV nilQ && Nat.beq (Nat.gcd (nilQ - 1) 3) 1 && goodF nilQ (nilT.getD 23 (0, 0)).1 (nilT.getD 23 (0, 0)).2 && few12.all fun w => mrF nilQ w (nilT.getD 23 (0, 0)).1 (nilT.getD 23 (0, 0)).2) = true := by kernel_rfl
  rw [show nilP + 2 * 23 = nilQ from rfl]
  rw [Bool.and_eq_true, Bool.and_eq_true, Bool.and_eq_true] at h
  obtain ⟨⟨⟨h1, h2⟩, h3⟩, h4⟩ := h
  rw [List.all_eq_true] at h4
  have hp : probV nilQ = true := by
    have hg := h3
    unfold goodF at hg
    simp only [Bool.and_eq_true, Nat.beq_eq, Nat.ble_eq] at hg
    have hb := blen64 (n := nilQ) (show nilQ < 18446744073709551616 by omega)
    unfold probV
    rw [if_neg (by omega), if_neg (by omega), List.all_eq_true]
    intro w hw
    have hlt : w < nilQ := by
      have : w < 100 := by revert w; decide
      have : nilQ = 17600799139590718169 := rfl
      omega
    have hw0 : w ≠ 0 := by rintro rfl; revert hw; decide
    have hm : w % nilQ = w := Nat.mod_eq_of_lt hlt
    rw [goodF_ok h3 (by rw [hm]; exact hw0), hm]
    exact h4 w hw
  unfold okN
  rw [h1, hp, decide_eq_true (Nat.eq_of_beq_eq_true h2)]; rfl
end Go.Proofs.YthneejblcffdgaaGreatDoor
