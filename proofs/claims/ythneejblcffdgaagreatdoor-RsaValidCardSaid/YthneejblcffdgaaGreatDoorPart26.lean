/- Texts of this proof, one behind the other: Rb15 Rb16 KtV. -/
import Derived.Test.YthneejblcffdgaaGreatDoorPart25
import Derived.Test.YthneejblcffdgaaGreatDoorPart6
import Derived.ChangeSame
namespace Go.Proofs.YthneejblcffdgaaGreatDoor
open Go Go.Ev Go.RowKit
set_option maxRecDepth 20000
set_option linter.unusedVariables false
set_option linter.unusedSimpArgs false

/-! ### baileyref7: Valid -/
set_option maxHeartbeats 4000000 in
theorem rvalid_spec {s1 s2 s3 s4 s5 : Sl} {N E D P Q : Nat} {w : World} (hk : KeyD w s1 s2 s3 s4 s5 N E D P Q) :
    Calls Tryz.prog 7 #[.agg #[sl s1, sl s2, sl s3, sl s4, sl s5]] w fun e w' => e = .returned (.bool (validV N E D P Q)) ∧ Below w.heap.size w w' := by
  refine calls_of_ev tysOk extsOk Tryz.func7 rfl rfl rfl ?_
  have hx : Blk (w.alloc (.cells (#[sl s1, sl s2, sl s3, sl s4, sl s5] : Array Value) 32)) w.heap.size [sl s1, sl s2, sl s3, sl s4, sl s5] 32 := Blk.newA _ _ _
  have hA0 : Below w.heap.size w (w.alloc (.cells (#[sl s1, sl s2, sl s3, sl s4, sl s5] : Array Value) 32)) := (Below.refl _ _).alloc (Nat.le_refl _) _
  refine LdSl.go (hx.cell 0) ?_
  refine CallP.intro (rbits_spec (hk.below hA0).n.1) ?_
  rintro e w1 ⟨rfl, hw1⟩
  refine ⟨_, rfl, ?_⟩
  have hx1 : Blk w1 w.heap.size [sl s1, sl s2, sl s3, sl s4, sl s5] 32 := by rw [hw1]; exact hx
  have b1 : Below w.heap.size w w1 := by rw [hw1]; exact hA0
  clear hw1 hx hA0
  refine CallP.intro (rof_spec 1 (by decide) w1) ?_
  rintro e w2 ⟨oa, rfl, o1, _, o2⟩
  refine ⟨_, rfl, ?_⟩
  have hx2 := hx1.belowS o2
  have c2 := b1.trans (o2.mono b1.size)
  have hF : ¬ ValidC N E D P Q → Ending.returned (.bool false) = Ending.returned (.bool (validV N E D P Q)) := fun h => congrArg (fun z => Ending.returned (.bool z)) (@decide_eq_false _ (Classical.propDecidable _) h).symm
  have lP := hk.p.2
  have lQ := hk.q.2
  have lE := hk.e.2
  have lD := hk.d.2
  refine DrawP.tree tysOk extsOk mixed [] (.take 0 (.held 1 (.take 2 (.take 3 (.held 4 (.held 5 (.take 6 (.take 7 (.take 9 (.held 8 (.held 10 (.alt 11 (.held 12 (.held 13 (.take 14 (.take 15 (.take 17 (.take 20 (.held 16 (.held 18 (.held 21 (.alt 19 (.alt 22 (.held 23 (.held 24 .done)) .nil) .nil)))))))))) .nil)))))))))))) 137438949376 (by kernel_rfl) (by kernel_rfl)
    (X := Bool) (fun W' => Blk W' w.heap.size [sl s1, sl s2, sl s3, sl s4, sl s5] 32) (fun b => [(36, .bool b)])
    (fun b W' => Below w2.heap.size w2 W' ∧ Blk W' w.heap.size [sl s1, sl s2, sl s3, sl s4, sl s5] 32 ∧ (b = false ↔ (256 ≤ blen N ∧ blen N ≤ 4096 ∧ P ≠ Q ∧ P * Q = N))) ?_ ?_
  · intro w0 e0 b0 s0
    have q1 := hx2.belowS b0
    have c3 := c2.trans (b0.mono c2.size)
    have j0 := hk.below c3
    refine ⟨q1, ?_⟩
    refine HeldP.go (fun w' hS => rfl) ?_
    refine IfP.ndec (fun h1 => ?_) (fun h1 => ?_)
    rotate_left
    · have h1 : (blen N : Int) < 256 := h1
      (repeat (first | refine IfP.yes ?_ | refine IfP.no ?_ | refine NilP.go ?_))
      refine HeldP.go (fun w' hS => IfP.yes rfl) ?_
      (repeat (first | refine IfP.yes ?_ | refine IfP.no ?_ | refine NilP.go ?_))
      refine ⟨IfP.no ⟨q1, ?_⟩, trivial⟩
      (repeat (first | refine IfP.yes ?_ | refine IfP.no ?_ | refine NilP.go ?_))
      refine HeldP.go (fun w' hS => IfP.yes rfl) ?_
      (repeat (first | refine IfP.yes ?_ | refine IfP.no ?_ | refine NilP.go ?_))
      refine ⟨IfP.no ⟨q1, ?_⟩, trivial⟩
      refine ⟨IfP.no ⟨q1, ?_⟩, trivial⟩
      (repeat (first | refine IfP.yes ?_ | refine IfP.no ?_ | refine NilP.go ?_))
      refine HeldP.go (fun w' hS => IfP.yes rfl) ?_
      exact ⟨true, ⟨rfl, trivial⟩, b0, q1, (fun h => by cases h), fun h => by have := h.1; omega⟩
    have h1 : 256 ≤ blen N := by have h1 : ¬ ((blen N : Int) < 256) := h1; omega
    (repeat (first | refine IfP.yes ?_ | refine IfP.no ?_ | refine NilP.go ?_))
    refine HeldP.go (fun w' hS => rfl) ?_
    refine HeldP.go (fun w' hS => IfP.no rfl) ?_
    refine IfP.ndec (fun h2 => ?_) (fun h2 => ?_)
    rotate_left
    · have h2 : (blen N : Int) > 4096 := h2
      (repeat (first | refine IfP.yes ?_ | refine IfP.no ?_ | refine NilP.go ?_))
      refine ⟨IfP.no ⟨q1, ?_⟩, trivial⟩
      (repeat (first | refine IfP.yes ?_ | refine IfP.no ?_ | refine NilP.go ?_))
      refine HeldP.go (fun w' hS => IfP.yes rfl) ?_
      (repeat (first | refine IfP.yes ?_ | refine IfP.no ?_ | refine NilP.go ?_))
      refine ⟨IfP.no ⟨q1, ?_⟩, trivial⟩
      refine ⟨IfP.no ⟨q1, ?_⟩, trivial⟩
      (repeat (first | refine IfP.yes ?_ | refine IfP.no ?_ | refine NilP.go ?_))
      refine HeldP.go (fun w' hS => IfP.yes rfl) ?_
      exact ⟨true, ⟨rfl, trivial⟩, b0, q1, (fun h => by cases h), fun h => by have := h.2.1; omega⟩
    have h2 : blen N ≤ 4096 := by have h2 : ¬ ((blen N : Int) > 4096) := h2; omega
    (repeat (first | refine IfP.yes ?_ | refine IfP.no ?_ | refine NilP.go ?_))
    refine HeldP.go (fun w' hS => LdSl.go (hS.cell 3) rfl) ?_
    (repeat (first | refine IfP.yes ?_ | refine IfP.no ?_ | refine NilP.go ?_))
    refine HeldP.go (fun w' hS => LdSl.go (hS.cell 4) rfl) ?_
    refine ⟨IfP.yes ?_, trivial⟩
    refine CallP.intro (rcmp_spec j0.p.1 j0.q.1) ?_
    rintro e w3 ⟨rfl, k3⟩
    have q2 := q1.belowS k3
    have b3 := b0.trans (k3.mono b0.size)
    refine ⟨_, rfl, q2, ?_⟩
    (repeat (first | refine IfP.yes ?_ | refine IfP.no ?_ | refine NilP.go ?_))
    refine HeldP.go (fun w' hS => rfl) ?_
    refine HeldP.go (fun w' hS => IfP.no rfl) ?_
    refine IfP.nbeq (fun h3 => ?_) (fun h3 => ?_)
    rotate_left
    · (repeat (first | refine IfP.yes ?_ | refine IfP.no ?_ | refine NilP.go ?_))
      refine ⟨IfP.no ⟨q2, ?_⟩, trivial⟩
      refine ⟨IfP.no ⟨q2, ?_⟩, trivial⟩
      (repeat (first | refine IfP.yes ?_ | refine IfP.no ?_ | refine NilP.go ?_))
      refine HeldP.go (fun w' hS => IfP.yes rfl) ?_
      refine ⟨true, ⟨rfl, trivial⟩, b3, q2, (fun h => by cases h), fun h => ?_⟩
      have : (cmpV P Q == 0) = true := by rw [h3]; rfl
      rw [cmpV_zero] at this
      exact absurd (of_decide_eq_true this) h.2.2.1
    have h3 : P ≠ Q := fun h => h3 (cmpV_eq h)
    (repeat (first | refine IfP.yes ?_ | refine IfP.no ?_ | refine NilP.go ?_))
    refine HeldP.go (fun w' hS => LdSl.go (hS.cell 3) rfl) ?_
    (repeat (first | refine IfP.yes ?_ | refine IfP.no ?_ | refine NilP.go ?_))
    refine HeldP.go (fun w' hS => LdSl.go (hS.cell 4) rfl) ?_
    (repeat (first | refine IfP.yes ?_ | refine IfP.no ?_ | refine NilP.go ?_))
    refine HeldP.go (fun w' hS => LdSl.go (hS.cell 0) rfl) ?_
    refine ⟨IfP.yes ?_, trivial⟩
    have j3 := j0.below k3
    refine CallP.intro (rmul_spec j3.p.1 j3.q.1 (by omega) (by omega)) ?_
    rintro e w4 ⟨ta, rfl, t1, _, t2⟩
    have q3 := q2.belowS t2
    have b4 := b3.trans (t2.mono b3.size)
    refine ⟨_, rfl, q3, ?_⟩
    refine ⟨IfP.yes ?_, trivial⟩
    refine CallP.intro (rcmp_spec t1 (j3.below t2).n.1) ?_
    rintro e w5 ⟨rfl, k5⟩
    have q4 := q3.belowS k5
    refine ⟨_, rfl, q4, ?_⟩
    (repeat (first | refine IfP.yes ?_ | refine IfP.no ?_ | refine NilP.go ?_))
    refine HeldP.go (fun w' hS => rfl) ?_
    refine HeldP.go (fun w' hS => IfP.no rfl) ?_
    refine ⟨cmpV (P * Q) N != 0, ⟨rfl, trivial⟩, b4.trans (k5.mono b4.size), q4, ?_⟩
    have hz := cmpV_zero (P * Q) N
    rw [show (cmpV (P * Q) N != 0) = !(cmpV (P * Q) N == 0) from rfl, hz]
    simp [h1, h2, h3]
  · rintro b j W ⟨d1, d3, d2⟩
    have dW := c2.trans (d1.mono c2.size)
    cases b with
    | true =>
      refine IfP.yes ?_
      refine ⟨rfl, hF (fun h => ?_), dW⟩
      have := d2.2 ⟨h.1, h.2.1, h.2.2.1, h.2.2.2.2.2.2.2.1⟩
      cases this
    | false =>
    obtain ⟨h1, h2, h3, hPQ⟩ := d2.1 rfl
    refine IfP.no ?_
    have oW := o1.below d1
    refine LdSl.go (d3.cell 3) ?_
    refine CallP.intro (rprob_spec (hk.below dW).p.1 (by omega)) ?_
    rintro e w3 ⟨rfl, k3⟩
    refine ⟨_, rfl, ?_⟩
    rw [prob_eq]
    have q3 := d3.belowS k3
    have d4 := dW.trans (k3.mono dW.size)
    cases hpP : probV P with
    | false =>
      (repeat (first | refine IfP.yes ?_ | refine IfP.no ?_ | refine NilP.go ?_))
      exact ⟨rfl, hF (fun h => by have h := h.2.2.2.2.2.2.2.2.1; rw [hpP] at h; cases h), d4⟩
    | true =>
    (repeat (first | refine IfP.yes ?_ | refine IfP.no ?_ | refine NilP.go ?_))
    refine LdSl.go (q3.cell 4) ?_
    (repeat (first | refine IfP.yes ?_ | refine IfP.no ?_ | refine NilP.go ?_))
    refine CallP.intro (rprob_spec (hk.below d4).q.1 (by omega)) ?_
    rintro e w4 ⟨rfl, k4⟩
    refine ⟨_, rfl, ?_⟩
    rw [prob_eq]
    have q4 := q3.belowS k4
    have d5 := d4.trans (k4.mono d4.size)
    have o4 := (oW.below k3).below k4
    (repeat (first | refine IfP.yes ?_ | refine IfP.no ?_ | refine NilP.go ?_))
    cases hpQ : probV Q with
    | false =>
      (repeat (first | refine IfP.yes ?_ | refine IfP.no ?_ | refine NilP.go ?_))
      exact ⟨rfl, hF (fun h => by have h := h.2.2.2.2.2.2.2.2.2.1; rw [hpQ] at h; cases h), d5⟩
    | true =>
    (repeat (first | refine IfP.yes ?_ | refine IfP.no ?_ | refine NilP.go ?_))
    refine DrawP.tree tysOk extsOk mixed [] (.take 0 (.held 1 (.alt 2 (.held 3 (.take 4 (.take 5 (.held 6 (.alt 7 (.alt 8 (.held 9 (.held 10 (.take 11 (.take 12 (.take 14 (.held 13 (.held 15 (.alt 16 (.held 17 (.held 18 (.take 19 (.take 20 (.take 22 (.held 21 (.held 23 (.alt 24 (.held 25 (.held 26 .done)) .nil)))))))) .nil)))))))) .nil) .nil))))) .nil))) 18889465790741092499456 (by kernel_rfl) (by kernel_rfl)
      (X := Bool) (fun W' => Blk W' w.heap.size [sl s1, sl s2, sl s3, sl s4, sl s5] 32) (fun b => [(73, .bool b)])
      (fun b W' => Below w4.heap.size w4 W' ∧ Blk W' w.heap.size [sl s1, sl s2, sl s3, sl s4, sl s5] 32 ∧ (b = false ↔ (E % 2 = 1 ∧ 2 < E ∧ E < N ∧ D < N))) ?_ ?_
    · intro w0 e0 b0 s0
      have q1 := q4.belowS b0
      have c3 := d5.trans (b0.mono d5.size)
      have j0 := hk.below c3
      refine ⟨q1, ?_⟩
      refine HeldP.go (fun w' hS => LdSl.go (hS.cell 1) rfl) ?_
      refine ⟨?_, trivial⟩
      refine CallP.intro (rbit_spec (i := 0) j0.e.1 (by decide)) ?_
      rintro e w5 ⟨rfl, hw⟩
      have hw := hw.symm
      subst hw
      refine ⟨_, rfl, q1, ?_⟩
      have h20 : E / 2 ^ 0 % 2 = E % 2 := by rw [Nat.pow_zero, Nat.div_one]
      refine HeldP.go (fun w' hS => rfl) ?_
      refine IfP.nbeq (fun h6 => ?_) (fun h6 => ?_)
      rotate_left
      · have h6 : E % 2 = 0 := by rw [h20] at h6; omega
        (repeat (first | refine IfP.yes ?_ | refine IfP.no ?_ | refine NilP.go ?_))
        refine ⟨IfP.no ⟨q1, ?_⟩, trivial⟩
        refine ⟨IfP.no ⟨q1, ?_⟩, trivial⟩
        (repeat (first | refine IfP.yes ?_ | refine IfP.no ?_ | refine NilP.go ?_))
        refine HeldP.go (fun w' hS => IfP.yes rfl) ?_
        (repeat (first | refine IfP.yes ?_ | refine IfP.no ?_ | refine NilP.go ?_))
        refine ⟨IfP.no ⟨q1, ?_⟩, trivial⟩
        (repeat (first | refine IfP.yes ?_ | refine IfP.no ?_ | refine NilP.go ?_))
        refine HeldP.go (fun w' hS => IfP.yes rfl) ?_
        (repeat (first | refine IfP.yes ?_ | refine IfP.no ?_ | refine NilP.go ?_))
        refine ⟨IfP.no ⟨q1, ?_⟩, trivial⟩
        (repeat (first | refine IfP.yes ?_ | refine IfP.no ?_ | refine NilP.go ?_))
        refine HeldP.go (fun w' hS => IfP.yes rfl) ?_
        exact ⟨true, ⟨rfl, trivial⟩, b0, q1, (fun h => by cases h), fun h => by omega⟩
      have h6 : E % 2 = 1 := by
        have : E % 2 ≠ 0 := fun h => h6 (by rw [h20, h]; rfl)
        omega
      (repeat (first | refine IfP.yes ?_ | refine IfP.no ?_ | refine NilP.go ?_))
      refine HeldP.go (fun w' hS => LdSl.go (hS.cell 1) rfl) ?_
      refine ⟨IfP.yes ?_, trivial⟩
      refine CallP.intro (rof_spec 2 (by decide) w0) ?_
      rintro e w5 ⟨ta, rfl, t1, _, t2⟩
      have q2 := q1.belowS t2
      have b5 := b0.trans (t2.mono b0.size)
      have j5 := j0.below t2
      refine ⟨_, rfl, q2, ?_⟩
      refine ⟨IfP.yes ?_, trivial⟩
      refine CallP.intro (rcmp_spec j5.e.1 t1) ?_
      rintro e w6 ⟨rfl, k6⟩
      have q3' := q2.belowS k6
      have b6 := b5.trans (k6.mono b5.size)
      have j6 := j5.below k6
      refine ⟨_, rfl, q3', ?_⟩
      (repeat (first | refine IfP.yes ?_ | refine IfP.no ?_ | refine NilP.go ?_))
      refine HeldP.go (fun w' hS => rfl) ?_
      refine HeldP.go (fun w' hS => IfP.no rfl) ?_
      refine IfP.ndec (fun h7 => ?_) (fun h7 => ?_)
      rotate_left
      · have h7 := (cmpV_le E 2).1 h7
        (repeat (first | refine IfP.yes ?_ | refine IfP.no ?_ | refine NilP.go ?_))
        refine ⟨IfP.no ⟨q3', ?_⟩, trivial⟩
        (repeat (first | refine IfP.yes ?_ | refine IfP.no ?_ | refine NilP.go ?_))
        refine HeldP.go (fun w' hS => IfP.yes rfl) ?_
        (repeat (first | refine IfP.yes ?_ | refine IfP.no ?_ | refine NilP.go ?_))
        refine ⟨IfP.no ⟨q3', ?_⟩, trivial⟩
        (repeat (first | refine IfP.yes ?_ | refine IfP.no ?_ | refine NilP.go ?_))
        refine HeldP.go (fun w' hS => IfP.yes rfl) ?_
        exact ⟨true, ⟨rfl, trivial⟩, b6, q3', (fun h => by cases h), fun h => by omega⟩
      have h7 : 2 < E := by
        rcases Nat.lt_or_ge 2 E with h | h
        · exact h
        · exact absurd ((cmpV_le E 2).2 h) h7
      (repeat (first | refine IfP.yes ?_ | refine IfP.no ?_ | refine NilP.go ?_))
      refine HeldP.go (fun w' hS => LdSl.go (hS.cell 1) rfl) ?_
      (repeat (first | refine IfP.yes ?_ | refine IfP.no ?_ | refine NilP.go ?_))
      refine HeldP.go (fun w' hS => LdSl.go (hS.cell 0) rfl) ?_
      refine ⟨IfP.yes ?_, trivial⟩
      refine CallP.intro (rcmp_spec j6.e.1 j6.n.1) ?_
      rintro e w7 ⟨rfl, k7⟩
      have q4' := q3'.belowS k7
      have b7 := b6.trans (k7.mono b6.size)
      have j7 := j6.below k7
      refine ⟨_, rfl, q4', ?_⟩
      (repeat (first | refine IfP.yes ?_ | refine IfP.no ?_ | refine NilP.go ?_))
      refine HeldP.go (fun w' hS => rfl) ?_
      refine HeldP.go (fun w' hS => IfP.no rfl) ?_
      refine IfP.ndec (fun h8 => ?_) (fun h8 => ?_)
      rotate_left
      · have h8 := (cmpV_ge E N).1 h8
        (repeat (first | refine IfP.yes ?_ | refine IfP.no ?_ | refine NilP.go ?_))
        refine ⟨IfP.no ⟨q4', ?_⟩, trivial⟩
        (repeat (first | refine IfP.yes ?_ | refine IfP.no ?_ | refine NilP.go ?_))
        refine HeldP.go (fun w' hS => IfP.yes rfl) ?_
        exact ⟨true, ⟨rfl, trivial⟩, b7, q4', (fun h => by cases h), fun h => by omega⟩
      have h8 : E < N := by
        rcases Nat.lt_or_ge E N with h | h
        · exact h
        · exact absurd ((cmpV_ge E N).2 h) h8
      (repeat (first | refine IfP.yes ?_ | refine IfP.no ?_ | refine NilP.go ?_))
      refine HeldP.go (fun w' hS => LdSl.go (hS.cell 2) rfl) ?_
      (repeat (first | refine IfP.yes ?_ | refine IfP.no ?_ | refine NilP.go ?_))
      refine HeldP.go (fun w' hS => LdSl.go (hS.cell 0) rfl) ?_
      refine ⟨IfP.yes ?_, trivial⟩
      refine CallP.intro (rcmp_spec j7.d.1 j7.n.1) ?_
      rintro e w8 ⟨rfl, k8⟩
      have q5' := q4'.belowS k8
      have b8 := b7.trans (k8.mono b7.size)
      refine ⟨_, rfl, q5', ?_⟩
      (repeat (first | refine IfP.yes ?_ | refine IfP.no ?_ | refine NilP.go ?_))
      refine HeldP.go (fun w' hS => rfl) ?_
      refine HeldP.go (fun w' hS => IfP.no rfl) ?_
      refine ⟨decide (cmpV D N ≥ 0), ⟨rfl, trivial⟩, b8, q5', ?_⟩
      have := cmpV_ge D N
      rw [decide_eq_false_iff_not]
      constructor
      · intro h
        refine ⟨h6, h7, h8, ?_⟩
        rcases Nat.lt_or_ge D N with h' | h'
        · exact h'
        · exact absurd (this.2 h') h
      · intro h h'
        have := this.1 h'
        omega
    · rintro b j W2 ⟨x1, x3, x2⟩
      have xW := d5.trans (x1.mono d5.size)
      cases b with
      | true =>
        refine IfP.yes ?_
        refine ⟨rfl, hF (fun h => ?_), xW⟩
        have h6 := h.2.2.2.2.2.1
        have h7 := h.2.2.2.2.2.2.1
        have := x2.2 ⟨h6, by omega, h.2.2.2.2.1, h.2.2.2.1⟩
        cases this
      | false =>
      obtain ⟨h6, h7, h8, h9⟩ := x2.1 rfl
      refine IfP.no ?_
      have j2 := hk.below xW
      have hp2 := prob_two hpP
      have hq2 := prob_two hpQ
      have o6 := o4.below x1
      refine LdSl.go (x3.cell 1) ?_
      refine LdSl.go (x3.cell 2) ?_
      refine CallP.intro (rmul_spec j2.e.1 j2.d.1 (by omega) (by omega)) ?_
      rintro e w7 ⟨ta, rfl, t1, _, t3⟩
      refine ⟨_, rfl, ?_⟩
      have y3 := x3.belowS t3
      have yW := xW.trans (t3.mono xW.size)
      have o7 := o6.below t3
      have htl : (digs (E * D)).length ≤ 500 := by
        refine Nat.le_trans (digs_len_le (k := s2.2.1 + s3.2.1) ?_) (by omega)
        rw [Nat.pow_add]
        exact Nat.mul_lt_mul_of_lt_of_lt j2.e.1.lt j2.d.1.lt
      refine LdSl.go (y3.cell 3) ?_
      refine CallP.intro (rsub_spec (hk.below yW).p.1 o7 (by omega)) ?_
      rintro e w8 ⟨ua, rfl, u1, _, u3⟩
      refine ⟨_, rfl, ?_⟩
      have y4 := y3.belowS u3
      have yW2 := yW.trans (u3.mono yW.size)
      refine CallP.intro (rmod_spec (t1.below u3) u1 (by omega) htl) ?_
      rintro e w9 ⟨ra, rl, rc, rfl, r1, r2⟩
      refine ⟨_, rfl, ?_⟩
      have y5 := y4.belowS r2
      have yW3 := yW2.trans (r2.mono yW2.size)
      have o9 := (o7.below u3).below r2
      refine LdSl.go (y5.cell 4) ?_
      refine CallP.intro (rsub_spec (hk.below yW3).q.1 o9 (by omega)) ?_
      rintro e w10 ⟨va, rfl, v1, _, v3⟩
      refine ⟨_, rfl, ?_⟩
      have yW4 := yW3.trans (v3.mono yW3.size)
      refine CallP.intro (rmod_spec (((t1.below u3).below r2).below v3) v1 (by omega) htl) ?_
      rintro e w11 ⟨za, zl, zc, rfl, z1, z2⟩
      refine ⟨_, rfl, ?_⟩
      have yW5 := yW4.trans (z2.mono yW4.size)
      have o11 := (o9.below v3).below z2
      refine CallP.intro (rcmp_spec ((r1.below v3).below z2) o11) ?_
      rintro e w12 ⟨rfl, k12⟩
      refine ⟨_, rfl, ?_⟩
      have yW6 := yW5.trans (k12.mono yW5.size)
      refine IfP.beq (fun g1 => ?_) (fun g1 => ?_)
      · have g1 : E * D % (P - 1) = 1 := by
          have : (cmpV (E * D % (P - 1)) 1 == 0) = true := by rw [g1]; rfl
          rw [cmpV_zero] at this
          exact of_decide_eq_true this
        (repeat (first | refine IfP.yes ?_ | refine IfP.no ?_ | refine NilP.go ?_))
        refine CallP.intro (rcmp_spec (z1.below k12) (o11.below k12)) ?_
        rintro e w13 ⟨rfl, k13⟩
        refine ⟨_, rfl, ?_⟩
        (repeat (first | refine IfP.yes ?_ | refine IfP.no ?_ | refine NilP.go ?_))
        refine ⟨rfl, congrArg (fun z => Ending.returned (.bool z)) ?_, yW6.trans (k13.mono yW6.size)⟩
        rw [cmpV_zero]
        by_cases g2 : E * D % (Q - 1) = 1
        · rw [decide_eq_true g2]
          exact (@decide_eq_true _ (Classical.propDecidable _) ⟨h1, h2, h3, h9, h8, h6, by omega, hPQ, hpP, hpQ, g1, g2⟩).symm
        · rw [decide_eq_false g2]
          exact (@decide_eq_false _ (Classical.propDecidable _) (fun h => g2 h.2.2.2.2.2.2.2.2.2.2.2)).symm
      · have g1 : E * D % (P - 1) ≠ 1 := fun h => g1 (cmpV_eq h)
        (repeat (first | refine IfP.yes ?_ | refine IfP.no ?_ | refine NilP.go ?_))
        exact ⟨rfl, hF (fun h => g1 h.2.2.2.2.2.2.2.2.2.2.1), yW6⟩
end Go.Proofs.YthneejblcffdgaaGreatDoor

namespace Go.Proofs.YthneejblcffdgaaGreatDoor
open Go Go.Ev Go.RowKit
set_option maxRecDepth 20000
set_option linter.unusedVariables false
set_option linter.unusedSimpArgs false

/-! ### law 7: Cut, CutKey -/
/-- a slice of limbs that came in. -/
def Any64 (w : World) (s : Sl) (xs : List Nat) : Prop := NRow w s.1 xs ∧ Limbs xs ∧ s.2.1 = xs.length ∧ s.2.1 ≤ s.2.2
theorem Any64.below {w w' : World} {s : Sl} {xs : List Nat} (h : Any64 w s xs) (hb : Below w.heap.size w w') : Any64 w' s xs := ⟨Row.below h.1 hb, h.2⟩
theorem cut_spec {s : Sl} {xs : List Nat} {w : World} (h : Any64 w s xs) :
    Calls Tryz.prog 14 #[sl s, .int .i64 9] w fun e w' => ∃ t : Sl, e = .returned (sl t) ∧ NumL w' t (val (xs.take 9)) ∧ (∀ p, t.1 = some p → w.heap.size ≤ p.block) ∧ Below w.heap.size w w' := by
  obtain ⟨a, l, c⟩ := s
  obtain ⟨h1, h2, h3, h4⟩ := h
  simp only at h1 h3 h4
  refine calls_of_ev tysOk extsOk Tryz.func14 rfl rfl rfl ?_
  have key : ∀ k : Nat, k = min l 9 → ∀ (K : Option Addr → Nat → Nat → Prop), (∀ a', NRow w a' (xs.take 9) → K a' k c) → SlcP a l c 0 (some (k : Int)) none 1 K := by
    intro k hk K hK
    refine SlcP.row (c := c) 0 k rfl rfl h1 (by rw [ints_length]; exact h3) h4 (by omega) (by omega) fun a' ha' _ => ?_
    rw [List.drop_zero] at ha'
    have e : (ints xs).take k = ints (xs.take 9) := by
      unfold ints
      rw [← List.map_take]
      congr 1
      rw [hk, h3]
      rcases Nat.le_total xs.length 9 with h | h
      · rw [Nat.min_eq_left h, List.take_of_length_le (Nat.le_refl _), List.take_of_length_le h]
      · rw [Nat.min_eq_right h]
    rw [e] at ha'
    exact hK a' ha'
  have hlen : (xs.take 9).length = min l 9 := by rw [List.length_take, h3]; omega
  have fin : ∀ k : Nat, k = min l 9 → ∀ (a' : Option Addr) (K : Value → World → Prop), NRow w a' (xs.take 9) → (∀ t : Sl, ∀ w', NumL w' t (val (xs.take 9)) → (∀ p, t.1 = some p → w.heap.size ≤ p.block) → Below w.heap.size w w' → K (sl t) w') → evAppend 34 1 8 (.int .u64 0) (.slice none 0 0) (.slice a' k c) K w := by
    intro k hk a' K hr hK
    refine RdP.row' hr (by rw [ints_length, hlen, hk]; exact Nat.mul_one _) ?_
    refine App.own (OwnS.nil w) (by rw [ints_length, hlen, hk]) (by omega) (by decide) fun a2 c2 o2 w2 q1 q2 q3 => ?_
    rw [List.nil_append] at q1
    have hL : Limbs (xs.take 9) := fun x hx => h2 x (List.mem_of_mem_take hx)
    refine hK (a2, 0 + k, c2) w2 ⟨⟨xs.take 9, q1.row, hL, by rw [hlen, hk]; exact Nat.zero_add _, q1.le, by show 0 + k ≤ 250; omega, rfl⟩, by show 0 + k ≤ 50; omega⟩ ?_ (Chg.below ((Chg.of_below (s := fun _ => False) (Below.refl _ w)).thenC q2 (Nat.le_refl _) (fun k hk e => by cases e)))
    intro p hp
    have := q1.at p hp
    rcases q3 with q3 | q3
    · rw [q3] at this; cases this
    · rw [q3] at this
      have e := Option.some.inj this
      omega
  refine IfP.dec (fun hlt => ?_) (fun hge => ?_)
  · have hlt : (l : Int) < 9 := hlt
    refine key l (by omega) _ fun a' ha' => ?_
    refine fin l (by omega) a' _ ha' fun t w' g1 g2 g3 => ?_
    exact ⟨rfl, t, rfl, g1, g2, g3⟩
  · have hge : ¬ ((l : Int) < 9) := hge
    refine key 9 (by omega) _ fun a' ha' => ?_
    refine fin 9 (by omega) a' _ ha' fun t w' g1 g2 g3 => ?_
    exact ⟨rfl, t, rfl, g1, g2, g3⟩
structure KeyA (w : World) (s1 s2 s3 s4 s5 : Sl) (x1 x2 x3 x4 x5 : List Nat) : Prop where
  n : Any64 w s1 x1
  e : Any64 w s2 x2
  d : Any64 w s3 x3
  p : Any64 w s4 x4
  q : Any64 w s5 x5
theorem KeyA.below {w w' : World} {s1 s2 s3 s4 s5 : Sl} {x1 x2 x3 x4 x5 : List Nat} (h : KeyA w s1 s2 s3 s4 s5 x1 x2 x3 x4 x5) (hb : Below w.heap.size w w') : KeyA w' s1 s2 s3 s4 s5 x1 x2 x3 x4 x5 :=
  ⟨h.1.below hb, h.2.below hb, h.3.below hb, h.4.below hb, h.5.below hb⟩
set_option maxHeartbeats 2000000 in
theorem cutkey_spec {s1 s2 s3 s4 s5 : Sl} {x1 x2 x3 x4 x5 : List Nat} {w : World} (hk : KeyA w s1 s2 s3 s4 s5 x1 x2 x3 x4 x5) :
    Calls Tryz.prog 5 #[.agg #[sl s1, sl s2, sl s3, sl s4, sl s5], .int .i64 9] w fun e w' => ∃ t1 t2 t3 t4 t5 : Sl, e = .returned (.agg #[sl t1, sl t2, sl t3, sl t4, sl t5]) ∧ KeyL w' t1 t2 t3 t4 t5 (val (x1.take 9)) (val (x2.take 9)) (val (x3.take 9)) (val (x4.take 9)) (val (x5.take 9)) ∧ (∀ p, t1.1 = some p → w.heap.size ≤ p.block) ∧ (∀ p, t2.1 = some p → w.heap.size ≤ p.block) ∧ (∀ p, t3.1 = some p → w.heap.size ≤ p.block) ∧ (∀ p, t4.1 = some p → w.heap.size ≤ p.block) ∧ (∀ p, t5.1 = some p → w.heap.size ≤ p.block) ∧ Below w.heap.size w w' := by
  refine calls_of_ev tysOk extsOk Tryz.func5 rfl rfl rfl ?_
  have hx0 : Blk (w.alloc (.cells (#[sl s1, sl s2, sl s3, sl s4, sl s5] : Array Value) 25)) w.heap.size [sl s1, sl s2, sl s3, sl s4, sl s5] 25 := Blk.newA _ _ _
  have hA0 : Below w.heap.size w (w.alloc (.cells (#[sl s1, sl s2, sl s3, sl s4, sl s5] : Array Value) 25)) := (Below.refl _ _).alloc (Nat.le_refl _) _
  have hs0 : (w.alloc (.cells (#[sl s1, sl s2, sl s3, sl s4, sl s5] : Array Value) 25)).heap.size = w.heap.size + 1 := size_alloc _ _
  generalize hw0 : w.alloc (.cells (#[sl s1, sl s2, sl s3, sl s4, sl s5] : Array Value) 25) = w0 at hx0 hA0 hs0
  have hz : Blk (w0.alloc (.cells inf25.zero.cells 25)) w0.heap.size [.slice none 0 0, .slice none 0 0, .slice none 0 0, .slice none 0 0, .slice none 0 0] 25 := Blk.newA _ _ _
  have hA1 : Below w0.heap.size w0 (w0.alloc (.cells inf25.zero.cells 25)) := (Below.refl _ _).alloc (Nat.le_refl _) _
  have hx1 := hx0.belowS hA1
  have hB1 := hA0.trans (hA1.mono hA0.size)
  have k1 := hk.below hB1
  subst hw0
  refine DrawP.tree tysOk extsOk mixed [21] (.take 0 (.take 2 (.take 4 (.take 6 (.take 8 (.take 10 (.take 12 (.take 14 (.take 16 (.take 18 (.held 1 (.held 5 (.held 9 (.held 13 (.held 17 (.alt 3 (.alt 7 (.alt 11 (.alt 15 (.alt 19 (.held 20 (.fin 21 .done .nil)) .nil) .nil) .nil) .nil) .nil)))))))))))))))) 67108832 (by kernel_rfl) (by kernel_rfl)
    (X := Sl × Sl × Sl × Sl × Sl) (fun W' => Blk W' w.heap.size [sl s1, sl s2, sl s3, sl s4, sl s5] 25) (fun _ => [])
    (fun t W' => Below w.heap.size w W' ∧ Blk W' (w.alloc (.cells (#[sl s1, sl s2, sl s3, sl s4, sl s5] : Array Value) 25)).heap.size [sl t.1, sl t.2.1, sl t.2.2.1, sl t.2.2.2.1, sl t.2.2.2.2] 25 ∧ KeyL W' t.1 t.2.1 t.2.2.1 t.2.2.2.1 t.2.2.2.2 (val (x1.take 9)) (val (x2.take 9)) (val (x3.take 9)) (val (x4.take 9)) (val (x5.take 9)) ∧ (∀ p, t.1.1 = some p → w.heap.size ≤ p.block) ∧ (∀ p, t.2.1.1 = some p → w.heap.size ≤ p.block) ∧ (∀ p, t.2.2.1.1 = some p → w.heap.size ≤ p.block) ∧ (∀ p, t.2.2.2.1.1 = some p → w.heap.size ≤ p.block) ∧ (∀ p, t.2.2.2.2.1 = some p → w.heap.size ≤ p.block)) ?_ ?_
  · intro w0 c0 b0 s0
    have q0 := hx1.belowS b0
    have z0 := hz.belowS b0
    have c1 := hB1.trans (b0.mono hB1.size)
    have j0 := k1.below b0
    refine ⟨q0, ?_⟩
    refine HeldP.go (fun w' hS => LdSl.go (hS.cell 0) rfl) ?_
    refine HeldP.go (fun w' hS => LdSl.go (hS.cell 1) rfl) ?_
    refine HeldP.go (fun w' hS => LdSl.go (hS.cell 2) rfl) ?_
    refine HeldP.go (fun w' hS => LdSl.go (hS.cell 3) rfl) ?_
    refine HeldP.go (fun w' hS => LdSl.go (hS.cell 4) rfl) ?_
    refine ⟨?_, trivial⟩
    refine CallP.intro (cut_spec j0.n) ?_
    rintro e v1 ⟨t1, rfl, g1, f1, h1⟩
    have d1 := c1.trans (h1.mono c1.size)
    refine ⟨_, rfl, q0.belowS h1, ?_⟩
    refine ⟨?_, trivial⟩
    refine CallP.intro (cut_spec (j0.below h1).e) ?_
    rintro e v2 ⟨t2, rfl, g2, f2, h2⟩
    have d2 := d1.trans (h2.mono d1.size)
    refine ⟨_, rfl, (q0.belowS h1).belowS h2, ?_⟩
    refine ⟨?_, trivial⟩
    refine CallP.intro (cut_spec ((j0.below h1).below h2).d) ?_
    rintro e v3 ⟨t3, rfl, g3, f3, h3⟩
    have d3 := d2.trans (h3.mono d2.size)
    refine ⟨_, rfl, ((q0.belowS h1).belowS h2).belowS h3, ?_⟩
    refine ⟨?_, trivial⟩
    refine CallP.intro (cut_spec (((j0.below h1).below h2).below h3).p) ?_
    rintro e v4 ⟨t4, rfl, g4, f4, h4⟩
    have d4 := d3.trans (h4.mono d3.size)
    refine ⟨_, rfl, (((q0.belowS h1).belowS h2).belowS h3).belowS h4, ?_⟩
    refine ⟨?_, trivial⟩
    refine CallP.intro (cut_spec ((((j0.below h1).below h2).below h3).below h4).q) ?_
    rintro e v5 ⟨t5, rfl, g5, f5, h5⟩
    have d5 := d4.trans (h5.mono d4.size)
    refine ⟨_, rfl, ((((q0.belowS h1).belowS h2).belowS h3).belowS h4).belowS h5, ?_⟩
    refine HeldP.go (fun w' hS => rfl) ?_
    refine ⟨?_, trivial⟩
    have z5 := ((((z0.belowS h1).belowS h2).belowS h3).belowS h4).belowS h5
    have K1 := (((g1.below h2).below h3).below h4).below h5
    have K2 := ((g2.below h3).below h4).below h5
    have K3 := (g3.below h4).below h5
    have K4 := g4.below h5
    refine ChkP.go rfl ?_
    refine StsP.to (vs := [sl t1, sl t2, sl t3, sl t4, sl t5]) z5 ?_ rfl fun v6 y1 y2 y3 => ?_
    · intro v hv
      simp only [List.mem_cons, List.not_mem_nil, or_false] at hv
      rcases hv with rfl | rfl | rfl | rfl | rfl <;> rfl
    have lz := z0.lt
    have l0 := c1.size
    have l1 := h1.size
    have l2 := h2.size
    have l3 := h3.size
    have l4 := h4.size
    have l5 := h5.size
    have d6 : Below w.heap.size w v6 := Chg.below ((Chg.of_below (s := fun _ => False) d5).thenC y2 d5.size (fun q hq e => by have e : q = (w.alloc (.cells (#[sl s1, sl s2, sl s3, sl s4, sl s5] : Array Value) 25)).heap.size := e; omega))
    have off : ∀ {t : Sl} {n : Nat}, NumL v5 t n → (∀ p, t.1 = some p → w0.heap.size ≤ p.block) → NumL v6 t n := fun {t n} hd hf => by
      obtain ⟨⟨X, z1, z2⟩, z3⟩ := hd
      exact ⟨⟨X, z1.chg y2 (fun p hp e => by have e : p.block = (w.alloc (.cells (#[sl s1, sl s2, sl s3, sl s4, sl s5] : Array Value) 25)).heap.size := e; have := hf p hp; omega), z2⟩, z3⟩
    exact ⟨(t1, t2, t3, t4, t5), trivial, d6, y1, ⟨off K1 f1, off K2 (fun p hp => by have := f2 p hp; omega), off K3 (fun p hp => by have := f3 p hp; omega), off K4 (fun p hp => by have := f4 p hp; omega), off g5 (fun p hp => by have := f5 p hp; omega)⟩,
      (fun p hp => by have := f1 p hp; omega), (fun p hp => by have := f2 p hp; omega), (fun p hp => by have := f3 p hp; omega), (fun p hp => by have := f4 p hp; omega), (fun p hp => by have := f5 p hp; omega)⟩
  · rintro ⟨t1, t2, t3, t4, t5⟩ j W ⟨g1, g2, g3, g4⟩
    have g2 : Blk W (w.alloc (.cells (#[sl s1, sl s2, sl s3, sl s4, sl s5] : Array Value) 25)).heap.size [sl t1, sl t2, sl t3, sl t4, sl t5] 25 := g2
    refine ⟨rfl, ?_⟩
    refine LdAgg.go (o := 0) (n := 5) g2 (by show 0 + 5 ≤ 5; decide) ?_
    exact ⟨t1, t2, t3, t4, t5, rfl, g3, g4.1, g4.2.1, g4.2.2.1, g4.2.2.2.1, g4.2.2.2.2, g1⟩
set_option maxHeartbeats 2000000 in
theorem rsaValid_spec {s1 s2 s3 s4 s5 : Sl} {x1 x2 x3 x4 x5 : List Nat} {w : World} (hk : KeyA w s1 s2 s3 s4 s5 x1 x2 x3 x4 x5) (hkt : Row w (some ⟨3, 0, none⟩) .u64 ktab) :
    Calls Tryz.prog 3 #[.agg #[sl s1, sl s2, sl s3, sl s4, sl s5]] w fun e w' => e = .returned (.bool true) ∧ Below w.heap.size w w' := by
  refine calls_of_ev tysOk extsOk Tryz.func3 rfl rfl rfl ?_
  have hx0 : Blk (w.alloc (.cells (#[sl s1, sl s2, sl s3, sl s4, sl s5] : Array Value) 25)) w.heap.size [sl s1, sl s2, sl s3, sl s4, sl s5] 25 := Blk.newA _ _ _
  have hA0 : Below w.heap.size w (w.alloc (.cells (#[sl s1, sl s2, sl s3, sl s4, sl s5] : Array Value) 25)) := (Below.refl _ _).alloc (Nat.le_refl _) _
  refine CallP.intro (begun7_spec (hkt.below hA0)) ?_
  rintro e w1 ⟨rfl, b1⟩
  refine ⟨_, rfl, ?_⟩
  have hx1 := hx0.belowS b1
  have c1 := hA0.trans (b1.mono hA0.size)
  refine LdAgg.go (o := 0) (n := 5) hx1 (by show 0 + 5 ≤ 5; decide) ?_
  refine CallP.intro (cutkey_spec (hk.below c1)) ?_
  rintro e w2 ⟨t1, t2, t3, t4, t5, rfl, K, f1, f2, f3, f4, f5, b2⟩
  refine ⟨_, rfl, ?_⟩
  have hx2 := hx1.belowS b2
  have c2 := c1.trans (b2.mono c1.size)
  refine ChkP.go rfl ?_
  refine StsP.to (vs := [sl t1, sl t2, sl t3, sl t4, sl t5]) hx2 ?_ rfl fun w3 y1 y2 y3 => ?_
  · intro v hv
    simp only [List.mem_cons, List.not_mem_nil, or_false] at hv
    rcases hv with rfl | rfl | rfl | rfl | rfl <;> rfl
  have lx := hx1.lt
  have c3 : Below w.heap.size w w3 := Chg.below ((Chg.of_below (s := fun _ => False) c2).thenC y2 c2.size (fun q hq e => by omega))
  have off : ∀ {t : Sl} {n : Nat}, NumL w2 t n → (∀ p, t.1 = some p → w1.heap.size ≤ p.block) → NumL w3 t n := fun {t n} hd hf => by
    obtain ⟨⟨X, z1, z2⟩, z3⟩ := hd
    exact ⟨⟨X, z1.chg y2 (fun p hp e => by have e : p.block = w.heap.size := e; have := hf p hp; omega), z2⟩, z3⟩
  have K3 : KeyL w3 t1 t2 t3 t4 t5 (val (x1.take 9)) (val (x2.take 9)) (val (x3.take 9)) (val (x4.take 9)) (val (x5.take 9)) := ⟨off K.n f1, off K.e f2, off K.d f3, off K.p f4, off K.q f5⟩
  refine DrawP.tree tysOk extsOk mixed [] (.take 0 (.take 1 (.held 2 (.held 4 (.alt 3 (.alt 5 (.alt 6 (.held 7 (.held 8 (.take 9 .done))) .nil) .nil) .nil))))) 65412 (by kernel_rfl) (by kernel_rfl)
    (X := Unit) (fun W' => Blk W' w.heap.size [sl t1, sl t2, sl t3, sl t4, sl t5] 25) (fun _ => [(2, .bool true)])
    (fun _ W' => Below w.heap.size w W') ?_ ?_
  · intro w0 c0 b0 s0
    have q0 := y1.belowS b0
    have c4 := c3.trans (b0.mono c3.size)
    have j0 := K3.below b0
    refine ⟨q0, ?_⟩
    (repeat (first | refine IfP.yes ?_ | refine IfP.no ?_ | refine NilP.go ?_))
    refine HeldP.go (fun w' hS => LdAgg.go (o := 0) (n := 5) hS (by show 0 + 5 ≤ 5; decide) rfl) ?_
    (repeat (first | refine IfP.yes ?_ | refine IfP.no ?_ | refine NilP.go ?_))
    refine HeldP.go (fun w' hS => LdAgg.go (o := 0) (n := 5) hS (by show 0 + 5 ≤ 5; decide) rfl) ?_
    refine ⟨IfP.yes ?_, trivial⟩
    refine CallP.intro (valid_spec j0) ?_
    rintro e v1 ⟨rfl, h1⟩
    refine ⟨_, rfl, q0.belowS h1, ?_⟩
    refine ⟨IfP.yes ?_, trivial⟩
    have c5 := c4.trans (h1.mono c4.size)
    refine CallP.intro (rkey_spec (j0.below h1)) ?_
    rintro e v2 ⟨u1, u2, u3, u4, u5, rfl, D2, h2⟩
    refine ⟨_, rfl, (q0.belowS h1).belowS h2, ?_⟩
    refine ⟨IfP.yes ?_, trivial⟩
    have c6 := c5.trans (h2.mono c5.size)
    refine CallP.intro (rvalid_spec D2) ?_
    rintro e v3 ⟨rfl, h3⟩
    refine ⟨_, rfl, ((q0.belowS h1).belowS h2).belowS h3, ?_⟩
    (repeat (first | refine IfP.yes ?_ | refine IfP.no ?_ | refine NilP.go ?_))
    refine HeldP.go (fun w' hS => rfl) ?_
    refine HeldP.go (fun w' hS => IfP.yes rfl) ?_
    have c7 := c6.trans (h3.mono c6.size)
    refine ⟨(), ⟨congrArg Value.bool (beq_self_eq_true _), trivial⟩, c7⟩
  · rintro ⟨⟩ j W hB
    exact ⟨rfl, rfl, hB⟩
end Go.Proofs.YthneejblcffdgaaGreatDoor

namespace Go.Proofs.YthneejblcffdgaaGreatDoor
open Go Go.Ev Go.ChangeShapes Go.WideShapes Go.ChangeAt Go.RowKit
set_option linter.unusedVariables false
set_option maxRecDepth 100000

/-! ### an RSA key that came in -/
theorem row_of_trod {H : Type} {enc : TypeId × Value → H} {W : World} {t e : TypeId} {k : IntKind} {v : Value} {fuel : Nat} {y : DataW H × List MemPlace} (ht : Tryz.prog.underlying t = some (.slice e)) (he : Tryz.prog.underlying e = some (.int k)) (hc : Tryz.prog.cellsOf e = 1)
    (h : DataW.trod enc Tryz.prog W 0 (fun _ => true) true fuel t [v] = some y) : ∃ a l c zs, v = .slice a l c ∧ Row W a k zs ∧ l = zs.length ∧ l ≤ c ∧ c ≤ maxLen ∧ (∀ n ∈ zs, (Lit.int k n).wf = true) := by
  rcases open_ints ht he hc h with ⟨h1, h2⟩ | ⟨a, len, cap, zs, h1, h2, h3, h4, h5, h6, h7, h8⟩
  · simp only [List.cons.injEq, and_true] at h1
    subst h1
    exact ⟨none, 0, 0, [], rfl, Row.nil _ _ _, rfl, Nat.le_refl _, by decide, by simp⟩
  · have h5 : zs.length = cap := by simpa using h5
    simp only [List.cons.injEq, and_true] at h1
    subst h1
    refine ⟨some a, len, cap, zs.take len, rfl, ?_, by simp; omega, h3, h4, fun n hn => h8 n (List.mem_of_mem_take hn)⟩
    intro i hi
    have hi' : i < len ∧ i < zs.length := by simp at hi; omega
    obtain ⟨b, o, rfl, hc⟩ := ints_at h7 (by omega)
    refine ⟨b, o, rfl, ?_⟩
    rw [hc i hi'.2]
    simp [List.getD_eq_getElem?_getD, hi'.2]
theorem any_of_row {W : World} {a : Option Addr} {l c : Nat} {zs : List Int} (hr : Row W a .u64 zs) (hl : l = zs.length) (hc : l ≤ c) (hw : ∀ n ∈ zs, (Lit.int .u64 n).wf = true) : ∃ xs, Any64 W (a, l, c) xs := by
  have hb : ∀ n ∈ zs, 0 ≤ n ∧ n < 18446744073709551616 := fun n hn => by
    have := hw n hn
    simp only [Lit.wf, Bool.and_eq_true, decide_eq_true_eq] at this
    have h1 : IntKind.u64.min = 0 := rfl
    have h2 : IntKind.u64.max = 18446744073709551615 := rfl
    omega
  have he : ints (zs.map Int.toNat) = zs := by
    unfold ints
    rw [List.map_map]
    have : zs.map (Int.ofNat ∘ Int.toNat) = zs.map id := List.map_congr_left fun n hn => by
      have := hb n hn
      show ((n.toNat : Nat) : Int) = n
      omega
    rw [this, List.map_id]
  refine ⟨zs.map Int.toNat, ?_, ?_, by simpa using hl, hc⟩
  · show Row W a .u64 (ints (zs.map Int.toNat))
    rw [he]; exact hr
  · intro x hx
    obtain ⟨n, hn, rfl⟩ := List.mem_map.1 hx
    have := hb n hn
    omega
theorem key_of_trod {H : Type} {enc : TypeId × Value → H} {W : World} {r : Reach} {b0 : Nat} {v : Value} {d : DataW H} {ps : List MemPlace} (hval : Value.okWide Tryz.prog W r b0 25 v) (h : DataW.Trod enc Tryz.prog W 0 (fun _ => true) true 25 v d ps) :
    ∃ s1 s2 s3 s4 s5 x1 x2 x3 x4 x5, v = .agg #[sl s1, sl s2, sl s3, sl s4, sl s5] ∧ KeyA W s1 s2 s3 s4 s5 x1 x2 x3 x4 x5 := by
  obtain ⟨cs, rfl, hsz⟩ := okWide_struct Tryz.underlying25 hval
  obtain ⟨fuel, h⟩ := h
  obtain ⟨xs, n, _, hx, hl, hlen, hf⟩ := DataW.trod_struct Tryz.underlying25 h
  have hc : Tryz.prog.cellsOf 23 = 1 := by kernel_rfl
  have h5 : Tryz.prog.cellsOf 25 = 5 := by kernel_rfl
  have hlen : xs.length = 5 := hlen
  obtain ⟨l⟩ := cs
  have hl : l.length = 5 := by rw [← h5]; exact hl
  match l, hl with
  | [c0, c1, c2, c3, c4], _ =>
    match xs, hlen with
    | [y0, y1, y2, y3, y4], _ =>
    have k0 : DataW.trod enc Tryz.prog W 0 (fun _ => true) true n 23 (([c0, c1, c2, c3, c4].drop 0).take (Tryz.prog.cellsOf 23)) = some y0 := hf 0 _ rfl
    rw [hc] at k0
    have k1 : DataW.trod enc Tryz.prog W 0 (fun _ => true) true n 23 (([c0, c1, c2, c3, c4].drop 1).take (Tryz.prog.cellsOf 23)) = some y1 := hf 1 _ rfl
    rw [hc] at k1
    have k2 : DataW.trod enc Tryz.prog W 0 (fun _ => true) true n 23 (([c0, c1, c2, c3, c4].drop 2).take (Tryz.prog.cellsOf 23)) = some y2 := hf 2 _ rfl
    rw [hc] at k2
    have k3 : DataW.trod enc Tryz.prog W 0 (fun _ => true) true n 23 (([c0, c1, c2, c3, c4].drop 3).take (Tryz.prog.cellsOf 23)) = some y3 := hf 3 _ rfl
    rw [hc] at k3
    have k4 : DataW.trod enc Tryz.prog W 0 (fun _ => true) true n 23 (([c0, c1, c2, c3, c4].drop 4).take (Tryz.prog.cellsOf 23)) = some y4 := hf 4 _ rfl
    rw [hc] at k4
    obtain ⟨a0, l0, p0, z0, rfl, r0, e0, g0, _, w0⟩ := row_of_trod Tryz.underlying23 Tryz.underlying34 Tryz.cellsU64 k0
    obtain ⟨a1, l1, p1, z1, rfl, r1, e1, g1, _, w1⟩ := row_of_trod Tryz.underlying23 Tryz.underlying34 Tryz.cellsU64 k1
    obtain ⟨a2, l2, p2, z2, rfl, r2, e2, g2, _, w2⟩ := row_of_trod Tryz.underlying23 Tryz.underlying34 Tryz.cellsU64 k2
    obtain ⟨a3, l3, p3, z3, rfl, r3, e3, g3, _, w3⟩ := row_of_trod Tryz.underlying23 Tryz.underlying34 Tryz.cellsU64 k3
    obtain ⟨a4, l4, p4, z4, rfl, r4, e4, g4, _, w4⟩ := row_of_trod Tryz.underlying23 Tryz.underlying34 Tryz.cellsU64 k4
    obtain ⟨x0, j0⟩ := any_of_row r0 e0 g0 w0
    obtain ⟨x1, j1⟩ := any_of_row r1 e1 g1 w1
    obtain ⟨x2, j2⟩ := any_of_row r2 e2 g2 w2
    obtain ⟨x3, j3⟩ := any_of_row r3 e3 g3 w3
    obtain ⟨x4, j4⟩ := any_of_row r4 e4 g4 w4
    exact ⟨(a0, l0, p0), (a1, l1, p1), (a2, l2, p2), (a3, l3, p3), (a4, l4, p4), x0, x1, x2, x3, x4, rfl, ⟨j0, j1, j2, j3, j4⟩⟩
end Go.Proofs.YthneejblcffdgaaGreatDoor
