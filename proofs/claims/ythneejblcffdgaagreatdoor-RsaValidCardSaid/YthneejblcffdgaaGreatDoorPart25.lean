/- Texts of this proof, one behind the other: Rb12 Rb13 Rb14. -/
import Derived.Test.YthneejblcffdgaaGreatDoorPart24
namespace Go.Proofs.YthneejblcffdgaaGreatDoor
open Go Go.Ev Go.RowKit
set_option maxRecDepth 20000
set_option linter.unusedVariables false
set_option linter.unusedSimpArgs false

/-! ### baileyref2: Strong -/
theorem cmpV_le (n m : Nat) : cmpV n m ≤ 0 ↔ n ≤ m := by
  unfold cmpV
  split
  · omega
  · split <;> omega
theorem strongV_small {n w : Nat} (h : n % 2 = 0 ∨ n < 2) : strongV n w = decide (n = 2) := if_pos h
theorem strongV_big {n w : Nat} (h : ¬ (n % 2 = 0 ∨ n < 2)) (hb : 4096 < blen n) : strongV n w = false := by
  unfold strongV; rw [if_neg h, if_pos hb]
theorem strongV_mid {n w : Nat} (h : ¬ (n % 2 = 0 ∨ n < 2)) (hb : ¬ 4096 < blen n) : strongV n w = if w % n = 0 then true else @decide (MR n (w % n)) (Classical.propDecidable _) := by
  unfold strongV; rw [if_neg h, if_neg hb]
set_option maxHeartbeats 2000000 in
theorem rstrong_spec {a wa : Option Addr} {l c l2 c2 n v : Nat} {w : World} (ha : DigN w a l c n) (hv : DigN w wa l2 c2 v) (hl : l ≤ 250) (hl2 : l2 ≤ 250) :
    Calls Tryz.prog 53 #[.slice a l c, .slice wa l2 c2] w fun e w' => e = .returned (.bool (strongV n v)) ∧ Below w.heap.size w w' := by
  refine calls_of_ev tysOk extsOk Tryz.func53 rfl rfl rfl ?_
  refine CallP.intro (rof_spec 1 (by decide) w) ?_
  rintro e w1 ⟨oa, rfl, o1, _, o2⟩
  refine ⟨_, rfl, ?_⟩
  refine CallP.intro (rof_spec 2 (by decide) w1) ?_
  rintro e w2 ⟨ta, rfl, t1, _, t2⟩
  refine ⟨_, rfl, ?_⟩
  have b2 := o2.trans (t2.mono o2.size)
  have a2 := ha.below b2
  refine CallP.intro (rodd_spec a2) ?_
  rintro e w3 ⟨rfl, hw⟩
  have hw := hw.symm
  subst hw
  refine ⟨_, rfl, ?_⟩
  have small : ∀ (w3 : World), Below w2.heap.size w2 w3 → (n % 2 = 0 ∨ n < 2) → ∀ (K : Value → World → Prop), (∀ w4, Below w.heap.size w w4 → K (.int .i64 (cmpV n 2)) w4) → CallP Tryz.prog 25 #[.slice a l c, .slice ta (digs 2).length (digs 2).length] K w3 := by
    intro w3 hb hn K hK
    refine CallP.intro (rcmp_spec (a2.below hb) (t1.below hb)) ?_
    rintro e w4 ⟨rfl, h4⟩
    have b3 := b2.trans (hb.mono b2.size)
    exact ⟨_, rfl, hK w4 (b3.trans (h4.mono b3.size))⟩
  have hres : (n % 2 = 0 ∨ n < 2) → (cmpV n 2 == 0) = strongV n v := fun h => by rw [strongV_small h, cmpV_zero]
  by_cases ho : n % 2 = 1
  rotate_left
  · rw [decide_eq_false ho]
    (repeat (first | refine IfP.yes ?_ | refine IfP.no ?_ | refine NilP.go ?_))
    refine small w2 (Below.refl _ _) (.inl (by omega)) _ fun w4 h4 => ?_
    refine ⟨rfl, ?_, h4⟩
    rw [← hres (.inl (by omega))]; rfl
  rw [decide_eq_true ho]
  (repeat (first | refine IfP.yes ?_ | refine IfP.no ?_ | refine NilP.go ?_))
  refine CallP.intro (rcmp_spec a2 t1) ?_
  rintro e w3 ⟨rfl, k3⟩
  refine ⟨_, rfl, ?_⟩
  have b3 := b2.trans (k3.mono b2.size)
  (repeat (first | refine IfP.yes ?_ | refine IfP.no ?_ | refine NilP.go ?_))
  refine IfP.dec (fun h2 => ?_) (fun h2 => ?_)
  · have h2 : n ≤ 2 := (cmpV_le n 2).1 h2
    refine small w3 k3 (.inr (by omega)) _ fun w4 h4 => ?_
    refine ⟨rfl, ?_, h4⟩
    rw [← hres (.inr (by omega))]; rfl
  have h2 : 2 < n := by
    rcases Nat.lt_or_ge 2 n with h | h
    · exact h
    · exact absurd ((cmpV_le n 2).2 h) h2
  have hn1 : ¬ (n % 2 = 0 ∨ n < 2) := by omega
  have a3 := a2.below k3
  refine CallP.intro (rbits_spec a3) ?_
  rintro e w4 ⟨rfl, hw⟩
  have hw := hw.symm
  subst hw
  refine ⟨_, rfl, ?_⟩
  refine IfP.dec (fun hb => ?_) (fun hb => ?_)
  · have hb : 4096 < blen n := by have hb : (blen n : Int) > 4096 := hb; omega
    exact ⟨rfl, congrArg (fun z => Ending.returned (.bool z)) (strongV_big hn1 hb).symm, b3⟩
  have hb : ¬ 4096 < blen n := by have hb : ¬ ((blen n : Int) > 4096) := hb; omega
  have hsv := strongV_mid (w := v) hn1 hb
  refine CallP.intro (rsub_spec a3 ((o1.below t2).below k3) (by omega)) ?_
  rintro e w5 ⟨la, rfl, k1, _, k2⟩
  refine ⟨_, rfl, ?_⟩
  have b5 := b3.trans (k2.mono b3.size)
  have hll : (digs (n - 1)).length ≤ 250 := Nat.le_trans (digs_mono (Nat.sub_le _ _)) (by rw [← ha.2.1]; exact hl)
  obtain ⟨kk, hkk⟩ : ∃ kk : Nat, kk = 8000 := ⟨_, rfl⟩
  have hlt8 : n - 1 < 2 ^ kk := by
    have h1 := lt_of_digs (n - 1)
    rw [B32_two] at h1
    exact Nat.lt_of_lt_of_le h1 (Nat.pow_le_pow_right (by decide) (by omega))
  refine LoopP.go (S := Nat × Option Addr × Nat × Nat) 35167192220416 (by kernel_rfl) (fun s => [(9, .int .i64 (s.1 : Nat)), (8, .slice s.2.1 s.2.2.1 s.2.2.2)])
    (fun s W => (n - 1) % 2 ^ s.1 = 0 ∧ DigN W s.2.1 s.2.2.1 s.2.2.2 ((n - 1) / 2 ^ s.1) ∧ Below w5.heap.size w5 W) (fun s => (n - 1) / 2 ^ s.1) (0, la, _, _) ⟨rfl, rfl, trivial⟩ ⟨Nat.mod_one _, by rw [Nat.pow_zero, Nat.div_one]; exact k1, Below.refl _ _⟩ ?_
  rintro ⟨s, da, dl, dc⟩ j W ⟨i1, i2, i3⟩
  simp only at i1 i2
  have hdv : n - 1 = 2 ^ s * ((n - 1) / 2 ^ s) := by have := Nat.div_add_mod (n - 1) (2 ^ s); omega
  have hd0 : 0 < (n - 1) / 2 ^ s := by
    rcases Nat.eq_zero_or_pos ((n - 1) / 2 ^ s) with h | h
    · rw [h] at hdv; omega
    · exact h
  have hs : s < 8000 := by
    have h1 : 2 ^ s ≤ n - 1 := by
      have := Nat.le_mul_of_pos_right (2 ^ s) hd0
      omega
    have := (Nat.pow_lt_pow_iff_right (by decide : 1 < 2)).1 (Nat.lt_of_le_of_lt h1 hlt8)
    omega
  refine CallP.intro (rodd_spec i2) ?_
  rintro e W1 ⟨rfl, hw⟩
  have hw := hw.symm
  subst hw
  refine ⟨_, rfl, ?_⟩
  have bW := b5.trans (i3.mono b5.size)
  refine IfP.ndec (fun hb0 => ?_) (fun hb1 => ?_)
  · have hdl : dl ≤ 250 := by rw [i2.2.1]; exact Nat.le_trans (digs_mono (Nat.div_le_self _ _)) hll
    have t5 := ((t1.below k3).below k2).below i3
    refine CallP.intro (rquo_spec i2 t5 (by decide) (by show dl ≤ 500; omega)) ?_
    rintro e W2 ⟨qa, ql, qc, ra, rl, rc, rfl, g1, g2, g3⟩
    refine ⟨_, rfl, ?_⟩
    have e2 : (n - 1) / 2 ^ (s + 1) = (n - 1) / 2 ^ s / 2 := by rw [Nat.pow_succ, Nat.div_div_eq_div_mul]
    have e44 := next_i64 (show s < 8000 by omega) (by decide)
    refine ⟨rfl, (s + 1, qa, ql, qc), ⟨⟨congrArg (Value.int .i64) e44, rfl, trivial⟩, ?_, ?_, i3.trans (g3.mono i3.size)⟩, by show (n - 1) / 2 ^ (s + 1) < _; rw [e2]; exact Nat.div_lt_self hd0 (by decide)⟩
    · have hb0 : ¬ (n - 1) / 2 ^ s % 2 = 1 := hb0
      generalize (n - 1) / 2 ^ s = q at *
      rw [hdv, Nat.pow_succ, show q = 2 * (q / 2) by omega, ← Nat.mul_assoc]
      exact Nat.mul_mod_right _ _
    · show DigN W2 qa ql qc ((n - 1) / 2 ^ (s + 1))
      rw [e2]; exact g1
  have hMR := MR.at (w := v % n) hdv hb1
  have aW := (a3.below k2).below i3
  refine CallP.intro (rmod_spec (hv.below bW) aW (by omega) (by omega)) ?_
  rintro e W2 ⟨ra, rl, rc, rfl, r1, r2⟩
  refine ⟨_, rfl, ?_⟩
  have bW2 := bW.trans (r2.mono bW.size)
  refine IfP.beq (fun h0 => ?_) (fun h0 => ?_)
  · have : v % n = 0 := by
      have := r1.2.1
      refine digs_len0 ?_
      omega
    rw [if_pos this] at hsv
    rw [hsv]
    exact ⟨rfl, rfl, bW2⟩
  have hr0 : v % n ≠ 0 := fun h => h0 (by rw [h] at r1; have := r1.2.1; rw [this]; rfl)
  rw [if_neg hr0] at hsv
  have hrl : rl ≤ 250 := by rw [r1.2.1]; exact Nat.le_trans (digs_lt_len (Nat.mod_lt _ (by omega))) (by rw [← ha.2.1]; exact hl)
  have aW2 := aW.below r2
  refine CallP.intro (rexp_spec r1 (i2.below r2) aW2 (by omega) hrl hl) ?_
  rintro e W3 ⟨xa, xl, xc, rfl, x1, x2⟩
  generalize hD : (n - 1) / 2 ^ s = d at *
  refine ⟨_, rfl, ?_⟩
  have bW3 := bW2.trans (x2.mono bW2.size)
  have o3 := ((((((o1.below t2).below k3).below k2).below i3).below r2).below x2)
  refine CallP.intro (rcmp_spec x1 o3) ?_
  rintro e W4 ⟨rfl, x3⟩
  refine ⟨_, rfl, ?_⟩
  have bW4 := bW3.trans (x3.mono bW3.size)
  have hyes : MRat n (v % n) s d → Ending.returned (Value.bool true) = Ending.returned (Value.bool (strongV n v)) := fun h => by
    rw [hsv]
    exact congrArg (fun z => Ending.returned (Value.bool z)) (@decide_eq_true _ (Classical.propDecidable _) (hMR.2 h)).symm
  refine IfP.beq (fun h1 => ?_) (fun h1 => ?_)
  · have h1 : (v % n) ^ d % n = 1 := by
      have : (cmpV ((v % n) ^ d % n) 1 == 0) = true := by rw [h1]; rfl
      rw [cmpV_zero] at this
      exact of_decide_eq_true this
    exact ⟨rfl, hyes (.inl h1), bW4⟩
  have h1 : (v % n) ^ d % n ≠ 1 := fun h => h1 (cmpV_eq h)
  have aW4 := (aW2.below x2).below x3
  have l4 := (((k1.below i3).below r2).below x2).below x3
  refine LoopP.go (S := Nat × Option Addr × Nat × Nat) 4721790022117341793296 (by kernel_rfl) (fun s => [(11, .int .i64 (s.1 : Nat)), (10, .slice s.2.1 s.2.2.1 s.2.2.2)])
    (fun t W => t.1 ≤ s ∧ Below W4.heap.size W4 W ∧ DigN W t.2.1 t.2.2.1 t.2.2.2 ((v % n) ^ (d * 2 ^ t.1) % n) ∧ ∀ k, k < t.1 → (v % n) ^ (d * 2 ^ k) % n ≠ n - 1) (fun t => s - t.1) (0, xa, xl, xc) ⟨rfl, rfl, trivial⟩ ⟨Nat.zero_le _, Below.refl _ _, by rw [Nat.pow_zero, Nat.mul_one]; exact x1.below x3, fun k hk => absurd hk (Nat.not_lt_zero _)⟩ ?_
  rintro ⟨i, ya, yl, yc⟩ j2 V ⟨v1, v2, v3, v4⟩
  simp only at v1 v3 v4
  have bV := bW4.trans (v2.mono bW4.size)
  refine IfP.dec (fun hlt => ?_) (fun hge => ?_)
  · have hi : i < s := by omega
    refine CallP.intro (rcmp_spec v3 (l4.below v2)) ?_
    rintro e V1 ⟨rfl, u1⟩
    refine ⟨_, rfl, ?_⟩
    have v2' := v2.trans (u1.mono v2.size)
    have bV1 := bV.trans (u1.mono bV.size)
    refine IfP.beq (fun g1 => ?_) (fun g1 => ?_)
    · have g1 : (v % n) ^ (d * 2 ^ i) % n = n - 1 := by
        have : (cmpV ((v % n) ^ (d * 2 ^ i) % n) (n - 1) == 0) = true := by rw [g1]; rfl
        rw [cmpV_zero] at this
        exact of_decide_eq_true this
      exact ⟨rfl, hyes (.inr ⟨i, hi, g1⟩), bV1⟩
    · have g1 : (v % n) ^ (d * 2 ^ i) % n ≠ n - 1 := fun h => g1 (cmpV_eq h)
      have hyl : yl ≤ 250 := by rw [v3.2.1]; exact Nat.le_trans (digs_lt_len (Nat.mod_lt _ (by omega))) (by rw [← ha.2.1]; exact hl)
      refine CallP.intro (rmulm_spec (v3.below u1) (v3.below u1) ((aW4.below v2).below u1) (by omega) hyl hyl) ?_
      rintro e V2 ⟨za, zl, zc, rfl, z1, z2⟩
      have e63 := next_i64 hi (by omega)
      refine ⟨_, rfl, rfl, (i + 1, za, zl, zc), ⟨⟨congrArg (Value.int .i64) e63, rfl, trivial⟩, hi, v2'.trans (z2.mono v2'.size), ?_, fun k hk => ?_⟩, by show s - (i + 1) < s - i; omega⟩
      · show DigN V2 za zl zc ((v % n) ^ (d * 2 ^ (i + 1)) % n)
        rw [show d * 2 ^ (i + 1) = d * 2 ^ i + d * 2 ^ i by rw [Nat.pow_succ, ← Nat.mul_assoc, Nat.mul_two], Nat.pow_add, Nat.mul_mod]
        exact z1
      · rcases Nat.lt_or_ge k i with h | h
        · exact v4 k h
        · rw [show k = i by omega]; exact g1
  · have hi : i = s := by have hge : ¬ ((i : Int) < s) := hge; omega
    subst hi
    refine ⟨rfl, ?_, bV⟩
    rw [hsv]
    refine congrArg (fun z => Ending.returned (Value.bool z)) (@decide_eq_false _ (Classical.propDecidable _) fun h => ?_).symm
    rcases hMR.1 h with h | ⟨k, hk, h⟩
    · exact h1 h
    · exact v4 k hk h
end Go.Proofs.YthneejblcffdgaaGreatDoor

namespace Go.Proofs.YthneejblcffdgaaGreatDoor
open Go Go.Ev Go.RowKit
set_option maxRecDepth 20000
set_option linter.unusedVariables false
set_option linter.unusedSimpArgs false

/-! ### baileyref2: Probable -/
theorem few_all {f : Nat → Bool} (h : ∀ k, k < 12 → f (few12.getD k 0) = true) : few12.all f = true := by
  rw [List.all_eq_true]
  intro p hp
  obtain ⟨k, hk, rfl⟩ := List.getElem_of_mem hp
  have := h k hk
  rwa [List.getD_eq_getElem?_getD, List.getElem?_eq_getElem hk] at this
theorem few_none {f : Nat → Bool} {k : Nat} (hk : k < 12) (h : f (few12.getD k 0) = false) : few12.all f = false := by
  refine Bool.eq_false_iff.2 fun ha => ?_
  rw [List.all_eq_true] at ha
  have := ha (few12.getD k 0) (by rw [List.getD_eq_getElem?_getD, List.getElem?_eq_getElem (show k < few12.length from hk)]; exact List.getElem_mem _)
  rw [h] at this; cases this
theorem few_pos : ∀ i, i < 12 → 0 < few12.getD i 0 := by decide
theorem few_len {i : Nat} (hi : i < 12) : (digs (few12.getD i 0)).length ≤ 2 := digs_len_le (Nat.lt_of_lt_of_le (few_lt i hi) (by decide))
set_option maxHeartbeats 2000000 in
theorem rprob_spec {a : Option Addr} {l c n : Nat} {w : World} (ha : DigN w a l c n) (hl : l ≤ 250) :
    Calls Tryz.prog 27 #[.slice a l c] w fun e w' => e = .returned (.bool (probR n)) ∧ Below w.heap.size w w' := by
  refine calls_of_ev tysOk extsOk Tryz.func27 rfl rfl rfl ?_
  refine CallP.intro (rfew_spec w) ?_
  rintro e w1 ⟨fb, rfl, f1, f2, f3⟩
  refine ⟨_, rfl, ?_⟩
  have a1 := ha.below f3
  refine LoopP.go (S := Nat) 4294966900 (by kernel_rfl) (fun i => [(4, .int .i64 (i : Nat))]) (fun i W => i ≤ 12 ∧ Below w1.heap.size w1 W ∧ ∀ k, k < i → ¬ (n % few12.getD k 0 = 0 ∧ n ≠ few12.getD k 0)) (fun i => 12 - i) 0 ⟨rfl, trivial⟩ ⟨Nat.zero_le _, Below.refl _ _, fun k hk => absurd hk (Nat.not_lt_zero _)⟩ ?_
  rintro i j W ⟨i1, i2, i3⟩
  have bW := f3.trans (i2.mono f3.size)
  have aW := a1.below i2
  refine IfP.dec (fun hlt => ?_) (fun hge => ?_)
  · have hi : i < 12 := by have hlt : (i : Int) < ((12 : Nat) : Int) := hlt; omega
    refine IdxP.ldN i rfl (f1.below i2) rfl hi fun _ _ _ => ?_
    refine CallP.intro (rof_spec (few12.getD i 0) (few_lt i hi) W) ?_
    rintro e W1 ⟨pa, rfl, p1, _, p2⟩
    refine ⟨_, rfl, ?_⟩
    have b1 := bW.trans (p2.mono bW.size)
    have hpp := few_pos i hi
    refine CallP.intro (rmod_spec (aW.below p2) p1 hpp (by omega)) ?_
    rintro e W2 ⟨ra, rl, rc, rfl, r1, r2⟩
    refine ⟨_, rfl, ?_⟩
    have b2 := b1.trans (r2.mono b1.size)
    have j2 := (i2.trans (p2.mono i2.size)).trans (r2.mono (i2.trans (p2.mono i2.size)).size)
    have e14 := next_i64 hi (by decide)
    refine IfP.beq (fun h0 => ?_) (fun h0 => ?_)
    · have h0 : n % few12.getD i 0 = 0 := by
        have := r1.2.1
        refine digs_len0 ?_
        omega
      (repeat (first | refine IfP.yes ?_ | refine IfP.no ?_ | refine NilP.go ?_))
      refine CallP.intro (rcmp_spec ((aW.below p2).below r2) (p1.below r2)) ?_
      rintro e W3 ⟨rfl, k3⟩
      refine ⟨_, rfl, ?_⟩
      have b3 := b2.trans (k3.mono b2.size)
      (repeat (first | refine IfP.yes ?_ | refine IfP.no ?_ | refine NilP.go ?_))
      refine IfP.bne (fun hne => ?_) (fun heq => ?_)
      · have hne : n ≠ few12.getD i 0 := fun h => hne (cmpV_eq h)
        refine ⟨rfl, congrArg (fun z => Ending.returned (.bool z)) ?_, b3⟩
        unfold probR
        rw [few_none (f := fun p => !(decide (n % p = 0) && !decide (n = p))) hi (by simp only [decide_eq_true h0, decide_eq_false hne]; rfl), Bool.false_and]
      · have heq : n = few12.getD i 0 := by
          have : (cmpV n (few12.getD i 0) == 0) = true := by rw [heq]; rfl
          rw [cmpV_zero] at this
          exact of_decide_eq_true this
        refine ⟨rfl, i + 1, ⟨⟨congrArg (Value.int .i64) e14, trivial⟩, hi, j2.trans (k3.mono j2.size), fun k hk => ?_⟩, by show 12 - (i + 1) < 12 - i; omega⟩
        rcases Nat.lt_or_ge k i with h | h
        · exact i3 k h
        · rw [show k = i by omega]; exact fun h => h.2 heq
    · have h0 : ¬ n % few12.getD i 0 = 0 := fun h => h0 (by rw [h] at r1; have := r1.2.1; rw [this]; rfl)
      (repeat (first | refine IfP.yes ?_ | refine IfP.no ?_ | refine NilP.go ?_))
      refine ⟨rfl, i + 1, ⟨⟨congrArg (Value.int .i64) e14, trivial⟩, hi, j2, fun k hk => ?_⟩, by show 12 - (i + 1) < 12 - i; omega⟩
      rcases Nat.lt_or_ge k i with h | h
      · exact i3 k h
      · rw [show k = i by omega]; exact fun h => h0 h.1
  · have hi : i = 12 := by have hge : ¬ ((i : Int) < ((12 : Nat) : Int)) := hge; omega
    subst hi
    have hall : few12.all (fun p => !(decide (n % p = 0) && !decide (n = p))) = true := few_all fun k hk => by
      have := i3 k hk
      by_cases h1 : n % few12.getD k 0 = 0
      · by_cases h2 : n = few12.getD k 0
        · show (!(decide (n % few12.getD k 0 = 0) && !decide (n = few12.getD k 0))) = true
          rw [decide_eq_true h2]; simp
        · exact absurd ⟨h1, h2⟩ this
      · show (!(decide (n % few12.getD k 0 = 0) && !decide (n = few12.getD k 0))) = true
        rw [decide_eq_false h1]; rfl
    have hR : probR n = (decide (n = 2) || (decide (n % 2 = 1) && decide (2 < n) && decide (blen n ≤ 4096) && few12.all (strongV n))) := by
      unfold probR; rw [hall, Bool.true_and]
    refine CallP.intro (rof_spec 2 (by decide) W) ?_
    rintro e W1 ⟨ta, rfl, t1, _, t2⟩
    refine ⟨_, rfl, ?_⟩
    have b1 := bW.trans (t2.mono bW.size)
    refine CallP.intro (rcmp_spec (aW.below t2) t1) ?_
    rintro e W2 ⟨rfl, k2⟩
    refine ⟨_, rfl, ?_⟩
    have b2 := b1.trans (k2.mono b1.size)
    have a2 := (aW.below t2).below k2
    have j2' := i2.trans (t2.mono i2.size)
    have j2 := j2'.trans (k2.mono j2'.size)
    refine IfP.beq (fun h2 => ?_) (fun h2 => ?_)
    · have h2 : n = 2 := by
        have : (cmpV n 2 == 0) = true := by rw [h2]; rfl
        rw [cmpV_zero] at this
        exact of_decide_eq_true this
      refine ⟨rfl, ?_, b2⟩
      rw [hR, decide_eq_true h2]; rfl
    have h2 : n ≠ 2 := fun h => h2 (cmpV_eq h)
    rw [decide_eq_false h2, Bool.false_or] at hR
    refine CallP.intro (rodd_spec a2) ?_
    rintro e W3 ⟨rfl, hw⟩
    have hw := hw.symm
    subst hw
    refine ⟨_, rfl, ?_⟩
    by_cases ho : n % 2 = 1
    rotate_left
    · rw [decide_eq_false ho] at hR ⊢
      (repeat (first | refine IfP.yes ?_ | refine IfP.no ?_ | refine NilP.go ?_))
      refine ⟨rfl, ?_, b2⟩
      rw [hR]; rfl
    rw [decide_eq_true ho, Bool.true_and] at hR
    rw [decide_eq_true ho]
    (repeat (first | refine IfP.yes ?_ | refine IfP.no ?_ | refine NilP.go ?_))
    refine CallP.intro (rof_spec 2 (by decide) W2) ?_
    rintro e W3 ⟨ua, rfl, u1, _, u2⟩
    refine ⟨_, rfl, ?_⟩
    (repeat (first | refine IfP.yes ?_ | refine IfP.no ?_ | refine NilP.go ?_))
    have b3 := b2.trans (u2.mono b2.size)
    refine CallP.intro (rcmp_spec (a2.below u2) u1) ?_
    rintro e W4 ⟨rfl, k4⟩
    refine ⟨_, rfl, ?_⟩
    have b4 := b3.trans (k4.mono b3.size)
    have a4 := (a2.below u2).below k4
    have j3 := j2.trans (u2.mono j2.size)
    have j4 := j3.trans (k4.mono j3.size)
    (repeat (first | refine IfP.yes ?_ | refine IfP.no ?_ | refine NilP.go ?_))
    refine IfP.ndec (fun h3 => ?_) (fun h3 => ?_)
    rotate_left
    · (repeat (first | refine IfP.yes ?_ | refine IfP.no ?_ | refine NilP.go ?_))
      refine ⟨rfl, ?_, b4⟩
      have := (cmpV_le n 2).1 h3
      rw [hR, decide_eq_false (by omega : ¬ 2 < n)]; rfl
    have h3 : 2 < n := by
      rcases Nat.lt_or_ge 2 n with h | h
      · exact h
      · exact absurd ((cmpV_le n 2).2 h) h3
    rw [decide_eq_true h3, Bool.true_and] at hR
    (repeat (first | refine IfP.yes ?_ | refine IfP.no ?_ | refine NilP.go ?_))
    refine CallP.intro (rbits_spec a4) ?_
    rintro e W5 ⟨rfl, hw⟩
    have hw := hw.symm
    subst hw
    refine ⟨_, rfl, ?_⟩
    (repeat (first | refine IfP.yes ?_ | refine IfP.no ?_ | refine NilP.go ?_))
    refine IfP.dec (fun h5 => ?_) (fun h5 => ?_)
    · have h5 : (blen n : Int) > 4096 := h5
      refine ⟨rfl, ?_, b4⟩
      rw [hR, decide_eq_false (by omega : ¬ blen n ≤ 4096)]; rfl
    have h5 : blen n ≤ 4096 := by have h5 : ¬ ((blen n : Int) > 4096) := h5; omega
    rw [decide_eq_true h5, Bool.true_and] at hR
    refine LoopP.go (S := Nat) 18445618173802709124 (by kernel_rfl) (fun i => [(7, .int .i64 (i : Nat))]) (fun i V => i ≤ 12 ∧ Below W4.heap.size W4 V ∧ ∀ k, k < i → strongV n (few12.getD k 0) = true) (fun i => 12 - i) 0 ⟨rfl, trivial⟩ ⟨Nat.zero_le _, Below.refl _ _, fun k hk => absurd hk (Nat.not_lt_zero _)⟩ ?_
    rintro i j V ⟨v1, v2, v3⟩
    have bV := b4.trans (v2.mono b4.size)
    have jV := j4.trans (v2.mono j4.size)
    refine IfP.dec (fun hlt => ?_) (fun hge => ?_)
    · have hi : i < 12 := by have hlt : (i : Int) < ((12 : Nat) : Int) := hlt; omega
      refine IdxP.ldN i rfl (f1.below jV) rfl hi fun _ _ _ => ?_
      refine CallP.intro (rof_spec (few12.getD i 0) (few_lt i hi) V) ?_
      rintro e V1 ⟨pa, rfl, p1, _, p2⟩
      refine ⟨_, rfl, ?_⟩
      have c1 := bV.trans (p2.mono bV.size)
      refine CallP.intro (rstrong_spec ((a4.below v2).below p2) p1 hl (Nat.le_trans (few_len hi) (by decide))) ?_
      rintro e V2 ⟨rfl, p3⟩
      refine ⟨_, rfl, ?_⟩
      have c2 := c1.trans (p3.mono c1.size)
      have v2' := v2.trans (p2.mono v2.size)
      have e55 := next_i64 hi (by decide)
      cases hsv : strongV n (few12.getD i 0) with
      | false =>
        (repeat (first | refine IfP.yes ?_ | refine IfP.no ?_ | refine NilP.go ?_))
        refine ⟨rfl, ?_, c2⟩
        rw [hR, few_none hi hsv]; rfl
      | true =>
        (repeat (first | refine IfP.yes ?_ | refine IfP.no ?_ | refine NilP.go ?_))
        refine ⟨rfl, i + 1, ⟨⟨congrArg (Value.int .i64) e55, trivial⟩, hi, v2'.trans (p3.mono v2'.size), fun k hk => ?_⟩, by show 12 - (i + 1) < 12 - i; omega⟩
        rcases Nat.lt_or_ge k i with h | h
        · exact v3 k h
        · rw [show k = i by omega]; exact hsv
    · have hi : i = 12 := by have hge : ¬ ((i : Int) < ((12 : Nat) : Int)) := hge; omega
      subst hi
      refine ⟨rfl, ?_, bV⟩
      rw [hR, few_all v3]; rfl
end Go.Proofs.YthneejblcffdgaaGreatDoor

namespace Go.Proofs.YthneejblcffdgaaGreatDoor
open Go Go.Ev Go.RowKit
set_option maxRecDepth 20000
set_option linter.unusedVariables false
set_option linter.unusedSimpArgs false

/-! ### baileyref7: From, Valid -/
def DigL (w : World) (s : Sl) (n : Nat) : Prop := DigN w s.1 s.2.1 s.2.2 n ∧ s.2.1 ≤ 100
theorem DigL.below {w w' : World} {s : Sl} {n : Nat} (h : DigL w s n) (hb : Below w.heap.size w w') : DigL w' s n := ⟨h.1.below hb, h.2⟩
structure KeyD (w : World) (s1 s2 s3 s4 s5 : Sl) (N E D P Q : Nat) : Prop where
  n : DigL w s1 N
  e : DigL w s2 E
  d : DigL w s3 D
  p : DigL w s4 P
  q : DigL w s5 Q
theorem KeyD.below {w w' : World} {s1 s2 s3 s4 s5 : Sl} {N E D P Q : Nat} (h : KeyD w s1 s2 s3 s4 s5 N E D P Q) (hb : Below w.heap.size w w') : KeyD w' s1 s2 s3 s4 s5 N E D P Q :=
  ⟨h.1.below hb, h.2.below hb, h.3.below hb, h.4.below hb, h.5.below hb⟩
theorem rfromL {s : Sl} {n : Nat} {w : World} (h : NumL w s n) : Calls Tryz.prog 31 #[sl s] w fun e w' => ∃ t : Sl, e = .returned (sl t) ∧ DigL w' t n ∧ (∀ p, t.1 = some p → w.heap.size ≤ p.block) ∧ Below w.heap.size w w' := by
  refine (rfrom_spec h.1 (by have := h.2; omega)).mono ?_
  rintro e w' ⟨a', rfl, g1, g2, g3⟩
  refine ⟨(a', _, _), rfl, ⟨g1, ?_⟩, g2, g3⟩
  refine digs_len_le ?_
  have h1 := h.1.lt
  rw [← B32_sq] at h1
  exact Nat.lt_of_lt_of_le h1 (Nat.pow_le_pow_right (by decide) (by have := h.2; show 2 * s.2.1 ≤ 100; omega))
set_option maxHeartbeats 2000000 in
theorem rkey_spec {s1 s2 s3 s4 s5 : Sl} {N E D P Q : Nat} {w : World} (hk : KeyL w s1 s2 s3 s4 s5 N E D P Q) :
    Calls Tryz.prog 8 #[.agg #[sl s1, sl s2, sl s3, sl s4, sl s5]] w fun e w' => ∃ t1 t2 t3 t4 t5 : Sl, e = .returned (.agg #[sl t1, sl t2, sl t3, sl t4, sl t5]) ∧ KeyD w' t1 t2 t3 t4 t5 N E D P Q ∧ Below w.heap.size w w' := by
  refine calls_of_ev tysOk extsOk Tryz.func8 rfl rfl rfl ?_
  have hx0 : Blk (w.alloc (.cells (#[sl s1, sl s2, sl s3, sl s4, sl s5] : Array Value) 25)) w.heap.size [sl s1, sl s2, sl s3, sl s4, sl s5] 25 := Blk.newA _ _ _
  have hA0 : Below w.heap.size w (w.alloc (.cells (#[sl s1, sl s2, sl s3, sl s4, sl s5] : Array Value) 25)) := (Below.refl _ _).alloc (Nat.le_refl _) _
  have hs0 : (w.alloc (.cells (#[sl s1, sl s2, sl s3, sl s4, sl s5] : Array Value) 25)).heap.size = w.heap.size + 1 := size_alloc _ _
  generalize hw0 : w.alloc (.cells (#[sl s1, sl s2, sl s3, sl s4, sl s5] : Array Value) 25) = w0 at hx0 hA0 hs0
  have hz : Blk (w0.alloc (.cells inf32.zero.cells 32)) w0.heap.size [.slice none 0 0, .slice none 0 0, .slice none 0 0, .slice none 0 0, .slice none 0 0] 32 := Blk.newA _ _ _
  have hA1 : Below w0.heap.size w0 (w0.alloc (.cells inf32.zero.cells 32)) := (Below.refl _ _).alloc (Nat.le_refl _) _
  have hx1 := hx0.belowS hA1
  have hB1 := hA0.trans (hA1.mono hA0.size)
  have k1 := hk.below hB1
  subst hw0
  refine DrawP.tree tysOk extsOk mixed [16] (.take 0 (.take 3 (.take 6 (.take 9 (.take 12 (.held 1 (.held 4 (.held 7 (.held 10 (.held 13 (.alt 2 (.alt 5 (.alt 8 (.alt 11 (.alt 14 (.held 15 (.fin 16 .done .nil)) .nil) .nil) .nil) .nil) .nil))))))))))) 524280 (by kernel_rfl) (by kernel_rfl)
    (X := Sl × Sl × Sl × Sl × Sl) (fun W' => Blk W' w.heap.size [sl s1, sl s2, sl s3, sl s4, sl s5] 25) (fun _ => [])
    (fun t W' => Below w.heap.size w W' ∧ Blk W' (w.alloc (.cells (#[sl s1, sl s2, sl s3, sl s4, sl s5] : Array Value) 25)).heap.size [sl t.1, sl t.2.1, sl t.2.2.1, sl t.2.2.2.1, sl t.2.2.2.2] 32 ∧ KeyD W' t.1 t.2.1 t.2.2.1 t.2.2.2.1 t.2.2.2.2 N E D P Q) ?_ ?_
  · intro w0 c0 b0 s0
    have q0 := hx1.belowS b0
    have z0 := hz.belowS b0
    have c1 := hB1.trans (b0.mono hB1.size)
    have j0 := k1.below b0
    refine ⟨q0, ?_⟩
    refine HeldP.go (fun w' hS => LdSl.go (hS.cell 0) rfl) ?_
    refine HeldP.go (fun w' hS => LdSl.go (hS.cell 1) rfl) ?_
    refine HeldP.go (fun w' hS => LdSl.go (hS.cell 2) rfl) ?_
    refine HeldP.go (fun w' hS => LdSl.go (hS.cell 3) rfl) ?_
    refine HeldP.go (fun w' hS => LdSl.go (hS.cell 4) rfl) ?_
    refine ⟨?_, trivial⟩
    refine CallP.intro (rfromL j0.n) ?_
    rintro e v1 ⟨t1, rfl, g1, f1, h1⟩
    have d1 := c1.trans (h1.mono c1.size)
    refine ⟨_, rfl, q0.belowS h1, ?_⟩
    refine ⟨?_, trivial⟩
    refine CallP.intro (rfromL (j0.below h1).e) ?_
    rintro e v2 ⟨t2, rfl, g2, f2, h2⟩
    have d2 := d1.trans (h2.mono d1.size)
    refine ⟨_, rfl, (q0.belowS h1).belowS h2, ?_⟩
    refine ⟨?_, trivial⟩
    refine CallP.intro (rfromL ((j0.below h1).below h2).d) ?_
    rintro e v3 ⟨t3, rfl, g3, f3, h3⟩
    have d3 := d2.trans (h3.mono d2.size)
    refine ⟨_, rfl, ((q0.belowS h1).belowS h2).belowS h3, ?_⟩
    refine ⟨?_, trivial⟩
    refine CallP.intro (rfromL (((j0.below h1).below h2).below h3).p) ?_
    rintro e v4 ⟨t4, rfl, g4, f4, h4⟩
    have d4 := d3.trans (h4.mono d3.size)
    refine ⟨_, rfl, (((q0.belowS h1).belowS h2).belowS h3).belowS h4, ?_⟩
    refine ⟨?_, trivial⟩
    refine CallP.intro (rfromL ((((j0.below h1).below h2).below h3).below h4).q) ?_
    rintro e v5 ⟨t5, rfl, g5, f5, h5⟩
    have d5 := d4.trans (h5.mono d4.size)
    refine ⟨_, rfl, ((((q0.belowS h1).belowS h2).belowS h3).belowS h4).belowS h5, ?_⟩
    refine HeldP.go (fun w' hS => rfl) ?_
    refine ⟨?_, trivial⟩
    have z5 := ((((z0.belowS h1).belowS h2).belowS h3).belowS h4).belowS h5
    have K5 : KeyD v5 t1 t2 t3 t4 t5 N E D P Q := ⟨(((g1.below h2).below h3).below h4).below h5, ((g2.below h3).below h4).below h5, (g3.below h4).below h5, g4.below h5, g5⟩
    refine ChkP.go rfl ?_
    refine StsP.to (vs := [sl t1, sl t2, sl t3, sl t4, sl t5]) z5 ?_ rfl fun v6 x1 x2 x3 => ?_
    · intro v hv
      simp only [List.mem_cons, List.not_mem_nil, or_false] at hv
      rcases hv with rfl | rfl | rfl | rfl | rfl <;> rfl
    have lz := z0.lt
    have l1 := h1.size
    have l2 := h2.size
    have l3 := h3.size
    have l4 := h4.size
    have l5 := h5.size
    have d6 : Below w.heap.size w v6 := Chg.below ((Chg.of_below (s := fun _ => False) d5).thenC x2 d5.size (fun q hq e => by have e : q = (w.alloc (.cells (#[sl s1, sl s2, sl s3, sl s4, sl s5] : Array Value) 25)).heap.size := e; omega))
    have off : ∀ {t : Sl} {n : Nat}, DigL v5 t n → (∀ p, t.1 = some p → w0.heap.size ≤ p.block) → DigL v6 t n := fun {t n} hd hf => ⟨⟨hd.1.1.chg x2 (fun p hp e => by have e : p.block = (w.alloc (.cells (#[sl s1, sl s2, sl s3, sl s4, sl s5] : Array Value) 25)).heap.size := e; have := hf p hp; omega), hd.1.2⟩, hd.2⟩
    exact ⟨(t1, t2, t3, t4, t5), trivial, d6, x1, off K5.n f1, off K5.e (fun p hp => by have := f2 p hp; omega), off K5.d (fun p hp => by have := f3 p hp; omega), off K5.p (fun p hp => by have := f4 p hp; omega), off K5.q (fun p hp => by have := f5 p hp; omega)⟩
  · rintro ⟨t1, t2, t3, t4, t5⟩ j W ⟨g1, g2, g3⟩
    have g2 : Blk W (w.alloc (.cells (#[sl s1, sl s2, sl s3, sl s4, sl s5] : Array Value) 25)).heap.size [sl t1, sl t2, sl t3, sl t4, sl t5] 32 := g2
    refine ⟨rfl, ?_⟩
    refine LdAgg.go (o := 0) (n := 5) g2 (by show 0 + 5 ≤ 5; decide) ?_
    exact ⟨t1, t2, t3, t4, t5, rfl, g3, g1⟩
end Go.Proofs.YthneejblcffdgaaGreatDoor
