/- Texts of this proof, one behind the other: Nm22 Nm23 Nm24 Nm25 Nm26. -/
import Derived.Test.YthneejblcffdgaaGreatDoorPart19
namespace Go.Proofs.YthneejblcffdgaaGreatDoor
open Go Go.Ev Go.RowKit
set_option maxRecDepth 20000
set_option linter.unusedVariables false
set_option linter.unusedSimpArgs false

/-! ### the test of Miller and Rabin: plain -/
/-- w passes the test for n - 1 = 2^s d. -/
def MRat (n w s d : Nat) : Prop := w ^ d % n = 1 ∨ ∃ i, i < s ∧ w ^ (d * 2 ^ i) % n = n - 1
def MR (n w : Nat) : Prop := ∃ s d, n - 1 = 2 ^ s * d ∧ d % 2 = 1 ∧ MRat n w s d
theorem two_odd_le : ∀ {s t d e : Nat}, 2 ^ s * d = 2 ^ t * e → e % 2 = 1 → s ≤ t
  | 0, _, _, _, _, _ => Nat.zero_le _
  | s + 1, 0, d, e, h, he => by
    rw [Nat.pow_succ, Nat.pow_zero, Nat.one_mul] at h
    have : e % 2 = 0 := by rw [← h, Nat.mul_assoc, Nat.mul_comm (2 ^ s), Nat.mul_assoc]; exact Nat.mul_mod_right _ _
    omega
  | s + 1, t + 1, d, e, h, he => by
    have : 2 ^ s * d = 2 ^ t * e := by
      rw [Nat.pow_succ, Nat.pow_succ, Nat.mul_comm (2 ^ s), Nat.mul_comm (2 ^ t), Nat.mul_assoc, Nat.mul_assoc] at h
      omega
    exact Nat.succ_le_succ (two_odd_le this he)
theorem MR.at {n w s d : Nat} (h : n - 1 = 2 ^ s * d) (hd : d % 2 = 1) : MR n w ↔ MRat n w s d := by
  constructor
  · rintro ⟨s', d', h', hd', hm⟩
    have e := h.symm.trans h'
    have e1 := Nat.le_antisymm (two_odd_le e hd') (two_odd_le e.symm hd)
    subst e1
    have e2 : d = d' := Nat.eq_of_mul_eq_mul_left (Nat.pow_pos (by decide)) e
    subst e2
    exact hm
  · exact fun hm => ⟨s, d, h, hd, hm⟩
open Classical in
noncomputable def strongV (n w : Nat) : Bool := if n % 2 = 0 ∨ n < 2 then decide (n = 2) else if 4096 < blen n then false else if w % n = 0 then true else decide (MR n (w % n))
def few12 : List Nat := [2, 3, 5, 7, 11, 13, 17, 19, 23, 29, 31, 37]
noncomputable def probV (n : Nat) : Bool := if n % 2 = 0 ∨ n < 2 then decide (n = 2) else if 4096 < blen n then false else few12.all (strongV n)
/-- as the document tells it: first the small primes. -/
noncomputable def probR (n : Nat) : Bool := few12.all (fun p => !(decide (n % p = 0) && !decide (n = p))) && (decide (n = 2) || (decide (n % 2 = 1) && decide (2 < n) && decide (blen n ≤ 4096) && few12.all (strongV n)))
theorem strong_div {n p : Nat} (hp : 1 < p) (h0 : n % p = 0) (hn : n ≠ p) (h2 : n % 2 = 1) (h3 : 2 < n) (hb : blen n ≤ 4096) : strongV n p = false := by
  unfold strongV
  have hd : p ∣ n := Nat.dvd_of_mod_eq_zero h0
  have hle := Nat.le_of_dvd (by omega) hd
  have hm : p % n = p := Nat.mod_eq_of_lt (by omega)
  rw [if_neg (by omega), if_neg (by omega), hm, if_neg (by omega)]
  refine @decide_eq_false _ (Classical.propDecidable _) ?_
  rintro ⟨s, d, h1, hd1, hmr⟩
  have key : ∀ e, 0 < e → p ∣ p ^ e % n := fun e he => (Nat.dvd_mod_iff hd).2 (Nat.dvd_trans (Nat.dvd_refl p) (by
    obtain ⟨e', rfl⟩ : ∃ e', e = e' + 1 := ⟨e - 1, by omega⟩
    rw [Nat.pow_succ]; exact Nat.dvd_mul_left _ _))
  have no1 : ¬ p ∣ 1 := fun h => by have := Nat.le_of_dvd (by decide) h; omega
  rcases hmr with h | ⟨i, hi, h⟩
  · have := key d (by omega)
    rw [h] at this
    exact no1 this
  · have := key (d * 2 ^ i) (Nat.mul_pos (by omega) (Nat.pow_pos (by decide)))
    rw [h] at this
    have h4 := Nat.dvd_sub hd this
    rw [show n - (n - 1) = 1 by omega] at h4
    exact no1 h4
theorem prob_eq (n : Nat) : probR n = probV n := by
  unfold probR probV
  by_cases h2 : n % 2 = 0 ∨ n < 2
  · rw [if_pos h2]
    by_cases e : n = 2
    · subst e; simp [few12]
    · rw [decide_eq_false e, Bool.false_or]
      rcases h2 with h | h
      · have : few12.all (fun p => !(decide (n % p = 0) && !decide (n = p))) = false := by simp [few12, h, e]
        rw [this, Bool.false_and]
      · rw [decide_eq_false (by omega : ¬ 2 < n)]; simp
  · rw [if_neg h2]
    have h3 : 2 < n ∧ n % 2 = 1 := by omega
    rw [decide_eq_false (by omega : ¬ n = 2), decide_eq_true h3.2, decide_eq_true h3.1]
    by_cases hb : 4096 < blen n
    · rw [if_pos hb, decide_eq_false (by omega : ¬ blen n ≤ 4096)]; simp
    · rw [if_neg hb, decide_eq_true (by omega : blen n ≤ 4096)]
      cases hall : few12.all (strongV n) with
      | false => simp
      | true =>
        have hf : few12.all (fun p => !(decide (n % p = 0) && !decide (n = p))) = true := by
          rw [List.all_eq_true] at hall ⊢
          intro p hp
          have hp1 : 1 < p := by revert p; decide
          have hs := hall p hp
          by_cases h0 : n % p = 0
          · by_cases e : n = p
            · simp [e]
            · rw [strong_div hp1 h0 e h3.2 h3.1 (by omega)] at hs; cases hs
          · simp [h0]
        rw [hf]; simp
end Go.Proofs.YthneejblcffdgaaGreatDoor

namespace Go.Proofs.YthneejblcffdgaaGreatDoor
open Go Go.Ev Go.RowKit
set_option maxRecDepth 20000
set_option linter.unusedVariables false
set_option linter.unusedSimpArgs false

/-! ### modarith: Strong -/
theorem candV_yes {n : Nat} (h : (candV n).1 = true) : ¬ (n % 2 = 0 ∨ n < 2) ∧ blen n ≤ 4096 := by
  unfold candV at h
  by_cases h2 : n % 2 = 0 ∨ n < 2
  · rw [if_pos h2] at h; cases h
  · rw [if_neg h2] at h; exact ⟨h2, of_decide_eq_true h⟩
theorem strongV_no {n w : Nat} (h : (candV n).1 = false) : strongV n w = (candV n).2 := by
  unfold candV at h ⊢
  unfold strongV
  by_cases h2 : n % 2 = 0 ∨ n < 2
  · rw [if_pos h2, if_pos h2]
  · rw [if_neg h2] at h ⊢
    have := of_decide_eq_false h
    rw [if_neg h2, if_pos (by omega)]
theorem strongV_yes {n w : Nat} (h : (candV n).1 = true) : strongV n w = if w % n = 0 then true else @decide (MR n (w % n)) (Classical.propDecidable _) := by
  obtain ⟨h1, h2⟩ := candV_yes h
  unfold strongV
  rw [if_neg h1, if_neg (by omega)]
set_option maxHeartbeats 2000000 in
theorem strong_spec {a wa : Option Addr} {l c l2 c2 n v : Nat} {w : World} (ha : NumS w a l c n) (hv : NumS w wa l2 c2 v) (hl : l ≤ 100) (hl2 : l2 ≤ 200) :
    Calls Tryz.prog 45 #[.slice a l c, .slice wa l2 c2] w fun e w' => e = .returned (.bool (strongV n v)) ∧ Below w.heap.size w w' := by
  refine calls_of_ev tysOk extsOk Tryz.func45 rfl rfl rfl ?_
  refine CallP.intro (cand_spec ha) ?_
  rintro e w1 ⟨rfl, b1⟩
  refine ⟨_, rfl, ?_⟩
  cases hc : (candV n).1 with
  | false =>
    (repeat (first | refine IfP.yes ?_ | refine IfP.no ?_ | refine NilP.go ?_))
    rw [← strongV_no hc]
    exact ⟨rfl, rfl, b1⟩
  | true =>
  obtain ⟨hn1, hn2⟩ := candV_yes hc
  have hp : 1 < n := by omega
  have ho : n % 2 = 1 := by omega
  have hsv := strongV_yes (w := v) hc
  (repeat (first | refine IfP.yes ?_ | refine IfP.no ?_ | refine NilP.go ?_))
  refine CallP.intro (rest_spec (hv.below b1) (ha.below b1) hl2) ?_
  rintro e w2 ⟨ra, rl, rc, rfl, g1, g2, g3⟩
  rw [remV_pos (by omega)] at g1
  refine ⟨_, rfl, ?_⟩
  have b2 := b1.trans (g3.mono b1.size)
  refine IfP.beq (fun h0 => ?_) (fun h0 => ?_)
  · have : v % n = 0 := by
      have := g1.2.1
      refine limbs_len0 ?_
      omega
    rw [if_pos this] at hsv
    rw [hsv]
    exact ⟨rfl, rfl, b2⟩
  have hr0 : v % n ≠ 0 := fun h => h0 (by rw [h] at g1; have := g1.2.1; rw [limbs_zero] at this; rw [this]; rfl)
  rw [if_neg hr0] at hsv
  refine CallP.intro (ofV_spec 1 (by decide) w2) ?_
  rintro e w3 ⟨oa, ol, oc, oo, rfl, h1, h2, h3⟩
  refine ⟨_, rfl, ?_⟩
  have b3 := b2.trans (h3.mono b2.size)
  refine CallP.intro (sub_spec (ha.below b3) h1.n.s) ?_
  rintro e w4 ⟨la, ll, lc, rfl, k1, k2, k3⟩
  refine ⟨_, rfl, ?_⟩
  have b4 := b3.trans (k3.mono b3.size)
  have g4 := ((g1.below h3).below k3)
  have hlt : n - 1 < B64 ^ l := by have := ha.lt; omega
  refine LoopP.go (S := Nat) 1082331759104 (by kernel_rfl) (fun s => [(9, .int .i64 (s : Nat))]) (fun s W => W = w4 ∧ (n - 1) % 2 ^ s = 0) (fun s => (n - 1) / 2 ^ s) 0 ⟨rfl, trivial⟩ ⟨rfl, Nat.mod_one _⟩ ?_
  rintro s j W ⟨hw, i1⟩
  have hw := hw.symm
  subst hw
  have hdv : n - 1 = 2 ^ s * ((n - 1) / 2 ^ s) := by have := Nat.div_add_mod (n - 1) (2 ^ s); omega
  have hd0 : 0 < (n - 1) / 2 ^ s := by
    rcases Nat.eq_zero_or_pos ((n - 1) / 2 ^ s) with h | h
    · rw [h] at hdv; omega
    · exact h
  have hs : s < 6400 := by
    have h1 : 2 ^ s ≤ n - 1 := by
      have := Nat.le_mul_of_pos_right (2 ^ s) hd0
      omega
    have h2 : n - 1 < 2 ^ (64 * l) := by rw [← B64_two]; exact hlt
    have := (Nat.pow_lt_pow_iff_right (by decide : 1 < 2)).1 (Nat.lt_of_le_of_lt h1 h2)
    omega
  refine CallP.intro (bit_spec (i := s) k1.s (by omega)) ?_
  rintro e W ⟨rfl, hw⟩
  have hw := hw.symm
  subst hw
  refine ⟨_, rfl, ?_⟩
  refine IfP.beq (fun hb => ?_) (fun hb => ?_)
  · have hb : (n - 1) / 2 ^ s % 2 = 0 := Int.ofNat_inj.1 hb
    have e39 := next_i64 (show s < 6400 by omega) (by decide)
    have e2 : (n - 1) / 2 ^ (s + 1) = (n - 1) / 2 ^ s / 2 := by rw [Nat.pow_succ, Nat.div_div_eq_div_mul]
    refine ⟨rfl, s + 1, ⟨⟨congrArg (Value.int .i64) e39, trivial⟩, rfl, ?_⟩, by show (n - 1) / 2 ^ (s + 1) < _; rw [e2]; exact Nat.div_lt_self hd0 (by decide)⟩
    generalize (n - 1) / 2 ^ s = q at *
    rw [hdv, Nat.pow_succ, show q = 2 * (q / 2) by omega, ← Nat.mul_assoc]
    exact Nat.mul_mod_right _ _
  have hb : (n - 1) / 2 ^ s % 2 = 1 := by
    have : ¬ ((n - 1) / 2 ^ s % 2 = 0) := fun h => hb (by rw [h]; rfl)
    omega
  have hMR := MR.at (w := v % n) hdv hb
  generalize hD : (n - 1) / 2 ^ s = d at hdv hd0 hb hMR
  refine CallP.intro (newM_spec (ha.below b4) hl hp ho) ?_
  rintro e w5 ⟨db, nl, inv, ma, mc, oa', oc', ra', rc', One, RR, rfl, f1, f2, f3, f4⟩
  refine ⟨_, rfl, ?_⟩
  have b5 := b4.trans (f4.mono b4.size)
  have g5 := g4.below f4
  have k5 := k1.below f4
  refine CallP.intro (to_spec f2 g5.s (by rw [g5.2.1, ← f2.len]; exact limbs_mono (Nat.le_of_lt (Nat.mod_lt _ (by omega))))) ?_
  rintro e w6 ⟨yb, rfl, p1, p2, p3⟩
  refine ⟨_, rfl, ?_⟩
  have b6 := b5.trans (p3.mono b5.size)
  have k6 := k5.below p3
  have f6 := f2.below p3
  refine CallP.intro (shr_spec (k := s) k6.s (by omega)) ?_
  rintro e w7 ⟨sa, sl, sc, rfl, q1, q2, q3⟩
  rw [hD] at q1
  refine ⟨_, rfl, ?_⟩
  have b7 := b6.trans (q3.mono b6.size)
  have k7 := k6.below q3
  have f7 := f6.below q3
  refine CallP.intro (expM_spec f7 (p2.below q3) q1.s) ?_
  rintro e w8 ⟨a8, c8, rfl, r1, r2, r3⟩
  refine ⟨_, rfl, ?_⟩
  have b8 := b7.trans (r3.mono b7.size)
  have k8 := k7.below r3
  have f8 := f7.below r3
  refine LoopP.go (S := Nat × Option Addr × Nat) 37778929611157348038672 (by kernel_rfl) (fun s => [(51, .int .i64 (s.1 : Nat)), (11, .slice s.2.1 nl s.2.2)])
    (fun t W => t.1 ≤ s ∧ Below w8.heap.size w8 W ∧ Form W t.2.1 nl n ((v % n) ^ (d * 2 ^ t.1)) ∧ (0 < t.1 → (v % n) ^ d % n ≠ 1) ∧ ∀ k, k < t.1 → (v % n) ^ (d * 2 ^ k) % n ≠ n - 1) (fun t => s - t.1) (0, a8, c8) ⟨rfl, rfl, trivial⟩ ⟨Nat.zero_le _, Below.refl _ _, by rw [Nat.pow_zero, Nat.mul_one]; exact r2, fun h => absurd h (Nat.lt_irrefl _), fun k hk => absurd hk (Nat.not_lt_zero _)⟩ ?_
  rintro ⟨i, a9, c9⟩ j W ⟨i1', i2, i3, i4, i5⟩
  simp only at i1' i3 i4 i5
  refine IfP.dec (fun hlt => ?_) (fun hge => ?_)
  · have hi : i < s := by omega
    have f9 := f8.below i2
    have k9 := k8.below i2
    have b9 := b8.trans (i2.mono b8.size)
    refine CallP.intro (from_spec f9 i3) ?_
    rintro e w10 ⟨t', tl, tc, to', rfl, j1, j2, j3⟩
    refine ⟨_, rfl, ?_⟩
    have b10 := b9.trans (j3.mono b9.size)
    have k10 := k9.below j3
    refine CallP.intro (cmpV_spec j1.n.s k10.s) ?_
    rintro e w11 ⟨rfl, j4⟩
    refine ⟨_, rfl, ?_⟩
    have b11 := b10.trans (j4.mono b10.size)
    have hyes : MRat n (v % n) s d → ∀ b : Bool, b = true → Ending.returned (Value.bool b) = Ending.returned (Value.bool (strongV n v)) := fun h b hb => by
      rw [hsv, hb]
      exact congrArg (fun z => Ending.returned (Value.bool z)) (@decide_eq_true _ (Classical.propDecidable _) (hMR.2 h)).symm
    have hgo : (i = 0 → (v % n) ^ d % n ≠ 1) → (v % n) ^ (d * 2 ^ i) % n ≠ n - 1 → ∀ (k : Value → World → Prop), (∀ yb W', Below w8.heap.size w8 W' → Form W' (some ⟨yb, 0, none⟩) nl n ((v % n) ^ (d * 2 ^ (i + 1))) → k (.slice (some ⟨yb, 0, none⟩) nl nl) W') →
        CallP Tryz.prog 70 #[.pointer (some ⟨db, 0, none⟩), .slice a9 nl c9, .slice a9 nl c9] k w11 := by
      intro h1 h2 k hk
      have j34 := j3.trans (j4.mono j3.size)
      refine CallP.intro (mulF_spec (f9.below j34) (i3.below j34) (i3.below j34)) ?_
      rintro e w12 ⟨zb, rfl, m1, m2, m3⟩
      have j5 := j34.trans (m3.mono j34.size)
      refine ⟨_, rfl, hk zb w12 (i2.trans (j5.mono i2.size)) ?_⟩
      rw [show d * 2 ^ (i + 1) = d * 2 ^ i + d * 2 ^ i by rw [Nat.pow_succ, ← Nat.mul_assoc, Nat.mul_two], Nat.pow_add]
      exact m2
    have hgo2 : (i = 0 → (v % n) ^ d % n ≠ 1) → (v % n) ^ (d * 2 ^ i) % n ≠ n - 1 → ((0 < i + 1 → (v % n) ^ d % n ≠ 1) ∧ ∀ k, k < i + 1 → (v % n) ^ (d * 2 ^ k) % n ≠ n - 1) := by
      intro h1 h2
      refine ⟨fun _ => ?_, fun k hk => ?_⟩
      · rcases Nat.eq_zero_or_pos i with h | h
        · exact h1 h
        · exact i4 h
      · rcases Nat.lt_or_ge k i with h | h
        · exact i5 k h
        · rw [show k = i by omega]; exact h2
    have e74 := next_i64 hi (by omega)
    refine IfP.nbeq (fun h1 => ?_) (fun h1 => ?_)
    · have h1 : (v % n) ^ (d * 2 ^ i) % n ≠ n - 1 := fun h => h1 (cmpV_eq h)
      (repeat (first | refine IfP.yes ?_ | refine IfP.no ?_ | refine NilP.go ?_))
      refine IfP.beq (fun hi0 => ?_) (fun hi0 => ?_)
      · have hi0 : i = 0 := Int.ofNat_inj.1 hi0
        (repeat (first | refine IfP.yes ?_ | refine IfP.no ?_ | refine NilP.go ?_))
        refine CallP.intro (bitsV_spec (j1.n.below j4).s) ?_
        rintro e w12 ⟨rfl, hw⟩
        have hw := hw.symm
        subst hw
        refine ⟨_, rfl, ?_⟩
        (repeat (first | refine IfP.yes ?_ | refine IfP.no ?_ | refine NilP.go ?_))
        refine IfP.beq (fun hb1 => ?_) (fun hb1 => ?_)
        · have hb1 : (v % n) ^ (d * 2 ^ i) % n = 1 := (blen_one _).1 (Int.ofNat_inj.1 hb1)
          rw [hi0, Nat.pow_zero, Nat.mul_one] at hb1
          exact ⟨rfl, hyes (.inl hb1) _ rfl, b11⟩
        · have hb1 : i = 0 → (v % n) ^ d % n ≠ 1 := fun h0 h => hb1 (by rw [h0, Nat.pow_zero, Nat.mul_one, h]; rfl)
          refine hgo hb1 h1 _ fun yb W' m1 m2 => ?_
          exact ⟨rfl, (i + 1, some ⟨yb, 0, none⟩, nl), ⟨⟨congrArg (Value.int .i64) e74, rfl, trivial⟩, hi, m1, m2, hgo2 hb1 h1⟩, by show s - (i + 1) < s - i; omega⟩
      · have hi0 : i = 0 → (v % n) ^ d % n ≠ 1 := fun h => absurd (by rw [h]; rfl) hi0
        (repeat (first | refine IfP.yes ?_ | refine IfP.no ?_ | refine NilP.go ?_))
        refine hgo hi0 h1 _ fun yb W' m1 m2 => ?_
        exact ⟨rfl, (i + 1, some ⟨yb, 0, none⟩, nl), ⟨⟨congrArg (Value.int .i64) e74, rfl, trivial⟩, hi, m1, m2, hgo2 hi0 h1⟩, by show s - (i + 1) < s - i; omega⟩
    · have h1 : (v % n) ^ (d * 2 ^ i) % n = n - 1 := by
        have : (cmpV ((v % n) ^ (d * 2 ^ i) % n) (n - 1) == 0) = true := by rw [h1]; rfl
        rw [cmpV_zero] at this
        exact of_decide_eq_true this
      (repeat (first | refine IfP.yes ?_ | refine IfP.no ?_ | refine NilP.go ?_))
      exact ⟨rfl, hyes (.inr ⟨i, hi, h1⟩) _ rfl, b11⟩
  · have hi : i = s := by have hge : ¬ ((i : Int) < s) := hge; omega
    subst hi
    have hs0 : 0 < i := by
      rcases Nat.eq_zero_or_pos i with h | h
      · subst h
        rw [Nat.pow_zero, Nat.one_mul] at hdv
        omega
      · exact h
    refine ⟨rfl, ?_, b8.trans (i2.mono b8.size)⟩
    rw [hsv]
    refine congrArg (fun z => Ending.returned (Value.bool z)) (@decide_eq_false _ (Classical.propDecidable _) fun h => ?_).symm
    rcases hMR.1 h with h | ⟨k, hk, h⟩
    · exact i4 hs0 h
    · exact i5 k hk h
end Go.Proofs.YthneejblcffdgaaGreatDoor

namespace Go.Proofs.YthneejblcffdgaaGreatDoor
open Go Go.Ev Go.RowKit
set_option maxRecDepth 20000
set_option linter.unusedVariables false
set_option linter.unusedSimpArgs false

/-! ### modarith: Few, Probable -/
theorem few_spec (w : World) : Calls Tryz.prog 20 #[] w fun e w' => e = .returned (.func (.func 46) #[] #[]) ∧ w' = w := by
  refine calls_of_ev tysOk extsOk Tryz.func20 rfl rfl rfl ?_
  exact ⟨rfl, rfl, rfl⟩
theorem few_lt : ∀ i, i < 12 → few12.getD i 0 < B64 := by decide
theorem few_cell (i : Nat) (h : i < 12) : (few12.map fun x => Value.int .u64 ((x : Nat) : Int))[i]? = some (.int .u64 ((few12.getD i 0 : Nat) : Int)) := by
  rw [List.getElem?_map, List.getD_eq_getElem?_getD, List.getElem?_eq_getElem (show i < few12.length from h)]; rfl
theorem few1_spec {lp : Nat} {I : Nat → World → Prop} {J : World → Prop} {w : World} (h0 : I 0 w)
    (hy : ∀ i W a l c W', i < 12 → I i W → NumN W' a l c (few12.getD i 0) → (∀ p, a = some p → W.heap.size ≤ p.block) → Below W.heap.size W W' →
      YieldP Tryz.prog none lp #[.slice a l c] (fun v W'' => (v = .bool true ∧ I (i + 1) W'') ∨ (v = .bool false ∧ J W'')) W') :
    Calls Tryz.prog 46 #[.func (.yield lp) #[] #[]] w fun e w' => e = .returned (.tuple #[]) ∧ (J w' ∨ I 12 w') := by
  refine calls_of_ev tysOk extsOk Tryz.func46 rfl rfl rfl ?_
  refine LoopP.go (S := Nat) 16360 (by kernel_rfl) (fun i => [(5, .int .i64 (i : Nat))]) (fun i W => i ≤ 12 ∧ I i W) (fun i => 12 - i) 0 ⟨rfl, trivial⟩ ⟨Nat.zero_le _, h0⟩ ?_
  rintro i j W ⟨i1, i2⟩
  refine IfP.dec (fun hlt => ?_) (fun hge => ?_)
  · have hi : i < 12 := by omega
    refine ChkP.go ⟨by omega, hlt⟩ ?_
    refine PtI.at i (show (i : Int).toNat * 1 = i by omega) (few_cell i hi) ?_
    refine CallP.intro (ofV_spec (few12.getD i 0) (few_lt i hi) W) ?_
    rintro e W1 ⟨a, l, c, o, rfl, g1, g2, g3⟩
    refine ⟨_, rfl, ?_⟩
    refine (hy i W a l c W1 hi i2 g1.n (fun p hp => g2 _ (g1.1.at p hp)) g3).mono ?_
    rintro v W2 (⟨rfl, k1⟩ | ⟨rfl, k1⟩)
    · refine IfP.no ?_
      have e := next_i64 hi (by decide)
      exact ⟨rfl, i + 1, ⟨⟨congrArg (Value.int .i64) e, trivial⟩, hi, k1⟩, by show 12 - (i + 1) < 12 - i; omega⟩
    · refine IfP.yes ?_
      exact ⟨rfl, rfl, .inl k1⟩
  · have : i = 12 := by omega
    subst this
    exact ⟨rfl, rfl, .inr i2⟩
theorem probV_no {n : Nat} (h : (candV n).1 = false) : probV n = (candV n).2 := by
  unfold candV at h ⊢
  unfold probV
  by_cases h2 : n % 2 = 0 ∨ n < 2
  · rw [if_pos h2, if_pos h2]
  · rw [if_neg h2] at h ⊢
    have := of_decide_eq_false h
    rw [if_neg h2, if_pos (by omega)]
theorem probV_yes {n : Nat} (h : (candV n).1 = true) : probV n = few12.all (strongV n) := by
  obtain ⟨h1, h2⟩ := candV_yes h
  unfold probV
  rw [if_neg h1, if_neg (by omega)]
set_option maxHeartbeats 2000000 in
theorem prob_spec {a : Option Addr} {l c n : Nat} {w : World} (ha : NumS w a l c n) (hl : l ≤ 100) :
    Calls Tryz.prog 19 #[.slice a l c, .func (.func 46) #[] #[]] w fun e w' => e = .returned (.bool (probV n)) ∧ Below w.heap.size w w' := by
  refine calls_of_evM tysOk extsOk Tryz.func19 rfl rfl rfl ?_
  have hx0 : Blk (w.alloc (.cells (#[.slice a l c] : Array Value) 23)) w.heap.size [.slice a l c] 23 := Blk.newA _ _ _
  have hA0 : Below w.heap.size w (w.alloc (.cells (#[.slice a l c] : Array Value) 23)) := (Below.refl _ _).alloc (Nat.le_refl _) _
  have hs0 : (w.alloc (.cells (#[.slice a l c] : Array Value) 23)).heap.size = w.heap.size + 1 := size_alloc _ _
  generalize hw0 : w.alloc (.cells (#[.slice a l c] : Array Value) 23) = w0 at hx0 hA0 hs0
  subst hw0
  refine LdSl.go (hx0.cell 0) ?_
  refine CallP.intro (cand_spec (ha.below hA0)) ?_
  rintro e w1 ⟨rfl, b1⟩
  refine ⟨_, rfl, ?_⟩
  have hx1 := hx0.belowS b1
  have hB1 : Below w.heap.size w w1 := hA0.trans (b1.mono hA0.size)
  cases hc : (candV n).1 with
  | false =>
    rw [probV_no hc]
    iterate 2 refine IfP.no ?_
    iterate 3 refine IfP.yes ?_
    refine IfP.no ?_
    refine .inl ⟨rfl, rfl, hB1⟩
  | true =>
  rw [probV_yes hc]
  iterate 2 refine IfP.yes ?_
  iterate 2 refine IfP.no ?_
  have hb7 : Blk (w1.alloc (.cells (#[.bool false] : Array Value) 4)) w1.heap.size [.bool false] 4 := Blk.newA _ _ _
  have hA7 : Below w1.heap.size w1 (w1.alloc (.cells (#[.bool false] : Array Value) 4)) := (Below.refl _ _).alloc (Nat.le_refl _) _
  refine StP.to 0 hb7 rfl Nat.one_pos fun w3 v1 v2 v3 => ?_
  have v1 : Blk w3 w1.heap.size [.bool true] 4 := v1
  have y1 := hB1.size
  have hB2 := hB1.trans (hA7.mono hB1.size)
  have hB3 : Below w.heap.size w w3 := Chg.below ((Chg.of_below (s := fun _ => False) hB2).thenC v2 hB2.size (fun k hk e => absurd e (by omega)))
  have x3 : Blk w3 w.heap.size [.slice a l c] 23 := (hx1.belowS hA7).chg v2 (hx1.belowS hA7).lt (by have := hx1.lt; omega)
  refine DrawP.rangeA tysOk extsOk rfl (by kernel_rfl) rfl rfl rfl ?_
  rintro rc d w6 hd hdm hlp hb6 hs6 hy
  have hB6 := hB3.trans (hb6.mono hB3.size)
  have x6 := x3.belowS hb6
  have v6 := v1.belowS hb6
  have hvd : w1.heap.size < d := by rw [hd]; exact v1.lt
  have hxd : w.heap.size < w1.heap.size := hx1.lt
  refine (few1_spec (lp := d + 1) (w := w6)
    (I := fun i W => W.heap[d + 1]? = some (.loop (rc .ready none)) ∧ Chg w6.heap.size (fun q => q = d + 1) w6 W ∧ ∀ k, k < i → strongV n (few12.getD k 0) = true)
    (J := fun W => W.heap[d + 1]? = some (.loop (rc .done (some (.exit 0)))) ∧ Chg w6.heap.size (fun q => q = d + 1 ∨ q = w1.heap.size) w6 W ∧ Blk W w1.heap.size [.bool false] 4 ∧ ∃ k, k < 12 ∧ strongV n (few12.getD k 0) = false) ⟨hlp, Chg.refl _ _ _, fun k hk => absurd hk (Nat.not_lt_zero _)⟩ ?_).mono ?_
  · rintro i W pa pl pc W' hi ⟨i1, i2, i3⟩ hN hfr hbw
    have hld : d + 1 < W.heap.size := heap_lt i1
    have i1' : W'.heap[d + 1]? = some (.loop (rc .ready none)) := (hbw.block _ hld).trans i1
    refine hy [.slice pa pl pc] W' _ i1' rfl ?_
    refine ⟨i1', ?_⟩
    have hsz := hbw.size
    have gw := i2.size
    have i2' : Chg w6.heap.size (fun q => q = d + 1) w6 W' := i2.thenB hbw gw
    generalize hW1 : W'.putObj (d + 1) (.loop (rc .busy none)) = W1
    have hc1 : Chg W'.heap.size (fun q => q = d + 1) W' W1 := by rw [← hW1]; exact (Chg.refl _ _ _).put _ _ (fun _ => rfl)
    have hl1 : W1.heap[d + 1]? = some (.loop (rc .busy none)) := by rw [← hW1]; exact put_same (heap_lt i1')
    have i21 : Chg w6.heap.size (fun q => q = d + 1) w6 W1 := i2'.thenC hc1 i2'.size (fun _ _ h => h)
    have hBW1 : Below w.heap.size w W1 := Chg.below ((Chg.of_below (s := fun _ => False) hB6).thenC i21 hB6.size (fun q hq e => by omega))
    have x7 := x6.chg i21 x6.lt (by omega)
    have v7 := v6.chg i21 v6.lt (by omega)
    have hN1 : NumN W1 pa pl pc (few12.getD i 0) := ⟨hN.1.chg hc1 (fun p hp => by have := hfr p hp; omega), hN.2⟩
    refine LdSl.go (x7.cell 0) ?_
    refine CallP.intro (strong_spec (ha.below hBW1) hN1.s hl (by have := hN1.2.1; have := limbs_len_le (k := 1) (by rw [Nat.pow_one]; exact few_lt i hi); omega)) ?_
    rintro e W2 ⟨rfl, k1⟩
    refine ⟨_, rfl, ?_⟩
    have hl2 : W2.heap[d + 1]? = some (.loop (rc .busy none)) := (k1.block _ (heap_lt hl1)).trans hl1
    have v8 := v7.belowS k1
    have i22 := i21.thenB k1 i21.size
    cases hsv : strongV n (few12.getD i 0) with
    | true =>
      refine IfP.no ?_
      refine ⟨hl2, .inl ⟨rfl, put_same (heap_lt hl2), i22.put _ _ (fun _ => rfl), fun k hk => ?_⟩⟩
      rcases Nat.lt_or_ge k i with h | h
      · exact i3 k h
      · rw [show k = i by omega]; exact hsv
    | false =>
      refine IfP.yes ?_
      refine StP.to 0 v8 rfl Nat.one_pos fun W3 t1 t2 t3 => ?_
      have t1 : Blk W3 w1.heap.size [.bool false] 4 := t1
      have hl3 : W3.heap[d + 1]? = some (.loop (rc .busy none)) := by
        rw [t2.block _ (heap_lt hl2) (by show ¬ (d + 1 = w1.heap.size); omega)]; exact hl2
      refine ⟨hl3, .inr ⟨rfl, put_same (heap_lt hl3), ?_, t1.put _ _ (by omega), i, hi, hsv⟩⟩
      exact ((i22.mono (s' := fun q => q = d + 1 ∨ q = w1.heap.size) (Nat.le_refl _) (fun _ _ h => .inl h)).thenC t2 i22.size (fun _ _ h => .inr h)).put _ _ (fun _ => .inl rfl)
  · rintro e W ⟨rfl, (⟨g1, g2, g3, k, g4, g5⟩ | ⟨g1, g2, g3⟩)⟩
    · refine ⟨_, rfl, .inr ⟨.exit 0, rfl, rfl, g1, ?_⟩⟩
      have q1 := g3.put (d + 1) (.loop (rc .exhausted (some (.exit 0)))) (by omega)
      have c2 : Chg w6.heap.size (fun q => q = d + 1 ∨ q = w1.heap.size) w6 (W.putObj (d + 1) (.loop (rc .exhausted (some (.exit 0))))) := g2.put _ _ (fun _ => .inl rfl)
      generalize W.putObj (d + 1) (.loop (rc .exhausted (some (.exit 0)))) = V at q1 c2 ⊢
      refine LdB.go (q1.cell 0) ?_
      have hmark : V.heap[d]? = some (.deferred (some [])) := by
        rw [c2.block d (by omega) (by show ¬ (d = d + 1 ∨ d = w1.heap.size); omega)]; exact hdm
      have hal : few12.all (strongV n) = false := by
        refine Bool.eq_false_iff.2 fun h => ?_
        rw [List.all_eq_true] at h
        have := h (few12.getD k 0) (by rw [List.getD_eq_getElem?_getD, List.getElem?_eq_getElem (show k < few12.length from g4)]; exact List.getElem_mem _)
        rw [g5] at this; cases this
      rw [hal]
      have hBV : Below w.heap.size w V := Chg.below ((Chg.of_below (s := fun _ => False) hB6).thenC c2 hB6.size (fun q hq e => by omega))
      exact .inr ⟨d, rfl, hmark, rfl, Chg.below ((Chg.of_below (s := fun _ => False) hBV).put _ _ (fun h => by omega))⟩
    · refine ⟨_, rfl, .inl ⟨g1, ?_⟩⟩
      have q1 := (v6.chg g2 v6.lt (by omega)).put (d + 1) (.loop (rc .exhausted none)) (by omega)
      have c2 : Chg w6.heap.size (fun q => q = d + 1) w6 (W.putObj (d + 1) (.loop (rc .exhausted none))) := g2.put _ _ (fun _ => rfl)
      generalize W.putObj (d + 1) (.loop (rc .exhausted none)) = V at q1 c2 ⊢
      refine LdB.go (q1.cell 0) ?_
      have hmark : V.heap[d]? = some (.deferred (some [])) := by
        rw [c2.block d (by omega) (by show ¬ (d = d + 1); omega)]; exact hdm
      have hal : few12.all (strongV n) = true := by
        rw [List.all_eq_true]
        intro p hp
        obtain ⟨k, hk, rfl⟩ := List.getElem_of_mem hp
        have := g3 k hk
        rwa [List.getD_eq_getElem?_getD, List.getElem?_eq_getElem hk] at this
      rw [hal]
      have hBV : Below w.heap.size w V := Chg.below ((Chg.of_below (s := fun _ => False) hB6).thenC c2 hB6.size (fun q hq e => by omega))
      exact .inr ⟨d, rfl, hmark, rfl, Chg.below ((Chg.of_below (s := fun _ => False) hBV).put _ _ (fun h => by omega))⟩
end Go.Proofs.YthneejblcffdgaaGreatDoor

namespace Go.Proofs.YthneejblcffdgaaGreatDoor
open Go Go.Ev Go.RowKit
set_option maxRecDepth 20000
set_option linter.unusedVariables false
set_option linter.unusedSimpArgs false

/-! ### modarith: parted, Next -/
def few11 : List Nat := [3, 5, 7, 11, 13, 17, 19, 23, 29, 31, 37]
def prodV : Nat := 16294579238595022365
def partV (n : Nat) : Bool := if blen n < 7 then false else few11.any (fun p => decide (n % prodV % p = 0))
theorem few11_cell (i : Nat) (h : i < 11) : (few11.map fun x => Value.int .u64 ((x : Nat) : Int))[i]? = some (.int .u64 ((few11.getD i 0 : Nat) : Int)) := by
  rw [List.getElem?_map, List.getD_eq_getElem?_getD, List.getElem?_eq_getElem (show i < few11.length from h)]; rfl
theorem few11_pos : ∀ i, i < 11 → 0 < few11.getD i 0 := by decide
theorem parted_spec {a : Option Addr} {l c n : Nat} {w : World} (ha : NumS w a l c n) (hl : l ≤ 200) :
    Calls Tryz.prog 58 #[.slice a l c] w fun e w' => e = .returned (.bool (partV n)) ∧ Below w.heap.size w w' := by
  refine calls_of_ev tysOk extsOk Tryz.func58 rfl rfl rfl ?_
  refine CallP.intro (bitsV_spec ha) ?_
  rintro e w1 ⟨rfl, hw⟩
  have hw := hw.symm
  subst hw
  refine ⟨_, rfl, ?_⟩
  refine IfP.dec (fun h0 => ?_) (fun h0 => ?_)
  · have h0 : blen n < 7 := by have h0 : (blen n : Int) < 7 := h0; omega
    exact ⟨rfl, congrArg (fun z => Ending.returned (.bool z)) (show false = partV n by unfold partV; rw [if_pos h0]), Below.refl _ _⟩
  have h0 : ¬ blen n < 7 := fun h => h0 (show (blen n : Int) < 7 by omega)
  refine CallP.intro (ofV_spec 16294579238595022365 (by decide) w) ?_
  rintro e w2 ⟨oa, ol, oc, oo, rfl, h1, h2, h3⟩
  refine ⟨_, rfl, ?_⟩
  refine CallP.intro (rest_spec (ha.below h3) h1.n.s hl) ?_
  rintro e w3 ⟨ra, rl, rc, rfl, g1, g2, g3⟩
  rw [remV_pos (by decide)] at g1
  refine ⟨_, rfl, ?_⟩
  have b3 := h3.trans (g3.mono h3.size)
  have hlt : n % 16294579238595022365 < B64 := Nat.lt_trans (Nat.mod_lt _ (by decide)) (by decide)
  have hpv : partV n = few11.any (fun p => decide (n % prodV % p = 0)) := if_neg h0
  refine IfP.dec (fun h4 => ?_) (fun h4 => ?_)
  · refine IdxP.ldN 0 rfl g1.1 g1.2.1 (by have h4 : (rl : Int) > 0 := h4; omega) fun _ _ _ => ?_
    rw [getD_val _ (limbs_limbs _) 0, val_limbs, Nat.pow_zero, Nat.div_one, Nat.mod_eq_of_lt hlt]
    refine LoopP.go (S := Nat) 267386948 (by kernel_rfl) (fun i => [(20, .int .i64 (i : Nat))]) (fun i W => W = w3 ∧ i ≤ 11 ∧ ∀ k, k < i → ¬ n % prodV % few11.getD k 0 = 0) (fun i => 11 - i) 0 ⟨rfl, trivial⟩ ⟨rfl, Nat.zero_le _, fun k hk => absurd hk (Nat.not_lt_zero _)⟩ ?_
    rintro i j W ⟨hw, i1, i2⟩
    have hw := hw.symm
    subst hw
    refine IfP.dec (fun hlt => ?_) (fun hge => ?_)
    · have hi : i < 11 := by omega
      refine ChkP.go ⟨by omega, hlt⟩ ?_
      refine PtI.at i (show (i : Int).toNat * 1 = i by omega) (few11_cell i hi) ?_
      have hpp := few11_pos i hi
      refine ChkP.go (by omega) ?_
      refine IfP.beq (fun hz => ?_) (fun hz => ?_)
      · have hz : n % prodV % few11.getD i 0 = 0 := by rw [← Int.ofNat_tmod] at hz; exact Int.ofNat_inj.1 hz
        refine ⟨rfl, congrArg (fun z => Ending.returned (.bool z)) ?_, b3⟩
        rw [hpv]
        refine (List.any_eq_true.2 ⟨few11.getD i 0, ?_, decide_eq_true hz⟩).symm
        rw [List.getD_eq_getElem?_getD, List.getElem?_eq_getElem (show i < few11.length from hi)]; exact List.getElem_mem _
      · have hz : ¬ n % prodV % few11.getD i 0 = 0 := fun h => hz (by rw [← Int.ofNat_tmod]; exact congrArg Int.ofNat h)
        have e := next_i64 hi (by decide)
        refine ⟨rfl, i + 1, ⟨⟨congrArg (Value.int .i64) e, trivial⟩, rfl, hi, fun k hk => ?_⟩, by show 11 - (i + 1) < 11 - i; omega⟩
        rcases Nat.lt_or_ge k i with h | h
        · exact i2 k h
        · rw [show k = i by omega]; exact hz
    · have hi : i = 11 := by omega
      subst hi
      refine ⟨rfl, congrArg (fun z => Ending.returned (.bool z)) ?_, b3⟩
      rw [hpv]
      refine (List.any_eq_false.2 fun p hp => ?_).symm
      obtain ⟨k, hk, rfl⟩ := List.getElem_of_mem hp
      have := i2 k hk
      rw [List.getD_eq_getElem?_getD, List.getElem?_eq_getElem hk] at this
      rw [decide_eq_true_eq]; exact this
  · have hz : n % prodV = 0 := by
      refine limbs_len0 ?_
      have := g1.2.1
      have h4 : ¬ ((rl : Int) > 0) := h4
      show (limbs (n % 16294579238595022365)).length = 0
      omega
    refine LoopP.go (S := Unit) 267386948 (by kernel_rfl) (fun _ => [(20, .int .i64 0)]) (fun _ W => W = w3) (fun _ => 0) () ⟨rfl, trivial⟩ rfl ?_
    rintro ⟨⟩ j W hw
    have hw := hw.symm
    subst hw
    refine IfP.yes ?_
    refine ChkP.go ⟨by decide, by decide⟩ ?_
    refine PtI.at 0 rfl (few11_cell 0 (by decide)) ?_
    refine ChkP.go (by decide) ?_
    refine IfP.pos (by decide) ?_
    refine ⟨rfl, congrArg (fun z => Ending.returned (.bool z)) ?_, b3⟩
    rw [hpv, hz]; rfl
end Go.Proofs.YthneejblcffdgaaGreatDoor

namespace Go.Proofs.YthneejblcffdgaaGreatDoor
open Go Go.Ev Go.RowKit
set_option maxRecDepth 20000
set_option linter.unusedVariables false
set_option linter.unusedSimpArgs false

noncomputable def okN (p e : Nat) : Bool := !partV p && (decide (Nat.gcd (p - 1) e = 1) && probV p)
def first (n : Nat) : Nat := 2 * ((if n < 2 then 3 else n) / 2) + 1
theorem or_one (x : Nat) : x ||| 1 = 2 * (x / 2) + 1 := by
  have h1 : (x ||| 1) % 2 = 1 := Nat.or_mod_two_eq_one.2 (.inr rfl)
  have h2 : (x ||| 1) / 2 = x / 2 := by rw [Nat.or_div_two]; simp
  omega
theorem odd_val {n : Nat} (h : 0 < n) : val ((limbs n).set 0 ((limbs n).getD 0 0 ||| 1)) = 2 * (n / 2) + 1 := by
  have hl := (limbs_pos h).1
  have h1 := val_set (limbs n) 0 ((limbs n).getD 0 0 ||| 1) hl
  have h2 := getD_val (limbs n) (limbs_limbs n) 0
  rw [val_limbs, Nat.pow_zero, Nat.one_mul, Nat.one_mul, or_one] at h1
  rw [val_limbs, Nat.pow_zero, Nat.div_one] at h2
  rw [or_one]
  generalize val ((limbs n).set 0 (2 * ((limbs n).getD 0 0 / 2) + 1)) = V at *
  have : (limbs n).getD 0 0 % 2 = n % 2 := by rw [h2]; exact Nat.mod_mod_of_dvd _ (by decide)
  omega
theorem next_spec {a ea : Option Addr} {l c l2 c2 n v k : Nat} {w : World} (ha : NumS w a l c n) (he : NumS w ea l2 c2 v) (hl : l ≤ 90) (hl2 : l2 ≤ 100) (hb : blen n ≤ 2048) (ho : v % 2 = 1) (hk : first n + 2 * k < B64 ^ 100)
    (hyes : okN (first n + 2 * k) v = true) (hno : ∀ i, i < k → okN (first n + 2 * i) v = false) :
    Calls Tryz.prog 36 #[.slice a l c, .slice ea l2 c2] w fun e w' => ∃ a' l' c', e = .returned (.tuple #[.slice a' l' c', .bool true]) ∧ NumS w' a' l' c' (first n + 2 * k) ∧ (∀ p, a' = some p → w.heap.size ≤ p.block) ∧ Below w.heap.size w w' := by
  refine calls_of_ev tysOk extsOk Tryz.func36 rfl rfl rfl ?_
  refine CallP.intro (bitsV_spec ha) ?_
  rintro e w1 ⟨rfl, hw⟩
  have hw := hw.symm
  subst hw
  refine ⟨_, rfl, ?_⟩
  refine IfP.pos (by simp; omega) ?_
  (repeat (first | refine IfP.yes ?_ | refine IfP.no ?_ | refine NilP.go ?_))
  refine CallP.intro (bit_spec (i := 0) he (by decide)) ?_
  rintro e w1 ⟨rfl, hw⟩
  have hw := hw.symm
  subst hw
  refine ⟨_, rfl, ?_⟩
  rw [show v / 2 ^ 0 % 2 = 1 by rw [Nat.pow_zero, Nat.div_one]; exact ho]
  (repeat (first | refine IfP.yes ?_ | refine IfP.no ?_ | refine NilP.go ?_))
  refine CallP.intro (normV_spec ha) ?_
  rintro e W0 ⟨pa, pl, pc, po, rfl, g1, g2, g3⟩
  refine ⟨_, rfl, ?_⟩
  have hf : 1 ≤ first n := by unfold first; omega
  have hlen : ∀ i, i ≤ k → (limbs (first n + 2 * i)).length ≤ 100 := fun i hi => limbs_len_le (by omega)
  refine CallP.intro (bitsV_spec g1.n.s) ?_
  rintro e w1 ⟨rfl, hw⟩
  have hw := hw.symm
  subst hw
  refine ⟨_, rfl, ?_⟩
  have hN0 : ∃ N0, N0 = if n < 2 then 3 else n := ⟨_, rfl⟩
  obtain ⟨N0, hN0⟩ := hN0
  have hf0 : first n = 2 * (N0 / 2) + 1 := by rw [hN0]; rfl
  have hN1 : 0 < N0 := by rw [hN0]; split <;> omega
  refine IfP.dec (fun h2 => ?_) (fun h2 => ?_)
  have h2 : n < 2 := (blen_lt2 n).1 (by have h2 : (blen n : Int) < 2 := h2; omega)
  rw [if_pos h2] at hN0
  refine CallP.intro (ofV_spec 3 (by decide) W0) ?_
  rintro e W0 ⟨pa, pl, pc, po, rfl, g1', g2', g3'⟩
  rw [← hN0] at g1'
  refine ⟨_, rfl, ?_⟩
  have gf : ∀ k, po = some k → w.heap.size ≤ k := fun k hk => Nat.le_trans g3.size (g2' k hk)
  have gB := g3.trans (g3'.mono g3.size)
  clear g1 g2 g3 g2' g3'
  have g1 := g1'
  clear g1'
  rotate_left
  have h2 : ¬ n < 2 := fun h => h2 (by have := (blen_lt2 n).2 h; show (blen n : Int) < 2; omega)
  rw [if_neg h2] at hN0
  rw [← hN0] at g1
  have gf := g2
  have gB := g3
  clear g2 g3
  all_goals
    cases po with
    | none =>
      have h1 := g1.1.2.2.2
      have := (limbs_pos hN1).1
      have h1 := congrArg List.length h1
      rw [ints_length, List.length_nil] at h1
      omega
    | some pb =>
    have hg := g1.1
    obtain ⟨e1, e2, m0⟩ := hg
    subst e1
    rw [ints_length] at e2
    have hl0 := (limbs_pos hN1).1
    refine IdxP.ldN 0 rfl g1.n.1 e2 (by omega) fun _ _ _ => ?_
    have hx0 := (limbs_limbs N0).getD 0
    refine IdxP.toE 0 ((limbs N0).getD 0 0 ||| 1) (by rw [show (1 : Int) = ((1 : Nat) : Int) by rfl]; exact u64_or_nat _ 1 hx0 (by decide)) rfl m0 (by omega) e2 fun w2 m2 b2 s2 => ?_
    have hX : Limbs ((limbs N0).set 0 ((limbs N0).getD 0 0 ||| 1)) := fun x hx => by
      rcases List.mem_or_eq_of_mem_set hx with h | h
      · exact limbs_limbs N0 x h
      · rw [h]; exact Nat.or_lt_two_pow (n := 64) hx0 (by decide)
    have hval := odd_val hN1
    rw [← hf0] at hval
    have hN0l : (limbs N0).length ≤ 90 := by
      refine limbs_len_le ?_
      rcases Nat.lt_or_ge n 2 with h | h
      · first | omega | (rw [hN0]; exact Nat.lt_of_lt_of_le (by decide : 3 < B64 ^ 1) (Nat.pow_le_pow_right (by decide) (by decide)))
      · first | omega | (rw [hN0]; exact Nat.lt_of_lt_of_le ha.lt (Nat.pow_le_pow_right (by decide) hl))
    have hS2 : NumS w2 (some ⟨pb, 0, none⟩) pl pc (first n) := ⟨_, m2.nrow, hX, by rw [List.length_set]; exact e2, g1.1.le, by omega, hval⟩
    have hpb : w.heap.size ≤ pb := gf _ rfl
    have B2 : Below w.heap.size w w2 := Chg.below ((Chg.of_below (s := fun _ => False) gB).thenC b2 gB.size (fun q hq e => by omega))
    refine LoopP.go (S := Nat × Option Addr × Nat × Nat) 9007198986306032 (by kernel_rfl) (fun s => [(6, .slice s.2.1 s.2.2.1 s.2.2.2)])
      (fun s W => s.1 ≤ k ∧ NumS W s.2.1 s.2.2.1 s.2.2.2 (first n + 2 * s.1) ∧ s.2.2.1 ≤ 100 ∧ (∀ p, s.2.1 = some p → w.heap.size ≤ p.block) ∧ Below w.heap.size w W) (fun s => k - s.1) (0, some ⟨pb, 0, none⟩, pl, pc) ⟨rfl, trivial⟩
      ⟨Nat.zero_le _, hS2, by show pl ≤ 100; omega, fun p hp => by cases hp; exact hpb, B2⟩ ?_
    clear m0 g1 gf gB hX hval hN0l hS2 hpb B2 b2 m2
    rintro ⟨i, a3, l3, c3⟩ j W ⟨i1, i2, i3, i4, i5⟩
    simp only at i1 i2 i3 i4
    refine CallP.intro (ofV_spec 1 (by decide) W) ?_
    rintro e w3 ⟨oa, ol, oc, oo, rfl, h1, h2', h3⟩
    refine ⟨_, rfl, ?_⟩
    refine CallP.intro (sub_spec (i2.below h3) h1.n.s) ?_
    rintro e w4 ⟨la, ll, lc, rfl, k1, k2, k3⟩
    refine ⟨_, rfl, ?_⟩
    have b3 := i5.trans (h3.mono i5.size)
    have b4 := b3.trans (k3.mono b3.size)
    have p4 := (i2.below h3).below k3
    refine CallP.intro (parted_spec p4 (by show l3 ≤ 200; omega)) ?_
    rintro e w5 ⟨rfl, k5⟩
    refine ⟨_, rfl, ?_⟩
    have b5 := b4.trans (k5.mono b4.size)
    have p5 := p4.below k5
    have hlt : okN (first n + 2 * i) v = false → i < k := fun h => by
      rcases Nat.lt_or_ge i k with h' | h'
      · exact h'
      · rw [show i = k by omega, hyes] at h; cases h
    have heq : okN (first n + 2 * i) v = true → i = k := fun h => by
      rcases Nat.lt_or_ge i k with h' | h'
      · rw [hno i h'] at h; cases h
      · omega
    have hll : (limbs (first n + 2 * i - 1)).length ≤ 100 := by
      refine Nat.le_trans (limbs_mono (Nat.sub_le _ _)) (hlen i i1)
    cases hpv : partV (first n + 2 * i) with
    | true =>
      have hf1 := hlt (by unfold okN; rw [hpv]; rfl)
      (repeat (first | refine IfP.yes ?_ | refine IfP.no ?_ | refine NilP.go ?_))
      refine CallP.intro (ofV_spec 2 (by decide) w5) ?_
      rintro e v1 ⟨qa, ql, qc, qo, rfl, q1, q2, q3⟩
      refine ⟨_, rfl, ?_⟩
      refine CallP.intro (add_spec (p5.below q3) q1.n.s (by show l3 ≤ 200; omega) (by have := q1.n.2.1; have := limbs_len_le (show 2 < B64 ^ 1 by decide); omega)) ?_
      rintro e v2 ⟨ra, rl, rc, rfl, r1, r2, r3⟩
      have c1 := b5.trans (q3.mono b5.size)
      refine ⟨_, rfl, rfl, (i + 1, ra, rl, rc), ⟨⟨rfl, trivial⟩, hf1, ?_, ?_, fun p hp => Nat.le_trans c1.size (r2 p hp), c1.trans (r3.mono c1.size)⟩, by show k - (i + 1) < k - i; omega⟩
      · exact r1.s
      · show rl ≤ 100
        rw [r1.2.1]
        exact hlen (i + 1) hf1
    | false =>
      (repeat (first | refine IfP.yes ?_ | refine IfP.no ?_ | refine NilP.go ?_))
      have k5' := k1.below k5
      refine CallP.intro (gcd_spec k5'.s (he.below b5) (by show ll ≤ 200; rw [k5'.2.1]; omega) (by omega)) ?_
      rintro e w6 ⟨ga, gl, gc, rfl, m1, m2, m3⟩
      refine ⟨_, rfl, ?_⟩
      (repeat (first | refine IfP.yes ?_ | refine IfP.no ?_ | refine NilP.go ?_))
      refine CallP.intro (bitsV_spec m1.s) ?_
      rintro e w7 ⟨rfl, hw⟩
      have hw := hw.symm
      subst hw
      refine ⟨_, rfl, ?_⟩
      (repeat (first | refine IfP.yes ?_ | refine IfP.no ?_ | refine NilP.go ?_))
      have b6 := b5.trans (m3.mono b5.size)
      have p6 := p5.below m3
      refine IfP.beq (fun hg => ?_) (fun hg => ?_)
      · have hg : Nat.gcd (first n + 2 * i - 1) v = 1 := (blen_one _).1 (Int.ofNat_inj.1 hg)
        (repeat (first | refine IfP.yes ?_ | refine IfP.no ?_ | refine NilP.go ?_))
        refine CallP.same (few_spec _) ?_
        (repeat (first | refine IfP.yes ?_ | refine IfP.no ?_ | refine NilP.go ?_))
        refine CallP.intro (prob_spec p6 (by show l3 ≤ 100; omega)) ?_
        rintro e w7 ⟨rfl, m4⟩
        have b7 := b6.trans (m4.mono b6.size)
        have p7 := p6.below m4
        refine ⟨_, rfl, ?_⟩
        (repeat (first | refine IfP.yes ?_ | refine IfP.no ?_ | refine NilP.go ?_))
        have hok : okN (first n + 2 * i) v = probV (first n + 2 * i) := by unfold okN; rw [hpv, decide_eq_true hg]; rfl
        cases hpr : probV (first n + 2 * i) with
        | true =>
          have hik := heq (by rw [hok]; exact hpr)
          subst hik
          refine IfP.yes ?_
          exact ⟨rfl, a3, l3, c3, rfl, p7, i4, b7⟩
        | false =>
          have hf1 := hlt (by rw [hok]; exact hpr)
          refine IfP.no ?_
          refine CallP.intro (ofV_spec 2 (by decide) w7) ?_
          rintro e v1 ⟨qa, ql, qc, qo, rfl, q1, q2, q3⟩
          refine ⟨_, rfl, ?_⟩
          refine CallP.intro (add_spec (p7.below q3) q1.n.s (by show l3 ≤ 200; omega) (by have := q1.n.2.1; have := limbs_len_le (show 2 < B64 ^ 1 by decide); omega)) ?_
          rintro e v2 ⟨ra, rl, rc, rfl, r1, r2, r3⟩
          have c1 := b7.trans (q3.mono b7.size)
          refine ⟨_, rfl, rfl, (i + 1, ra, rl, rc), ⟨⟨rfl, trivial⟩, hf1, ?_, ?_, fun p hp => Nat.le_trans c1.size (r2 p hp), c1.trans (r3.mono c1.size)⟩, by show k - (i + 1) < k - i; omega⟩
          · exact r1.s
          · show rl ≤ 100
            rw [r1.2.1]
            exact hlen (i + 1) hf1
      · have hg : ¬ Nat.gcd (first n + 2 * i - 1) v = 1 := fun h => hg (by rw [h]; rfl)
        have hf1 := hlt (by unfold okN; rw [decide_eq_false hg]; simp)
        (repeat (first | refine IfP.yes ?_ | refine IfP.no ?_ | refine NilP.go ?_))
        refine CallP.intro (ofV_spec 2 (by decide) w6) ?_
        rintro e v1 ⟨qa, ql, qc, qo, rfl, q1, q2, q3⟩
        refine ⟨_, rfl, ?_⟩
        refine CallP.intro (add_spec (p6.below q3) q1.n.s (by show l3 ≤ 200; omega) (by have := q1.n.2.1; have := limbs_len_le (show 2 < B64 ^ 1 by decide); omega)) ?_
        rintro e v2 ⟨ra, rl, rc, rfl, r1, r2, r3⟩
        have c1 := b6.trans (q3.mono b6.size)
        refine ⟨_, rfl, rfl, (i + 1, ra, rl, rc), ⟨⟨rfl, trivial⟩, hf1, ?_, ?_, fun p hp => Nat.le_trans c1.size (r2 p hp), c1.trans (r3.mono c1.size)⟩, by show k - (i + 1) < k - i; omega⟩
        · exact r1.s
        · show rl ≤ 100
          rw [r1.2.1]
          exact hlen (i + 1) hf1
end Go.Proofs.YthneejblcffdgaaGreatDoor
