/- Texts of this proof, one behind the other: Nm10 Nm11 Nm12. -/
import Derived.Test.YthneejblcffdgaaGreatDoorPart16
namespace Go.Proofs.YthneejblcffdgaaGreatDoor
open Go Go.Ev Go.RowKit
set_option maxRecDepth 20000
set_option linter.unusedVariables false
set_option linter.unusedSimpArgs false

/-! ### Quo: the numbers' law -/
theorem quo_guess {Pv D y1 y0 x2 x1 x0 g e lo B : Nat} (hP : Pv < D * B) (hPv : Pv = (( x2 * B + x1) * B + x0) * e + lo) (hlo : lo < e) (hD : (y1 * B + y0) * e ≤ D) (hg : g = B - 1 ∨ (x2 * B + x1) * B + x0 < (g + 1) * (y1 * B + y0)) (hB : 0 < B) : Pv < (g + 1) * D := by
  rcases hg with rfl | hg
  · rw [Nat.sub_add_cancel hB, Nat.mul_comm]; exact hP
  · have h1 : ((x2 * B + x1) * B + x0 + 1) * e ≤ (g + 1) * (y1 * B + y0) * e := Nat.mul_le_mul_right e hg
    have h2 : (g + 1) * ((y1 * B + y0) * e) ≤ (g + 1) * D := Nat.mul_le_mul_left _ hD
    rw [Nat.add_mul, Nat.one_mul] at h1
    rw [← Nat.mul_assoc] at h2
    omega
/-- the invariant of the correction. -/
def Corr (V g D Pv Bn bw : Nat) : Prop := V + g * D = Pv + Bn * bw ∧ bw ≤ 1 ∧ V < Bn ∧ (bw = 0 → V < D)
theorem corr_first {V g D Pv Bn bw : Nat} (h : V + g * D = Pv + Bn * bw) (hb : bw ≤ 1) (hV : V < Bn) (hU : Pv < (g + 1) * D) : Corr V g D Pv Bn bw := by
  refine ⟨h, hb, hV, fun h0 => ?_⟩
  subst h0
  rw [Nat.add_mul, Nat.one_mul] at hU
  omega
theorem corr_step {V V2 k g D Pv Bn : Nat} (h : Corr V g D Pv Bn 1) (hP : Pv < Bn) (h2 : V2 + Bn * k = V + D) (hV2 : V2 < Bn) (hD : D < Bn) : 1 ≤ g ∧ k ≤ 1 ∧ Corr V2 (g - 1) D Pv Bn (1 - k) := by
  obtain ⟨h1, _, h3, _⟩ := h
  have hg : g ≠ 0 := by
    intro h0; subst h0; rw [Nat.zero_mul] at h1; omega
  obtain ⟨g', rfl⟩ : ∃ g', g = g' + 1 := ⟨g - 1, by omega⟩
  have hk : k ≤ 1 := by
    rcases Nat.lt_or_ge k 2 with h | h
    · omega
    · have := Nat.mul_le_mul_left Bn h; omega
  rw [Nat.add_mul, Nat.one_mul] at h1
  refine ⟨by omega, hk, ?_, by omega, hV2, fun h0 => ?_⟩
  · show V2 + g' * D = _
    rcases (by omega : k = 0 ∨ k = 1) with rfl | rfl
    · omega
    · omega
  · have : k = 1 := by omega
    subst this; omega
/-- the top limb tells the borrow. -/
theorem corr_top {V g D Pv B Bn bw : Nat} (h : Corr V g D Pv (Bn * B) bw) (hD : D < Bn) (hg : g < B) (hpos : 0 < Bn) : (V / Bn ≠ 0 ↔ bw = 1) := by
  obtain ⟨h1, h2, h3, h4⟩ := h
  constructor
  · intro h
    rcases (by omega : bw = 0 ∨ bw = 1) with rfl | rfl
    · exact absurd (Nat.div_eq_of_lt (Nat.lt_trans (h4 rfl) hD)) h
    · rfl
  · rintro rfl h
    have hV : V < Bn := by rcases Nat.div_eq_zero_iff.1 h with h | h; (· omega); exact h
    have h5 : g * D ≤ (B - 1) * Bn := Nat.mul_le_mul (by omega) (Nat.le_of_lt hD)
    obtain ⟨B', rfl⟩ : ∃ B', B = B' + 1 := ⟨B - 1, by omega⟩
    rw [Nat.mul_one, Nat.mul_add] at h1
    rw [Nat.add_sub_cancel, Nat.mul_comm B'] at h5
    omega
theorem val_top {P : List Nat} {n : Nat} (hP : P.length = n + 1) (hL : Limbs P) : val P / B64 ^ n = P.getD n 0 := by
  have h1 := val_take_succ' P n
  rw [List.take_of_length_le (by omega)] at h1
  have h2 : val (P.take n) < B64 ^ n := by
    have := val_lt (fun x hx => hL x (List.mem_of_mem_take hx) : Limbs (P.take n))
    rwa [List.length_take, Nat.min_eq_left (by omega)] at this
  rw [h1, Nat.add_mul_div_left _ _ (Nat.pow_pos (by decide)), Nat.div_eq_of_lt h2, Nat.zero_add]
theorem limbs_len_eq {n l : Nat} (h : 0 < l) (h1 : B64 ^ (l - 1) ≤ n) (h2 : n < B64 ^ l) : (limbs n).length = l := by
  have a := limbs_len_le h2
  have b := (Nat.pow_lt_pow_iff_right (by decide)).1 (Nat.lt_of_le_of_lt h1 (lt_of_limbs n))
  omega
theorem shift_len {m s : Nat} (hm : 0 < m) (hs : s < 64) (h : (limbs m).getD ((limbs m).length - 1) 0 * 2 ^ s < 18446744073709551616) : (limbs (m * 2 ^ s)).length = (limbs m).length := by
  obtain ⟨h1, h2⟩ := limbs_pos hm
  refine limbs_len_eq h1 (Nat.le_trans h2 (Nat.le_mul_of_pos_right _ (Nat.pow_pos (by decide)))) ?_
  generalize hk : (limbs m).length - 1 = k at *
  have hl : (limbs m).length = k + 1 := by omega
  have ht := val_top hl (limbs_limbs m)
  rw [val_limbs] at ht
  rw [← ht] at h
  rw [hl]
  have e : (18446744073709551616 : Nat) = 2 ^ (64 - s) * 2 ^ s := by rw [← Nat.pow_add, Nat.sub_add_cancel (by omega)]
  have h3 : m / B64 ^ k < 2 ^ (64 - s) := by
    rw [e] at h; exact Nat.lt_of_mul_lt_mul_right h
  have h4 : m < 2 ^ (64 - s) * B64 ^ k := (Nat.div_lt_iff_lt_mul (Nat.pow_pos (by decide))).1 h3
  have h5 := Nat.mul_lt_mul_of_pos_right h4 (show 0 < 2 ^ s from Nat.pow_pos (by decide))
  rw [Nat.mul_right_comm, ← e] at h5
  rw [Nat.pow_succ, Nat.mul_comm (B64 ^ k)]; exact h5
theorem limbs_len0 {m : Nat} (h : (limbs m).length = 0) : m = 0 := by
  have := val_limbs m
  rw [List.eq_nil_of_length_eq_zero h] at this
  exact this.symm
theorem val_top3 {P : List Nat} {q : Nat} (hP : P.length = q + 3) : val P = ((P.getD (q + 2) 0 * B64 + P.getD (q + 1) 0) * B64 + P.getD q 0) * B64 ^ q + val (P.take q) := by
  have h : val P = val (P.take (q + 1 + 1 + 1)) := by rw [List.take_of_length_le (by omega)]
  rw [h, val_take_succ', val_take_succ', val_take_succ', Nat.pow_succ, Nat.pow_succ, Nat.pow_succ]
  generalize B64 ^ q = E
  generalize P.getD (q + 2) 0 = a2
  generalize P.getD (q + 1) 0 = a1
  generalize P.getD q 0 = a0
  have e1 : E * a0 = a0 * E := Nat.mul_comm _ _
  have e2 : E * B64 * a1 = a1 * B64 * E := by ac_rfl
  have e3 : E * B64 * B64 * a2 = a2 * B64 * B64 * E := by ac_rfl
  rw [Nat.add_mul, Nat.add_mul, Nat.add_mul, e1, e2, e3]
  omega
theorem val_top2 {P : List Nat} {q : Nat} (hP : P.length = q + 2) : val P = (P.getD (q + 1) 0 * B64 + P.getD q 0) * B64 ^ q + val (P.take q) := by
  have h : val P = val (P.take (q + 1 + 1)) := by rw [List.take_of_length_le (by omega)]
  rw [h, val_take_succ', val_take_succ', Nat.pow_succ]
  generalize B64 ^ q = E
  generalize P.getD (q + 1) 0 = a1
  generalize P.getD q 0 = a0
  have e1 : E * a0 = a0 * E := Nat.mul_comm _ _
  have e2 : E * B64 * a1 = a1 * B64 * E := by ac_rfl
  rw [Nat.add_mul, e1, e2]
  omega
/-- a buffer in three. -/
theorem quo_parts (X : List Nat) (i k : Nat) : X.take i ++ (X.drop i).take k ++ X.drop (i + k) = X := by
  rw [List.append_assoc, ← List.drop_drop, List.take_append_drop, List.take_append_drop]
theorem quo_split {X : List Nat} {i lb D : Nat} (hX : Limbs X) (hl : i + lb < X.length) (hD : D < B64 ^ lb) (h : val X < D * B64 ^ (i + 1)) :
    val (X.drop (i + (lb + 1))) = 0 ∧ val X = val (X.take i) + B64 ^ i * val ((X.drop i).take (lb + 1)) ∧ val (X.take i) < B64 ^ i ∧ val ((X.drop i).take (lb + 1)) < D * B64 := by
  have e := congrArg val (quo_parts X i (lb + 1))
  rw [val_append, val_append, List.length_append, List.length_take, List.length_take, List.length_drop, Nat.min_eq_left (by omega), Nat.min_eq_left (by omega)] at e
  have h1 : val (X.take i) < B64 ^ i := by
    have := val_lt (fun x hx => hX x (List.mem_of_mem_take hx) : Limbs (X.take i))
    rwa [List.length_take, Nat.min_eq_left (by omega)] at this
  have h2 : val (X.drop (i + (lb + 1))) = 0 := by
    rcases Nat.eq_zero_or_pos (val (X.drop (i + (lb + 1)))) with h0 | h0
    · exact h0
    · have a1 : B64 ^ (i + (lb + 1)) ≤ B64 ^ (i + (lb + 1)) * val (X.drop (i + (lb + 1))) := Nat.le_mul_of_pos_right _ h0
      have a2 : D * B64 ^ (i + 1) < B64 ^ lb * B64 ^ (i + 1) := Nat.mul_lt_mul_of_pos_right hD (Nat.pow_pos (by decide))
      rw [← Nat.pow_add, show lb + (i + 1) = i + (lb + 1) by omega] at a2
      omega
  rw [h2, Nat.mul_zero, Nat.add_zero] at e
  refine ⟨h2, e.symm, h1, ?_⟩
  have a3 : B64 ^ i * val ((X.drop i).take (lb + 1)) < B64 ^ i * (D * B64) := by
    have e5 : B64 ^ i * (D * B64) = D * B64 ^ (i + 1) := by rw [Nat.mul_left_comm, ← Nat.pow_succ]
    rw [e5]; omega
  exact Nat.lt_of_mul_lt_mul_left a3
theorem quo_after {lo Pf g D Bi B Qv N : Nat} (hN : N = lo + Bi * (Pf + g * D) + D * (Bi * B) * Qv) : N = lo + Bi * Pf + D * Bi * (g + B * Qv) := by
  subst hN
  simp only [Nat.mul_add, Nat.mul_comm, Nat.mul_left_comm, Nat.mul_assoc]
  omega
theorem quo_less {lo Pf D Bi : Nat} (h1 : lo < Bi) (h2 : Pf < D) : lo + Bi * Pf < D * Bi := by
  have : Bi * (Pf + 1) ≤ Bi * D := Nat.mul_le_mul_left _ h2
  rw [Nat.mul_add, Nat.mul_comm Bi D] at this
  omega
theorem quo_end {n m K V Q : Nat} (hm : 0 < m) (hK : 0 < K) (h : n * K = V + m * K * Q) (hV : V < m * K) : Q = n / m ∧ V = n % m * K := by
  have h1 : n * K / (m * K) = Q := by rw [h, Nat.add_mul_div_left _ _ (Nat.mul_pos hm hK), Nat.div_eq_of_lt hV, Nat.zero_add]
  have h2 : n * K % (m * K) = V := by rw [h, Nat.add_mul_mod_self_left, Nat.mod_eq_of_lt hV]
  rw [Nat.mul_div_mul_right _ _ hK] at h1
  rw [Nat.mul_mod_mul_right] at h2
  exact ⟨h1.symm, h2.symm⟩
theorem val_lt1 {P : List Nat} {lb : Nat} (h : Limbs P) (hl : P.length = lb + 1) : val P < B64 ^ lb * B64 := by
  have := val_lt h
  rw [hl, Nat.pow_succ] at this
  exact this
end Go.Proofs.YthneejblcffdgaaGreatDoor

namespace Go.Proofs.YthneejblcffdgaaGreatDoor
open Go Go.Ev Go.RowKit
set_option maxRecDepth 20000
set_option linter.unusedVariables false
set_option linter.unusedSimpArgs false

/-- what is left. -/
def remV (n m : Nat) : Nat := if m = 0 then 0 else n % m
theorem remV_pos {n m : Nat} (h : 0 < m) : remV n m = n % m := if_neg (by omega)
abbrev QuoR (w : World) (n m : Nat) (e : Ending) (w' : World) : Prop := ∃ a' l' c' b' l2' c2', e = .returned (.tuple #[.slice a' l' c', .slice b' l2' c2', .bool (decide (m ≠ 0))]) ∧ NumN w' a' l' c' (n / m) ∧ NumN w' b' l2' c2' (remV n m) ∧
  (∀ p, a' = some p → w.heap.size ≤ p.block) ∧ (∀ p, b' = some p → w.heap.size ≤ p.block) ∧ Below w.heap.size w w'
theorem shl_len {n k : Nat} (hn : 0 < n) (hk : k < 64) : (limbs (n * 2 ^ k)).length ≤ (limbs n).length + 1 ∧ (limbs n).length ≤ (limbs (n * 2 ^ k)).length := by
  have h2 : 2 ^ k < B64 := Nat.pow_lt_pow_right (by decide) hk
  constructor
  · refine limbs_len_le ?_
    rw [Nat.pow_succ]
    exact Nat.mul_lt_mul_of_lt_of_le (lt_of_limbs n) (Nat.le_of_lt h2) (by decide)
  · refine limbs_len_le (Nat.lt_of_le_of_lt (Nat.le_mul_of_pos_right n (Nat.pow_pos (by decide))) (lt_of_limbs _))
set_option maxHeartbeats 4000000 in
theorem quo_spec {a b : Option Addr} {l c l2 c2 n m : Nat} {w : World} (ha : NumS w a l c n) (hb : NumS w b l2 c2 m) (hl : l ≤ 200) :
    Calls Tryz.prog 48 #[.slice a l c, .slice b l2 c2] w (QuoR w n m) := by
  refine calls_of_ev tysOk extsOk Tryz.func48 rfl rfl rfl ?_
  have hnl := limbs_len_le (Nat.lt_of_lt_of_le ha.lt (Nat.pow_le_pow_right (by decide) hl))
  refine CallP.intro (trimN_spec ha) ?_
  rintro e w1 ⟨a1, rfl, t1, _, hw⟩
  have hw := hw.symm
  subst hw
  refine ⟨_, rfl, ?_⟩
  refine CallP.intro (trimN_spec hb) ?_
  rintro e w1 ⟨b1, rfl, t2, _, hw⟩
  have hw := hw.symm
  subst hw
  refine ⟨_, rfl, ?_⟩
  refine IfP.beq (fun h0 => ?_) (fun h0 => ?_)
  · have hm : m = 0 := limbs_len0 (Int.ofNat_eq_zero.1 h0)
    subst hm
    refine ⟨rfl, none, 0, 0, none, 0, 0, rfl, ?_, ?_, (fun p hp => by cases hp), (fun p hp => by cases hp), Below.refl _ _⟩
    · rw [Nat.div_zero]; exact NumN.nil _ _ _
    · exact NumN.nil _ _ _
  have hm : 0 < m := Nat.pos_of_ne_zero fun h => h0 (by subst h; rfl)
  have hdec : decide (m ≠ 0) = true := decide_eq_true (by omega)
  refine CallP.intro (cmpV_spec t1.s t2.s) ?_
  rintro e w1 ⟨rfl, k1⟩
  refine ⟨_, rfl, ?_⟩
  have t1' := t1.below k1
  have t2' := t2.below k1
  refine IfP.dec (fun hlt => ?_) (fun hge => ?_)
  · have hlt : n < m := by
      rcases Nat.lt_trichotomy n m with h | h | h
      · exact h
      · rw [cmpV_eq h] at hlt; exact absurd hlt (by decide)
      · rw [cmpV_gt h] at hlt; exact absurd hlt (by decide)
    refine CallP.intro (madeV_spec t1'.s) ?_
    rintro e w2 ⟨a', l', c', o', rfl, g1, g2, g3⟩
    refine ⟨_, rfl, rfl, none, 0, 0, a', l', c', by rw [hdec]; rfl, ?_, ?_, (fun p hp => by cases hp), ?_, k1.trans (g3.mono k1.size)⟩
    · rw [Nat.div_eq_of_lt hlt]; exact NumN.nil _ _ _
    · rw [remV_pos hm, Nat.mod_eq_of_lt hlt]; exact g1.n
    · intro p hp; exact Nat.le_trans k1.size (g2 _ (g1.1.at p hp))
  have hge : m ≤ n := by
    rcases Nat.lt_or_ge n m with h | h
    · rw [cmpV_lt h] at hge; exact absurd (by decide) hge
    · exact h
  refine IfP.beq (fun h1 => ?_) (fun h1 => ?_)
  · have h1 : (limbs m).length = 1 := Int.ofNat_inj.1 h1
    have hv : (limbs m).getD 0 0 = m := by
      have := val_limbs m
      rcases hX : limbs m with _ | ⟨x, _ | ⟨y, r⟩⟩
      · rw [hX] at h1; cases h1
      · rw [hX] at this; simp [val] at this; simpa using this
      · rw [hX] at h1; simp at h1
    have hmB : m < B64 := by rw [← hv]; exact (limbs_limbs m).getD 0
    refine IdxP.ldN 0 rfl t2'.1 rfl (by omega) fun _ _ _ => ?_
    rw [hv]
    refine CallP.intro (small_spec (d := m) t1'.1 (limbs_limbs n) rfl (by omega) hm hmB) ?_
    rintro e w2 ⟨Q, r, a', c', rfl, q1, q2, q3, q4, q5, q6, q7, q8⟩
    refine ⟨_, rfl, ?_⟩
    refine CallP.intro (ofV_spec r (Nat.lt_trans q5 hmB) w2) ?_
    rintro e w3 ⟨b', l', c3, o', rfl, g1, g2, g3⟩
    rw [val_limbs] at q6
    have hd : n / m = val Q := by rw [q6, Nat.mul_comm, Nat.mul_add_div hm, Nat.div_eq_of_lt q5, Nat.add_zero]
    have hr : n % m = r := by rw [q6, Nat.mul_comm, Nat.mul_add_mod, Nat.mod_eq_of_lt q5]
    have hB := k1.trans (q7.mono k1.size)
    have ht : trimmed Q = limbs (n / m) := by rw [trimmed_eq q3, hd]
    have hle := trimmed_le Q
    refine ⟨_, rfl, rfl, a', _, c', b', l', c3, by rw [hdec]; rfl, ?_, ?_, ?_, ?_, hB.trans (g3.mono hB.size)⟩
    · exact NumN.below ⟨ht ▸ q1, by rw [ht], by omega, by omega⟩ g3
    · rw [remV_pos hm, hr]; exact g1.n
    · intro p hp; exact Nat.le_trans k1.size (q2 p hp)
    · intro p hp; exact Nat.le_trans hB.size (g2 _ (g1.1.at p hp))
  have hlb : 2 ≤ (limbs m).length := by
    have h2 : (limbs m).length ≠ 0 := fun h => h0 (by rw [h]; rfl)
    have h3 : (limbs m).length ≠ 1 := fun h => h1 (by rw [h]; rfl)
    omega
  have hmlen := t2.2.2.2
  have hmn : (limbs m).length ≤ (limbs n).length := limbs_len_le (Nat.lt_of_le_of_lt hge (lt_of_limbs n))
  have hn0 : 0 < n := by omega
  have hx := (limbs_limbs m).getD ((limbs m).length - 1)
  have hxp : 0 < (limbs m).getD ((limbs m).length - 1) 0 := by
    rw [← val_top (P := limbs m) (n := (limbs m).length - 1) (by omega) (limbs_limbs m), val_limbs]
    exact Nat.div_pos (limbs_pos hm).2 (Nat.pow_pos (by decide))
  have elb : IntKind.i64.wrap (((limbs m).length : Int) - 1) = (((limbs m).length - 1 : Nat) : Int) := by
    rw [show ((limbs m).length : Int) - 1 = (((limbs m).length - 1 : Nat) : Int) by omega]; exact i64_of _ (by omega)
  refine IdxP.ldN ((limbs m).length - 1) elb t2'.1 rfl (by omega) fun _ _ _ => ?_
  refine CallP.intro (lz64_spec _ hx hxp w1) ?_
  rintro e w2 ⟨k, rfl, s1, s2, s3, hw⟩
  have hw := hw.symm
  subst hw
  refine ⟨_, rfl, ?_⟩
  have hDl := shift_len hm s1 s3
  have hNl : (limbs (n * 2 ^ k)).length ≤ (limbs n).length + 1 ∧ (limbs n).length ≤ (limbs (n * 2 ^ k)).length := shl_len hn0 s1
  refine CallP.intro (shl_spec t1'.s (by omega) s1 hn0) ?_
  rintro e w2 ⟨ra, rl, rc, rfl, r1, r2⟩
  refine ⟨_, rfl, ?_⟩
  have b1 : Below w2.heap.size w2 (w2.alloc (.cells (([0] : List Int).map (Value.int .u64)).toArray 34)) := (Below.refl _ _).alloc (Nat.le_refl _) _
  have x1 := Blk.newA w2 (([0] : List Int).map (Value.int .u64)).toArray 34
  refine RdP.row' (xs := [0]) (Buf.of (xs := [0]) x1).row rfl ?_
  have hrl := r1.len
  rw [ints_length] at hrl
  refine App.own (r1.below b1) rfl (by omega) (by decide) fun a3 c3 o3 w3 q1 q2 q3 => ?_
  have bW : Below w1.heap.size w1 (w2.alloc (.cells (([0] : List Int).map (Value.int .u64)).toArray 34)) := r2.trans (b1.mono r2.size)
  have bs := bW.size
  have k3 : Below w1.heap.size w1 w3 := Chg.below ((Chg.of_below (s := fun _ => False) bW).thenC q2 bW.size (fun k hk e => by cases e; omega))
  obtain ⟨rb, ho3, hrb⟩ : ∃ rb, o3 = some rb ∧ w1.heap.size ≤ rb := by
    rcases q3 with q3 | q3
    · exact ⟨_, q3, Nat.le_refl _⟩
    · exact ⟨_, q3, bs⟩
  subst ho3
  obtain ⟨rfl, hrl3, hR⟩ := q1
  have hR : NBuf w3 rb (limbs (n * 2 ^ k) ++ [0]) c3 := by
    unfold NBuf; rw [ints_append]; exact hR
  clear q2 q3 x1
  have hRlt := hR.lt
  refine LoopP.go (S := Unit) 2356571555416395220992 (by kernel_rfl) (fun _ => [(11, .slice (some ⟨rb, 0, none⟩) (rl + 1) c3)]) (fun _ W => W = w3) (fun _ => 0) () ⟨rfl, trivial⟩ rfl ?_
  rintro ⟨⟩ j W hw
  have hw := hw.symm
  subst hw
  have e66 : IntKind.i64.wrap (((limbs n).length : Int) + 1) = (((limbs n).length + 1 : Nat) : Int) := next_i64 (Nat.lt_succ_self _) (by omega)
  refine IfP.dec (fun hlt => by rw [e66] at hlt; omega) (fun _ => ?_)
  have hs3 := k3.size
  refine CallP.intro (shl_spec ((t2'.below k3).s) (by omega) s1 hm) ?_
  rintro e w4 ⟨da, dl, dc, rfl, d1, d2⟩
  refine ⟨_, rfl, ?_⟩
  obtain ⟨rfl, hdl, hD⟩ := d1
  rw [ints_length, hDl] at hdl
  subst hdl
  have hD : NBuf w4 w3.heap.size (limbs (m * 2 ^ k)) dc := hD
  have hR4 : NBuf w4 rb (limbs (n * 2 ^ k) ++ [0]) c3 := Buf.below hR d2
  have hs4 := d2.size
  have hDlt := hD.lt
  have e77 : IntKind.i64.wrap (((rl + 1 : Nat) : Int) - ((limbs m).length : Int)) = ((rl + 1 - (limbs m).length : Nat) : Int) := by
    rw [show ((rl + 1 : Nat) : Int) - ((limbs m).length : Int) = ((rl + 1 - (limbs m).length : Nat) : Int) by omega]; exact i64_of _ (by omega)
  refine Mk.toN (rl + 1 - (limbs m).length) e77 e77 (by omega) fun w5 m5 b5 s5 => ?_
  have hvD := val_limbs (m * 2 ^ k)
  have hDlt2 : m * 2 ^ k < B64 ^ (limbs m).length := hDl ▸ lt_of_limbs (m * 2 ^ k)
  have hmk : 0 < m * 2 ^ k := Nat.mul_pos hm (Nat.pow_pos (by decide))
  have hDge : B64 ^ ((limbs m).length - 1) ≤ m * 2 ^ k := hDl ▸ (limbs_pos hmk).2
  have hX0 : val (limbs (n * 2 ^ k) ++ [0]) = n * 2 ^ k := by rw [val_append, val_limbs]; simp [val]
  have hX1 : n * 2 ^ k < m * 2 ^ k * B64 ^ (rl + 1 - (limbs m).length) := by
    refine Nat.lt_of_lt_of_le (lt_of_limbs (n * 2 ^ k)) ?_
    rw [← hrl]
    refine Nat.le_trans ?_ (Nat.mul_le_mul_right _ hDge)
    rw [← Nat.pow_add]; exact Nat.pow_le_pow_right (by decide) (by omega)
  have hLX0 : Limbs (limbs (n * 2 ^ k) ++ [0]) := (limbs_limbs _).snoc (by decide)
  have hXl0 : (limbs (n * 2 ^ k) ++ [0]).length = rl + 1 := by rw [List.length_append, hrl]; rfl
  have hLD := limbs_limbs (m * 2 ^ k)
  have hD5 : NBuf w5 w3.heap.size (limbs (m * 2 ^ k)) dc := Buf.below hD b5
  have hR5 : NBuf w5 rb (limbs (n * 2 ^ k) ++ [0]) c3 := Buf.below hR4 b5
  have hRc := hR.le
  rw [ints_length, hXl0] at hRc
  generalize limbs (n * 2 ^ k) ++ [0] = X0 at *
  generalize limbs (m * 2 ^ k) = DD at *
  generalize hlbe : (limbs m).length = lb at *
  have e83 : IntKind.i64.wrap (IntKind.i64.wrap (((rl + 1 : Nat) : Int) - (lb : Int)) - 1) = ((rl + 1 - lb : Nat) : Int) - 1 := by rw [e77]; exact IntWalk.i64_in _ (by omega)
  refine LoopP.go (S := Nat × List Nat × List Nat) 44601490397061246263728623431462656216907776 (by kernel_rfl) (fun s => [(14, .int .i64 ((s.1 : Int) - 1))])
    (fun s W => s.1 ≤ rl + 1 - lb ∧ s.2.1.length = rl + 1 ∧ Limbs s.2.1 ∧ NBuf W rb s.2.1 c3 ∧ NBuf W w4.heap.size (List.replicate s.1 0 ++ s.2.2) (rl + 1 - lb) ∧ s.1 + s.2.2.length = rl + 1 - lb ∧ Limbs s.2.2 ∧
      n * 2 ^ k = val s.2.1 + m * 2 ^ k * B64 ^ s.1 * val s.2.2 ∧ val s.2.1 < m * 2 ^ k * B64 ^ s.1 ∧ Chg w5.heap.size (fun k => k = rb ∨ k = w4.heap.size) w5 W)
    (fun s => s.1) (rl + 1 - lb, X0, []) ⟨congrArg (Value.int .i64) e83, trivial⟩
    ⟨Nat.le_refl _, hXl0, hLX0, hR5, by rw [List.append_nil]; exact m5, by simp, (fun x hx => by cases hx), by simp [val, hX0], by rw [hX0]; exact hX1, Chg.refl _ _ _⟩ ?_
  rintro ⟨j1, X, Qs⟩ jj W ⟨i1, i2, i3, i4, i5, i6, i7, i8, i9, i10⟩
  simp only at i1 i2 i3 i4 i5 i6 i7 i8 i9 i10
  have hDW : NBuf W w3.heap.size DD dc := Buf.chg hD5 i10 (by omega) (by omega)
  refine IfP.dec (fun hge2 => ?_) (fun hlt2 => ?_)
  · obtain ⟨i, rfl⟩ : ∃ i, j1 = i + 1 := ⟨j1 - 1, by omega⟩
    have e89 : (((i + 1 : Nat) : Int) - 1) = (i : Int) := by omega
    have e91 : IntKind.i64.wrap ((((i + 1 : Nat) : Int) - 1) + (lb : Int)) = ((i + lb : Nat) : Int) := by rw [e89]; exact wrapAddI (by omega)
    have e98 : IntKind.i64.wrap (IntKind.i64.wrap ((((i + 1 : Nat) : Int) - 1) + (lb : Int)) - 1) = ((i + lb - 1 : Nat) : Int) := by
      rw [e91, show ((i + lb : Nat) : Int) - 1 = ((i + lb - 1 : Nat) : Int) by omega]; exact i64_of _ (by omega)
    have e105 : IntKind.i64.wrap (IntKind.i64.wrap ((((i + 1 : Nat) : Int) - 1) + (lb : Int)) - 2) = ((i + lb - 2 : Nat) : Int) := by
      rw [e91, show ((i + lb : Nat) : Int) - 2 = ((i + lb - 2 : Nat) : Int) by omega]; exact i64_of _ (by omega)
    have e115 : IntKind.i64.wrap ((lb : Int) - 2) = ((lb - 2 : Nat) : Int) := by
      rw [show (lb : Int) - 2 = ((lb - 2 : Nat) : Int) by omega]; exact i64_of _ (by omega)
    have e124 : IntKind.i64.wrap (IntKind.i64.wrap ((((i + 1 : Nat) : Int) - 1) + (lb : Int)) + 1) = ((i + (lb + 1) : Nat) : Int) := by
      rw [e91, show ((i + lb : Nat) : Int) + 1 = ((i + (lb + 1) : Nat) : Int) by omega]; exact i64_of _ (by omega)
    refine DrawP.tree tysOk extsOk mixed [] (.take 0 (.take 1 (.take 2 (.take 6 (.take 7 (.take 8 (.take 13 (.take 14 (.take 15 (.take 20 (.take 21 (.take 25 (.take 26 (.held 3 (.held 4 (.held 5 (.held 9 (.held 10 (.held 11 (.held 12 (.held 16 (.held 17 (.held 18 (.held 19 (.held 22 (.held 23 (.held 24 (.held 27 (.held 28 (.held 29 (.alt 30 (.take 31 .done) .nil))))))))))))))))))))))))))))))) 664613997582972926630558461415424000 (by kernel_rfl) (by kernel_rfl)
      (X := Nat) (fun W' => NRow W' (some ⟨rb, 0, none⟩) X ∧ NRow W' (some ⟨w3.heap.size, 0, none⟩) DD) (fun g => [(15, .int .u64 (g : Nat))])
      (fun g W' => g < B64 ∧ (g = B64 - 1 ∨ (X.getD (i + lb) 0 * B64 + X.getD (i + lb - 1) 0) * B64 + X.getD (i + lb - 2) 0 < (g + 1) * (DD.getD (lb - 1) 0 * B64 + DD.getD (lb - 2) 0)) ∧ Below W.heap.size W W') ?_ ?_
    · intro w0 c0 b0 s0
      have cell : ∀ w' : World, ∀ b' : Nat, ∀ Y : List Nat, ∀ t : Nat, NRow w' (some ⟨b', 0, none⟩) Y → t < Y.length → w'.cell? ⟨b', 0 + t * 1, none⟩ = some (.int .u64 ((Y.getD t 0 : Nat) : Int)) := by
        intro w' b' Y t h ht
        obtain ⟨b', o', e, h'⟩ := h t (by rw [ints_length]; exact ht)
        cases e
        rw [Nat.mul_one, h', ← ints_getD, List.getD_eq_getElem?_getD, List.getElem?_eq_getElem (by rw [ints_length]; exact ht)]; rfl
      have hr0 := i4.nrow.below b0
      have hd0 := hDW.nrow.below b0
      refine ⟨⟨hr0, hd0⟩, ?_⟩
      refine HeldP.go (fun w' hS => rfl) ?_
      refine HeldP.go (fun w' hS => IdxP.at (i + lb) e91 (by omega) rfl) ?_
      refine HeldP.go (fun w' hS => LdI.go (cell _ _ _ _ hS.1 (by omega)) rfl) ?_
      refine HeldP.go (fun w' hS => rfl) ?_
      refine HeldP.go (fun w' hS => rfl) ?_
      refine HeldP.go (fun w' hS => IdxP.at (i + lb - 1) e98 (by omega) rfl) ?_
      refine HeldP.go (fun w' hS => LdI.go (cell _ _ _ _ hS.1 (by omega)) rfl) ?_
      refine HeldP.go (fun w' hS => rfl) ?_
      refine HeldP.go (fun w' hS => rfl) ?_
      refine HeldP.go (fun w' hS => IdxP.at (i + lb - 2) e105 (by omega) rfl) ?_
      refine HeldP.go (fun w' hS => LdI.go (cell _ _ _ _ hS.1 (by omega)) rfl) ?_
      refine HeldP.go (fun w' hS => rfl) ?_
      refine HeldP.go (fun w' hS => IdxP.at (lb - 1) elb (by omega) rfl) ?_
      refine HeldP.go (fun w' hS => LdI.go (cell _ _ _ _ hS.2 (by omega)) rfl) ?_
      refine HeldP.go (fun w' hS => rfl) ?_
      refine HeldP.go (fun w' hS => IdxP.at (lb - 2) e115 (by omega) rfl) ?_
      refine HeldP.go (fun w' hS => LdI.go (cell _ _ _ _ hS.2 (by omega)) rfl) ?_
      refine ⟨?_, trivial⟩
      refine CallP.intro (guess_spec _ _ _ _ _ (i3.getD _) (i3.getD _) (i3.getD _) (hLD.getD _) (hLD.getD _) w0) ?_
      rintro e w6 ⟨g, rfl, g1, g2, g3, g4⟩
      refine ⟨_, rfl, ?_⟩
      refine ⟨⟨hr0.below g4, hd0.below g4⟩, ?_⟩
      exact ⟨g, ⟨rfl, trivial⟩, g1, g2, b0.trans (g4.mono b0.size)⟩
    · rintro g0 j6 w6 ⟨g1, g2, g3⟩
      have j4 : NBuf w6 rb X c3 := Buf.below i4 g3
      have j5 : NBuf w6 w4.heap.size _ _ := Buf.below i5 g3
      have jD : NBuf w6 w3.heap.size DD dc := Buf.below hDW g3
      have p1 := quo_parts X i (lb + 1)
      obtain ⟨p2, p3, p4, p5⟩ := quo_split i3 (i := i) (lb := lb) (by omega) hDlt2 i9
      have hP0 : ((X.drop i).take (lb + 1)).length = lb + 1 := by rw [List.length_take, List.length_drop]; omega
      have hLP : Limbs ((X.drop i).take (lb + 1)) := fun x hx => i3 x (List.mem_of_mem_drop (List.mem_of_mem_take hx))
      have hPg : ∀ t, t < lb + 1 → ((X.drop i).take (lb + 1)).getD t 0 = X.getD (i + t) 0 := fun t ht => by
        rw [List.getD_eq_getElem?_getD, List.getElem?_take_of_lt ht, List.getElem?_drop, ← List.getD_eq_getElem?_getD]
      have p6 : val ((X.drop i).take (lb + 1)) < (g0 + 1) * (m * 2 ^ k) := by
        have t3 := val_top3 (P := (X.drop i).take (lb + 1)) (q := lb - 2) (by omega)
        have t2 := val_top2 (P := DD) (q := lb - 2) (by omega)
        rw [hPg _ (by omega), hPg _ (by omega), hPg _ (by omega), show i + (lb - 2 + 2) = i + lb by omega, show i + (lb - 2 + 1) = i + lb - 1 by omega, show i + (lb - 2) = i + lb - 2 by omega] at t3
        rw [show lb - 2 + 1 = lb - 1 by omega, hvD] at t2
        refine quo_guess p5 t3 ?_ (by rw [t2]; exact Nat.le_add_right _ _) g2 (by decide)
        have := val_lt (fun x hx => hLP x (List.mem_of_mem_take hx) : Limbs (((X.drop i).take (lb + 1)).take (lb - 2)))
        rwa [List.length_take, Nat.min_eq_left (by omega)] at this
      have jp : NBuf w6 rb (X.take i ++ (X.drop i).take (lb + 1) ++ X.drop (i + (lb + 1))) c3 := by rw [p1]; exact j4
      have hLlo : Limbs (X.take i) := fun x hx => i3 x (List.mem_of_mem_take hx)
      have hLhi : Limbs (X.drop (i + (lb + 1))) := fun x hx => i3 x (List.mem_of_mem_drop hx)
      have hlo : (X.take i).length = 0 + i * 1 := by rw [List.length_take]; omega
      generalize X.take i = lo at *
      generalize (X.drop i).take (lb + 1) = P0 at *
      generalize X.drop (i + (lb + 1)) = hi at *
      refine SlcP.exact i (i + (lb + 1)) e89 e124 (by omega) (by omega) (Or.inl (by omega)) ?_
      refine CallP.intro (takes_spec (g := g0) jp hlo (by omega) hP0 (Buf.row jD) (by omega) (fun p hp e => by cases hp; simp at e; omega) hLP hLD g1 (by omega)) ?_
      rintro e w7 ⟨P1, bw, rfl, u1, u2, u3, u4, u5, u6⟩
      refine ⟨_, rfl, ?_⟩
      rw [hvD] at u4
      have hV1 := val_lt1 u2 u1
      have hBn : 0 < B64 ^ lb := Nat.pow_pos (by decide)
      have hPn := val_lt1 hLP hP0
      have hDn : m * 2 ^ k < B64 ^ lb * B64 := Nat.lt_of_lt_of_le hDlt2 (Nat.le_mul_of_pos_right _ (by decide))
      rw [Nat.pow_succ] at u4
      refine LoopP.go (S := Nat × List Nat × Nat) 2786232020348644138838111285651318115565568 (by kernel_rfl) (fun s => [(15, .int .u64 (s.1 : Nat)), (17, .bool (decide (s.2.2 ≠ 0)))])
        (fun s W' => s.1 < B64 ∧ s.2.1.length = lb + 1 ∧ Limbs s.2.1 ∧ NBuf W' rb (lo ++ s.2.1 ++ hi) c3 ∧ Corr (val s.2.1) s.1 (m * 2 ^ k) (val P0) (B64 ^ lb * B64) s.2.2 ∧ Chg w6.heap.size (fun k => k = rb) w6 W') (fun s => s.1)
        (g0, P1, bw) ⟨rfl, rfl, trivial⟩ ⟨g1, u1, u2, u5, corr_first u4 u3 hV1 p6, u6⟩ ?_
      rintro ⟨g, P2, bw2⟩ j7 W7 ⟨v1, v2, v3, v4, v5, v6⟩
      simp only at v1 v2 v3 v4 v5
      have jD7 : NBuf W7 w3.heap.size DD dc := Buf.chg jD v6 (by have := g3.size; have := i10.size; omega) (by omega)
      have hs7 := v6.size
      refine IfP.dec (fun hb => ?_) (fun hb => ?_)
      · have hb1 : bw2 = 1 := by have hb : bw2 ≠ 0 := hb; have := v5.2.1; omega
        subst hb1
        refine CallP.intro (gives_spec v4 hlo (by omega) v2 (Buf.row jD7) (by omega) (fun p hp e => by cases hp; simp at e; omega) v3 hLD (by omega)) ?_
        rintro e w8 ⟨P3, k8, rfl, y1, y2, y3, y4, y5⟩
        refine ⟨_, rfl, ?_⟩
        rw [hvD, Nat.pow_succ] at y3
        have hV3 := val_lt1 y2 y1
        obtain ⟨z1, z2, z3⟩ := corr_step v5 hPn y3 hV3 hDn
        have z4 := corr_top z3 hDlt2 (by omega) hBn
        rw [val_top y1 y2] at z4
        have e137 : IntKind.u64.wrap ((g : Int) - 1) = ((g - 1 : Nat) : Int) := by rw [show (g : Int) - 1 = ((g - 1 : Nat) : Int) by omega]; exact u64_of _ (by simp only [B64] at v1; omega)
        refine IdxP.ldN lb rfl (y4.mid hlo) (by omega) (by omega) fun _ _ _ => ?_
        refine ⟨rfl, (g - 1, P3, 1 - k8), ⟨⟨congrArg (Value.int .u64) e137, ?_, trivial⟩, by show g - 1 < B64; omega, y1, y2, y4, z3, v6.thenC y5 hs7 (fun _ _ h => h)⟩, by show g - 1 < g; omega⟩
        refine congrArg Value.bool ?_
        show (((P3.getD lb 0 : Nat) : Int) != 0) = decide (1 - k8 ≠ 0)
        rcases (by omega : k8 = 0 ∨ k8 = 1) with rfl | rfl
        · have := z4.2 rfl
          exact bne_iff_ne.2 (fun h => this (Int.ofNat_eq_zero.1 h))
        · have : P3.getD lb 0 = 0 := Decidable.byContradiction fun h => absurd (z4.1 h) (by decide)
          rw [this]; rfl
      · have hb0 : bw2 = 0 := Decidable.not_not.1 hb
        subst hb0
        obtain ⟨x1, _, _, x4⟩ := v5
        have x4 := x4 rfl
        rw [Nat.mul_zero, Nat.add_zero] at x1
        have jQ7 : NBuf W7 w4.heap.size (List.replicate (i + 1) 0 ++ Qs) (rl + 1 - lb) := Buf.chg j5 v6 (by have := g3.size; have := i10.size; omega) (by omega)
        refine IdxP.toE i g rfl e89 jQ7 (by omega) (by simp; omega) fun w' f1 f2 f3 => ?_
        have e87 : IntKind.i64.wrap ((((i + 1 : Nat) : Int) - 1) - 1) = (i : Int) - 1 := by rw [e89]; exact IntWalk.i64_in _ (by omega)
        have hQs : (List.replicate (i + 1) 0 ++ Qs).set i g = List.replicate i 0 ++ (g :: Qs) := by
          rw [List.replicate_succ', List.append_assoc, List.set_append_right _ _ (by simp), List.length_replicate, Nat.sub_self]; rfl
        rw [hQs] at f1
        have hv : val (lo ++ P2 ++ hi) = val lo + B64 ^ i * val P2 := by
          rw [val_append, val_append, p2, Nat.mul_zero, Nat.add_zero, show lo.length = i by omega]
        refine ⟨rfl, (i, lo ++ P2 ++ hi, g :: Qs), ⟨⟨congrArg (Value.int .i64) e87, trivial⟩, by show i ≤ _; omega, ?_, ?_, ?_, f1, ?_, ?_, ?_, ?_, ?_⟩, Nat.lt_succ_self _⟩
        · have := congrArg List.length p1
          simp only [List.length_append] at this ⊢
          omega
        · intro x hx
          rcases List.mem_append.1 hx with hx | hx
          · rcases List.mem_append.1 hx with hx | hx
            · exact hLlo x hx
            · exact v3 x hx
          · exact hLhi x hx
        · exact Buf.chg v4 f2 (by have := v4.lt; omega) (by omega)
        · show i + (Qs.length + 1) = _; omega
        · intro x hx
          rcases List.mem_cons.1 hx with rfl | hx
          · exact v1
          · exact i7 x hx
        · show n * 2 ^ k = val (lo ++ P2 ++ hi) + m * 2 ^ k * B64 ^ i * (g + B64 * val Qs)
          rw [hv]
          refine quo_after ?_
          rw [i8, p3, x1, Nat.pow_succ]
        · show val (lo ++ P2 ++ hi) < m * 2 ^ k * B64 ^ i
          rw [hv]
          exact quo_less p4 x4
        · have z1 := i10.size
          have z2 := g3.size
          exact ((i10.thenB g3 z1).thenC v6 (by omega) (fun _ _ h => .inl h)).thenC f2 (by omega) (fun _ _ h => .inr h)
  · have hj : j1 = 0 := by omega
    subst hj
    rw [List.replicate_zero, List.nil_append] at i5
    rw [Nat.pow_zero, Nat.mul_one] at i8 i9
    obtain ⟨w1e, w2e⟩ := quo_end hm (Nat.pow_pos (by decide)) i8 i9
    refine CallP.intro (trimB_spec i5.nrow i7 (by omega) _ (by omega) _ (by omega)) ?_
    rintro e w6 ⟨qa, ql, rfl, f1, f2, hw⟩
    have hw := hw.symm
    subst hw
    refine ⟨_, rfl, ?_⟩
    have hRS : NumS W (some ⟨rb, 0, none⟩) (rl + 1) c3 (n % m * 2 ^ k) := ⟨X, i4.nrow, i3, i2.symm, by omega, by omega, w2e⟩
    refine CallP.intro (shr_spec (k := k) hRS (by omega)) ?_
    rintro e w7 ⟨xa, xl, xc, rfl, y1, y2, y3⟩
    have z1 := i10.size
    have hB : Below w1.heap.size w1 w5 := (k3.trans (d2.mono hs3)).trans (b5.mono (by omega))
    have hBW : Below w1.heap.size w1 W := Chg.below ((Chg.of_below (s := fun _ => False) hB).thenC i10 hB.size (fun q hq e => by rcases e with e | e <;> omega))
    have hB7 : Below w1.heap.size w1 w7 := hBW.trans (y3.mono hBW.size)
    rw [Nat.mul_div_cancel _ (Nat.pow_pos (by decide))] at y1
    rw [w1e] at f1
    refine ⟨_, rfl, rfl, qa, ql, _, xa, xl, xc, by rw [hdec]; rfl, f1.below y3, by rw [remV_pos hm]; exact y1, ?_, ?_, k1.trans (hB7.mono k1.size)⟩
    · intro p hp
      have := f2 p hp
      have := k1.size
      omega
    · intro p hp
      have := y2 p hp
      have := k1.size
      have := hBW.size
      omega
end Go.Proofs.YthneejblcffdgaaGreatDoor

namespace Go.Proofs.YthneejblcffdgaaGreatDoor
open Go Go.Ev Go.RowKit
set_option maxRecDepth 20000
set_option linter.unusedVariables false
set_option linter.unusedSimpArgs false

/-! ### modarith, rsa: the small ones -/
theorem rest_spec {a b : Option Addr} {l c l2 c2 n m : Nat} {w : World} (ha : NumS w a l c n) (hb : NumS w b l2 c2 m) (hl : l ≤ 200) :
    Calls Tryz.prog 64 #[.slice a l c, .slice b l2 c2] w fun e w' => ∃ a' l' c', e = .returned (.slice a' l' c') ∧ NumN w' a' l' c' (remV n m) ∧ (∀ p, a' = some p → w.heap.size ≤ p.block) ∧ Below w.heap.size w w' := by
  refine calls_of_ev tysOk extsOk Tryz.func64 rfl rfl rfl ?_
  refine CallP.intro (quo_spec ha hb hl) ?_
  rintro e w1 ⟨q, ql, qc, r, rl, rc, rfl, g1, g2, g3, g4, g5⟩
  exact ⟨_, rfl, rfl, r, rl, rc, rfl, g2, g4, g5⟩
theorem less1_spec {a : Option Addr} {l c n : Nat} {w : World} (ha : NumS w a l c n) :
    Calls Tryz.prog 22 #[.slice a l c] w fun e w' => ∃ a' l' c', e = .returned (.slice a' l' c') ∧ NumN w' a' l' c' (n - 1) ∧ (∀ p, a' = some p → w.heap.size ≤ p.block) ∧ Below w.heap.size w w' := by
  refine calls_of_ev tysOk extsOk Tryz.func22 rfl rfl rfl ?_
  refine CallP.intro (ofV_spec 1 (by decide) w) ?_
  rintro e w1 ⟨b, bl, bc, bo, rfl, g1, g2, g3⟩
  refine ⟨_, rfl, ?_⟩
  refine CallP.intro (sub_spec (ha.below g3) g1.n.s) ?_
  rintro e w2 ⟨r, rl, rc, rfl, h1, h2, h3⟩
  exact ⟨_, rfl, rfl, r, rl, rc, rfl, h1, fun p hp => Nat.le_trans g3.size (h2 p hp), g3.trans (h3.mono g3.size)⟩
theorem cmpV_zero (n m : Nat) : (cmpV n m == 0) = decide (n = m) := by
  unfold cmpV
  split
  · rename_i h; rw [decide_eq_true h]; rfl
  · rename_i h; rw [decide_eq_false h]; split <;> rfl
theorem one_spec {a b : Option Addr} {l c l2 c2 n m : Nat} {w : World} (ha : NumS w a l c n) (hb : NumS w b l2 c2 m) (hl : l ≤ 200) :
    Calls Tryz.prog 21 #[.slice a l c, .slice b l2 c2] w fun e w' => e = .returned (.bool (decide (m ≠ 0 ∧ n % m = 1))) ∧ Below w.heap.size w w' := by
  refine calls_of_ev tysOk extsOk Tryz.func21 rfl rfl rfl ?_
  refine CallP.intro (quo_spec ha hb hl) ?_
  rintro e w1 ⟨q, ql, qc, r, rl, rc, rfl, g1, g2, g3, g4, g5⟩
  refine ⟨_, rfl, ?_⟩
  refine IfP.dec (fun h0 => ?_) (fun h0 => ?_)
  · refine IfP.yes ?_
    refine CallP.intro (ofV_spec 1 (by decide) w1) ?_
    rintro e w2 ⟨b, bl, bc, bo, rfl, k1, k2, k3⟩
    refine ⟨_, rfl, ?_⟩
    refine IfP.yes ?_
    refine CallP.intro (cmpV_spec (g2.below k3).s k1.n.s) ?_
    rintro e w3 ⟨rfl, k4⟩
    refine ⟨_, rfl, ?_⟩
    refine IfP.yes ?_
    refine IfP.yes ?_
    have h0 : m ≠ 0 := h0
    have b2 := g5.trans (k3.mono g5.size)
    refine ⟨rfl, congrArg (fun z => Ending.returned (.bool z)) ?_, b2.trans (k4.mono b2.size)⟩
    show (cmpV (remV n m) 1 == 0) = _
    rw [cmpV_zero, remV_pos (by omega)]
    exact decide_eq_decide.2 ⟨fun h => ⟨h0, h⟩, fun h => h.2⟩
  · refine IfP.no ?_
    refine IfP.no ?_
    refine IfP.no ?_
    refine IfP.no ?_
    have h0 : ¬ (m ≠ 0) := h0
    exact ⟨rfl, congrArg (fun z => Ending.returned (.bool z)) (decide_eq_false fun h => h0 h.1).symm, g5⟩
/-- greatest common divisor. -/
theorem gcd_spec {a b : Option Addr} {l c l2 c2 n m : Nat} {w : World} (ha : NumS w a l c n) (hb : NumS w b l2 c2 m) (hl : l ≤ 200) (hl2 : l2 ≤ 200) :
    Calls Tryz.prog 59 #[.slice a l c, .slice b l2 c2] w fun e w' => ∃ a' l' c', e = .returned (.slice a' l' c') ∧ NumN w' a' l' c' (Nat.gcd n m) ∧ (∀ p, a' = some p → w.heap.size ≤ p.block) ∧ Below w.heap.size w w' := by
  refine calls_of_ev tysOk extsOk Tryz.func59 rfl rfl rfl ?_
  refine CallP.intro (normV_spec ha) ?_
  rintro e w1 ⟨a1, l1, c1, o1, rfl, g1, g2, g3⟩
  refine ⟨_, rfl, ?_⟩
  refine CallP.intro (normV_spec (hb.below g3)) ?_
  rintro e w2 ⟨a2, l2', c2', o2, rfl, h1, h2, h3⟩
  refine ⟨_, rfl, ?_⟩
  have hn := limbs_len_le (Nat.lt_of_lt_of_le ha.lt (Nat.pow_le_pow_right (by decide) hl))
  have hm := limbs_len_le (Nat.lt_of_lt_of_le hb.lt (Nat.pow_le_pow_right (by decide) hl2))
  have bb := g3.trans (h3.mono g3.size)
  have hs := g3.size
  have hs2 := h3.size
  refine LoopP.go (S := (Option Addr × Nat × Nat × Nat) × (Option Addr × Nat × Nat × Nat)) 65027 (by kernel_rfl) (fun s => [(0, .slice s.1.1 s.1.2.1 s.1.2.2.1), (1, .slice s.2.1 s.2.2.1 s.2.2.2.1)])
    (fun s W => NumN W s.1.1 s.1.2.1 s.1.2.2.1 s.1.2.2.2 ∧ NumN W s.2.1 s.2.2.1 s.2.2.2.1 s.2.2.2.2 ∧ s.1.2.1 ≤ 200 ∧ s.2.2.1 ≤ 200 ∧ Nat.gcd s.1.2.2.2 s.2.2.2.2 = Nat.gcd n m ∧
      (∀ p, s.1.1 = some p → w.heap.size ≤ p.block) ∧ (∀ p, s.2.1 = some p → w.heap.size ≤ p.block) ∧ Below w.heap.size w W)
    (fun s => s.2.2.2.2) ((a1, l1, c1, n), (a2, l2', c2', m)) ⟨rfl, rfl, trivial⟩
    ⟨(g1.below h3).n, h1.n, by rw [(g1.n).2.1]; exact hn, by rw [(h1.n).2.1]; exact hm, rfl, fun p hp => g2 _ (g1.1.at p hp), fun p hp => Nat.le_trans hs (h2 _ (h1.1.at p hp)), bb⟩ ?_
  rintro ⟨⟨x, xl, xc, X⟩, ⟨y, yl, yc, Y⟩⟩ j W ⟨i1, i2, i3, i4, i5, i6, i7, i8⟩
  simp only at i1 i2 i3 i4 i5 i6 i7
  refine IfP.dec (fun hgt => ?_) (fun hle => ?_)
  · have hgt : (yl : Int) > 0 := hgt
    have hY : 0 < Y := by
      rcases Nat.eq_zero_or_pos Y with h | h
      · subst h
        have := i2.2.1
        rw [limbs_zero] at this
        simp at this
        omega
      · exact h
    refine CallP.intro (rest_spec i1.s i2.s i3) ?_
    rintro e w3 ⟨r, rl, rc, rfl, k1, k2, k3⟩
    rw [remV_pos hY] at k1
    refine ⟨_, rfl, rfl, ((y, yl, yc, Y), (r, rl, rc, X % Y)), ⟨⟨rfl, rfl, trivial⟩, i2.below k3, k1, i4, ?_, ?_, i7, fun p hp => Nat.le_trans i8.size (k2 p hp), i8.trans (k3.mono i8.size)⟩, Nat.mod_lt _ hY⟩
    · show rl ≤ 200
      rw [k1.2.1]
      refine Nat.le_trans (limbs_len_le (Nat.lt_trans (Nat.mod_lt _ hY) (lt_of_limbs Y))) (i2.2.1 ▸ i4)
    · show Nat.gcd Y (X % Y) = _
      rw [← i5, Nat.gcd_comm X Y, Nat.gcd_rec Y X, Nat.gcd_comm]
  · have hle : ¬ ((yl : Int) > 0) := hle
    have hY : Y = 0 := by
      have := i2.2.1
      refine limbs_len0 ?_
      omega
    subst hY
    rw [Nat.gcd_zero_right] at i5
    exact ⟨rfl, x, xl, xc, rfl, i5 ▸ i1, i6, i8⟩
end Go.Proofs.YthneejblcffdgaaGreatDoor
