/- Plain law: division of two words by one, by half words. -/
namespace Go.Ev.Div
abbrev B : Nat := 4294967296
/-- one half step at its loop's head. -/
structure J (y1 y0 u d q r : Nat) : Prop where
  sum : u = q * y1 + r
  up : (u * B + d) / (y1 * B + y0) ≤ q
  q : q ≤ B + 1
  r : r < B

theorem y_pos {y1 y0 : Nat} (h : 2147483648 ≤ y1) : 0 < y1 * B + y0 := by unfold B; omega
theorem quo_lt {y1 y0 u d : Nat} (hy : 2147483648 ≤ y1) (hu : u < y1 * B + y0) (hd : d < B) : (u * B + d) / (y1 * B + y0) < B := by
  rw [Nat.div_lt_iff_lt_mul (y_pos hy)]
  have : (u + 1) * B ≤ (y1 * B + y0) * B := Nat.mul_le_mul_right _ hu
  rw [Nat.mul_comm B]
  rw [Nat.add_mul] at this
  omega
theorem start {y1 y0 u d : Nat} (hy : 2147483648 ≤ y1) (hy1 : y1 < B) (hy0 : y0 < B) (hu : u < y1 * B + y0) (hd : d < B) : J y1 y0 u d (u / y1) (u % y1) := by
  have hp : 0 < y1 := by omega
  refine ⟨by rw [Nat.mul_comm]; exact (Nat.div_add_mod u y1).symm, ?_, ?_, Nat.lt_trans (Nat.mod_lt _ hp) hy1⟩
  · rw [Nat.le_div_iff_mul_le hp]
    generalize hQ : (u * B + d) / (y1 * B + y0) = Q
    have h1 : Q * (y1 * B + y0) ≤ u * B + d := by rw [← hQ]; exact Nat.div_mul_le_self _ _
    rw [Nat.mul_add, ← Nat.mul_assoc] at h1
    unfold B at h1 hd
    have h2 : 0 ≤ Q * y0 := Nat.zero_le _
    omega
  · have : u / y1 < B + 2 := by
      rw [Nat.div_lt_iff_lt_mul hp, Nat.add_mul, Nat.mul_comm B]
      unfold B at *
      omega
    omega
/-- the test says 'too much'. -/
theorem step {y1 y0 u d q r : Nat} (hy : 2147483648 ≤ y1) (hy0 : y0 < B) (hu : u < y1 * B + y0) (hd : d < B) (h : J y1 y0 u d q r) (hc : B ≤ q ∨ B * r + d < q * y0) :
    1 ≤ q ∧ (r + y1 < B → J y1 y0 u d (q - 1) (r + y1)) ∧ (B ≤ r + y1 → q - 1 = (u * B + d) / (y1 * B + y0)) := by
  obtain ⟨h1, h2, h3, h4⟩ := h
  have hq : (u * B + d) / (y1 * B + y0) < q := by
    rcases hc with hc | hc
    · exact Nat.lt_of_lt_of_le (quo_lt hy hu hd) hc
    · rw [Nat.div_lt_iff_lt_mul (y_pos hy), Nat.mul_add, ← Nat.mul_assoc, h1, Nat.add_mul, Nat.mul_comm r]
      unfold B at *
      omega
  have hq1 : 1 ≤ q := Nat.lt_of_le_of_lt (Nat.zero_le _) hq
  obtain ⟨p, rfl⟩ : ∃ p, q = p + 1 := ⟨q - 1, (Nat.sub_add_cancel hq1).symm⟩
  have hqp := Nat.le_of_lt_succ hq
  have hpB : p ≤ B := Nat.le_of_succ_le_succ h3
  have hs : u = p * y1 + (r + y1) := by rw [h1, Nat.add_mul]; omega
  rw [Nat.add_sub_cancel]
  refine ⟨hq1, fun hr => ⟨hs, hqp, Nat.le_succ_of_le hpB, hr⟩, fun hr => ?_⟩
  refine Nat.le_antisymm ?_ hqp
  rw [Nat.le_div_iff_mul_le (y_pos hy), Nat.mul_add, ← Nat.mul_assoc]
  have e : u * B = p * y1 * B + (r + y1) * B := by rw [hs, Nat.add_mul]
  have h5 : p * y0 ≤ B * (B - 1) := Nat.mul_le_mul hpB (by omega)
  have h6 : B * B ≤ (r + y1) * B := Nat.mul_le_mul_right _ hr
  unfold B at *
  omega
/-- the test says 'not too much'. -/
theorem stop {y1 y0 u d q r : Nat} (hy : 2147483648 ≤ y1) (h : J y1 y0 u d q r) (hc : q * y0 ≤ B * r + d) : q = (u * B + d) / (y1 * B + y0) := by
  obtain ⟨h1, h2, h3, h4⟩ := h
  refine Nat.le_antisymm ?_ h2
  rw [Nat.le_div_iff_mul_le (y_pos hy), Nat.mul_add, ← Nat.mul_assoc]
  have e : u * B = q * y1 * B + r * B := by rw [h1, Nat.add_mul]
  rw [Nat.mul_comm B r] at hc
  omega
/-- nothing overflows in the test. -/
theorem small {y1 y0 u d q r : Nat} (hy0 : y0 < B) (hd : d < B) (h : J y1 y0 u d q r) : q * y0 < 18446744073709551616 ∧ B * r + d < 18446744073709551616 := by
  obtain ⟨h1, h2, h3, h4⟩ := h
  have h5 : q * y0 ≤ (B + 1) * (B - 1) := Nat.mul_le_mul h3 (by omega)
  have h6 : B * r ≤ B * (B - 1) := Nat.mul_le_mul_left _ (by omega)
  unfold B at *
  omega
/-- two half steps are a whole one. -/
theorem whole {B y u d1 d0 : Nat} (hy : 0 < y) : ((u * B + d1) / y) * B + (((u * B + d1) % y) * B + d0) / y = ((u * B + d1) * B + d0) / y ∧ (((u * B + d1) % y) * B + d0) % y = ((u * B + d1) * B + d0) % y := by
  generalize hN : u * B + d1 = N
  have e : N * B + d0 = (N % y * B + d0) + y * (N / y * B) := by
    have := Nat.div_add_mod N y
    have h2 : N * B = (y * (N / y) + N % y) * B := by rw [this]
    rw [h2, Nat.add_mul, Nat.mul_assoc]
    omega
  constructor
  · rw [e, Nat.add_mul_div_left _ _ hy, Nat.add_comm]
  · rw [e, Nat.add_mul_mod_self_left]
/-- the dividend, moved up. -/
theorem moved {B M hi lo p pr U T d1 d0 : Nat} (hp : 0 < p) (hM : pr * p = M) (hU : hi * p + lo / pr = U) (hT : lo * p % M = T) (hB : B * B = M) (hd : T = d1 * B + d0) : (U * B + d1) * B + d0 = (hi * M + lo) * p := by
  have h1 : lo * p / M = lo / pr := by rw [← hM]; exact Nat.mul_div_mul_right _ _ hp
  have h2 := Nat.div_add_mod (lo * p) M
  rw [h1, hT] at h2
  have h3 : (U * B + d1) * B + d0 = U * M + T := by rw [Nat.add_mul, Nat.mul_assoc, hB, hd]; omega
  rw [h3, ← hU, Nat.add_mul, Nat.add_mul, ← h2, Nat.mul_right_comm hi, Nat.mul_comm (lo / pr)]
  omega
end Go.Ev.Div
