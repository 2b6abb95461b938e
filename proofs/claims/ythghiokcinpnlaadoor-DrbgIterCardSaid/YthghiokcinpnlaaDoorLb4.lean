import Derived.Test.YthghiokcinpnlaaDoorLb3
namespace Go.Proofs.YthghiokcinpnlaaDoor
open Go Go.Ev Go.RowKit
set_option maxRecDepth 20000
set_option linter.unusedVariables false

/-- what a row of limbs is worth. -/
def val : List Nat → Nat
  | [] => 0
  | x :: r => x + 18446744073709551616 * val r
theorem ints_append (a b : List Nat) : ints (a ++ b) = ints a ++ ints b := List.map_append
theorem ints_zeros (n : Nat) : ints (List.replicate n 0) = List.replicate n 0 := by simp [ints]
theorem val_drop {xs : List Nat} {n : Nat} (h : n < xs.length) : val (xs.drop n) = xs.getD n 0 + 18446744073709551616 * val (xs.drop (n + 1)) := by
  rw [List.drop_eq_getElem_cons h, List.getD_eq_getElem?_getD, List.getElem?_eq_getElem h]; rfl

theorem small_arith {M V d r x q t : Nat} (h : d * q + t = r * M + x) : x + M * (V * d + r) = (q + M * V) * d + t := by
  rw [Nat.mul_add, Nat.add_mul, Nat.mul_assoc M V d, Nat.mul_comm q d, Nat.mul_comm M r]
  omega
set_option maxHeartbeats 1000000 in
theorem small_spec {xs : List Nat} {a : Option Addr} {l c d : Nat} {w : World} (hr : NRow w a xs) (hL : Limbs xs) (hl : l = xs.length) (hs : l ≤ 1000000) (hd0 : 0 < d) (hd : d < 18446744073709551616) :
    Calls Tryd.prog 34 #[.slice a l c, .int .u64 d] w fun e w' => ∃ Q r a' c', e = .returned (.tuple #[.slice a' (trimmed Q).length c', .int .u64 (r : Nat)]) ∧ NRow w' a' (trimmed Q) ∧ (∀ p, a' = some p → w.heap.size ≤ p.block) ∧ Limbs Q ∧ Q.length = l ∧ r < d ∧ val xs = val Q * d + r ∧ Below w.heap.size w w' := by
  refine calls_of_ev tysOk extsOk Tryd.func34 rfl rfl rfl ?_
  have hil := ints_length xs
  refine Mk.to l l rfl rfl (Nat.le_refl _) (by omega) rfl fun w1 p1 a1 s1 => ?_
  have e0 : IntKind.i64.wrap ((l : Int) - 1) = (l : Int) - 1 := IntWalk.i64_in _ (by omega)
  refine LoopP.go (S := Nat × Nat × List Nat) 4294934912 (by kernel_rfl) (fun s => [(8, .int .i64 ((s.1 : Int) - 1)), (7, .int .u64 (s.2.1 : Nat))])
    (fun s W => s.1 ≤ l ∧ Buf .u64 39 W w.heap.size (ints (List.replicate s.1 0 ++ s.2.2)) l ∧ s.1 + s.2.2.length = l ∧ Limbs s.2.2 ∧ s.2.1 < d ∧ val (xs.drop s.1) = val s.2.2 * d + s.2.1 ∧ Below w.heap.size w W) (fun s => s.1) (l, 0, [])
    ⟨congrArg (Value.int .i64) e0, rfl, trivial⟩ ⟨Nat.le_refl _, by rw [List.append_nil, ints_zeros]; exact p1, by simp, (fun x hx => by cases hx), hd0, by rw [hl, List.drop_length]; simp [val], a1⟩ ?_
  rintro ⟨m, r, Q⟩ j W ⟨h1, h2, h3, h4, h5, h6, h7⟩
  simp only at h1 h2 h3 h4 h5 h6 h7
  refine IfP.dec (fun hge => ?_) (fun hlt => ?_)
  · obtain ⟨n, rfl⟩ : ∃ n, m = n + 1 := ⟨m - 1, by omega⟩
    have hsub : (((n + 1 : Nat) : Int) - 1) = (n : Int) := by omega
    have hrW : NRow W a xs := Row.below hr h7
    refine IdxP.ld n hsub hrW (by omega) (by omega) fun _ _ _ => ?_
    rw [ints_getD]
    have hx := hL.getD n
    refine CallP.intro (div64_spec r (xs.getD n 0) d h5 hx hd W) ?_
    rintro e w2 ⟨rfl, g1, g2⟩
    refine ⟨_, rfl, ?_⟩
    have b2 := h2.below g2
    have hlen : (ints (List.replicate (n + 1) 0 ++ Q)).length = l := by rw [ints_length]; simp; omega
    refine IdxP.toBuf n hsub b2 (by omega) hlen.symm fun w3 b3 c3 s3 => ?_
    have c3 : Chg w2.heap.size (fun k => k = w.heap.size) w2 w3 := c3
    have hq : (r * 18446744073709551616 + xs.getD n 0) / d < 18446744073709551616 := by
      rw [Nat.div_lt_iff_lt_mul hd0]
      have : (r + 1) * 18446744073709551616 ≤ d * 18446744073709551616 := Nat.mul_le_mul_right _ h5
      rw [Nat.add_mul] at this
      rw [Nat.mul_comm 18446744073709551616]
      omega
    have hset : (ints (List.replicate (n + 1) 0 ++ Q)).set n (((r * 18446744073709551616 + xs.getD n 0) / d : Nat) : Int) = ints (List.replicate n 0 ++ ((r * 18446744073709551616 + xs.getD n 0) / d) :: Q) := by
      have : List.replicate (n + 1) 0 ++ Q = List.replicate n 0 ++ 0 :: Q := by rw [List.replicate_succ']; simp
      rw [this, ints_append, ints_append]
      have := set_split (ints (List.replicate n 0)) 0 (((r * 18446744073709551616 + xs.getD n 0) / d : Nat) : Int) (ints Q)
      rw [ints_length, List.length_replicate] at this
      exact this
    rw [hset] at b3
    have enext : IntKind.i64.wrap (((n + 1 : Nat) : Int) - 1 - 1) = ((n : Int) - 1) := by rw [hsub]; exact IntWalk.i64_in _ (by omega)
    refine ⟨rfl, (n, (r * 18446744073709551616 + xs.getD n 0) % d, ((r * 18446744073709551616 + xs.getD n 0) / d) :: Q), ⟨⟨congrArg (Value.int .i64) enext, rfl, trivial⟩, by show n ≤ l; omega, b3, by simp; omega, ?_, Nat.mod_lt _ hd0, ?_, ?_⟩, by show n < n + 1; omega⟩
    · intro x hx'
      rcases List.mem_cons.1 hx' with rfl | hx'
      · exact hq
      · exact h4 x hx'
    · show val (xs.drop n) = val (_ :: Q) * d + _
      rw [val_drop (by omega), h6]
      exact small_arith (Nat.div_add_mod (r * 18446744073709551616 + xs.getD n 0) d)
    · exact Chg.below (((Chg.of_below (s := fun _ => False) h7).thenB g2 h7.size).thenC c3 (Nat.le_trans h7.size g2.size) (fun k hk e => absurd e (by omega)))
  · have hm : m = 0 := by omega
    subst hm
    rw [List.replicate_zero, List.nil_append] at h2
    have hQ : Q.length = l := by omega
    refine CallP.intro (trim_spec (xs := Q) h2.row hQ.symm (Nat.le_refl _) hs) ?_
    rintro e w4 ⟨a', rfl, q1, q2, hw⟩
    have hw := hw.symm
    subst hw
    refine ⟨_, rfl, rfl, Q, r, a', _, rfl, q1, ?_, h4, hQ, h5, by rw [List.drop_zero] at h6; exact h6, h7⟩
    intro p hp
    obtain ⟨q, e1, e2⟩ := q2 p hp
    cases e1
    exact Nat.le_of_eq e2
end Go.Proofs.YthghiokcinpnlaaDoor
