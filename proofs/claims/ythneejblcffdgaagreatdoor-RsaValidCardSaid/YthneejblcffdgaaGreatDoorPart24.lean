/- Texts of this proof, one behind the other: Rb8 Rb9 Rb10 Rb11. -/
import Derived.Test.YthneejblcffdgaaGreatDoorPart23
namespace Go.Proofs.YthneejblcffdgaaGreatDoor
open Go Go.Ev Go.RowKit
set_option maxRecDepth 20000
set_option linter.unusedVariables false
set_option linter.unusedSimpArgs false

/-! ### the long division to the base 2^32: plain -/
theorem vd_take_all {xs : List Nat} {p : Nat} (h : vd xs < B32 ^ p) : vd (xs.take p) = vd xs := by
  rcases Nat.lt_or_ge p xs.length with hp | hp
  · have h1 := vd_split xs p (by omega)
    rcases Nat.eq_zero_or_pos (vd (xs.drop p)) with h0 | h0
    · rw [h0, Nat.mul_zero, Nat.add_zero] at h1; exact h1.symm
    · have := Nat.le_mul_of_pos_right (B32 ^ p) h0; omega
  · rw [List.take_of_length_le hp]
theorem vd_drop_zero {xs : List Nat} {p : Nat} (h : vd xs < B32 ^ p) : vd (xs.drop p) = 0 := by
  rcases Nat.lt_or_ge p xs.length with hp | hp
  · have h1 := vd_split xs p (by omega)
    rcases Nat.eq_zero_or_pos (vd (xs.drop p)) with h0 | h0
    · exact h0
    · have := Nat.le_mul_of_pos_right (B32 ^ p) h0; omega
  · rw [List.drop_of_length_le hp]; rfl
/-- the first guess is not too small. -/
theorem guess_ge {P V q u1 u2 top B' low : Nat} (hP : P = (u1 * B32 + u2) * B' + low) (hlow : low < B') (hV : top * B' ≤ V) (hq : q * V ≤ P) (ht : 0 < top) : q ≤ (u1 * B32 + u2) / top := by
  rw [Nat.le_div_iff_mul_le ht]
  have h1 : q * top * B' ≤ q * V := by rw [Nat.mul_assoc]; exact Nat.mul_le_mul_left _ hV
  generalize u1 * B32 + u2 = N at *
  rcases Nat.lt_or_ge N (q * top) with h | h
  · have h2 : (N + 1) * B' ≤ q * top * B' := Nat.mul_le_mul_right _ h
    rw [Nat.add_mul, Nat.one_mul] at h2
    omega
  · exact h
theorem scale_ok {m top B' : Nat} (h1 : top * B' ≤ m) (h2 : m < (top + 1) * B') (ht : 0 < top) (ht2 : top < B32) :
    0 < B32 / (top + 1) ∧ B32 / (top + 1) < B32 ∧ m * (B32 / (top + 1)) < B32 * B' := by
  have hd := Nat.div_mul_le_self B32 (top + 1)
  refine ⟨Nat.div_pos ht2 (by omega), Nat.div_lt_self (by decide) (by omega), ?_⟩
  have hs : 0 < B32 / (top + 1) := Nat.div_pos ht2 (by omega)
  generalize B32 / (top + 1) = s at *
  have h3 : m * s < (top + 1) * B' * s := (Nat.mul_lt_mul_right hs).2 h2
  have h4 : (top + 1) * B' * s = s * (top + 1) * B' := by ac_rfl
  rw [h4] at h3
  exact Nat.lt_of_lt_of_le h3 (Nat.mul_le_mul_right _ hd)
/-- the top digit of a number. -/
theorem top_dig {m l : Nat} (hl : (digs m).length = l + 1) : B32 ^ l ≤ m ∧ (digs m).getD l 0 * B32 ^ l ≤ m ∧ m < ((digs m).getD l 0 + 1) * B32 ^ l ∧ 0 < (digs m).getD l 0 ∧ (digs m).getD l 0 < B32 := by
  have hD := digs_digs m
  have hv := vd_digs m
  have hz := digs_nz m
  generalize digs m = X at *
  have hx := hD.getD l
  have h1 := vd_take_succ' X l
  rw [List.take_of_length_le (by omega), hv] at h1
  have h2 : vd (X.take l) < B32 ^ l := Nat.lt_of_lt_of_le (vd_lt (hD.take l)) (Nat.pow_le_pow_right (by decide) (by simp; omega))
  have h0 : X.getD l 0 ≠ 0 := by
    rcases hz with hz | hz
    · rw [hz] at hl; cases hl
    · rwa [hl] at hz
  generalize X.getD l 0 = t at *
  have h3 : B32 ^ l * 1 ≤ B32 ^ l * t := Nat.mul_le_mul_left _ (by omega)
  refine ⟨by omega, by rw [Nat.mul_comm]; omega, by rw [Nat.add_mul, Nat.mul_comm t]; omega, by omega, hx⟩
theorem rquo_end {A V s n m q r : Nat} (hA : A = V * q + r) (hr : r < V) (h1 : A = n * s) (h2 : V = m * s) (hs : 0 < s) : q = n / m ∧ r / s = n % m := by
  have hq : q = A / V := by
    rw [hA, Nat.mul_add_div (by omega), Nat.div_eq_of_lt hr, Nat.add_zero]
  have hr2 : r = A % V := by rw [hA, Nat.mul_add_mod, Nat.mod_eq_of_lt hr]
  rw [h1, h2] at hq hr2
  rw [Nat.mul_div_mul_right _ _ hs] at hq
  rw [Nat.mul_mod_mul_right] at hr2
  exact ⟨hq, by rw [hr2, Nat.mul_div_cancel _ hs]⟩
/-- one digit. -/
theorem quo_dig {U U0 Q d : List Nat} {k n Vv qt : Nat} (hUk : k < U.length) (hl : U0.length = U.length) (ht : U.take (k + 1) = U0.take (k + 1)) (hlt : vd (U.drop (k + 1)) < Vv) (hVn : Vv ≤ B32 ^ n) (hv : vd (U0.drop (k + 1)) = Vv * vd Q + vd (U.drop (k + 1)))
    (hDU : Dig U) (hdl : d.length = n + 1) (hd : vd d + qt * Vv = vd ((U.drop k).take (n + 1))) (hkn : k + (n + 1) ≤ U.length) :
    vd ((U.drop k).take (n + 1)) < B32 * Vv ∧ vd ((U.take k ++ d ++ U.drop (k + (n + 1))).drop k) = vd d ∧ (U.take k ++ d ++ U.drop (k + (n + 1))).take k = U0.take k ∧ vd (U0.drop k) = Vv * vd (qt :: Q) + vd d := by
  have hu := hDU.getD k
  have h1 := vd_drop_getD U k hUk
  have h2 := vd_drop_getD U0 k (by omega)
  have hB : vd (U.drop k) < B32 * Vv := by
    have : B32 * (vd (U.drop (k + 1)) + 1) ≤ B32 * Vv := Nat.mul_le_mul_left _ hlt
    rw [Nat.mul_add, Nat.mul_one] at this
    have hu : U.getD k 0 < B32 := hu
    omega
  have hP : vd (U.drop k) < B32 ^ (n + 1) := by
    rw [Nat.pow_succ, Nat.mul_comm]
    exact Nat.lt_of_lt_of_le hB (Nat.mul_le_mul_left _ hVn)
  have h3 := vd_take_all hP
  have h4 := vd_drop_zero hP
  have hk1 : (U.take k).length = k := by rw [List.length_take]; omega
  have hg : U0.getD k 0 = U.getD k 0 := by
    have := congrArg (fun l => l.getD k 0) ht
    simp only [List.getD_eq_getElem?_getD, List.getElem?_take_of_lt (Nat.lt_succ_self k)] at this ⊢
    exact this.symm
  refine ⟨by rw [h3]; exact hB, ?_, ?_, ?_⟩
  · rw [List.append_assoc, List.drop_append_of_le_length (by omega), List.drop_of_length_le (by omega), List.nil_append, vd_append, ← List.drop_drop, h4, Nat.mul_zero, Nat.add_zero]
  · rw [List.append_assoc, List.take_append_of_le_length (by omega), List.take_of_length_le (by omega)]
    have := congrArg (List.take k) ht
    rwa [List.take_take, List.take_take, Nat.min_eq_left (Nat.le_succ k)] at this
  · rw [h2, hv, hg, vd_cons, Nat.mul_add, Nat.mul_add Vv, Nat.mul_comm Vv qt, Nat.mul_left_comm Vv B32]
    rw [h3, h1] at hd
    omega
end Go.Proofs.YthneejblcffdgaaGreatDoor

namespace Go.Proofs.YthneejblcffdgaaGreatDoor
open Go Go.Ev Go.RowKit
set_option maxRecDepth 20000
set_option linter.unusedVariables false
set_option linter.unusedSimpArgs false

/-! ### baileyref1: Quo -/
theorem quo_pre {U : List Nat} {k n' Vv : Nat} (hUk : k < U.length) (hlt : vd (U.drop (k + 1)) < Vv) (hVn : Vv ≤ B32 ^ (n' + 1)) (hDU : Dig U) :
    vd ((U.drop k).take (n' + 1 + 1)) < B32 * Vv ∧ vd ((U.drop k).take (n' + 1 + 1)) = (U.getD (k + (n' + 1)) 0 * B32 + U.getD (k + n') 0) * B32 ^ n' + vd ((U.drop k).take n') ∧ vd ((U.drop k).take n') < B32 ^ n' := by
  have hu := hDU.getD k
  have h1 := vd_drop_getD U k hUk
  have hB : vd (U.drop k) < B32 * Vv := by
    have : B32 * (vd (U.drop (k + 1)) + 1) ≤ B32 * Vv := Nat.mul_le_mul_left _ hlt
    rw [Nat.mul_add, Nat.mul_one] at this
    have hu : U.getD k 0 < B32 := hu
    omega
  have hP : vd (U.drop k) < B32 ^ (n' + 1 + 1) := by
    rw [Nat.pow_succ, Nat.mul_comm]
    exact Nat.lt_of_lt_of_le hB (Nat.mul_le_mul_left _ hVn)
  refine ⟨by rw [vd_take_all hP]; exact hB, ?_, Nat.lt_of_lt_of_le (vd_lt ((hDU.drop k).take n')) (Nat.pow_le_pow_right (by decide) (by simp; omega))⟩
  rw [vd_take_succ', vd_take_succ', drop_getD, drop_getD, Nat.pow_succ, Nat.add_mul]
  generalize U.getD (k + (n' + 1)) 0 = x
  generalize U.getD (k + n') 0 = y
  rw [Nat.mul_comm y, show B32 ^ n' * B32 * x = x * B32 * B32 ^ n' by ac_rfl]
  omega
theorem DigN.pos {w : World} {a : Option Addr} {l c n : Nat} (h : DigN w a l c n) (h0 : 0 < n) : 0 < l := by
  rcases Nat.eq_zero_or_pos l with h1 | h1
  · have := digs_len0 (n := n) (by rw [← h.2.1]; exact h1)
    omega
  · exact h1
set_option maxHeartbeats 4000000 in
theorem rquo_spec {a b : Option Addr} {l c l2 c2 n m : Nat} {w : World} (ha : DigN w a l c n) (hb : DigN w b l2 c2 m) (hm : 0 < m) (hl : l ≤ 500) :
    Calls Tryz.prog 54 #[.slice a l c, .slice b l2 c2] w fun e w' => ∃ qa ql qc ra rl rc, e = .returned (.tuple #[.slice qa ql qc, .slice ra rl rc]) ∧ DigN w' qa ql qc (n / m) ∧ DigN w' ra rl rc (n % m) ∧ Below w.heap.size w w' := by
  refine calls_of_ev tysOk extsOk Tryz.func54 rfl rfl rfl ?_
  refine CallP.intro (rcmp_spec ha hb) ?_
  rintro e w1 ⟨rfl, b1⟩
  refine ⟨_, rfl, ?_⟩
  refine IfP.dec (fun hlt => ?_) (fun hge => ?_)
  · have hnm : n < m := by
      rcases Nat.lt_or_ge n m with h | h
      · exact h
      · exact absurd hlt (by have := (cmpV_ge n m).2 h; omega)
    refine ⟨rfl, none, 0, 0, a, l, c, rfl, ?_, ?_, b1⟩
    · rw [Nat.div_eq_of_lt hnm]; exact DigN.nil _ _ _
    · rw [Nat.mod_eq_of_lt hnm]; exact ha.below b1
  have hmn : m ≤ n := (cmpV_ge n m).1 (by omega)
  have ha1 := ha.below b1
  have hb1 := hb.below b1
  have hl2p := hb.pos hm
  have hl21 : l2 ≤ l := by rw [ha.2.1, hb.2.1]; exact digs_mono hmn
  have hDm := digs_digs m
  refine IfP.beq (fun h1 => ?_) (fun h1 => ?_)
  · have h1 : l2 = 1 := Int.ofNat_inj.1 h1
    obtain ⟨t1, t2, t3, t4, t5⟩ := top_dig (m := m) (l := 0) (by rw [← hb.2.1, h1])
    have hmd : (digs m).getD 0 0 = m := by
      have := vd_digs m
      rw [← vd_take_all (p := 1) (xs := digs m) (by rw [this, Nat.pow_one]; have := hb.lt; rw [h1, Nat.pow_one] at this; exact this)] at this
      rw [vd_take_succ'] at this
      simpa [vd] using this
    rw [hmd] at t5
    refine IdxP.ldN 0 rfl hb1.1 hb.2.1 hl2p fun _ _ _ => ?_
    rw [hmd]
    refine CallP.intro (rsmall_spec ha1.s hm t5) ?_
    rintro e w2 ⟨qa, rfl, g1, g2⟩
    refine ⟨_, rfl, ?_⟩
    have hr64 : n % m < B32 := Nat.lt_trans (Nat.mod_lt _ hm) t5
    have hA := al_below w2 ((n % m : Nat) : Int)
    have hN := al_num w2 (x := n % m) (Nat.lt_trans hr64 (by decide))
    have hS : DigS (al w2 ((n % m : Nat) : Int)) (some ⟨w2.heap.size, 0, none⟩) 1 1 (n % m) := by
      have hB := Blk.newA w2 (#[.int .u64 ((n % m : Nat) : Int)] : Array Value) 34
      refine ⟨[n % m], ?_, ?_, rfl, Nat.le_refl _, by decide, by simp [vd]⟩
      · exact Row.of_blk 0 hB (by
          intro i hi
          have hi0 : i = 0 := by simp [ints] at hi; omega
          subst hi0; rfl)
      · intro y hy
        rw [List.mem_singleton.1 hy]; exact hr64
    refine CallP.intro (rtrim_spec hS) ?_
    rintro e w3 ⟨rfl, g3, hw⟩
    subst hw
    refine ⟨_, rfl, ?_⟩
    have b2 := b1.trans (g2.mono b1.size)
    exact ⟨rfl, qa, _, _, _, _, _, rfl, g1.below hA, g3, b2.trans (hA.mono b2.size)⟩
  have h1 : 2 ≤ l2 := by
    have : ¬ l2 = 1 := fun h => h1 (by rw [h]; rfl)
    omega
  obtain ⟨l2', rfl⟩ : ∃ k, l2 = k + 1 := ⟨l2 - 1, by omega⟩
  obtain ⟨t1, t2, t3, t4, t5⟩ := top_dig (m := m) (l := l2') (by rw [← hb.2.1])
  have e41 : IntKind.i64.wrap (((l2' + 1 : Nat) : Int) - 1) = (l2' : Int) := by
    rw [show (((l2' + 1 : Nat) : Int) - 1) = (l2' : Int) by omega]; exact i64_of _ (by have := hb.2.2.2; omega)
  refine IdxP.ldN l2' e41 hb1.1 hb.2.1 (by omega) fun _ _ _ => ?_
  obtain ⟨top, htop⟩ : ∃ top, top = (digs m).getD l2' 0 := ⟨_, rfl⟩
  rw [← htop] at t2 t3 t4 t5 ⊢
  obtain ⟨sc1, sc2, sc3⟩ := scale_ok t2 t3 t4 t5
  have e44 : IntKind.u64.wrap ((top : Int) + 1) = ((top + 1 : Nat) : Int) := wrapAdd (a := top) (b := 1) (by have t5 : top < 4294967296 := t5; show _ < 18446744073709551616; omega)
  have e45 : IntKind.u64.wrap ((4294967296 : Int).tdiv (IntKind.u64.wrap ((top : Int) + 1))) = ((B32 / (top + 1) : Nat) : Int) := by
    rw [e44, show (4294967296 : Int) = ((B32 : Nat) : Int) from rfl, ← Int.ofNat_tdiv]; exact u64_of _ (Nat.lt_trans sc2 (by decide))
  refine ChkP.go (by rw [e44]; omega) ?_
  rw [e45]
  generalize B32 / (top + 1) = scale at sc1 sc2 sc3
  clear e44 e45
  refine CallP.intro (rtimes_spec ha1.s sc2 hl) ?_
  rintro e w2 ⟨U0, rfl, u1, u2, u3, u4, u5⟩
  refine ⟨_, rfl, ?_⟩
  have hb2 := hb1.below u5
  refine CallP.intro (rtimes_spec hb2.s sc2 (by omega)) ?_
  rintro e w3 ⟨D, rfl, d1, d2, d3, d4, d5⟩
  refine ⟨_, rfl, ?_⟩
  have hpow : B32 * B32 ^ l2' = B32 ^ (l2' + 1) := by rw [Nat.pow_succ, Nat.mul_comm]
  rw [hpow] at sc3
  have hms : m ≤ m * scale := Nat.le_mul_of_pos_right _ sc1
  have hnl : (digs (m * scale)).length = l2' + 1 := by
    have h1 := digs_len_le sc3
    have h2 := digs_mono hms
    have h3 := hb.2.1
    omega
  have hl2b := hb.2.2.2
  refine CallP.intro (rtrim_spec (n := m * scale) (l := l2' + 1 + 1) (c := l2' + 1 + 1) ⟨D, d1.nrow, d3, d2.symm, Nat.le_refl _, by omega, d4⟩) ?_
  rintro e w4 ⟨rfl, d6, hw⟩
  have hw := hw.symm
  subst hw
  refine ⟨_, rfl, ?_⟩
  rw [hnl] at d6 ⊢
  have hVr := d6.1
  have hVl := hnl
  have hDV := digs_digs (m * scale)
  have hvV := vd_digs (m * scale)
  obtain ⟨_, t2', _, t4', t5'⟩ := top_dig (m := m * scale) (l := l2') hnl
  generalize digs (m * scale) = V at hVr hVl hDV hvV t2' t4' t5'
  have hub := u1.lt
  have hu2 : w1.heap.size < w2.heap.size := u1.lt
  have hd2 : w2.heap.size < w3.heap.size := d1.lt
  have u13 := Buf.below u1 d5
  have e58 : IntKind.i64.wrap (((l + 1 : Nat) : Int) - ((l2' + 1 : Nat) : Int)) = ((l - l2' : Nat) : Int) := by
    rw [show (((l + 1 : Nat) : Int) - ((l2' + 1 : Nat) : Int)) = ((l - l2' : Nat) : Int) by omega]; exact i64_of _ (by omega)
  refine Mk.toN (l - l2') e58 e58 (by omega) fun w5 m5 b5 s5 => ?_
  have e61 : IntKind.i64.wrap (((l2' + 1 : Nat) : Int) + 1) = ((l2' + 1 + 1 : Nat) : Int) := IntWalk.i64_in _ (by omega)
  refine Mk.toN (l2' + 1 + 1) e61 e61 (by omega) fun w6 m6 b6 s6 => ?_
  have hs5 := b5.size
  have hs6 := b6.size
  have hw5 : w3.heap.size < w5.heap.size := m5.lt
  have hw6 : w5.heap.size < w6.heap.size := m6.lt
  have m56 := Buf.below m5 b6
  have u16 := Buf.below (Buf.below u13 b5) b6
  have hV6 : NRow w6 (some ⟨w2.heap.size, 0, none⟩) V := Row.below (Row.below hVr b5) b6
  have bW3 : Below w.heap.size w w3 := by
    have t := b1.trans (u5.mono b1.size)
    exact t.trans (d5.mono t.size)
  have bW6 : Below w.heap.size w w6 := by
    have t := bW3.trans (b5.mono bW3.size)
    exact t.trans (b6.mono t.size)
  have z1 := b1.size
  have e67 : IntKind.i64.wrap (IntKind.i64.wrap (((l + 1 : Nat) : Int) - ((l2' + 1 : Nat) : Int)) - 1) = ((l - l2' : Nat) : Int) - 1 := by
    rw [e58]; exact IntWalk.i64_in _ (by omega)
  have hVn : m * scale ≤ B32 ^ (l2' + 1) := Nat.le_of_lt sc3
  have hAlt : vd (U0.drop (l - l2')) < m * scale := by
    rw [vd_div _ u3, u4, Nat.div_lt_iff_lt_mul (B32_pos _)]
    have h2 : n * scale < B32 ^ l * scale := (Nat.mul_lt_mul_right sc1).2 ha.lt
    have h3 : B32 ^ l * scale ≤ m * scale * B32 ^ (l - l2') := by
      have h4 : B32 ^ l = B32 ^ l2' * B32 ^ (l - l2') := by rw [← Nat.pow_add]; congr 1; omega
      rw [h4, Nat.mul_right_comm]
      exact Nat.mul_le_mul_right _ (Nat.mul_le_mul_right _ t1)
    omega
  refine LoopP.go (S := Nat) 324518553658131578877976667799552 (by kernel_rfl) (fun k1 => [(14, .int .i64 ((k1 : Int) - 1))])
    (fun k1 W => k1 ≤ l - l2' ∧ Chg w6.heap.size (fun q => q = w1.heap.size ∨ q = w3.heap.size ∨ q = w5.heap.size) w6 W ∧ ∃ U Q Wl, U.length = l + 1 ∧ Dig U ∧ NBuf W w1.heap.size U (l + 1) ∧ Q.length = l - l2' - k1 ∧ Dig Q ∧ NBuf W w3.heap.size (List.replicate k1 0 ++ Q) (l - l2') ∧ Wl.length = l2' + 1 + 1 ∧ NBuf W w5.heap.size Wl (l2' + 1 + 1) ∧
      vd (U.drop k1) < m * scale ∧ U.take k1 = U0.take k1 ∧ vd (U0.drop k1) = m * scale * vd Q + vd (U.drop k1)) (fun k1 => k1) (l - l2') ⟨congrArg (Value.int .i64) e67, trivial⟩
    ⟨Nat.le_refl _, Chg.refl _ _ _, U0, [], _, u2, u3, u16, by simp, (fun x hx => by cases hx), by rw [List.append_nil]; exact m56, by simp, m6, hAlt, rfl, by simp [vd]⟩ ?_
  rintro k1 j W ⟨i1, i2, U, Q, Wl, i3, i4, i5, i6, i7, i8, i9, i10, i11, i12, i13⟩
  refine IfP.dec (fun hge => ?_) (fun hlt => ?_)
  · have hge : ((k1 : Int) - 1) ≥ 0 := hge
    obtain ⟨k, rfl⟩ : ∃ k, k1 = k + 1 := ⟨k1 - 1, by omega⟩
    have hsub : (((k + 1 : Nat) : Int) - 1) = (k : Int) := by omega
    have e75 : IntKind.i64.wrap ((((k + 1 : Nat) : Int) - 1) + ((l2' + 1 : Nat) : Int)) = ((k + (l2' + 1) : Nat) : Int) := by rw [hsub]; exact wrapAddI (by omega)
    have e83 : IntKind.i64.wrap (IntKind.i64.wrap ((((k + 1 : Nat) : Int) - 1) + ((l2' + 1 : Nat) : Int)) - 1) = ((k + l2' : Nat) : Int) := by
      rw [e75, show (((k + (l2' + 1) : Nat) : Int) - 1) = ((k + l2' : Nat) : Int) by omega]; exact i64_of _ (by omega)
    have hVW : NRow W (some ⟨w2.heap.size, 0, none⟩) V := hV6.chg i2 (fun p hp => by cases hp; show ¬ (w2.heap.size = w1.heap.size ∨ w2.heap.size = w3.heap.size ∨ w2.heap.size = w5.heap.size); omega)
    refine DrawP.still tysOk extsOk mixed (by kernel_rfl) rfl ?_
    refine IdxP.ldN (k + (l2' + 1)) e75 (Row.drw i5.nrow) i3.symm (by omega) fun _ _ _ => ?_
    refine IdxP.ldN (k + l2') e83 (Row.drw i5.nrow) i3.symm (by omega) fun _ _ _ => ?_
    refine IdxP.ldN l2' e41 (Row.drw hVW) hVl.symm (by omega) fun _ _ _ => ?_
    obtain ⟨p1, p2, p3⟩ := quo_pre (k := k) (n' := l2') (by omega) i11 hVn i4
    have hvp : 0 < m * scale := Nat.mul_pos hm sc1
    obtain ⟨P, hPdef⟩ : ∃ P, P = vd ((U.drop k).take (l2' + 1 + 1)) := ⟨_, rfl⟩
    rw [← hPdef] at p1 p2
    obtain ⟨qt, hqt⟩ : ∃ qt, qt = P / (m * scale) := ⟨_, rfl⟩
    have hq1 : qt * (m * scale) ≤ P := by rw [hqt]; exact Nat.div_mul_le_self _ _
    have hq2 : P < (qt + 1) * (m * scale) := by rw [hqt, Nat.mul_comm]; exact Nat.lt_mul_div_succ _ hvp
    have hq3 : qt < B32 := by rw [hqt]; exact (Nat.div_lt_iff_lt_mul hvp).2 p1
    have hx1 := i4.getD (k + (l2' + 1))
    have hx2 := i4.getD (k + l2')
    have hgge := guess_ge p2 p3 t2' hq1 t4'
    generalize U.getD (k + (l2' + 1)) 0 = x1 at *
    generalize U.getD (k + l2') 0 = x2 at *
    generalize V.getD l2' 0 = topv at *
    have hN64 : x1 * B32 + x2 < B64 := by
      have : x1 * 4294967296 ≤ 4294967295 * 4294967296 := Nat.mul_le_mul_right _ (by omega)
      show x1 * 4294967296 + x2 < 18446744073709551616
      omega
    have hN64' : x1 * B32 < B64 := Nat.lt_of_le_of_lt (Nat.le_add_right _ _) hN64
    have eN : IntKind.u64.wrap (IntKind.u64.wrap ((x1 : Int) * 4294967296) + (x2 : Int)) = ((x1 * B32 + x2 : Nat) : Int) := by
      rw [show (4294967296 : Int) = ((B32 : Nat) : Int) from rfl, wrapMulN hN64', wrapAdd hN64]
    have hg64 : (x1 * B32 + x2) / topv < B64 := Nat.lt_of_le_of_lt (Nat.div_le_self _ _) hN64
    have eG : IntKind.u64.wrap ((IntKind.u64.wrap (IntKind.u64.wrap ((x1 : Int) * 4294967296) + (x2 : Int))).tdiv (topv : Int)) = (((x1 * B32 + x2) / topv : Nat) : Int) := by
      rw [eN, ← Int.ofNat_tdiv]; exact u64_of _ hg64
    refine ChkP.go (by omega) ?_
    obtain ⟨g1, hg1⟩ : ∃ g1, g1 = if (x1 * B32 + x2) / topv ≥ 4294967296 then 4294967295 else (x1 * B32 + x2) / topv := ⟨_, rfl⟩
    have hg1q : qt ≤ g1 := by
      rw [hg1]; split
      · have hq3 : qt < 4294967296 := hq3; omega
      · exact hgge
    have hg1b : g1 < 4294967296 := by
      rw [hg1]; split
      · decide
      · omega
    have hsl1 : (x1 * B32 + x2) / topv ≥ 4294967296 → Value.int .u64 4294967295 = Value.int .u64 (g1 : Int) := fun h => by rw [hg1, if_pos h]; rfl
    have hsl2 : ¬ ((x1 * B32 + x2) / topv ≥ 4294967296) → Value.int .u64 (IntKind.u64.wrap ((IntKind.u64.wrap (IntKind.u64.wrap ((x1 : Int) * 4294967296) + (x2 : Int))).tdiv (topv : Int))) = Value.int .u64 (g1 : Int) := fun h => by rw [eG, hg1, if_neg h]
    have i5d := Buf.drw i5
    have i10d := Buf.drw i10
    have i8d := Buf.drw i8
    have i2d := i2.drw
    have hWs := i2.size
    generalize ({ W with drawn := W.drawn + 1 } : World) = Wd at i5d i10d i8d i2d ⊢
    have hWd := i2d.size
    have hslA : IntKind.u64.wrap ((IntKind.u64.wrap (IntKind.u64.wrap ((x1 : Int) * 4294967296) + (x2 : Int))).tdiv (topv : Int)) ≥ 4294967296 → Value.int .u64 4294967295 = Value.int .u64 (g1 : Int) := fun h => hsl1 (by rw [eG] at h; omega)
    have hslB : ¬ IntKind.u64.wrap ((IntKind.u64.wrap (IntKind.u64.wrap ((x1 : Int) * 4294967296) + (x2 : Int))).tdiv (topv : Int)) ≥ 4294967296 → Value.int .u64 (IntKind.u64.wrap ((IntKind.u64.wrap (IntKind.u64.wrap ((x1 : Int) * 4294967296) + (x2 : Int))).tdiv (topv : Int))) = Value.int .u64 (g1 : Int) := fun h => hsl2 (fun h2 => h (by rw [eG]; omega))
    have hVd : NRow Wd (some ⟨w2.heap.size, 0, none⟩) V := hV6.chg i2d (fun p hp => by cases hp; show ¬ (w2.heap.size = w1.heap.size ∨ w2.heap.size = w3.heap.size ∨ w2.heap.size = w5.heap.size); omega)
    have e71 : IntKind.i64.wrap (((k + 1 : Nat) : Int) - 1 - 1) = (k : Int) - 1 := by rw [hsub]; exact IntWalk.i64_in _ (by omega)
    refine IfP.dec (fun hA => ?_) (fun hA => ?_)
    refine LoopP.go (S := Nat) 20242795522394538255150479343616 (by kernel_rfl) (fun g => [(15, .int .u64 (g : Nat))])
      (fun g V' => qt ≤ g ∧ g < 4294967296 ∧ Chg Wd.heap.size (fun q => q = w1.heap.size ∨ q = w5.heap.size) Wd V' ∧ NBuf V' w1.heap.size U (l + 1) ∧ ∃ Wl', Wl'.length = l2' + 1 + 1 ∧ NBuf V' w5.heap.size Wl' (l2' + 1 + 1)) (fun g => g) g1 ⟨hslA hA, trivial⟩ ⟨hg1q, hg1b, Chg.refl _ _ _, i5d, Wl, i9, i10d⟩ ?_
    rotate_left
    refine LoopP.go (S := Nat) 20242795522394538255150479343616 (by kernel_rfl) (fun g => [(15, .int .u64 (g : Nat))])
      (fun g V' => qt ≤ g ∧ g < 4294967296 ∧ Chg Wd.heap.size (fun q => q = w1.heap.size ∨ q = w5.heap.size) Wd V' ∧ NBuf V' w1.heap.size U (l + 1) ∧ ∃ Wl', Wl'.length = l2' + 1 + 1 ∧ NBuf V' w5.heap.size Wl' (l2' + 1 + 1)) (fun g => g) g1 ⟨hslB hA, trivial⟩ ⟨hg1q, hg1b, Chg.refl _ _ _, i5d, Wl, i9, i10d⟩ ?_
    all_goals
      clear hA hslA hslB hsl1 hsl2 hg1 eN eG hN64 hN64' hg64 hgge e58 e61 e67 e75 e83 p2 p3 hAlt
      rintro g j2 V' ⟨v1, v2, v3, v4, Wl', v5, v6⟩
      have hVV : NRow V' (some ⟨w2.heap.size, 0, none⟩) V := hVd.chg v3 (fun p hp => by cases hp; show ¬ (w2.heap.size = w1.heap.size ∨ w2.heap.size = w5.heap.size); omega)
      have vz := v3.size
      refine CallP.intro (rless_specI (n := l2' + 1) (k := k) hsub v4 i3 (by omega) i4 (Nat.le_refl _) hVV hVl hDV (fun p hp => by cases hp; show w2.heap.size ≠ w5.heap.size ∧ w2.heap.size ≠ w1.heap.size; omega) v6 v5 (by omega) (by omega) v2) ?_
      rw [← hPdef, hvV]
      rintro e V2 ⟨W2, r1, r2, r3, (⟨r4, rfl, d, r5, r6, r7, r8⟩ | ⟨r4, rfl, r8⟩)⟩
      · refine ⟨_, rfl, ?_⟩
        refine IfP.no ?_
        have hgq : g = qt := by
          rcases Nat.lt_or_ge qt g with h | h
          · have := Nat.mul_le_mul_right (m * scale) (show qt + 1 ≤ g from h)
            omega
          · omega
        subst hgq
        rw [Nat.add_mul, Nat.one_mul] at hq2
        have q2 := (i8d.chg v3 (by omega) (by omega)).chg r3 (by omega) (by omega)
        refine IdxP.toE k g rfl hsub q2 (by omega) (by simp; omega) fun V3 f1 f2 f3 => ?_
        rw [zeros_set] at f1
        obtain ⟨y1, y2, y3, y4⟩ := quo_dig (n := l2' + 1) (d := d) (qt := g) (by omega) (by omega) i12 i11 hVn i13 i4 r5 (by rw [r7, hPdef]) (by omega)
        have rz := r3.size
        have u3 : NBuf V3 w1.heap.size (U.take k ++ d ++ U.drop (k + (l2' + 1 + 1))) (l + 1) := r8.chg f2 (by omega) (by omega)
        have w53 : NBuf V3 w5.heap.size W2 (l2' + 1 + 1) := r2.chg f2 (by omega) (by omega)
        refine ⟨rfl, k, ⟨⟨congrArg (Value.int .i64) e71, trivial⟩, by omega, ?_, U.take k ++ d ++ U.drop (k + (l2' + 1 + 1)), g :: Q, W2, ?_, ?_, u3, ?_, ?_, f1, r1, w53, ?_, y3, ?_⟩, Nat.lt_succ_self _⟩
        · exact (((i2d.thenC v3 hWd (fun q _ h => h.elim .inl (fun h => .inr (.inr h)))).thenC r3 (by omega) (fun q _ h => h.elim .inl (fun h => .inr (.inr h))))).thenC f2 (by omega) (fun q _ h => .inr (.inl h))
        · simp only [List.length_append, List.length_take, List.length_drop]; omega
        · intro y hy
          rcases List.mem_append.1 hy with hy | hy
          · rcases List.mem_append.1 hy with hy | hy
            · exact i4 y (List.mem_of_mem_take hy)
            · exact r6 y hy
          · exact i4 y (List.mem_of_mem_drop hy)
        · simp only [List.length_cons]; omega
        · intro y hy
          rcases List.mem_cons.1 hy with rfl | hy
          · exact v2
          · exact i7 y hy
        · rw [y2]; omega
        · rw [y2]; exact y4
      · refine ⟨_, rfl, ?_⟩
        refine IfP.yes ?_
        have hgt : qt < g := by
          rcases Nat.lt_or_ge qt g with h | h
          · exact h
          · have := Nat.mul_le_mul_right (m * scale) h
            omega
        have e103 : IntKind.u64.wrap ((g : Int) - 1) = ((g - 1 : Nat) : Int) := by
          rw [show ((g : Int) - 1) = ((g - 1 : Nat) : Int) by omega]; exact u64_of _ (by omega)
        exact ⟨rfl, g - 1, ⟨⟨congrArg (Value.int .u64) e103, trivial⟩, by omega, by omega, v3.thenC r3 v3.size (fun _ _ h => h), r8, W2, r1, r2⟩, by omega⟩
  · have hk0 : k1 = 0 := by have hlt : ¬ ((k1 : Int) - 1 ≥ 0) := hlt; omega
    subst hk0
    rw [List.drop_zero] at i11
    rw [List.drop_zero, List.drop_zero, u4] at i13
    obtain ⟨q1, q2⟩ := rquo_end i13 i11 rfl rfl sc1
    rw [show List.replicate 0 0 ++ Q = Q from rfl] at i8
    have bW : Below w.heap.size w W := Chg.below ((Chg.of_below (s := fun _ => False) bW6).thenC i2 bW6.size (fun q hq e => by omega))
    refine CallP.intro (rtrim_spec (l := l + 1) (c := l + 1) ⟨U, i5.nrow, i4, i3.symm, Nat.le_refl _, by omega, rfl⟩) ?_
    rintro e w7 ⟨rfl, g1, hw⟩
    have hw := hw.symm
    subst hw
    refine ⟨_, rfl, ?_⟩
    refine CallP.intro (rsmall_spec g1.s sc1 sc2) ?_
    rintro e w8 ⟨ra, rfl, g2, g3⟩
    refine ⟨_, rfl, ?_⟩
    rw [q2] at g2
    refine CallP.intro (rtrim_spec (l := l - l2') (c := l - l2') ⟨Q, NBuf.nrow (Buf.below i8 g3), i7, by omega, Nat.le_refl _, by omega, q1⟩) ?_
    rintro e w9 ⟨rfl, g4, hw⟩
    have hw := hw.symm
    subst hw
    refine ⟨_, rfl, rfl, _, _, _, ra, _, _, rfl, g4, ?_, bW.trans (g3.mono bW.size)⟩
    rw [q2]
    exact g2
end Go.Proofs.YthneejblcffdgaaGreatDoor

namespace Go.Proofs.YthneejblcffdgaaGreatDoor
open Go Go.Ev Go.RowKit
set_option maxRecDepth 20000
set_option linter.unusedVariables false
set_option linter.unusedSimpArgs false

/-! ### baileyref1: Bits, Bit; baileyref2: Mod, Mul, odd -/
theorem half_len {t k n : Nat} (h : 0 < t) (hk : blen (t / 2) + k = n) : blen t + k = n + 1 := by
  have h1 := blen_ok t
  have h2 := blen_ok (t / 2)
  have : blen t = blen (t / 2) + 1 := by
    refine (LenOk.uniq h1 ?_)
    constructor
    · have := h2.1; rw [Nat.pow_succ]; omega
    · refine .inr ?_
      rw [Nat.add_sub_cancel]
      rcases h2.2 with g | g
      · rw [g]; simp; omega
      · rcases Nat.eq_zero_or_pos (blen (t / 2)) with h0 | h0
        · rw [h0]; simp; omega
        · obtain ⟨b, hb⟩ : ∃ b, blen (t / 2) = b + 1 := ⟨blen (t / 2) - 1, by omega⟩
          rw [hb] at g ⊢
          rw [Nat.add_sub_cancel] at g
          rw [Nat.pow_succ]; omega
  omega
theorem blen_dig {n l : Nat} (hl : (digs n).length = l + 1) : blen n = 32 * l + blen ((digs n).getD l 0) := by
  obtain ⟨t1, t2, t3, t4, t5⟩ := top_dig hl
  generalize (digs n).getD l 0 = t at *
  have hb := blen_ok t
  refine (LenOk.uniq (blen_ok n) ?_)
  rw [B32_two] at t2 t3
  constructor
  · refine Nat.lt_of_lt_of_le t3 ?_
    rw [Nat.add_comm (32 * l), Nat.pow_add]
    exact Nat.mul_le_mul_right _ hb.1
  · refine .inr ?_
    rcases hb.2 with g | g
    · have := hb.1; rw [g] at this; omega
    · have hb0 : 0 < blen t := by
        rcases Nat.eq_zero_or_pos (blen t) with h | h
        · have := hb.1; rw [h] at this; omega
        · exact h
      have := Nat.mul_le_mul_right (2 ^ (32 * l)) g
      rw [← Nat.pow_add] at this
      rw [show 32 * l + blen t - 1 = blen t - 1 + 32 * l by omega]
      omega
theorem blen32 {t : Nat} (h : t < B32) : blen t ≤ 32 := by
  have h1 : t < 2 ^ 32 := h
  rcases (blen_ok t).2 with g | g
  · omega
  · have := (Nat.pow_lt_pow_iff_right (by decide : 1 < 2)).1 (Nat.lt_of_le_of_lt g h1)
    omega
set_option maxHeartbeats 1000000 in
theorem rbits_spec {a : Option Addr} {l c n : Nat} {w : World} (ha : DigN w a l c n) :
    Calls Tryz.prog 23 #[.slice a l c] w fun e w' => e = .returned (.int .i64 (blen n)) ∧ w' = w := by
  refine calls_of_ev tysOk extsOk Tryz.func23 rfl rfl rfl ?_
  refine IfP.beq (fun h0 => ?_) (fun h0 => ?_)
  · have h0 : l = 0 := Int.ofNat_inj.1 h0
    have : n = 0 := digs_len0 (by rw [← ha.2.1]; exact h0)
    subst this
    exact ⟨rfl, rfl, rfl⟩
  · have h0 : l ≠ 0 := fun h => h0 (by rw [h]; rfl)
    obtain ⟨l', rfl⟩ : ∃ k, l = k + 1 := ⟨l - 1, by omega⟩
    have hl := ha.2.2.2
    have e12 : IntKind.i64.wrap (((l' + 1 : Nat) : Int) - 1) = (l' : Int) := by
      rw [show (((l' + 1 : Nat) : Int) - 1) = (l' : Int) by omega]; exact i64_of _ (by omega)
    refine IdxP.ldN l' e12 ha.1 ha.2.1 (by omega) fun _ _ _ => ?_
    have hbl := blen_dig ha.2.1.symm
    have htop := (digs_digs n).getD l'
    generalize (digs n).getD l' 0 = top at hbl htop
    have hb32 := blen32 (show top < B32 from htop)
    refine LoopP.go (S := Nat × Nat) 2064432 (by kernel_rfl) (fun s => [(5, .int .u64 (s.1 : Nat)), (4, .int .i64 (s.2 : Nat))])
      (fun s W => W = w ∧ s.1 < B32 ∧ blen s.1 + s.2 = blen top) (fun s => s.1) (top, 0) ⟨rfl, rfl, trivial⟩ ⟨rfl, htop, rfl⟩ ?_
    rintro ⟨t, k⟩ j W ⟨hw, i1, i2⟩
    have hw := hw.symm
    subst hw
    simp only at i1 i2
    refine IfP.dec (fun hgt => ?_) (fun hle => ?_)
    · have hgt : (t : Int) > 0 := hgt
      have htp : 0 < t := by omega
      refine ChkP.go (by decide) ?_
      have e20 : IntKind.i64.wrap ((k : Int) + 1) = ((k + 1 : Nat) : Int) := IntWalk.i64_in _ (by omega)
      have e18 : IntKind.u64.wrap ((t : Int).tdiv 2) = ((t / 2 : Nat) : Int) := by
        rw [show (2 : Int) = ((2 : Nat) : Int) from rfl, ← Int.ofNat_tdiv]; exact u64_of _ (by have : t < 4294967296 := i1; omega)
      refine ⟨rfl, (t / 2, k + 1), ⟨⟨congrArg (Value.int .u64) e18, congrArg (Value.int .i64) e20, trivial⟩, rfl, Nat.lt_of_le_of_lt (Nat.div_le_self _ _) i1, ?_⟩, by show t / 2 < t; omega⟩
      have := half_len (k := k) htp rfl
      show blen (t / 2) + (k + 1) = blen top
      omega
    · have hle : ¬ ((t : Int) > 0) := hle
      have ht0 : t = 0 := by omega
      subst ht0
      have hk : k = blen top := by have : blen 0 = 0 := rfl; omega
      refine ⟨rfl, congrArg Ending.returned (congrArg (Value.int .i64) ?_), rfl⟩
      rw [e12, show (32 : Int) * (l' : Int) = ((32 * l' : Nat) : Int) by omega, i64_of _ (by omega), hbl, hk]
      exact wrapAddI (by omega)
theorem rdig_arith (v j r : Nat) (hr : r < 32) : v / B32 ^ j % B32 / 2 ^ r % 2 = v / 2 ^ (32 * j + r) % 2 := by
  rw [B32_two, Nat.pow_add, ← Nat.div_div_eq_div_mul]
  generalize v / 2 ^ (32 * j) = q
  have hB : B32 = 2 ^ r * 2 ^ (32 - r) := by rw [← Nat.pow_add, show r + (32 - r) = 32 by omega]
  rw [hB, Nat.mod_mul_right_div_self, Nat.mod_mod_of_dvd]
  exact ⟨2 ^ (32 - r - 1), by rw [← Nat.pow_succ', show (32 - r - 1).succ = 32 - r by omega]⟩
theorem rbit_spec {a : Option Addr} {l c n i : Nat} {w : World} (ha : DigN w a l c n) (hi : i ≤ 1000000) :
    Calls Tryz.prog 28 #[.slice a l c, .int .i64 i] w fun e w' => e = .returned (.int .u64 ((n / 2 ^ i % 2 : Nat) : Int)) ∧ w' = w := by
  refine calls_of_ev tysOk extsOk Tryz.func28 rfl rfl rfl ?_
  have e9 : IntKind.i64.wrap ((i : Int).tdiv 32) = ((i / 32 : Nat) : Int) := by
    rw [show (32 : Int) = ((32 : Nat) : Int) from rfl, ← Int.ofNat_tdiv]; exact i64_of _ (by omega)
  have hneg : decide ((i : Int) < 0) = false := decide_eq_false (by omega)
  have hdl := vd_digs n
  refine IfP.pos (by rw [hneg]; rfl) ?_
  (repeat (first | refine IfP.yes ?_ | refine IfP.no ?_ | refine NilP.go ?_))
  refine ChkP.go (by decide) ?_
  (repeat (first | refine IfP.yes ?_ | refine IfP.no ?_ | refine NilP.go ?_))
  have hz : l ≤ i / 32 → n / 2 ^ i % 2 = 0 := fun h => by
    have h1 := ha.lt
    have h2 : B32 ^ l ≤ 2 ^ i := by rw [B32_two]; exact Nat.pow_le_pow_right (by decide) (by omega)
    rw [Nat.div_eq_of_lt (by omega)]
  refine IfP.dec (fun h1 => ?_) (fun h1 => ?_)
  · have h1 : IntKind.i64.wrap ((i : Int).tdiv 32) ≥ (l : Int) := h1
    rw [e9] at h1
    refine ⟨rfl, ?_, rfl⟩
    rw [hz (by omega)]; rfl
  · have h1 : ¬ (IntKind.i64.wrap ((i : Int).tdiv 32) ≥ (l : Int)) := h1
    rw [e9] at h1
    refine ChkP.go (by decide) ?_
    refine IdxP.ldN (i / 32) e9 ha.1 ha.2.1 (by omega) fun _ _ _ => ?_
    have e20 : (i : Int).tmod 32 = ((i % 32 : Nat) : Int) := by
      rw [show (32 : Int) = ((32 : Nat) : Int) from rfl, ← Int.ofNat_tmod]
    refine ChkP.go (by decide) ?_
    refine ChkP.go (by rw [e20]; omega) ?_
    refine ChkP.go (by decide) ?_
    refine ⟨rfl, congrArg Ending.returned (congrArg (Value.int .u64) ?_), rfl⟩
    rw [e20, shr_run _ _ (by omega), show (2 : Int) = ((2 : Nat) : Int) from rfl, ← Int.ofNat_tmod]
    congr 1
    rw [getD_vd _ (digs_digs n), hdl, rdig_arith _ _ _ (Nat.mod_lt _ (by decide)), show 32 * (i / 32) + i % 32 = i by omega]
end Go.Proofs.YthneejblcffdgaaGreatDoor

namespace Go.Proofs.YthneejblcffdgaaGreatDoor
open Go Go.Ev Go.RowKit
set_option maxRecDepth 20000
set_option linter.unusedVariables false
set_option linter.unusedSimpArgs false

/-! ### baileyref2: Mod, Mul, odd, Exp, Few -/
theorem rmod_spec {a b : Option Addr} {l c l2 c2 n m : Nat} {w : World} (ha : DigN w a l c n) (hb : DigN w b l2 c2 m) (hm : 0 < m) (hl : l ≤ 500) :
    Calls Tryz.prog 29 #[.slice a l c, .slice b l2 c2] w fun e w' => ∃ a' l' c', e = .returned (.slice a' l' c') ∧ DigN w' a' l' c' (n % m) ∧ Below w.heap.size w w' := by
  refine calls_of_ev tysOk extsOk Tryz.func29 rfl rfl rfl ?_
  refine CallP.intro (rquo_spec ha hb hm hl) ?_
  rintro e w1 ⟨qa, ql, qc, ra, rl, rc, rfl, g1, g2, g3⟩
  exact ⟨_, rfl, rfl, ra, rl, rc, rfl, g2, g3⟩
theorem rmulm_spec {a b d : Option Addr} {l c l2 c2 l3 c3 n k m : Nat} {w : World} (ha : DigN w a l c n) (hb : DigN w b l2 c2 k) (hd : DigN w d l3 c3 m) (hm : 0 < m) (hl : l ≤ 250) (hl2 : l2 ≤ 250) :
    Calls Tryz.prog 80 #[.slice a l c, .slice b l2 c2, .slice d l3 c3] w fun e w' => ∃ a' l' c', e = .returned (.slice a' l' c') ∧ DigN w' a' l' c' (n * k % m) ∧ Below w.heap.size w w' := by
  refine calls_of_ev tysOk extsOk Tryz.func80 rfl rfl rfl ?_
  refine CallP.intro (rmul_spec ha hb hl hl2) ?_
  rintro e w1 ⟨a1, rfl, g1, g2, g3⟩
  refine ⟨_, rfl, ?_⟩
  have hlen : (digs (n * k)).length ≤ 500 := by
    refine Nat.le_trans (digs_len_le (k := l + l2) ?_) (by omega)
    rw [Nat.pow_add]; exact Nat.mul_lt_mul_of_lt_of_lt ha.lt hb.lt
  refine CallP.intro (rmod_spec g1 (hd.below g3) hm hlen) ?_
  rintro e w2 ⟨a2, l2', c2', rfl, k1, k2⟩
  exact ⟨_, rfl, rfl, a2, l2', c2', rfl, k1, g3.trans (k2.mono g3.size)⟩
theorem rodd_spec {a : Option Addr} {l c n : Nat} {w : World} (ha : DigN w a l c n) :
    Calls Tryz.prog 52 #[.slice a l c] w fun e w' => e = .returned (.bool (decide (n % 2 = 1))) ∧ w' = w := by
  refine calls_of_ev tysOk extsOk Tryz.func52 rfl rfl rfl ?_
  refine CallP.intro (rbit_spec (i := 0) ha (by decide)) ?_
  rintro e w1 ⟨rfl, hw⟩
  have hw := hw.symm
  subst hw
  refine ⟨_, rfl, rfl, congrArg (fun z => Ending.returned (.bool z)) ?_, rfl⟩
  rw [Nat.pow_zero, Nat.div_one]
  rcases Nat.mod_two_eq_zero_or_one n with h | h <;> rw [h] <;> rfl
theorem digs_lt_len {x m : Nat} (h : x < m) : (digs x).length ≤ (digs m).length := digs_mono (Nat.le_of_lt h)
set_option maxHeartbeats 1000000 in
theorem rexp_spec {a b d : Option Addr} {l c l2 c2 l3 c3 x v m : Nat} {w : World} (ha : DigN w a l c x) (hb : DigN w b l2 c2 v) (hd : DigN w d l3 c3 m) (hm : 0 < m) (hl : l ≤ 250) (hl3 : l3 ≤ 250) :
    Calls Tryz.prog 79 #[.slice a l c, .slice b l2 c2, .slice d l3 c3] w fun e w' => ∃ a' l' c', e = .returned (.slice a' l' c') ∧ DigN w' a' l' c' (x ^ v % m) ∧ Below w.heap.size w w' := by
  refine calls_of_ev tysOk extsOk Tryz.func79 rfl rfl rfl ?_
  refine CallP.intro (rof_spec 1 (by decide) w) ?_
  rintro e w1 ⟨oa, rfl, o1, _, o2⟩
  refine ⟨_, rfl, ?_⟩
  refine CallP.intro (rmod_spec o1 (hd.below o2) hm (Nat.le_trans (digs_len_le (k := 1) (by decide)) (by decide))) ?_
  rintro e w2 ⟨xa, xl, xc, rfl, x1, x2⟩
  refine ⟨_, rfl, ?_⟩
  have b2 := o2.trans (x2.mono o2.size)
  refine CallP.intro (rmod_spec (ha.below b2) (hd.below b2) hm (by omega)) ?_
  rintro e w3 ⟨ya, yl, yc, rfl, y1, y2⟩
  refine ⟨_, rfl, ?_⟩
  have b3 := b2.trans (y2.mono b2.size)
  refine CallP.intro (rbits_spec (hb.below b3)) ?_
  rintro e w4 ⟨rfl, hw⟩
  have hw := hw.symm
  subst hw
  refine ⟨_, rfl, ?_⟩
  have hbl : blen v ≤ 32 * 600 := by
    have h1 := hb.lt
    rw [B32_two] at h1
    rcases (blen_ok v).2 with g | g
    · omega
    · have := (Nat.pow_lt_pow_iff_right (by decide : 1 < 2)).1 (Nat.lt_of_le_of_lt g h1)
      have := hb.2.2.2
      omega
  have e17 : IntKind.i64.wrap ((blen v : Int) - 1) = (blen v : Int) - 1 := IntWalk.i64_in _ (by omega)
  have hlm := hd.2.1
  have hlt : ∀ z : Nat, z % m < m := fun z => Nat.mod_lt _ hm
  refine LoopP.go (S := Nat × Option Addr × Nat × Nat) 17179607424 (by kernel_rfl) (fun s => [(8, .int .i64 ((s.1 : Int) - 1)), (7, .slice s.2.1 s.2.2.1 s.2.2.2)])
    (fun s W => s.1 ≤ blen v ∧ DigN W s.2.1 s.2.2.1 s.2.2.2 (x ^ (v / 2 ^ s.1) % m) ∧ Below w3.heap.size w3 W) (fun s => s.1) (blen v, xa, xl, xc) ⟨congrArg (Value.int .i64) e17, rfl, trivial⟩
    ⟨Nat.le_refl _, by rw [blen_top, Nat.pow_zero]; exact x1.below y2, Below.refl _ _⟩ ?_
  rintro ⟨k1, za, zl, zc⟩ j W ⟨i1, i2, i3⟩
  simp only at i1 i2
  have bW := b3.trans (i3.mono b3.size)
  refine IfP.dec (fun hge => ?_) (fun hlt0 => ?_)
  · have hge : ((k1 : Int) - 1) ≥ 0 := hge
    obtain ⟨k, rfl⟩ : ∃ k, k1 = k + 1 := ⟨k1 - 1, by omega⟩
    have hsub : (((k + 1 : Nat) : Int) - 1) = (k : Int) := by omega
    have hzl : zl ≤ 250 := by
      rw [i2.2.1]
      exact Nat.le_trans (digs_lt_len (hlt _)) (by omega)
    have hyl : yl ≤ 250 := by
      rw [y1.2.1]
      exact Nat.le_trans (digs_lt_len (hlt _)) (by omega)
    refine CallP.intro (rmulm_spec i2 i2 (hd.below bW) hm hzl hzl) ?_
    rintro e w5 ⟨ta, tl, tc, rfl, t1, t2⟩
    refine ⟨_, rfl, ?_⟩
    have i5 := i3.trans (t2.mono i3.size)
    have b5 := b3.trans (i5.mono b3.size)
    have hbs := rbit_spec (i := k) (hb.below b5) (by omega)
    rw [← hsub] at hbs
    refine CallP.intro hbs ?_
    rintro e w6 ⟨rfl, hw⟩
    have hw := hw.symm
    subst hw
    refine ⟨_, rfl, ?_⟩
    have hpb := pow_bit x v k
    have e21 : IntKind.i64.wrap (((k + 1 : Nat) : Int) - 1 - 1) = (k : Int) - 1 := by rw [hsub]; exact IntWalk.i64_in _ (by omega)
    refine IfP.beq (fun h1 => ?_) (fun h1 => ?_)
    · have h1 : v / 2 ^ k % 2 = 1 := Int.ofNat_inj.1 h1
      rw [if_pos h1] at hpb
      have htl : tl ≤ 250 := by
        rw [t1.2.1]
        exact Nat.le_trans (digs_lt_len (hlt _)) (by omega)
      refine CallP.intro (rmulm_spec t1 (y1.below i5) (hd.below b5) hm htl hyl) ?_
      rintro e w7 ⟨ua, ul, uc, rfl, u1, u2⟩
      refine ⟨_, rfl, rfl, (k, ua, ul, uc), ⟨⟨congrArg (Value.int .i64) e21, rfl, trivial⟩, by show k ≤ blen v; omega, ?_, i5.trans (u2.mono i5.size)⟩, Nat.lt_succ_self _⟩
      show DigN w7 ua ul uc (x ^ (v / 2 ^ k) % m)
      rw [hpb]
      have e : x ^ (v / 2 ^ (k + 1)) % m * (x ^ (v / 2 ^ (k + 1)) % m) % m * (x % m) % m = x ^ (v / 2 ^ (k + 1)) * x ^ (v / 2 ^ (k + 1)) * x % m := by
        simp [Nat.mul_mod]
      rw [← e]; exact u1
    · have h1 : ¬ v / 2 ^ k % 2 = 1 := fun h => h1 (by rw [h]; rfl)
      rw [if_neg h1, Nat.mul_one] at hpb
      refine ⟨rfl, (k, ta, tl, tc), ⟨⟨congrArg (Value.int .i64) e21, rfl, trivial⟩, by show k ≤ blen v; omega, ?_, i5⟩, Nat.lt_succ_self _⟩
      show DigN w5 ta tl tc (x ^ (v / 2 ^ k) % m)
      rw [hpb, Nat.mul_mod]; exact t1
  · have hk : k1 = 0 := by have hlt0 : ¬ ((k1 : Int) - 1 ≥ 0) := hlt0; omega
    subst hk
    rw [Nat.pow_zero, Nat.div_one] at i2
    exact ⟨rfl, za, zl, zc, rfl, i2, bW⟩
theorem rfew_spec (w : World) :
    Calls Tryz.prog 51 #[] w fun e w' => ∃ b, e = .returned (.slice (some ⟨b, 0, none⟩) 12 12) ∧ NRow w' (some ⟨b, 0, none⟩) few12 ∧ w.heap.size ≤ b ∧ Below w.heap.size w w' := by
  refine calls_of_ev tysOk extsOk Tryz.func51 rfl rfl rfl ?_
  have hB := Blk.newA w ((few12.map fun x => Value.int .u64 ((x : Nat) : Int)).toArray) 34
  refine ⟨rfl, w.heap.size, rfl, ?_, Nat.le_refl _, (Below.refl _ _).alloc (Nat.le_refl _) _⟩
  refine Row.of_blk 0 (cs := few12.map fun x => Value.int .u64 ((x : Nat) : Int)) hB ?_
  intro i hi
  have hi2 : i < 12 := by rw [ints_length] at hi; exact hi
  have h2 := ints_getD few12 i
  rw [List.getD_eq_getElem?_getD, List.getElem?_eq_getElem hi] at h2
  rw [Nat.zero_add, few_cell i hi2, ← h2]; rfl
end Go.Proofs.YthneejblcffdgaaGreatDoor
