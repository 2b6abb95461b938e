/- Texts of this proof, one behind the other: Nm6 Nm7 Nm8 Nm9. -/
import Derived.Test.YthneejblcffdgaaGreatDoorPart15
namespace Go.Proofs.YthneejblcffdgaaGreatDoor
open Go Go.Ev Go.RowKit
set_option maxRecDepth 20000
set_option linter.unusedVariables false
set_option linter.unusedSimpArgs false

/-! ### Shr, Bit, Bits, Norm, Of by value -/
theorem or_add64 {c k q : Nat} (hc : c < 2 ^ k) (h : 2 ^ k * q < 18446744073709551616) (hk : k ≤ 64) : Go.bits .or .u64 (c : Int) ((2 ^ k * q : Nat) : Int) = ((c + 2 ^ k * q : Nat) : Int) := by
  have h1 : 2 ^ k ≤ 2 ^ 64 := Nat.pow_le_pow_right (by decide) hk
  rw [u64_or_nat c _ (by omega) h, Nat.or_comm, ← Nat.two_pow_add_eq_or_of_lt hc, Nat.add_comm]
theorem shl_run64 {x k : Nat} (hk : k ≤ 64) : IntKind.u64.wrap ((x : Int) * 2 ^ (min ((k : Int)).toNat IntKind.u64.bits)) = ((x * 2 ^ k % B64 : Nat) : Int) := by
  rw [show min ((k : Int)).toNat IntKind.u64.bits = k from Nat.min_eq_left hk, pow2_i, ← Int.natCast_mul, IntKind.wrap_u64]
  rfl
theorem val_div (xs : List Nat) (hL : Limbs xs) (i : Nat) : val (xs.drop i) = val xs / B64 ^ i := by
  rcases Nat.lt_or_ge xs.length i with h | h
  · have h1 := val_lt hL
    have h2 : B64 ^ xs.length ≤ B64 ^ i := Nat.pow_le_pow_right (by decide) (by omega)
    rw [List.drop_eq_nil_of_le (by omega), Nat.div_eq_of_lt (by omega)]; rfl
  · have h1 : val (xs.take i) < B64 ^ i := Nat.lt_of_lt_of_le (val_lt fun x hx => hL x (List.mem_of_mem_take hx)) (Nat.pow_le_pow_right (by decide) (by simp; omega))
    rw [val_split xs i h, Nat.add_mul_div_left _ _ (B64_pos i), Nat.div_eq_of_lt h1, Nat.zero_add]
theorem getD_val (xs : List Nat) (hL : Limbs xs) (i : Nat) : xs.getD i 0 = val xs / B64 ^ i % B64 := by
  rw [← val_div xs hL]
  rcases Nat.lt_or_ge i xs.length with h | h
  · rw [List.drop_eq_getElem_cons h, val_cons, Nat.add_mul_mod_self_left, List.getD_eq_getElem?_getD, List.getElem?_eq_getElem h]
    exact (Nat.mod_eq_of_lt (hL _ (List.getElem_mem h))).symm
  · rw [List.drop_eq_nil_of_le h, List.getD_eq_getElem?_getD, List.getElem?_eq_none h]; rfl
theorem B64_two (i : Nat) : B64 ^ i = 2 ^ (64 * i) := by rw [Nat.pow_mul]
/-- one limb of what is moved down. -/
theorem shr_step {P k y0 y1 S T l0 : Nat} (hk : k ≤ 64) (h : 2 ^ k * S + l0 = T + P * (y0 % 2 ^ k)) :
    2 ^ k * (S + P * (y0 / 2 ^ k + 2 ^ (64 - k) * (y1 % 2 ^ k))) + l0 = (T + P * y0) + P * B64 * (y1 % 2 ^ k) := by
  have e1 : 2 ^ k * (y0 / 2 ^ k + 2 ^ (64 - k) * (y1 % 2 ^ k)) + y0 % 2 ^ k = y0 + B64 * (y1 % 2 ^ k) := by
    rw [Nat.mul_add, ← Nat.mul_assoc, pow_split hk, Nat.add_right_comm, Nat.div_add_mod]
  have e2 := congrArg (P * ·) e1
  simp only [Nat.mul_add] at e2
  rw [Nat.mul_add, Nat.mul_left_comm (2 ^ k) P, Nat.mul_assoc P B64, Nat.mul_add]
  simp only [Nat.mul_add]
  omega
set_option maxHeartbeats 2000000 in
theorem shr_spec {a : Option Addr} {l c n k : Nat} {w : World} (ha : NumS w a l c n) (hk : k ≤ 1000000) :
    Calls Tryz.prog 68 #[.slice a l c, .int .i64 k] w fun e w' => ∃ a' l' c', e = .returned (.slice a' l' c') ∧ NumN w' a' l' c' (n / 2 ^ k) ∧ (∀ p, a' = some p → w.heap.size ≤ p.block) ∧ Below w.heap.size w w' := by
  refine calls_of_ev tysOk extsOk Tryz.func68 rfl rfl rfl ?_
  refine CallP.intro (trimN_spec ha) ?_
  rintro e w1 ⟨a1, rfl, t1, _, hw⟩
  have hw := hw.symm
  subst hw
  refine ⟨_, rfl, ?_⟩
  have hXl := t1.2.2.2
  have hlt := lt_of_limbs n
  generalize hX : limbs n = X at *
  have hLX : Limbs X := hX ▸ limbs_limbs n
  have hvX : val X = n := hX ▸ val_limbs n
  have rX : NRow w a1 X := hX ▸ t1.1
  have eq0 : IntKind.i64.wrap ((k : Int).tdiv 64) = ((k / 64 : Nat) : Int) := by rw [Int.tdiv_eq_ediv_of_nonneg (by omega), show ((k : Int) / 64) = ((k / 64 : Nat) : Int) by omega]; exact i64_of _ (by omega)
  have er : IntKind.u64.wrap ((k : Int).tmod 64) = ((k % 64 : Nat) : Int) := by rw [Int.tmod_eq_emod_of_nonneg (by omega), show ((k : Int) % 64) = ((k % 64 : Nat) : Int) by omega]; exact u64_of _ (by omega)
  refine IfP.pos (by simp <;> omega) ?_
  refine IfP.yes ?_
  refine ChkP.go (by decide) ?_
  refine IfP.yes ?_
  refine IfP.yes ?_
  refine IfP.yes ?_
  refine IfP.neg (by simp <;> omega) ?_
  refine IfP.dec (fun hbig => ?_) (fun hsm => ?_)
  · have hb : X.length ≤ k / 64 := by rw [eq0] at hbig; omega
    refine ⟨rfl, none, 0, 0, rfl, ?_, (fun p hp => by cases hp), Below.refl _ _⟩
    have : n / 2 ^ k = 0 := by
      refine Nat.div_eq_of_lt (Nat.lt_of_lt_of_le hlt ?_)
      rw [B64_two]; exact Nat.pow_le_pow_right (by decide) (by omega)
    rw [this]; exact NumN.nil _ _ _
  · have hs : k / 64 < X.length := by rw [eq0] at hsm; omega
    refine ChkP.go (by decide) ?_
    refine ChkP.go (by decide) ?_
    have hmod : k = 64 * (k / 64) + k % 64 := by omega
    generalize hwd : k / 64 = wd at *
    generalize hkk : k % 64 = kk at *
    have hkk64 : kk < 64 := by omega
    have el : IntKind.i64.wrap ((X.length : Int) - IntKind.i64.wrap ((k : Int).tdiv 64)) = ((X.length - wd : Nat) : Int) := by
      rw [eq0, show (X.length : Int) - (wd : Int) = ((X.length - wd : Nat) : Int) by omega]; exact i64_of _ (by omega)
    refine Mk.toN (X.length - wd) el el (by omega) fun w2 m2 b2 s2 => ?_
    have hXr := Row.below rX b2
    refine LoopP.go (S := Nat) 1180591620713116336384 (by kernel_rfl) (fun i => [(32, .int .i64 i)])
      (fun i W => i ≤ X.length - wd ∧ Chg w2.heap.size (fun k => k = w.heap.size) w2 W ∧ ∃ d, d.length = i ∧ Limbs d ∧ NBuf W w.heap.size (d ++ List.replicate (X.length - wd - d.length) 0) (X.length - wd) ∧
        2 ^ kk * val d + (X.drop wd).getD 0 0 % 2 ^ kk = val ((X.drop wd).take i) + B64 ^ i * ((X.drop wd).getD i 0 % 2 ^ kk))
      (fun i => X.length - wd - i) 0 ⟨rfl, trivial⟩ ⟨Nat.zero_le _, Chg.refl _ _ _, [], rfl, (fun x hx => by cases hx), m2, by simp [val]⟩ ?_
    rintro i j W ⟨h1, h2, d, h3, h4, h5, h6⟩
    have hXW : NRow W a1 X := hXr.chg0 h2 (fun h0 p hp e => by have := Row.lt rX h0 p hp; omega)
    have hdg : ∀ j, (X.drop wd).getD j 0 = X.getD (wd + j) 0 := fun j => by rw [List.getD_eq_getElem?_getD, List.getElem?_drop, ← List.getD_eq_getElem?_getD]
    refine IfP.dec (fun hlt2 => ?_) (fun hge2 => ?_)
    · have hi : i < X.length - wd := by omega
      have e40 : IntKind.i64.wrap ((i : Int) + IntKind.i64.wrap ((k : Int).tdiv 64)) = ((wd + i : Nat) : Int) := by rw [eq0, Nat.add_comm wd i]; exact wrapAddI (by omega)
      have e49 : IntKind.i64.wrap (IntKind.i64.wrap ((i : Int) + IntKind.i64.wrap ((k : Int).tdiv 64)) + 1) = ((wd + i + 1 : Nat) : Int) := by rw [e40]; exact next_i64 (Nat.lt_succ_self _) (by omega)
      have e44 : ∀ x : Nat, ((x : Int)).fdiv (2 ^ (min (IntKind.u64.wrap ((k : Int).tmod 64)).toNat IntKind.u64.bits)) = ((x / 2 ^ kk : Nat) : Int) := fun x => by rw [er]; exact shr_run x _ (by omega)
      have e65 : IntKind.u64.wrap (64 - IntKind.u64.wrap ((k : Int).tmod 64)) = ((64 - kk : Nat) : Int) := by rw [er, show (64 - (kk : Int)) = ((64 - kk : Nat) : Int) by omega]; exact u64_of _ (by omega)
      have hlen : (d ++ List.replicate (X.length - wd - d.length) 0).length = X.length - wd := by simp; omega
      have hy0 := hLX.getD (wd + i)
      have h0lt : X.getD (wd + i) 0 / 2 ^ kk < 2 ^ (64 - kk) := (Nat.div_lt_iff_lt_mul (Nat.two_pow_pos _)).2 (by rw [Nat.mul_comm, pow_split (by omega)]; exact hy0)
      refine IdxP.ldN (wd + i) e40 hXW rfl (by omega) fun _ _ _ => ?_
      refine ChkP.go (by rw [er]; omega) ?_
      refine IdxP.toE i _ (e44 _) rfl h5 hi hlen.symm fun w3 g1 g2 g3 => ?_
      have hz : ∀ v, (d ++ List.replicate (X.length - wd - d.length) 0).set i v = d ++ [v] ++ List.replicate (X.length - wd - (i + 1)) 0 := fun v => by rw [← h3]; exact set_zeros d _ v (by omega)
      rw [hz] at g1
      have hnext := next_i64 hi (by omega)
      have fin : ∀ (v : Nat) w4, v < B64 → NBuf w4 w.heap.size (d ++ [v] ++ List.replicate (X.length - wd - (i + 1)) 0) (X.length - wd) → Chg W.heap.size (fun k => k = w.heap.size) W w4 →
          v = X.getD (wd + i) 0 / 2 ^ kk + 2 ^ (64 - kk) * (X.getD (wd + i + 1) 0 % 2 ^ kk) →
          (i + 1 ≤ X.length - wd ∧ Chg w2.heap.size (fun k => k = w.heap.size) w2 w4 ∧ ∃ d, d.length = i + 1 ∧ Limbs d ∧ NBuf w4 w.heap.size (d ++ List.replicate (X.length - wd - d.length) 0) (X.length - wd) ∧
        2 ^ kk * val d + (X.drop wd).getD 0 0 % 2 ^ kk = val ((X.drop wd).take (i + 1)) + B64 ^ (i + 1) * ((X.drop wd).getD (i + 1) 0 % 2 ^ kk)) := by
        intro v w4 hv q1 q2 q3
        refine ⟨hi, h2.thenC q2 h2.size (fun _ _ h => h), d ++ [v], by simp [h3], h4.snoc hv, ?_, ?_⟩
        · rw [List.length_append, List.length_singleton, h3]; exact q1
        · rw [val_snoc, val_take_succ', h3, q3, Nat.pow_succ, hdg i, hdg (i + 1)]
          rw [hdg i] at h6
          exact shr_step (by omega) h6
      refine IfP.dec (fun hnx => ?_) (fun hnx => ?_)
      · have hnx : wd + i + 1 < X.length := by rw [e49] at hnx; omega
        have hy1 := hLX.getD (wd + i + 1)
        have e66 : IntKind.u64.wrap (((X.getD (wd + i + 1) 0 : Nat) : Int) * 2 ^ (min (IntKind.u64.wrap (64 - IntKind.u64.wrap ((k : Int).tmod 64))).toNat IntKind.u64.bits)) = ((2 ^ (64 - kk) * (X.getD (wd + i + 1) 0 % 2 ^ kk) : Nat) : Int) := by
          rw [e65, shl_run64 (by omega)]
          congr 1
          have hp := pow_split (k := 64 - kk) (by omega)
          rw [show 64 - (64 - kk) = kk by omega] at hp
          rw [← hp, Nat.mul_comm (X.getD (wd + i + 1) 0), Nat.mul_mod_mul_left]
        have hq1 : X.getD (wd + i + 1) 0 % 2 ^ kk + 1 ≤ 2 ^ kk := Nat.mod_lt _ (Nat.two_pow_pos _)
        have hq := Nat.mul_le_mul_left (2 ^ (64 - kk)) hq1
        rw [Nat.mul_comm (2 ^ (64 - kk)) (2 ^ kk), pow_split (by omega), Nat.mul_add, Nat.mul_one] at hq
        have hqp := Nat.two_pow_pos (64 - kk)
        have e67 : Go.bits .or .u64 ((X.getD (wd + i) 0 / 2 ^ kk : Nat) : Int) (IntKind.u64.wrap (((X.getD (wd + i + 1) 0 : Nat) : Int) * 2 ^ (min (IntKind.u64.wrap (64 - IntKind.u64.wrap ((k : Int).tmod 64))).toNat IntKind.u64.bits))) = ((X.getD (wd + i) 0 / 2 ^ kk + 2 ^ (64 - kk) * (X.getD (wd + i + 1) 0 % 2 ^ kk) : Nat) : Int) := by
          rw [e66]; exact or_add64 h0lt (by have : B64 = 18446744073709551616 := rfl; omega) (by omega)
        have hXW3 : NRow w3 a1 X := hXW.chg0 g2 (fun h0 p hp e => by have := Row.lt rX h0 p hp; omega)
        have hlen3 : (d ++ [X.getD (wd + i) 0 / 2 ^ kk] ++ List.replicate (X.length - wd - (i + 1)) 0).length = X.length - wd := by simp; omega
        have hget : (d ++ [X.getD (wd + i) 0 / 2 ^ kk] ++ List.replicate (X.length - wd - (i + 1)) 0).getD i 0 = X.getD (wd + i) 0 / 2 ^ kk := by
          rw [List.getD_eq_getElem?_getD, List.append_assoc, List.getElem?_append_right (by omega), h3, Nat.sub_self]; rfl
        have hset : ∀ v, (d ++ [X.getD (wd + i) 0 / 2 ^ kk] ++ List.replicate (X.length - wd - (i + 1)) 0).set i v = d ++ [v] ++ List.replicate (X.length - wd - (i + 1)) 0 := by
          intro v
          have := set_split d (X.getD (wd + i) 0 / 2 ^ kk) v (List.replicate (X.length - wd - (i + 1)) 0)
          rw [h3] at this
          simpa using this
        refine DrawP.tail tysOk extsOk mixed 16 (by kernel_rfl) rfl ?_
        refine IdxP.ldN i rfl (Buf.drw g1).row hlen3.symm hi fun _ _ _ => ?_
        refine IdxP.ldN (wd + i + 1) e49 hXW3.drw rfl hnx fun _ _ _ => ?_
        refine ChkP.go (by rw [e65]; omega) ?_
        refine IdxP.toE i _ (by rw [hget]; exact e67) rfl (Buf.drw g1) hi hlen3.symm fun w4 g4 g5 g6 => ?_
        rw [hset] at g4
        exact ⟨rfl, i + 1, ⟨⟨congrArg (Value.int .i64) hnext, trivial⟩, fin _ w4 (by have : B64 = 18446744073709551616 := rfl; omega) g4 (g2.drw.thenC g5 g2.size (fun _ _ h => h)) rfl⟩, by omega⟩
      · have hnx : X.length ≤ wd + i + 1 := by rw [e49] at hnx; omega
        refine ⟨rfl, i + 1, ⟨⟨congrArg (Value.int .i64) hnext, trivial⟩, fin _ w3 (Nat.lt_of_le_of_lt (Nat.div_le_self _ _) hy0) g1 g2 ?_⟩, by omega⟩
        rw [show X.getD (wd + i + 1) 0 = 0 by rw [List.getD_eq_getElem?_getD, List.getElem?_eq_none hnx]; rfl]; simp
    · have hi : i = X.length - wd := by omega
      have hdl : (X.drop wd).length = i := by rw [List.length_drop]; exact hi.symm
      rw [List.take_of_length_le (by omega), show (X.drop wd).getD i 0 = 0 by rw [List.getD_eq_getElem?_getD, List.getElem?_eq_none (by omega)]; rfl, Nat.zero_mod, Nat.mul_zero, Nat.add_zero] at h6
      rw [show X.length - wd - d.length = 0 by omega, List.replicate_zero, List.append_nil] at h5
      have hC := (Chg.of_below (s := fun _ => False) b2).thenC h2 b2.size (fun k hk e => by omega)
      have hv : val d = n / 2 ^ k := by
        have e1 : val d = val (X.drop wd) / 2 ^ kk := by
          rw [← h6, Nat.mul_add_div (Nat.two_pow_pos _), Nat.div_eq_of_lt (Nat.mod_lt _ (Nat.two_pow_pos _)), Nat.add_zero]
        rw [e1, val_div X hLX, hvX, B64_two, Nat.div_div_eq_div_mul, ← Nat.pow_add, ← hmod]
      refine CallP.intro (trimB_spec h5.nrow h4 (by omega) (X.length - wd) (by omega) (X.length - wd) (by omega)) ?_
      rintro e w5 ⟨a', l', rfl, u1, u2, hw⟩
      subst hw
      rw [hv] at u1
      exact ⟨_, rfl, rfl, a', l', _, rfl, u1, fun p hp => by rw [u2 p hp]; exact Nat.le_refl _, Chg.below hC⟩
end Go.Proofs.YthneejblcffdgaaGreatDoor

namespace Go.Proofs.YthneejblcffdgaaGreatDoor
open Go Go.Ev Go.RowKit
set_option maxRecDepth 20000
set_option linter.unusedVariables false
set_option linter.unusedSimpArgs false

/-- how many bits a number has. -/
def blen (n : Nat) : Nat := if n = 0 then 0 else n.log2 + 1
theorem LenOk.uniq {x a b : Nat} (h : LenOk x a) (g : LenOk x b) : a = b := by
  rcases Nat.lt_trichotomy a b with hl | hl | hl
  · rcases g.2 with g2 | g2
    · omega
    · have : 2 ^ a ≤ 2 ^ (b - 1) := Nat.pow_le_pow_right (by decide) (by omega)
      have := h.1; omega
  · exact hl
  · rcases h.2 with g2 | g2
    · omega
    · have : 2 ^ b ≤ 2 ^ (a - 1) := Nat.pow_le_pow_right (by decide) (by omega)
      have := g.1; omega
theorem blen_ok (n : Nat) : LenOk n (blen n) := by
  unfold blen
  split
  · rename_i h; subst h; exact ⟨by decide, .inl rfl⟩
  · rename_i h
    exact ⟨Nat.lt_log2_self, .inr (by rw [Nat.add_sub_cancel]; exact Nat.log2_self_le h)⟩
theorem blen_of {n k : Nat} (h : LenOk n k) : k = blen n := h.uniq (blen_ok n)
theorem bitsV_spec {a : Option Addr} {l c n : Nat} {w : World} (ha : NumS w a l c n) :
    Calls Tryz.prog 15 #[.slice a l c] w fun e w' => e = .returned (.int .i64 (blen n)) ∧ w' = w := by
  obtain ⟨xs, h1, h2, h3, h4, h5, h6⟩ := ha
  refine (bits_spec h1 h2 h3 h4 (by omega)).mono ?_
  rintro e w' ⟨k, rfl, hk, rfl⟩
  refine ⟨?_, rfl⟩
  have ht : trimmed xs = limbs n := by rw [trimmed_eq h2, h6]
  rw [ht] at hk
  have : k = blen n := by
    refine blen_of ?_
    rcases hk with ⟨g1, g2⟩ | ⟨t, g1, g2, g3, g4⟩
    · have hv := val_limbs n
      rw [g1] at hv
      rw [g2, ← hv]; exact ⟨by decide, .inl rfl⟩
    · have hv := val_limbs n
      have hL := limbs_limbs n
      have hz := limbs_nz n
      generalize limbs n = X at *
      have htop : X.getD (X.length - 1) 0 ≠ 0 := by
        rcases hz with hz | hz
        · rw [hz] at g3; simp at g3
        · exact hz
      have hs := val_take_succ' X (X.length - 1)
      rw [show X.length - 1 + 1 = X.length by omega, List.take_length, hv] at hs
      have hlt : val (X.take (X.length - 1)) < B64 ^ (X.length - 1) := Nat.lt_of_lt_of_le (val_lt fun x hx => hL x (List.mem_of_mem_take hx)) (Nat.pow_le_pow_right (by decide) (by simp))
      rw [B64_two] at hs hlt
      generalize X.getD (X.length - 1) 0 = top at *
      obtain ⟨q1, q2⟩ := g1
      rw [g4]
      constructor
      · have : 2 ^ (64 * (X.length - 1)) * top + 2 ^ (64 * (X.length - 1)) ≤ 2 ^ (64 * (X.length - 1)) * 2 ^ t := by rw [← Nat.mul_succ]; exact Nat.mul_le_mul_left _ q1
        rw [Nat.pow_add]
        omega
      · refine .inr ?_
        rcases q2 with q2 | q2
        · subst q2; omega
        · have := Nat.mul_le_mul_left (2 ^ (64 * (X.length - 1))) q2
          rw [← Nat.pow_add] at this
          have ht1 : 64 * (X.length - 1) + (t - 1) = 64 * (X.length - 1) + t - 1 := by
            rcases Nat.eq_zero_or_pos t with h0 | h0
            · subst h0; simp at q1; omega
            · omega
          rw [ht1] at this
          omega
  rw [this]
theorem bit_arith (v j r : Nat) (hr : r < 64) : v / B64 ^ j % B64 / 2 ^ r % 2 = v / 2 ^ (64 * j + r) % 2 := by
  have e : B64 = 2 ^ r * 2 ^ (64 - r) := (pow_split (Nat.le_of_lt hr)).symm
  rw [Nat.pow_add, ← Nat.div_div_eq_div_mul, ← B64_two]
  generalize v / B64 ^ j = m
  rw [e, Nat.mod_mul_right_div_self]
  refine Nat.mod_mod_of_dvd _ ?_
  rw [show 64 - r = (63 - r) + 1 by omega, Nat.pow_succ]
  exact Nat.dvd_mul_left _ _
theorem bit_spec {a : Option Addr} {l c n i : Nat} {w : World} (ha : NumS w a l c n) (hi : i ≤ 1000000) :
    Calls Tryz.prog 17 #[.slice a l c, .int .i64 i] w fun e w' => e = .returned (.int .u64 ((n / 2 ^ i % 2 : Nat) : Int)) ∧ w' = w := by
  obtain ⟨X, h1, h2, h3, h4, h5, h6⟩ := ha
  refine calls_of_ev tysOk extsOk Tryz.func17 rfl rfl rfl ?_
  have eq0 : IntKind.i64.wrap ((i : Int).tdiv 64) = ((i / 64 : Nat) : Int) := by rw [Int.tdiv_eq_ediv_of_nonneg (by omega), show ((i : Int) / 64) = ((i / 64 : Nat) : Int) by omega]; exact i64_of _ (by omega)
  have er : (i : Int).tmod 64 = ((i % 64 : Nat) : Int) := by rw [Int.tmod_eq_emod_of_nonneg (by omega)]; omega
  refine IfP.pos (by simp <;> omega) ?_
  refine IfP.yes ?_
  refine ChkP.go (by decide) ?_
  refine IfP.yes ?_
  refine IfP.yes ?_
  refine IfP.yes ?_
  refine IfP.neg (by simp <;> omega) ?_
  refine IfP.dec (fun hbig => ?_) (fun hsm => ?_)
  · have hb : X.length ≤ i / 64 := by rw [eq0] at hbig; omega
    have : n / 2 ^ i = 0 := by
      refine Nat.div_eq_of_lt (Nat.lt_of_lt_of_le (h6 ▸ val_lt h2) ?_)
      rw [B64_two]; exact Nat.pow_le_pow_right (by decide) (by omega)
    rw [this]
    exact ⟨rfl, rfl, rfl⟩
  · have hs : i / 64 < X.length := by rw [eq0] at hsm; omega
    refine ChkP.go (by decide) ?_
    refine IdxP.ldN (i / 64) eq0 h1 h3 (by omega) fun _ _ _ => ?_
    refine ChkP.go (by decide) ?_
    refine ChkP.go (by rw [er]; omega) ?_
    refine ⟨rfl, ?_, rfl⟩
    have hx := h2.getD (i / 64)
    have e21 : ((X.getD (i / 64) 0 : Nat) : Int).fdiv (2 ^ (min ((i : Int).tmod 64).toNat IntKind.u64.bits)) = ((X.getD (i / 64) 0 / 2 ^ (i % 64) : Nat) : Int) := by rw [er]; exact shr_run _ _ (by omega)
    have hlt : X.getD (i / 64) 0 / 2 ^ (i % 64) < 18446744073709551616 := Nat.lt_of_le_of_lt (Nat.div_le_self _ _) hx
    have e22 : Go.bits .and .u64 (((X.getD (i / 64) 0 : Nat) : Int).fdiv (2 ^ (min ((i : Int).tmod 64).toNat IntKind.u64.bits))) 1 = ((n / 2 ^ i % 2 : Nat) : Int) := by
      rw [e21, show (1 : Int) = ((1 : Nat) : Int) by rfl, u64_and_nat _ 1 hlt (by decide), Nat.and_one_is_mod, getD_val X h2, h6, bit_arith n (i / 64) (i % 64) (by omega), show 64 * (i / 64) + i % 64 = i by omega]
    exact congrArg (fun v => Ending.returned (Value.int .u64 v)) e22
/-- own and in normal form. -/
def NumO (w : World) (a : Option Addr) (l c n : Nat) (o : Option Nat) : Prop := OwnS .u64 34 w a l c (ints (limbs n)) o ∧ l ≤ 250
theorem NumO.n {w : World} {a : Option Addr} {l c n : Nat} {o : Option Nat} (h : NumO w a l c n o) : NumN w a l c n := ⟨h.1.row, by have := h.1.len; rw [ints_length] at this; exact this, h.1.le, h.2⟩
theorem NumO.below {w w' : World} {a : Option Addr} {l c n : Nat} {o : Option Nat} (h : NumO w a l c n o) (hb : Below w.heap.size w w') : NumO w' a l c n o := ⟨h.1.below hb, h.2⟩
theorem madeV_spec {a : Option Addr} {l c n : Nat} {w : World} (ha : NumS w a l c n) :
    Calls Tryz.prog 71 #[.slice a l c] w fun e w' => ∃ a' l' c' o', e = .returned (.slice a' l' c') ∧ NumO w' a' l' c' n o' ∧ (∀ k, o' = some k → w.heap.size ≤ k) ∧ Below w.heap.size w w' := by
  obtain ⟨X, h1, h2, h3, h4, h5, h6⟩ := ha
  have ht : trimmed X = limbs n := by rw [trimmed_eq h2, h6]
  have hle := trimmed_le X
  refine (made_spec h1 h3 h4 (by omega)).mono ?_
  rintro e w' ⟨a', c', o', rfl, g1, g2, g3⟩
  rw [ht] at g1 hle ⊢
  exact ⟨a', _, c', o', rfl, ⟨g1, by omega⟩, g2, g3⟩
theorem normV_spec {a : Option Addr} {l c n : Nat} {w : World} (ha : NumS w a l c n) :
    Calls Tryz.prog 57 #[.slice a l c] w fun e w' => ∃ a' l' c' o', e = .returned (.slice a' l' c') ∧ NumO w' a' l' c' n o' ∧ (∀ k, o' = some k → w.heap.size ≤ k) ∧ Below w.heap.size w w' := by
  refine calls_of_ev tysOk extsOk Tryz.func57 rfl rfl rfl ?_
  refine CallP.intro (madeV_spec ha) ?_
  rintro e w' ⟨a', l', c', o', rfl, g⟩
  exact ⟨_, rfl, rfl, a', l', c', o', rfl, g⟩
theorem ofV_spec (n : Nat) (hn : n < B64) (w : World) :
    Calls Tryz.prog 47 #[.int .u64 n] w fun e w' => ∃ a' l' c' o', e = .returned (.slice a' l' c') ∧ NumO w' a' l' c' n o' ∧ (∀ k, o' = some k → w.heap.size ≤ k) ∧ Below w.heap.size w w' := by
  have hL : Limbs [n] := by intro x hx; simp at hx; subst hx; exact hn
  have ht : trimmed [n] = limbs n := by rw [trimmed_eq hL]; simp [val]
  have hle := trimmed_le [n]
  refine (ofN_spec (x := n)).mono ?_
  rintro e w' ⟨a', c', o', rfl, g1, g2, g3⟩
  rw [ht] at g1 hle ⊢
  simp only [List.length_singleton] at hle
  exact ⟨a', _, c', o', rfl, ⟨g1, by omega⟩, g2, g3⟩
end Go.Proofs.YthneejblcffdgaaGreatDoor

namespace Go.Proofs.YthneejblcffdgaaGreatDoor
open Go Go.Ev Go.RowKit
set_option maxRecDepth 20000
set_option linter.unusedVariables false
set_option linter.unusedSimpArgs false

theorem IfP.ndec {p : Prop} [Decidable p] {A B : Prop} (h1 : ¬ p → A) (h2 : p → B) : IfP (!decide p) A B := IfP.mk (fun h => h1 (by simpa using h)) (fun h => h2 (by simpa using h))
theorem IfP.nbeq {a b : Int} {A B : Prop} (h1 : a ≠ b → A) (h2 : a = b → B) : IfP (!(a == b)) A B := IfP.mk (fun h => h1 (by simpa using h)) (fun h => h2 (by simpa using h))

/-! ### a digit of the quotient -/
theorem guess_first {N y1 y0 x0 B : Nat} (hy : 0 < y1) (hx : x0 < B) : N * B + x0 < (N / y1 + 1) * (y1 * B + y0) := by
  have h1 : N < (N / y1 + 1) * y1 := by rw [Nat.mul_comm]; exact Nat.lt_mul_div_succ N hy
  have h2 : (N + 1) * B ≤ (N / y1 + 1) * y1 * B := Nat.mul_le_mul_right _ h1
  rw [Nat.add_mul] at h2
  rw [Nat.mul_add, ← Nat.mul_assoc]
  omega
theorem guess_less {N g y1 y0 x0 r B : Nat} (hN : g * y1 + r = N) (h : r * B + x0 < g * y0) : N * B + x0 < g * (y1 * B + y0) := by
  subst hN
  rw [Nat.mul_add, ← Nat.mul_assoc, Nat.add_mul]; omega
theorem guess_cmp {h l r x0 : Nat} (hl : l < B64) (hx : x0 < B64) (hh : ¬ (h < r)) (hg : ¬ (h = r ∧ l ≤ x0)) : r * B64 + x0 < h * B64 + l := by
  simp only [B64] at *
  rcases Nat.lt_or_ge r h with h1 | h1
  · have : (r + 1) * 18446744073709551616 ≤ h * 18446744073709551616 := Nat.mul_le_mul_right 18446744073709551616 h1
    rw [Nat.add_mul] at this; omega
  · have : h = r := by omega
    subst this
    have : ¬ (l ≤ x0) := fun h => hg ⟨rfl, h⟩
    omega
set_option maxHeartbeats 2000000 in
theorem guess_spec (x2 x1 x0 y1 y0 : Nat) (h2 : x2 < B64) (h1 : x1 < B64) (h0 : x0 < B64) (hy1 : y1 < B64) (hy0 : y0 < B64) (w : World) :
    Calls Tryz.prog 75 #[.int .u64 x2, .int .u64 x1, .int .u64 x0, .int .u64 y1, .int .u64 y0] w fun e w' => ∃ g : Nat, e = .returned (.int .u64 (g : Int)) ∧ g < B64 ∧
      (g = B64 - 1 ∨ (x2 * B64 + x1) * B64 + x0 < (g + 1) * (y1 * B64 + y0)) ∧ w'.heap = w.heap ∧ Below w.heap.size w w' := by
  refine calls_of_ev tysOk extsOk Tryz.func75 rfl rfl rfl ?_
  refine IfP.dec (fun hge => ?_) (fun hlt => ?_)
  · exact ⟨rfl, B64 - 1, rfl, by decide, Or.inl rfl, rfl, Below.refl _ _⟩
  have hlt : x2 < y1 := by omega
  refine CallP.intro (div64_spec x2 x1 y1 hlt h1 hy1 w) ?_
  rintro e w1 ⟨rfl, g1, g2⟩
  refine ⟨_, rfl, ?_⟩
  have hpos : 0 < y1 := by omega
  refine LoopP.go (S := Nat × Nat) 36028796951918592 (by kernel_rfl) (fun s => [(11, .int .u64 (s.1 : Nat)), (12, .int .u64 (s.2 : Nat))])
    (fun s W => W = w1 ∧ s.1 * y1 + s.2 = x2 * B64 + x1 ∧ s.1 < B64 ∧ s.2 < B64 ∧ (x2 * B64 + x1) * B64 + x0 < (s.1 + 1) * (y1 * B64 + y0)) (fun s => s.1)
    ((x2 * B64 + x1) / y1, (x2 * B64 + x1) % y1) ⟨rfl, rfl, trivial⟩ ⟨rfl, ?_, ?_, ?_, guess_first hpos h0⟩ ?_
  · rw [Nat.mul_comm]; exact Nat.div_add_mod _ _
  · show _ / y1 < _
    rw [Nat.div_lt_iff_lt_mul hpos]
    have : (x2 + 1) * B64 ≤ y1 * B64 := Nat.mul_le_mul_right _ hlt
    rw [Nat.add_mul] at this
    rw [Nat.mul_comm B64]
    simp only [B64] at *
    omega
  · exact Nat.lt_of_lt_of_le (Nat.mod_lt _ hpos) (Nat.le_of_lt hy1)
  rintro ⟨g, r⟩ j W ⟨hw, q1, q2, q3, q4⟩
  have hw := hw.symm
  subst hw
  simp only at q1 q2 q3 q4
  refine CallP.intro (mul64_spec g y0 q2 hy0 w1) ?_
  rintro e w2 ⟨rfl, hw⟩
  have hw := hw.symm
  subst hw
  refine ⟨_, rfl, ?_⟩
  have a2 : g * y0 % B64 < B64 := Nat.mod_lt _ (by decide)
  have a3 := Nat.div_add_mod (g * y0) B64
  refine IfP.ndec (fun hn => ?_) (fun hn => ?_)
  · have hn : ¬ (g * y0 / B64 < r) := by intro h; exact hn (Int.ofNat_lt.2 h)
    refine IfP.yes ?_
    refine IfP.yes ?_
    refine IfP.yes ?_
    refine IfP.beq (fun he => ?_) (fun he => ?_)
    · have he : g * y0 / B64 = r := Int.ofNat_inj.1 he
      refine IfP.yes ?_
      refine IfP.yes ?_
      refine IfP.yes ?_
      refine IfP.yes ?_
      refine IfP.no ?_
      refine IfP.dec (fun hle => ?_) (fun hle => ?_)
      · exact ⟨rfl, g, rfl, q2, Or.inr q4, g1, g2⟩
      · have hle : ¬ (g * y0 % B64 ≤ x0) := fun h => hle (Int.ofNat_le.2 h)
        have hlt := guess_cmp a2 h0 hn fun h => hle h.2
        have hlt : r * B64 + x0 < g * y0 := by rw [Nat.mul_comm (g * y0 / B64), a3] at hlt; exact hlt
        have hg0 : g ≠ 0 := fun h => by rw [h, Nat.zero_mul] at hlt; exact absurd hlt (Nat.not_lt_zero _)
        obtain ⟨g', rfl⟩ : ∃ g', g = g' + 1 := ⟨g - 1, by omega⟩
        have q4' := guess_less (x0 := x0) q1 hlt
        have hg' : g' < B64 := Nat.lt_of_succ_lt q2
        have e46 : IntKind.u64.wrap (((g' + 1 : Nat) : Int) - 1) = (g' : Int) := by rw [show (((g' + 1 : Nat) : Int) - 1) = (g' : Int) by omega]; exact u64_of _ hg'
        refine add64_go0 ?_
        refine IfP.dec (fun hc => ?_) (fun hc => ?_)
        · exact ⟨rfl, g', congrArg (fun z => Ending.returned (.int .u64 z)) e46, hg', Or.inr q4', g1, g2⟩
        · have hc : (r + y1) / B64 = 0 := Nat.eq_zero_of_not_pos fun h => hc (Int.natCast_pos.2 h)
          have hr : r + y1 < B64 := by
            rcases Nat.div_eq_zero_iff.1 hc with h | h
            · exact absurd h (by decide)
            · exact h
          have em : (r + y1) % B64 = r + y1 := Nat.mod_eq_of_lt hr
          refine ⟨rfl, (g', r + y1), ⟨⟨congrArg (Value.int .u64) e46, congrArg (fun z : Nat => Value.int .u64 (z : Int)) em, trivial⟩, rfl, ?_, hg', hr, q4'⟩, Nat.lt_succ_self _⟩
          show g' * y1 + (r + y1) = _
          rw [← q1, Nat.add_mul]; omega
    · have he : g * y0 / B64 ≠ r := fun h => he (Int.ofNat_inj.2 h)
      refine IfP.no ?_
      refine IfP.no ?_
      refine IfP.yes ?_
      refine IfP.no ?_
      refine IfP.no ?_
      refine IfP.no ?_
      have hlt := guess_cmp a2 h0 hn fun h => he h.1
      have hlt : r * B64 + x0 < g * y0 := by rw [Nat.mul_comm (g * y0 / B64), a3] at hlt; exact hlt
      have hg0 : g ≠ 0 := fun h => by rw [h, Nat.zero_mul] at hlt; exact absurd hlt (Nat.not_lt_zero _)
      obtain ⟨g', rfl⟩ : ∃ g', g = g' + 1 := ⟨g - 1, by omega⟩
      have q4' := guess_less (x0 := x0) q1 hlt
      have hg' : g' < B64 := Nat.lt_of_succ_lt q2
      have e46 : IntKind.u64.wrap (((g' + 1 : Nat) : Int) - 1) = (g' : Int) := by rw [show (((g' + 1 : Nat) : Int) - 1) = (g' : Int) by omega]; exact u64_of _ hg'
      refine add64_go0 ?_
      refine IfP.dec (fun hc => ?_) (fun hc => ?_)
      · exact ⟨rfl, g', congrArg (fun z => Ending.returned (.int .u64 z)) e46, hg', Or.inr q4', g1, g2⟩
      · have hc : (r + y1) / B64 = 0 := Nat.eq_zero_of_not_pos fun h => hc (Int.natCast_pos.2 h)
        have hr : r + y1 < B64 := by
          rcases Nat.div_eq_zero_iff.1 hc with h | h
          · exact absurd h (by decide)
          · exact h
        have em : (r + y1) % B64 = r + y1 := Nat.mod_eq_of_lt hr
        refine ⟨rfl, (g', r + y1), ⟨⟨congrArg (Value.int .u64) e46, congrArg (fun z : Nat => Value.int .u64 (z : Int)) em, trivial⟩, rfl, ?_, hg', hr, q4'⟩, Nat.lt_succ_self _⟩
        show g' * y1 + (r + y1) = _
        rw [← q1, Nat.add_mul]; omega
  · have hn : (g * y0 / B64 < r) := Int.ofNat_lt.1 hn
    refine IfP.no ?_
    refine IfP.no ?_
    refine IfP.no ?_
    refine IfP.no ?_
    refine IfP.yes ?_
    refine IfP.yes ?_
    exact ⟨rfl, g, rfl, q2, Or.inr q4, g1, g2⟩
end Go.Proofs.YthneejblcffdgaaGreatDoor

namespace Go.Proofs.YthneejblcffdgaaGreatDoor
open Go Go.Ev Go.RowKit
set_option maxRecDepth 20000
set_option linter.unusedVariables false
set_option linter.unusedSimpArgs false

/-! ### a part of a buffer, multiples taken off and given back -/
theorem NBuf.mid {w : World} {b c o : Nat} {lo P hi : List Nat} (h : NBuf w b (lo ++ P ++ hi) c) (ho : lo.length = o) : NRow w (some ⟨b, o, none⟩) P := by
  subst ho
  obtain ⟨sp, h, _⟩ := h
  refine Row.of_blk lo.length h fun i hi' => ?_
  rw [ints_length] at hi'
  rw [List.getElem?_map, List.getElem?_append_left (by rw [ints_length]; simp; omega), ints, List.getElem?_map, List.append_assoc, List.getElem?_append_right (by omega), List.getElem?_append_left (by omega), Nat.add_sub_cancel_left, List.getElem?_eq_getElem hi']
  simp [ints]
theorem IdxP.toM {w : World} {b l c o : Nat} {i x : Int} {lo P hi : List Nat} {k : Addr → World → Prop} (n v : Nat) (hv : x = (v : Int)) (he : i = n) (h : NBuf w b (lo ++ P ++ hi) c) (ho : lo.length = o) (hn : n < l) (hl : l = P.length)
    (hk : ∀ w', NBuf w' b (lo ++ P.set n v ++ hi) c → Chg w.heap.size (fun k => k = b) w w' → w'.heap.size = w.heap.size → k ⟨b, o + n, none⟩ w') :
    IdxP (some ⟨b, o, none⟩) l i 1 (fun p => StP p (.int .u64 x) (k p) w) := by
  subst hv ho
  have := IdxP.toN (w := w) (b := b) (l := (lo ++ P ++ hi).length) (i := ((lo.length + n : Nat) : Int)) (v := v) (k := k) (lo.length + n) rfl h (by simp; omega) rfl fun w' g1 g2 g3 => by
    rw [List.append_assoc, List.set_append_right _ _ (by omega), Nat.add_sub_cancel_left, List.set_append_left _ _ (by omega), ← List.append_assoc] at g1
    exact hk w' g1 g2 g3
  obtain ⟨q, e1, e2, e3, e4⟩ := this.out
  refine ⟨⟨_, rfl, by omega, by omega, ?_⟩⟩
  cases e1
  subst he
  rw [add_none, Int.toNat_natCast, Nat.mul_one] at e4 ⊢
  rw [Nat.zero_add] at e4
  exact e4
theorem sub_dig {x y c : Nat} (hx : x < B64) (hy : y < B64) (hc : c ≤ 1) : (x + B64 - y - c) % B64 + y + c = x + B64 * (if x < y + c then 1 else 0) := by
  simp only [B64] at *
  split <;> omega
theorem takes_step {V g Pt X Dt Y cy bw s d cy' bw' B P : Nat} (h : V + g * Dt = Pt + P * (cy + bw)) (h1 : s + B * cy' = g * Y + cy) (h2 : d + s + bw = X + B * bw') :
    (V + P * d) + g * (Dt + P * Y) = (Pt + P * X) + P * B * (cy' + bw') := by
  have e : cy + bw + d + g * Y = X + B * cy' + B * bw' := by omega
  have e2 : P * (cy + bw + d + g * Y) = P * (X + B * cy' + B * bw') := by rw [e]
  simp only [Nat.mul_add] at e2 h ⊢
  rw [Nat.mul_left_comm g P Y, Nat.mul_assoc P B, Nat.mul_assoc P B]
  omega
theorem takes_last {A g Pt X Dt cy bw d b2 B P : Nat} (h : A + g * Dt = Pt + P * (cy + bw)) (h2 : d + cy + bw = X + B * b2) : A + P * d + g * Dt = Pt + P * X + P * B * b2 := by
  have e2 : P * (d + cy + bw) = P * (X + B * b2) := by rw [h2]
  simp only [Nat.mul_add] at e2 h
  rw [Nat.mul_assoc P B]
  omega
theorem mul_carry {g y c : Nat} (hg : g < B64) (hy : y < B64) (hc : c < B64) : g * y + c < B64 * B64 := by
  have h1 : g * y ≤ (B64 - 1) * (B64 - 1) := Nat.mul_le_mul (by omega) (by omega)
  simp only [B64] at *
  omega
theorem wrapMod (a b : Nat) : IntKind.u64.wrap ((a : Int) + (b : Int)) = (((a + b) % B64 : Nat) : Int) := by
  rw [← Int.natCast_add, IntKind.wrap_u64]; show _ = (((a + b) % 18446744073709551616 : Nat) : Int); omega
theorem set_mid {d P : List Nat} {i v : Nat} (hd : d.length = i) (hi : i < P.length) : (d ++ P.drop i).set i v = (d ++ [v]) ++ P.drop (i + 1) := by
  subst hd
  rw [List.set_append_right _ _ (Nat.le_refl _), Nat.sub_self, List.drop_eq_getElem_cons hi, List.set_cons_zero, List.append_assoc]
  rfl
set_option maxHeartbeats 2000000 in
theorem takes_spec {b o l cp n cD C g : Nat} {aD : Option Addr} {lo P hi D : List Nat} {w : World} (hB : NBuf w b (lo ++ P ++ hi) C) (ho : lo.length = o) (hl : l = P.length) (hP : P.length = n + 1) (hD : NRow w aD D) (hn : D.length = n)
    (hoff : ∀ p, aD = some p → p.block ≠ b) (hLP : Limbs P) (hLD : Limbs D) (hg : g < B64) (hs : n ≤ 1000000) :
    Calls Tryz.prog 76 #[.slice (some ⟨b, o, none⟩) l cp, .slice aD n cD, .int .u64 g] w fun e w' => ∃ P' bw, e = .returned (.bool (decide ((bw : Nat) ≠ 0))) ∧ P'.length = n + 1 ∧ Limbs P' ∧ bw ≤ 1 ∧
      val P' + g * val D = val P + B64 ^ (n + 1) * bw ∧ NBuf w' b (lo ++ P' ++ hi) C ∧ Chg w.heap.size (fun k => k = b) w w' := by
  refine calls_of_ev tysOk extsOk Tryz.func76 rfl rfl rfl ?_
  refine LoopP.go (S := Nat × Nat × Nat) 1125899906793344 (by kernel_rfl) (fun s => [(16, .int .i64 (s.1 : Nat)), (7, .int .u64 (s.2.1 : Nat)), (8, .int .u64 (s.2.2 : Nat))])
    (fun s W => s.1 ≤ n ∧ s.2.1 < B64 ∧ s.2.2 ≤ 1 ∧ Chg w.heap.size (fun k => k = b) w W ∧ ∃ d, d.length = s.1 ∧ Limbs d ∧ NBuf W b (lo ++ (d ++ P.drop s.1) ++ hi) C ∧ val d + g * val (D.take s.1) = val (P.take s.1) + B64 ^ s.1 * (s.2.1 + s.2.2))
    (fun s => n - s.1) (0, 0, 0) ⟨rfl, rfl, rfl, trivial⟩ ⟨Nat.zero_le _, by decide, Nat.zero_le _, Chg.refl _ _ _, [], rfl, (fun x hx => by cases hx), hB, by simp [val]⟩ ?_
  rintro ⟨i, cy, bw⟩ j W ⟨h1, h2, h3, h4, d, h5, h6, h7, h8⟩
  simp only at h1 h2 h3 h5 h7 h8
  have hDW : NRow W aD D := hD.chg0 h4 (fun h0 p hp e => hoff p hp e)
  have hPW := NBuf.mid h7 ho
  have hlen : (d ++ P.drop i).length = l := by simp; omega
  have hget : (d ++ P.drop i).getD i 0 = P.getD i 0 := by
    rw [List.getD_eq_getElem?_getD, List.getElem?_append_right (by omega), List.getElem?_drop, h5, Nat.sub_self, Nat.add_zero, ← List.getD_eq_getElem?_getD]
  refine IfP.dec (fun hlt => ?_) (fun hge => ?_)
  · have hi' : i < n := by omega
    have hx := hLP.getD i
    have hy := hLD.getD i
    refine IdxP.ldN i rfl hDW hn.symm hi' fun _ _ _ => ?_
    refine CallP.intro (mul64_spec g (D.getD i 0) hg hy W) ?_
    rintro e w2 ⟨rfl, hw⟩
    have hw := hw.symm
    subst hw
    refine ⟨_, rfl, ?_⟩
    refine add64_go0 ?_
    have a1 := Nat.mod_lt (g * D.getD i 0) (show 0 < B64 by decide)
    have a2 := Nat.mod_lt (g * D.getD i 0 % B64 + cy) (show 0 < B64 by decide)
    have a3 := Nat.mod_add_div (g * D.getD i 0) B64
    have a4 := Nat.mod_add_div (g * D.getD i 0 % B64 + cy) B64
    have a5 : g * D.getD i 0 + cy < B64 * B64 := mul_carry hg hy h2
    generalize hlo : g * D.getD i 0 % B64 = lw at *
    generalize hhi : g * D.getD i 0 / B64 = hw at *
    generalize hsm : (lw + cy) % B64 = sm at *
    generalize hca : (lw + cy) / B64 = ca at *
    have a6 : sm + B64 * (hw + ca) = g * D.getD i 0 + cy := by rw [Nat.mul_add]; omega
    have a7 : hw + ca < B64 := by
      rcases Nat.lt_or_ge (hw + ca) B64 with h | h
      · exact h
      · have := Nat.mul_le_mul_left B64 h; omega
    have e35 : IntKind.u64.wrap ((hw : Int) + (ca : Int)) = ((hw + ca : Nat) : Int) := by rw [← Int.natCast_add]; exact u64_of _ a7
    refine IdxP.ldN i rfl hPW hlen.symm (by omega) fun _ _ _ => ?_
    rw [hget]
    refine sub64_go h3 ?_
    have a8 := sub_dig hx a2 h3
    refine IdxP.toM i _ rfl rfl h7 ho (by omega) hlen.symm fun w' g1 g2 g3 => ?_
    rw [set_mid h5 (by omega)] at g1
    have e49 := next_i64 hi' (by omega)
    refine ⟨rfl, (i + 1, hw + ca, if P.getD i 0 < sm + bw then 1 else 0), ⟨⟨congrArg (Value.int .i64) e49, congrArg (Value.int .u64) e35, rfl, trivial⟩, hi', a7, by show (if _ then 1 else 0) ≤ 1; split <;> decide, h4.thenC g2 h4.size (fun _ _ h => h), d ++ [(P.getD i 0 + B64 - sm - bw) % B64], by simp [h5], h6.snoc (Nat.mod_lt _ (by decide)), g1, ?_⟩, by show n - (i + 1) < n - i; omega⟩
    show val (d ++ [_]) + g * val (D.take (i + 1)) = val (P.take (i + 1)) + B64 ^ (i + 1) * _
    rw [val_snoc, val_take_succ', val_take_succ', h5, Nat.pow_succ]
    exact takes_step h8 a6 a8
  · have hi' : i = n := by omega
    subst hi'
    have hx := hLP.getD i
    refine IdxP.ldN i rfl hPW hlen.symm (by omega) fun _ _ _ => ?_
    rw [hget]
    refine sub64_go h3 ?_
    have a8 := sub_dig hx h2 h3
    refine IdxP.toM i _ rfl rfl h7 ho (by omega) hlen.symm fun w' g1 g2 g3 => ?_
    rw [set_mid h5 (by omega), List.drop_of_length_le (by omega), List.append_nil] at g1
    refine ⟨rfl, d ++ [(P.getD i 0 + B64 - cy - bw) % B64], if P.getD i 0 < cy + bw then 1 else 0, ?_, by simp [h5], h6.snoc (Nat.mod_lt _ (by decide)), by split <;> decide, ?_, g1, h4.thenC g2 h4.size (fun _ _ h => h)⟩
    · show Ending.returned (.bool (decide (((if P.getD i 0 < cy + bw then 1 else 0 : Nat) : Int) > 0))) = _
      split <;> rfl
    · rw [val_snoc, h5, Nat.pow_succ]
      rw [List.take_of_length_le (by omega)] at h8
      have hv : val P = val (P.take i) + B64 ^ i * P.getD i 0 := by rw [← val_take_succ', List.take_of_length_le (by omega)]
      rw [hv]
      exact takes_last h8 a8
theorem gives_last {A Pt X Dt c d B P : Nat} (h : A + P * c = Pt + Dt) : A + P * ((X + c) % B) + P * B * ((X + c) / B) = Pt + P * X + Dt := by
  have e2 : P * ((X + c) % B + B * ((X + c) / B)) = P * (X + c) := by rw [Nat.mod_add_div]
  simp only [Nat.mul_add] at e2 h
  rw [Nat.mul_assoc P B]
  omega
set_option maxHeartbeats 2000000 in
theorem gives_spec {b o l cp n cD C : Nat} {aD : Option Addr} {lo P hi D : List Nat} {w : World} (hB : NBuf w b (lo ++ P ++ hi) C) (ho : lo.length = o) (hl : l = P.length) (hP : P.length = n + 1) (hD : NRow w aD D) (hn : D.length = n)
    (hoff : ∀ p, aD = some p → p.block ≠ b) (hLP : Limbs P) (hLD : Limbs D) (hs : n ≤ 1000000) :
    Calls Tryz.prog 77 #[.slice (some ⟨b, o, none⟩) l cp, .slice aD n cD] w fun e w' => ∃ P' k, e = .returned (.tuple #[]) ∧ P'.length = n + 1 ∧ Limbs P' ∧
      val P' + B64 ^ (n + 1) * k = val P + val D ∧ NBuf w' b (lo ++ P' ++ hi) C ∧ Chg w.heap.size (fun k => k = b) w w' := by
  refine calls_of_ev tysOk extsOk Tryz.func77 rfl rfl rfl ?_
  refine LoopP.go (S := Nat × Nat) 268435056 (by kernel_rfl) (fun s => [(9, .int .i64 (s.1 : Nat)), (4, .int .u64 (s.2 : Nat))])
    (fun s W => s.1 ≤ n ∧ s.2 ≤ 1 ∧ Chg w.heap.size (fun k => k = b) w W ∧ ∃ d, d.length = s.1 ∧ Limbs d ∧ NBuf W b (lo ++ (d ++ P.drop s.1) ++ hi) C ∧ val d + B64 ^ s.1 * s.2 = val (P.take s.1) + val (D.take s.1))
    (fun s => n - s.1) (0, 0) ⟨rfl, rfl, trivial⟩ ⟨Nat.zero_le _, Nat.zero_le _, Chg.refl _ _ _, [], rfl, (fun x hx => by cases hx), hB, by simp [val]⟩ ?_
  rintro ⟨i, cy⟩ j W ⟨h1, h2, h4, d, h5, h6, h7, h8⟩
  simp only at h1 h2 h5 h7 h8
  have hDW : NRow W aD D := hD.chg0 h4 (fun h0 p hp e => hoff p hp e)
  have hPW := NBuf.mid h7 ho
  have hlen : (d ++ P.drop i).length = l := by simp; omega
  have hget : (d ++ P.drop i).getD i 0 = P.getD i 0 := by
    rw [List.getD_eq_getElem?_getD, List.getElem?_append_right (by omega), List.getElem?_drop, h5, Nat.sub_self, Nat.add_zero, ← List.getD_eq_getElem?_getD]
  refine IfP.dec (fun hlt => ?_) (fun hge => ?_)
  · have hi' : i < n := by omega
    have hx := hLP.getD i
    have hy := hLD.getD i
    refine IdxP.ldN i rfl hDW hn.symm hi' fun _ _ _ => ?_
    refine IdxP.ldN i rfl hPW hlen.symm (by omega) fun _ _ _ => ?_
    rw [hget]
    refine add64_go h2 ?_
    refine IdxP.toM i _ rfl rfl h7 ho (by omega) hlen.symm fun w' g1 g2 g3 => ?_
    rw [set_mid h5 (by omega)] at g1
    have e49 := next_i64 hi' (by omega)
    refine ⟨rfl, (i + 1, (P.getD i 0 + D.getD i 0 + cy) / B64), ⟨⟨congrArg (Value.int .i64) e49, rfl, trivial⟩, hi', ?_, h4.thenC g2 h4.size (fun _ _ h => h), d ++ [(P.getD i 0 + D.getD i 0 + cy) % B64], by simp [h5], h6.snoc (Nat.mod_lt _ (by decide)), g1, ?_⟩, by show n - (i + 1) < n - i; omega⟩
    · show _ / 18446744073709551616 ≤ 1; omega
    show val (d ++ [_]) + B64 ^ (i + 1) * _ = val (P.take (i + 1)) + val (D.take (i + 1))
    rw [val_snoc, val_take_succ', val_take_succ', h5, Nat.pow_succ]
    exact add_step (s := 0) h8
  · have hi' : i = n := by omega
    subst hi'
    have hx := hLP.getD i
    refine IdxP.ldN i rfl hPW hlen.symm (by omega) fun _ _ _ => ?_
    rw [hget]
    have e34 : IntKind.u64.wrap (((P.getD i 0 : Nat) : Int) + (cy : Int)) = (((P.getD i 0 + cy) % B64 : Nat) : Int) := wrapMod _ _
    refine IdxP.toM i _ e34 rfl h7 ho (by omega) hlen.symm fun w' g1 g2 g3 => ?_
    rw [set_mid h5 (by omega), List.drop_of_length_le (by omega), List.append_nil] at g1
    refine ⟨rfl, d ++ [(P.getD i 0 + cy) % B64], (P.getD i 0 + cy) / B64, rfl, by simp [h5], h6.snoc (Nat.mod_lt _ (by decide)), ?_, g1, h4.thenC g2 h4.size (fun _ _ h => h)⟩
    rw [val_snoc, h5, Nat.pow_succ]
    rw [List.take_of_length_le (l := D) (by omega)] at h8
    have hv : val P = val (P.take i) + B64 ^ i * P.getD i 0 := by rw [← val_take_succ', List.take_of_length_le (by omega)]
    rw [hv]
    exact gives_last (d := 0) h8
end Go.Proofs.YthneejblcffdgaaGreatDoor
