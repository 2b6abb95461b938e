/- Texts of this proof, one behind the other: Nm3 Nm4 Nm5. -/
import Derived.Test.YthneejblcffdgaaGreatDoorPart14
namespace Go.Proofs.YthneejblcffdgaaGreatDoor
open Go Go.Ev Go.RowKit
set_option maxRecDepth 20000
set_option linter.unusedVariables false
set_option linter.unusedSimpArgs false

theorem val_set : ∀ (xs : List Nat) (i v : Nat), i < xs.length → val (xs.set i v) + B64 ^ i * xs.getD i 0 = val xs + B64 ^ i * v
  | [], _, _, h => absurd h (by simp)
  | x :: r, 0, v, _ => by simp [val]; omega
  | x :: r, i + 1, v, h => by
    have ih := val_set r i v (by simpa using h)
    rw [List.set_cons_succ, val_cons, val_cons, List.getD_cons_succ, Nat.pow_succ, Nat.mul_comm (B64 ^ i) B64, Nat.mul_assoc, Nat.mul_assoc, Nat.add_assoc, ← Nat.mul_add, ih, Nat.mul_add, Nat.add_assoc]
/-- how two numbers stand. -/
def cmpV (n m : Nat) : Int := if n = m then 0 else if n < m then -1 else 1
theorem cmpV_eq {n m : Nat} (h : n = m) : cmpV n m = 0 := if_pos h
theorem cmpV_lt {n m : Nat} (h : n < m) : cmpV n m = -1 := by unfold cmpV; rw [if_neg (by omega), if_pos h]
theorem cmpV_gt {n m : Nat} (h : m < n) : cmpV n m = 1 := by unfold cmpV; rw [if_neg (by omega), if_neg (by omega)]
theorem cmpFrom_val (a b : List Nat) (ha : Limbs a) (hb : Limbs b) : ∀ k, cmpFrom a b k = cmpV (val (a.take k)) (val (b.take k))
  | 0 => by simp [cmpFrom, cmpV, val]
  | k + 1 => by
    have h1 : val (a.take k) < B64 ^ k := Nat.lt_of_lt_of_le (val_lt fun x hx => ha x (List.mem_of_mem_take hx)) (Nat.pow_le_pow_right (by decide) (by simp; omega))
    have h2 : val (b.take k) < B64 ^ k := Nat.lt_of_lt_of_le (val_lt fun x hx => hb x (List.mem_of_mem_take hx)) (Nat.pow_le_pow_right (by decide) (by simp; omega))
    unfold cmpFrom
    rw [val_take_succ', val_take_succ', cmpFrom_val a b ha hb k]
    generalize val (a.take k) = u at *
    generalize val (b.take k) = v at *
    generalize a.getD k 0 = x at *
    generalize b.getD k 0 = y at *
    generalize B64 ^ k = P at *
    by_cases hxy : x = y
    · subst hxy
      rw [if_pos rfl]
      rcases Nat.lt_trichotomy u v with h | h | h
      · rw [cmpV_lt h, cmpV_lt (by omega)]
      · rw [cmpV_eq h, cmpV_eq (by rw [h])]
      · rw [cmpV_gt h, cmpV_gt (by omega)]
    · rw [if_neg hxy]
      rcases Nat.lt_or_ge x y with h | h
      · have : P * x + P ≤ P * y := by rw [← Nat.mul_succ]; exact Nat.mul_le_mul_left _ h
        rw [if_pos h, cmpV_lt (by omega)]
      · have : P * y + P ≤ P * x := by rw [← Nat.mul_succ]; exact Nat.mul_le_mul_left _ (by omega)
        rw [if_neg (by omega), cmpV_gt (by omega)]
theorem cmpN_val (n m : Nat) : cmpN (limbs n) (limbs m) = cmpV n m := by
  unfold cmpN
  by_cases h : (limbs n).length = (limbs m).length
  · rw [if_pos h, cmpFrom_val _ _ (limbs_limbs n) (limbs_limbs m), List.take_length, h, List.take_length, val_limbs, val_limbs]
  · rw [if_neg h]
    have key : ∀ {x y : Nat}, (limbs x).length < (limbs y).length → x < y := by
      intro x y hxy
      have h1 := lt_of_limbs x
      have hy : 0 < y := by
        rcases Nat.eq_zero_or_pos y with h0 | h0
        · subst h0; rw [limbs_zero] at hxy; simp at hxy
        · exact h0
      have h2 := (limbs_pos hy).2
      exact Nat.lt_of_lt_of_le h1 (Nat.le_trans (Nat.pow_le_pow_right (by decide) (by omega)) h2)
    rcases Nat.lt_or_ge (limbs n).length (limbs m).length with h1 | h1
    · rw [if_pos h1, cmpV_lt (key h1)]
    · rw [if_neg (by omega), cmpV_gt (key (x := m) (y := n) (by omega))]
theorem cmpV_spec {a b : Option Addr} {l c l2 c2 n m : Nat} {w : World} (ha : NumS w a l c n) (hb : NumS w b l2 c2 m) :
    Calls Tryz.prog 16 #[.slice a l c, .slice b l2 c2] w fun e w' => e = .returned (.int .i64 (cmpV n m)) ∧ Below w.heap.size w w' := by
  obtain ⟨xs, h1, h2, h3, h4, h5, h6⟩ := ha
  obtain ⟨ys, g1, g2, g3, g4, g5, g6⟩ := hb
  have := cmp_spec h1 h3 h4 (by omega) g1 g3 g4 (by omega)
  rw [trimmed_eq h2, trimmed_eq g2, h6, g6, cmpN_val] at this
  exact this.mono fun e w' h => ⟨h.1, h.2.1⟩
end Go.Proofs.YthneejblcffdgaaGreatDoor

namespace Go.Proofs.YthneejblcffdgaaGreatDoor
open Go Go.Ev Go.RowKit
set_option maxRecDepth 20000
set_option linter.unusedVariables false
set_option linter.unusedSimpArgs false

theorem sub_step {P x y c Sv X Y : Nat} (hx : x < B64) (hy : y < B64) (hc : c ≤ 1) (h : Sv + Y = X + P * c) :
    (Sv + P * ((x + B64 - y - c) % B64)) + (Y + P * y) = (X + P * x) + P * B64 * (if x < y + c then 1 else 0) := by
  have e : (x + B64 - y - c) % B64 + y + c = x + B64 * (if x < y + c then 1 else 0) := by
    have hx : x < 18446744073709551616 := hx
    have hy : y < 18446744073709551616 := hy
    show (x + 18446744073709551616 - y - c) % 18446744073709551616 + y + c = x + 18446744073709551616 * (if x < y + c then 1 else 0)
    split <;> omega
  have e2 := congrArg (P * ·) e
  simp only [Nat.mul_add] at e2
  rw [Nat.mul_assoc P B64]
  omega
set_option maxHeartbeats 2000000 in
theorem sub_spec {a b : Option Addr} {l c l2 c2 n m : Nat} {w : World} (ha : NumS w a l c n) (hb : NumS w b l2 c2 m) :
    Calls Tryz.prog 49 #[.slice a l c, .slice b l2 c2] w fun e w' => ∃ a' l' c', e = .returned (.tuple #[.slice a' l' c', .bool (decide (m ≤ n))]) ∧ NumN w' a' l' c' (n - m) ∧ (∀ p, a' = some p → w.heap.size ≤ p.block) ∧ Below w.heap.size w w' := by
  refine calls_of_ev tysOk extsOk Tryz.func49 rfl rfl rfl ?_
  refine CallP.intro (trimN_spec ha) ?_
  rintro e w1 ⟨a1, rfl, t1, _, hw⟩
  have hw := hw.symm
  subst hw
  refine ⟨_, rfl, ?_⟩
  refine CallP.intro (trimN_spec hb) ?_
  rintro e w1 ⟨b1, rfl, t2, _, hw⟩
  have hw := hw.symm
  subst hw
  refine ⟨_, rfl, ?_⟩
  refine CallP.intro (cmpV_spec t1.s t2.s) ?_
  rintro e w0 ⟨rfl, b0⟩
  refine ⟨_, rfl, ?_⟩
  have hXl := t1.2.2.2
  have hYl := t2.2.2.2
  rw [t1.2.1.symm] at *
  by_cases hlt : n < m
  · rw [cmpV_lt hlt]
    refine IfP.yes ?_
    refine ⟨rfl, none, 0, 0, ?_, ?_, (fun p hp => by cases hp), b0⟩
    · rw [decide_eq_false (by omega : ¬ m ≤ n)]; rfl
    · rw [show n - m = 0 by omega]; exact NumN.nil _ _ _
  · have hc0 : ¬ cmpV n m < 0 := by
      rcases Nat.lt_or_ge m n with h | h
      · rw [cmpV_gt h]; decide
      · rw [cmpV_eq (by omega)]; decide
    refine IfP.dneg hc0 ?_
    have hle : (limbs m).length ≤ (limbs n).length := by
      rcases Nat.eq_zero_or_pos m with h0 | h0
      · subst h0; exact Nat.zero_le _
      · refine limbs_len_le ?_
        exact Nat.lt_of_le_of_lt (by omega) (lt_of_limbs n)
    generalize hX : limbs n = X at *
    generalize hY : limbs m = Y at *
    have hLX : Limbs X := hX ▸ limbs_limbs n
    have hLY : Limbs Y := hY ▸ limbs_limbs m
    have hvX : val X = n := hX ▸ val_limbs n
    have hvY : val Y = m := hY ▸ val_limbs m
    have rX : NRow w0 a1 X := Row.below (hX ▸ t1.1) b0
    have rY : NRow w0 b1 Y := Row.below (hY ▸ t2.1) b0
    refine Mk.toN X.length rfl rfl (by omega) fun w2 m2 b2 s2 => ?_
    have hXr := Row.below rX b2
    have hYr := Row.below rY b2
    refine LoopP.go (S := Nat × Nat) 281474968322944 (by kernel_rfl) (fun s => [(23, .int .i64 s.1), (7, .int .u64 s.2)])
      (fun s W => s.1 ≤ X.length ∧ s.2 ≤ 1 ∧ Chg w2.heap.size (fun k => k = w0.heap.size) w2 W ∧ ∃ d, d.length = s.1 ∧ Limbs d ∧ NBuf W w0.heap.size (d ++ List.replicate (X.length - d.length) 0) X.length ∧ val d + val (Y.take s.1) = val (X.take s.1) + B64 ^ s.1 * s.2)
      (fun s => X.length - s.1) (0, 0) ⟨rfl, rfl, trivial⟩ ⟨Nat.zero_le _, Nat.zero_le _, Chg.refl _ _ _, [], rfl, (fun x hx => by cases hx), m2, by simp [val]⟩ ?_
    rintro ⟨i, cy⟩ j W ⟨h1, h2, h3, d, h4, h5, h6, h7⟩
    simp only at h1 h2 h4 h7
    have hXW : NRow W a1 X := hXr.chg0 h3 (fun h0 p hp e => by have := Row.lt rX h0 p hp; omega)
    have hYW : NRow W b1 Y := hYr.chg0 h3 (fun h0 p hp e => by have := Row.lt rY h0 p hp; omega)
    refine IfP.dec (fun hlt2 => ?_) (fun hge2 => ?_)
    · have hi : i < X.length := by omega
      have hx := hLX.getD i
      have hy := hLY.getD i
      have fin : ∀ (y : Nat), y = Y.getD i 0 → ∀ w', NBuf w' w0.heap.size ((d ++ List.replicate (X.length - d.length) 0).set i ((X.getD i 0 + B64 - y - cy) % B64)) X.length → Chg W.heap.size (fun k => k = w0.heap.size) W w' →
          (i + 1 ≤ X.length ∧ (if X.getD i 0 < y + cy then 1 else 0) ≤ 1 ∧ Chg w2.heap.size (fun k => k = w0.heap.size) w2 w' ∧ ∃ d, d.length = i + 1 ∧ Limbs d ∧ NBuf w' w0.heap.size (d ++ List.replicate (X.length - d.length) 0) X.length ∧ val d + val (Y.take (i + 1)) = val (X.take (i + 1)) + B64 ^ (i + 1) * (if X.getD i 0 < y + cy then 1 else 0)) := by
        rintro y rfl w' g1 g2
        refine ⟨hi, by split <;> omega, h3.thenC g2 h3.size (fun _ _ h => h), d ++ [(X.getD i 0 + B64 - Y.getD i 0 - cy) % B64], by simp [h4], h5.snoc (Nat.mod_lt _ (by decide)), ?_, ?_⟩
        · rw [← h4, set_zeros d _ _ (by omega)] at g1
          rw [List.length_append, List.length_singleton]
          rw [← h4]; exact g1
        · rw [val_snoc, val_take_succ', val_take_succ', h4, Nat.pow_succ]
          exact sub_step hx hy h2 h7
      have e26 := next_i64 hi (by omega)
      refine IfP.dec (fun hy1 => ?_) (fun hy1 => ?_)
      · have hiy : i < Y.length := by omega
        refine IdxP.ldN i rfl hYW rfl hiy fun _ _ _ => ?_
        refine IdxP.ldN i rfl hXW rfl hi fun _ _ _ => ?_
        refine sub64_go h2 ?_
        refine IdxP.toN i rfl h6 (by omega) (by simp; omega) fun w' g1 g2 g3 => ?_
        exact ⟨rfl, (i + 1, _), ⟨⟨congrArg (Value.int .i64) e26, rfl, trivial⟩, fin _ rfl w' g1 g2⟩, by show X.length - (i + 1) < X.length - i; omega⟩
      · have hiy : Y.length ≤ i := by omega
        have e0 : 0 = Y.getD i 0 := by rw [List.getD_eq_getElem?_getD, List.getElem?_eq_none hiy]; rfl
        refine IdxP.ldN i rfl hXW rfl hi fun _ _ _ => ?_
        refine sub64_go (y := 0) h2 ?_
        refine IdxP.toN i rfl h6 (by omega) (by simp; omega) fun w' g1 g2 g3 => ?_
        exact ⟨rfl, (i + 1, _), ⟨⟨congrArg (Value.int .i64) e26, rfl, trivial⟩, fin 0 e0 w' g1 g2⟩, by show X.length - (i + 1) < X.length - i; omega⟩
    · have hi : i = X.length := by omega
      rw [List.take_of_length_le (by omega), List.take_of_length_le (by omega), hvX, hvY] at h7
      rw [show X.length - d.length = 0 by omega, List.replicate_zero, List.append_nil] at h6
      have hb0 := b0.size
      have hC := (Chg.of_below (s := fun _ => False) (b0.trans (b2.mono hb0))).thenC h3 (by have := b2.size; omega) (fun k hk e => by omega)
      have hd : val d = n - m := by
        have h8 := val_lt h5
        rw [h4] at h8
        rcases (by omega : cy = 0 ∨ cy = 1) with rfl | rfl
        · rw [Nat.mul_zero] at h7; omega
        · rw [Nat.mul_one] at h7
          have := B64_pos i
          generalize B64 ^ i = P at *
          omega
      refine CallP.intro (trimB_spec h6.nrow h5 (by omega) X.length (by omega) X.length (by omega)) ?_
      rintro e w5 ⟨a', l', rfl, u1, u2, hw⟩
      subst hw
      rw [hd] at u1
      refine ⟨_, rfl, rfl, a', l', _, ?_, u1, fun p hp => by rw [u2 p hp]; exact hb0, Chg.below hC⟩
      rw [decide_eq_true (by omega : m ≤ n)]; rfl

/-! ### Mul -/
theorem mul_digit {x y o cy : Nat} (hx : x < B64) (hy : y < B64) (ho : o < B64) (hc : cy < B64) :
    x * y / B64 + (x * y % B64 + o) / B64 < B64 ∧ x * y / B64 + (x * y % B64 + o) / B64 + ((x * y % B64 + o) % B64 + cy) / B64 < B64 ∧
    ((x * y % B64 + o) % B64 + cy) % B64 + B64 * (x * y / B64 + (x * y % B64 + o) / B64 + ((x * y % B64 + o) % B64 + cy) / B64) = x * y + o + cy := by
  have hp : x * y ≤ 18446744073709551615 * 18446744073709551615 := Nat.mul_le_mul (by have : x < 18446744073709551616 := hx; omega) (by have : y < 18446744073709551616 := hy; omega)
  have ho : o < 18446744073709551616 := ho
  have hc : cy < 18446744073709551616 := hc
  show x * y / 18446744073709551616 + (x * y % 18446744073709551616 + o) / 18446744073709551616 < 18446744073709551616 ∧ _
  generalize x * y = p at *
  show p / 18446744073709551616 + (p % 18446744073709551616 + o) / 18446744073709551616 < 18446744073709551616 ∧ p / 18446744073709551616 + (p % 18446744073709551616 + o) / 18446744073709551616 + ((p % 18446744073709551616 + o) % 18446744073709551616 + cy) / 18446744073709551616 < 18446744073709551616 ∧
    ((p % 18446744073709551616 + o) % 18446744073709551616 + cy) % 18446744073709551616 + 18446744073709551616 * (p / 18446744073709551616 + (p % 18446744073709551616 + o) / 18446744073709551616 + ((p % 18446744073709551616 + o) % 18446744073709551616 + cy) / 18446744073709551616) = p + o + cy
  refine ⟨by omega, by omega, by omega⟩
theorem wrapAdd {a b : Nat} (h : a + b < B64) : IntKind.u64.wrap ((a : Int) + (b : Int)) = ((a + b : Nat) : Int) := by rw [← Int.natCast_add]; exact u64_of _ h
theorem wrapAddI {a b : Nat} (h : a + b ≤ 1000000000) : IntKind.i64.wrap ((a : Int) + (b : Int)) = ((a + b : Nat) : Int) := by rw [← Int.natCast_add]; exact i64_of _ (by omega)
theorem mul_inner {P V V' O x y o cy lo hi T : Nat} (h1 : V' + P * o = V + P * lo) (h2 : V + P * cy = O + T) (h3 : lo + B64 * hi = x * y + o + cy) : V' + P * B64 * hi = O + (T + P * (x * y)) := by
  have e := congrArg (P * ·) h3
  simp only [Nat.mul_add] at e
  rw [Nat.mul_assoc P B64 hi]
  omega
set_option maxHeartbeats 4000000 in
theorem mul_spec {a b : Option Addr} {l c l2 c2 n m : Nat} {w : World} (ha : NumS w a l c n) (hb : NumS w b l2 c2 m) (hl : l ≤ 120) (hl2 : l2 ≤ 120) :
    Calls Tryz.prog 18 #[.slice a l c, .slice b l2 c2] w fun e w' => ∃ a' l' c', e = .returned (.slice a' l' c') ∧ NumN w' a' l' c' (n * m) ∧ (∀ p, a' = some p → w.heap.size ≤ p.block) ∧ Below w.heap.size w w' := by
  refine calls_of_ev tysOk extsOk Tryz.func18 rfl rfl rfl ?_
  have hn := limbs_len_le (Nat.lt_of_lt_of_le ha.lt (Nat.pow_le_pow_right (by decide) hl))
  have hm := limbs_len_le (Nat.lt_of_lt_of_le hb.lt (Nat.pow_le_pow_right (by decide) hl2))
  refine CallP.intro (trimN_spec ha) ?_
  rintro e w1 ⟨a1, rfl, t1, _, hw⟩
  have hw := hw.symm
  subst hw
  refine ⟨_, rfl, ?_⟩
  refine CallP.intro (trimN_spec hb) ?_
  rintro e w1 ⟨b1, rfl, t2, _, hw⟩
  have hw := hw.symm
  subst hw
  refine ⟨_, rfl, ?_⟩
  generalize hX : limbs n = X at *
  generalize hY : limbs m = Y at *
  have hLX : Limbs X := hX ▸ limbs_limbs n
  have hLY : Limbs Y := hY ▸ limbs_limbs m
  have hvX : val X = n := hX ▸ val_limbs n
  have hvY : val Y = m := hY ▸ val_limbs m
  have rX : NRow w a1 X := hX ▸ t1.1
  have rY : NRow w b1 Y := hY ▸ t2.1
  have e22 := wrapAddI (a := X.length) (b := Y.length) (by omega)
  refine Mk.toN (X.length + Y.length) e22 e22 (by omega) fun w2 m2 b2 s2 => ?_
  have hXr := Row.below rX b2
  have hYr := Row.below rY b2
  refine LoopP.go (S := Nat) 4835703278458516631732160 (by kernel_rfl) (fun i => [(26, .int .i64 i)])
    (fun i W => i ≤ X.length ∧ Chg w2.heap.size (fun k => k = w.heap.size) w2 W ∧ ∃ o, o.length = X.length + Y.length ∧ Limbs o ∧ NBuf W w.heap.size o (X.length + Y.length) ∧ val o = val (X.take i) * m ∧ (∀ j, i + Y.length ≤ j → o.getD j 0 = 0))
    (fun i => X.length - i) 0 ⟨rfl, trivial⟩ ⟨Nat.zero_le _, Chg.refl _ _ _, List.replicate (X.length + Y.length) 0, by simp, (fun x hx => by rw [List.eq_of_mem_replicate hx]; decide), m2, by rw [val_zeros]; simp [val], fun j _ => by
      rw [List.getD_eq_getElem?_getD, List.getElem?_replicate]; split <;> rfl⟩ ?_
  rintro i j W ⟨h1, h2, o, h3, h4, h5, h6, h7⟩
  have hXW : NRow W a1 X := hXr.chg0 h2 (fun h0 p hp e => by have := Row.lt rX h0 p hp; omega)
  have hYW : NRow W b1 Y := hYr.chg0 h2 (fun h0 p hp e => by have := Row.lt rY h0 p hp; omega)
  refine IfP.dec (fun hlt => ?_) (fun hge => ?_)
  · have hi : i < X.length := by omega
    have hx := hLX.getD i
    refine IdxP.ldN i rfl hXW rfl hi fun _ _ _ => ?_
    generalize hxv : X.getD i 0 = x at hx
    refine LoopP.go (S := Nat × Nat) 18889465931469990936320 (by kernel_rfl) (fun s => [(33, .int .i64 s.1), (8, .int .u64 s.2)])
      (fun s V => s.1 ≤ Y.length ∧ s.2 < B64 ∧ Chg W.heap.size (fun k => k = w.heap.size) W V ∧ ∃ q, q.length = X.length + Y.length ∧ Limbs q ∧ NBuf V w.heap.size q (X.length + Y.length) ∧ val q + B64 ^ (i + s.1) * s.2 = val o + x * (B64 ^ i * val (Y.take s.1)) ∧ (∀ j, i + Y.length ≤ j → q.getD j 0 = 0))
      (fun s => Y.length - s.1) (0, 0) ⟨rfl, rfl, trivial⟩ ⟨Nat.zero_le _, by decide, Chg.refl _ _ _, o, h3, h4, h5, by simp [val], h7⟩ ?_
    rintro ⟨t, cy⟩ j2 V ⟨v1, v2, v3, q, v4, v5, v6, v7, v8⟩
    simp only at v1 v2 v7
    have hYV : NRow V b1 Y := hYW.chg0 v3 (fun h0 p hp e => by have := Row.lt rY h0 p hp; omega)
    refine IfP.dec (fun hlt2 => ?_) (fun hge2 => ?_)
    · have ht : t < Y.length := by omega
      have hy := hLY.getD t
      refine IdxP.ldN t rfl hYV rfl ht fun _ _ _ => ?_
      have hyv : val (Y.take (t + 1)) = val (Y.take t) + B64 ^ t * Y.getD t 0 := val_take_succ' Y t
      generalize Y.getD t 0 = y at hy hyv
      refine CallP.same (mul64_spec x y hx hy V) ?_
      have e49 := wrapAddI (a := i) (b := t) (by omega)
      refine IdxP.ldN (i + t) e49 v6.nrow v4.symm (by omega) fun _ _ _ => ?_
      have ho := v5.getD (i + t)
      generalize hov : q.getD (i + t) 0 = ov at ho
      obtain ⟨d1, d2, d3⟩ := mul_digit hx hy ho v2
      refine add64_go0 ?_
      refine add64_go0 ?_
      have e57 : IntKind.u64.wrap (((x * y / B64 : Nat) : Int) + (((x * y % B64 + ov) / B64 : Nat) : Int)) = ((x * y / B64 + (x * y % B64 + ov) / B64 : Nat) : Int) := wrapAdd d1
      have e71 : IntKind.u64.wrap (IntKind.u64.wrap (((x * y / B64 : Nat) : Int) + (((x * y % B64 + ov) / B64 : Nat) : Int)) + ((((x * y % B64 + ov) % B64 + cy) / B64 : Nat) : Int)) = ((x * y / B64 + (x * y % B64 + ov) / B64 + ((x * y % B64 + ov) % B64 + cy) / B64 : Nat) : Int) := by rw [e57]; exact wrapAdd d2
      refine IdxP.toN (i + t) e49 v6 (by omega) v4.symm fun w' g1 g2 g3 => ?_
      have hs := val_set q (i + t) (((x * y % B64 + ov) % B64 + cy) % B64) (by omega)
      rw [hov] at hs
      refine ⟨rfl, (t + 1, x * y / B64 + (x * y % B64 + ov) / B64 + ((x * y % B64 + ov) % B64 + cy) / B64), ⟨⟨congrArg (Value.int .i64) (next_i64 ht (by omega)), congrArg (Value.int .u64) e71, trivial⟩, ht, d2, v3.thenC g2 v3.size (fun _ _ h => h), _, by simp [v4], v5.set _ (Nat.mod_lt _ (by decide)), g1, ?_, fun j hj => ?_⟩, by show Y.length - (t + 1) < Y.length - t; omega⟩
      · show val _ + B64 ^ (i + (t + 1)) * _ = _
        have e9 : B64 ^ (i + t) * (x * y) = x * (B64 ^ i * (B64 ^ t * y)) := by rw [Nat.pow_add, Nat.mul_assoc, Nat.mul_left_comm x, Nat.mul_left_comm x]
        rw [← Nat.add_assoc, Nat.pow_succ, hyv, mul_inner hs v7 d3, e9, Nat.mul_add (B64 ^ i), Nat.mul_add x]
      · rw [List.getD_eq_getElem?_getD, List.getElem?_set_ne (by omega), ← List.getD_eq_getElem?_getD]; exact v8 j hj
    · have ht : t = Y.length := by omega
      subst ht
      rw [List.take_length, hvY] at v7
      have e78 := wrapAddI (a := i) (b := Y.length) (by omega)
      refine IdxP.toN (i + Y.length) e78 v6 (by omega) v4.symm fun w' g1 g2 g3 => ?_
      have hs := val_set q (i + Y.length) cy (by omega)
      rw [v8 _ (Nat.le_refl _), Nat.mul_zero, Nat.add_zero] at hs
      refine ⟨rfl, i + 1, ⟨⟨congrArg (Value.int .i64) (next_i64 hi (by omega)), trivial⟩, hi, h2.thenC (v3.thenC g2 v3.size (fun _ _ h => h)) h2.size (fun _ _ h => h), _, by simp [v4], v5.set _ v2, g1, ?_, fun j hj => ?_⟩, by omega⟩
      · rw [hs, v7, h6, val_take_succ' X i, hxv, Nat.add_mul]
        congr 1
        rw [Nat.mul_assoc, Nat.mul_left_comm]
      · rw [List.getD_eq_getElem?_getD, List.getElem?_set_ne (by omega), ← List.getD_eq_getElem?_getD]; exact v8 j (by omega)
  · have hi : i = X.length := by omega
    rw [List.take_of_length_le (by omega), hvX] at h6
    have hC := (Chg.of_below (s := fun _ => False) b2).thenC h2 b2.size (fun k hk e => by omega)
    refine CallP.intro (trimB_spec h5.nrow h4 (by omega) (X.length + Y.length) (by omega) (X.length + Y.length) h3.symm) ?_
    rintro e w5 ⟨a', l', rfl, u1, u2, hw⟩
    subst hw
    rw [h6] at u1
    exact ⟨_, rfl, rfl, a', l', _, rfl, u1, fun p hp => by rw [u2 p hp]; exact Nat.le_refl _, Chg.below hC⟩
end Go.Proofs.YthneejblcffdgaaGreatDoor

namespace Go.Proofs.YthneejblcffdgaaGreatDoor
open Go Go.Ev Go.RowKit
set_option maxRecDepth 20000
set_option linter.unusedVariables false
set_option linter.unusedSimpArgs false

/-! ### Shl by less than a limb -/
theorem pow2_i (k : Nat) : ((2 : Int) ^ k) = ((2 ^ k : Nat) : Int) := by simp
theorem shl_run {x k : Nat} (hk : k < 64) : IntKind.u64.wrap ((x : Int) * 2 ^ (min ((k : Int)).toNat IntKind.u64.bits)) = ((x * 2 ^ k % B64 : Nat) : Int) := by
  rw [show min ((k : Int)).toNat IntKind.u64.bits = k from Nat.min_eq_left (Nat.le_of_lt hk), pow2_i, ← Int.natCast_mul, IntKind.wrap_u64]
  rfl
theorem shr_run (x k : Nat) (hk : k ≤ 64) : ((x : Int)).fdiv (2 ^ (min ((k : Int)).toNat IntKind.u64.bits)) = ((x / 2 ^ k : Nat) : Int) := by
  rw [show min ((k : Int)).toNat IntKind.u64.bits = k from Nat.min_eq_left hk, fdiv_pow]
theorem pow_split {k : Nat} (hk : k ≤ 64) : 2 ^ k * 2 ^ (64 - k) = B64 := by rw [← Nat.pow_add, show k + (64 - k) = 64 by omega]
/-- a limb moved up: what stays in its place, what goes to the next. -/
theorem shl_parts {x k : Nat} (hk : k < 64) (hx : x < B64) : x * 2 ^ k % B64 = 2 ^ k * (x % 2 ^ (64 - k)) ∧ x * 2 ^ k = x * 2 ^ k % B64 + B64 * (x / 2 ^ (64 - k)) ∧ x / 2 ^ (64 - k) < 2 ^ k := by
  have hp := pow_split (Nat.le_of_lt hk)
  have e1 : x * 2 ^ k % B64 = 2 ^ k * (x % 2 ^ (64 - k)) := by rw [← hp, Nat.mul_comm x, Nat.mul_mod_mul_left]
  refine ⟨e1, ?_, ?_⟩
  · rw [e1, ← hp, Nat.mul_assoc, ← Nat.mul_add, Nat.mul_comm x, Nat.mod_add_div]
  · exact (Nat.div_lt_iff_lt_mul (Nat.two_pow_pos _)).2 (by rw [hp]; exact hx)
theorem or_add {c k q : Nat} (hc : c < 2 ^ k) (h : 2 ^ k * q < 18446744073709551616) (hk : k < 64) : Go.bits .or .u64 (c : Int) ((2 ^ k * q : Nat) : Int) = ((c + 2 ^ k * q : Nat) : Int) := by
  have h1 : 2 ^ k ≤ 2 ^ 63 := Nat.pow_le_pow_right (by decide) (by omega)
  rw [u64_or_nat c _ (by omega) h, Nat.or_comm, ← Nat.two_pow_add_eq_or_of_lt hc, Nat.add_comm]
theorem set_get_ne {xs : List Nat} {i j v : Nat} (h : i ≠ j) : (xs.set i v).getD j 0 = xs.getD j 0 := by
  rw [List.getD_eq_getElem?_getD, List.getElem?_set_ne h, ← List.getD_eq_getElem?_getD]
theorem set_get_eq {xs : List Nat} {i v : Nat} (h : i < xs.length) : (xs.set i v).getD i 0 = v := by
  rw [List.getD_eq_getElem?_getD, List.getElem?_set_self h]; rfl
theorem zeros_get (n j : Nat) : (List.replicate n 0).getD j 0 = 0 := by
  rw [List.getD_eq_getElem?_getD, List.getElem?_replicate]; split <;> rfl
/-- a number trimmed off a buffer of one's own is one's own. -/
theorem trimO_spec {b c : Nat} {xs : List Nat} {w : World} (h : NBuf w b xs c) (hL : Limbs xs) (hs : xs.length ≤ 250) (l : Nat) (hl : l = xs.length) :
    Calls Tryz.prog 40 #[.slice (some ⟨b, 0, none⟩) l c] w fun e w' => ∃ a' l', e = .returned (.slice a' l' c) ∧ OwnS .u64 34 w' a' l' c (ints (limbs (val xs))) (some b) ∧ w' = w := by
  subst hl
  have hle := h.le
  rw [ints_length] at hle
  have hx := trimmed_eq hL
  have hr := h.nrow
  refine calls_of_ev tysOk extsOk Tryz.func40 rfl rfl rfl ?_
  have hil := ints_length xs
  refine LoopP.go (S := Nat) 262088 (by kernel_rfl) (fun n => [(3, .int .i64 n)]) (fun n W => n ≤ xs.length ∧ trimLen xs n = trimLen xs xs.length ∧ W = w) (fun n => n) xs.length ⟨rfl, trivial⟩ ⟨Nat.le_refl _, rfl, rfl⟩ ?_
  rintro n j W ⟨h1, h2, hW⟩
  have hW := hW.symm
  subst hW
  have done : n = trimLen xs xs.length → OwnS .u64 34 w (some ⟨b, 0, none⟩) n c (ints (limbs (val xs))) (some b) := by
    intro hn
    have e : (ints xs).take n = ints (limbs (val xs)) := by
      rw [← hx, trimmed, ← hn]; unfold ints; rw [List.map_take]
    have hb := Buf.take h n
    rw [e] at hb
    refine ⟨rfl, ?_, hb⟩
    rw [← hx, ints_length, trimmed_length]; exact hn
  rcases n with _ | n
  · iterate 6 refine IfP.neg rfl ?_
    refine IfP.neg rfl ?_
    refine IfP.no ?_
    refine SlcP.first (b := b) (mx := none) 0 c rfl rfl (Nat.zero_le _) (Nat.le_refl _) ?_
    exact ⟨rfl, _, _, rfl, done (by rw [← h2]; rfl), rfl⟩
  · have hpos : decide (((n + 1 : Nat) : Int) > 0) = true := decide_eq_true (by omega)
    have hsub : IntKind.i64.wrap (((n + 1 : Nat) : Int) - 1) = (n : Int) := by rw [show (((n + 1 : Nat) : Int) - 1) = (n : Int) by omega]; exact i64_of _ (by omega)
    refine IfP.pos hpos ?_
    iterate 3 refine IfP.yes ?_
    obtain ⟨b', o, ha, hcell⟩ := hr n (by omega)
    have hx : (ints xs)[n]'(by omega) = ((xs.getD n 0 : Nat) : Int) := by
      rw [← ints_getD, List.getD_eq_getElem?_getD, List.getElem?_eq_getElem (by omega)]; rfl
    rw [hx] at hcell
    cases ha
    refine IdxP.at n hsub (by omega) ?_
    refine IfP.yes ?_
    refine LdI.go (n := ((xs.getD n 0 : Nat) : Int)) (show w.cell? ⟨b, 0 + n * 1, none⟩ = _ by rw [Nat.mul_one]; exact hcell) ?_
    refine IfP.yes ?_
    refine IfP.yes ?_
    refine IfP.beq (fun hz => ?_) (fun hz => ?_)
    · refine ⟨rfl, n, ⟨⟨congrArg (Value.int .i64) hsub, trivial⟩, by omega, ?_, rfl⟩, by omega⟩
      rw [← h2]
      show trimLen xs n = if xs.getD n 0 = 0 then trimLen xs n else n + 1
      rw [if_pos (by omega)]
    · have hn : trimLen xs (n + 1) = n + 1 := by unfold trimLen; rw [if_neg (by omega)]
      refine SlcP.first (b := b) (mx := none) (n + 1) c rfl rfl (by omega) (Nat.le_refl _) ?_
      exact ⟨rfl, _, _, rfl, done (by rw [← h2]; exact hn.symm), rfl⟩

set_option maxHeartbeats 2000000 in
theorem shl_spec {a : Option Addr} {l c n k : Nat} {w : World} (ha : NumS w a l c n) (hl : l ≤ 200) (hk : k < 64) (h0 : 0 < n) :
    Calls Tryz.prog 74 #[.slice a l c, .int .i64 k] w fun e w' => ∃ a' l' c', e = .returned (.slice a' l' c') ∧ OwnS .u64 34 w' a' l' c' (ints (limbs (n * 2 ^ k))) (some w.heap.size) ∧ Below w.heap.size w w' := by
  refine calls_of_ev tysOk extsOk Tryz.func74 rfl rfl rfl ?_
  refine CallP.intro (trimN_spec ha) ?_
  rintro e w1 ⟨a1, rfl, t1, _, hw⟩
  have hw := hw.symm
  subst hw
  refine ⟨_, rfl, ?_⟩
  have hXl := limbs_len_le (Nat.lt_of_lt_of_le ha.lt (Nat.pow_le_pow_right (by decide) hl))
  have hXp := (limbs_pos h0).1
  have hXh := (limbs_pos h0).2
  generalize hX : limbs n = X at *
  have hLX : Limbs X := hX ▸ limbs_limbs n
  have hvX : val X = n := hX ▸ val_limbs n
  have rX : NRow w a1 X := hX ▸ t1.1
  refine IfP.pos (by simp <;> omega) ?_
  refine IfP.pos (by simp <;> omega) ?_
  refine IfP.neg (by simp <;> omega) ?_
  refine IfP.pos (by simp <;> omega) ?_
  refine IfP.yes ?_
  refine IfP.yes ?_
  refine IfP.neg (by simp <;> omega) ?_
  have hX0 : X ≠ [] := by intro h; rw [h] at hXp; simp at hXp
  refine IfP.neg (by simp [hX0]) ?_
  refine ChkP.go (by decide) ?_
  refine ChkP.go (by decide) ?_
  have eq0 : IntKind.i64.wrap ((k : Int).tdiv 64) = ((0 : Nat) : Int) := by rw [Int.tdiv_eq_ediv_of_nonneg (by omega), show ((k : Int) / 64) = 0 by omega]; rfl
  have er : IntKind.u64.wrap ((k : Int).tmod 64) = (k : Int) := by rw [Int.tmod_eq_emod_of_nonneg (by omega), show ((k : Int) % 64) = (k : Int) by omega]; exact u64_of _ (by omega)
  have el : IntKind.i64.wrap (IntKind.i64.wrap ((X.length : Int) + IntKind.i64.wrap ((k : Int).tdiv 64)) + 1) = ((X.length + 1 : Nat) : Int) := by
    rw [eq0, wrapAddI (a := X.length) (b := 0) (by omega)]; exact next_i64 (Nat.lt_succ_self _) (by omega)
  refine Mk.toN (X.length + 1) el el (by omega) fun w2 m2 b2 s2 => ?_
  have hXr := Row.below rX b2
  refine LoopP.go (S := Nat) 9223371968135299840 (by kernel_rfl) (fun i => [(36, .int .i64 i)])
    (fun i W => i ≤ X.length ∧ Chg w2.heap.size (fun k => k = w.heap.size) w2 W ∧ ∃ o, o.length = X.length + 1 ∧ Limbs o ∧ NBuf W w.heap.size o (X.length + 1) ∧ val o = val (X.take i) * 2 ^ k ∧ o.getD i 0 < 2 ^ k ∧ (∀ j, i < j → o.getD j 0 = 0))
    (fun i => X.length - i) 0 ⟨rfl, trivial⟩ ⟨Nat.zero_le _, Chg.refl _ _ _, List.replicate (X.length + 1) 0, by simp, (fun x hx => by rw [List.eq_of_mem_replicate hx]; decide), m2, by rw [val_zeros]; simp [val], by rw [zeros_get]; exact Nat.two_pow_pos _, fun j _ => zeros_get _ _⟩ ?_
  rintro i j W ⟨h1, h2, o, h3, h4, h5, h6, h7, h8⟩
  have hXW : NRow W a1 X := hXr.chg0 h2 (fun h0 p hp e => by have := Row.lt rX h0 p hp; omega)
  refine IfP.dec (fun hlt => ?_) (fun hge => ?_)
  · have hi : i < X.length := by omega
    have hx := hLX.getD i
    refine IdxP.ldN i rfl hXW rfl hi fun _ _ _ => ?_
    have hxv := val_take_succ' X i
    generalize X.getD i 0 = x at hx hxv
    obtain ⟨d1, d2, d3⟩ := shl_parts hk hx
    have e44 : IntKind.i64.wrap ((i : Int) + IntKind.i64.wrap ((k : Int).tdiv 64)) = ((i : Nat) : Int) := by rw [eq0]; exact wrapAddI (a := i) (b := 0) (by omega)
    have e56 : IntKind.i64.wrap (IntKind.i64.wrap ((i : Int) + IntKind.i64.wrap ((k : Int).tdiv 64)) + 1) = ((i + 1 : Nat) : Int) := by rw [e44]; exact next_i64 hi (by omega)
    have e49 : IntKind.u64.wrap ((x : Int) * 2 ^ (min (IntKind.u64.wrap ((k : Int).tmod 64)).toNat IntKind.u64.bits)) = ((x * 2 ^ k % B64 : Nat) : Int) := by rw [er]; exact shl_run hk
    have hlo : 2 ^ k * (x % 2 ^ (64 - k)) < 18446744073709551616 := by rw [← d1]; exact Nat.mod_lt _ (by decide)
    have e50 : Go.bits .or .u64 ((o.getD i 0 : Nat) : Int) (IntKind.u64.wrap ((x : Int) * 2 ^ (min (IntKind.u64.wrap ((k : Int).tmod 64)).toNat IntKind.u64.bits))) = ((o.getD i 0 + x * 2 ^ k % B64 : Nat) : Int) := by rw [e49, d1]; exact or_add h7 hlo hk
    have e59 : IntKind.u64.wrap (64 - IntKind.u64.wrap ((k : Int).tmod 64)) = ((64 - k : Nat) : Int) := by rw [er, show (64 - (k : Int)) = ((64 - k : Nat) : Int) by omega]; exact u64_of _ (by omega)
    have e60 : ((x : Int)).fdiv (2 ^ (min (IntKind.u64.wrap (64 - IntKind.u64.wrap ((k : Int).tmod 64))).toNat IntKind.u64.bits)) = ((x / 2 ^ (64 - k) : Nat) : Int) := by rw [e59]; exact shr_run x _ (by omega)
    refine IdxP.ldN i e44 h5.nrow h3.symm (by omega) fun _ _ _ => ?_
    refine ChkP.go (by rw [er]; omega) ?_
    refine IdxP.toE i _ e50 e44 h5 (by omega) h3.symm fun w3 g1 g2 g3 => ?_
    refine ChkP.go (by rw [e59]; omega) ?_
    refine IdxP.toE (i + 1) _ e60 e56 g1 (by omega) (by simp [h3]) fun w4 g4 g5 g6 => ?_
    have s1 := val_set o i (o.getD i 0 + x * 2 ^ k % B64) (by omega)
    have s2 := val_set (o.set i (o.getD i 0 + x * 2 ^ k % B64)) (i + 1) (x / 2 ^ (64 - k)) (by simp; omega)
    rw [set_get_ne (i := i) (j := i + 1) (by omega), h8 (i + 1) (by omega), Nat.mul_zero, Nat.add_zero] at s2
    have hlt64 : o.getD i 0 + x * 2 ^ k % B64 < B64 := by
      have hq : x % 2 ^ (64 - k) + 1 ≤ 2 ^ (64 - k) := Nat.mod_lt _ (Nat.two_pow_pos _)
      have := Nat.mul_le_mul_left (2 ^ k) hq
      rw [pow_split (by omega), Nat.mul_add, Nat.mul_one, ← d1] at this
      omega
    have hhi : x / 2 ^ (64 - k) < B64 := Nat.lt_of_le_of_lt (Nat.div_le_self _ _) hx
    refine ⟨rfl, i + 1, ⟨⟨congrArg (Value.int .i64) (next_i64 hi (by omega)), trivial⟩, hi, h2.thenC (g2.thenC g5 g2.size (fun _ _ h => h)) h2.size (fun _ _ h => h), _, by simp [h3], (h4.set _ hlt64).set _ hhi, g4, ?_, ?_, fun j hj => ?_⟩, by omega⟩
    · have e9 : B64 ^ i * (x * 2 ^ k) = B64 ^ i * (x * 2 ^ k % B64) + B64 ^ (i + 1) * (x / 2 ^ (64 - k)) := by
        conv => lhs; rw [d2]
        rw [Nat.mul_add, Nat.pow_succ, Nat.mul_assoc]
      rw [Nat.mul_add] at s1
      rw [s2, hxv, Nat.add_mul, ← h6, Nat.mul_assoc, e9]
      omega
    · rw [set_get_eq (by simp; omega)]; exact d3
    · rw [set_get_ne (i := i + 1) (j := j) (by omega), set_get_ne (i := i) (j := j) (by omega)]; exact h8 j (by omega)
  · have hi : i = X.length := by omega
    rw [List.take_of_length_le (by omega), hvX] at h6
    have hC := (Chg.of_below (s := fun _ => False) b2).thenC h2 b2.size (fun k hk e => by omega)
    refine CallP.intro (trimO_spec h5 h4 (by omega) (X.length + 1) h3.symm) ?_
    rintro e w5 ⟨a', l', rfl, u1, hw⟩
    subst hw
    rw [h6] at u1
    exact ⟨_, rfl, rfl, a', l', _, rfl, u1, Chg.below hC⟩
end Go.Proofs.YthneejblcffdgaaGreatDoor
