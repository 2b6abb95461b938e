/- Texts of this proof, one behind the other: Rb3 Rb4 Rb5 Rb6 Rb7. -/
import Derived.Test.YthneejblcffdgaaGreatDoorPart22
namespace Go.Proofs.YthneejblcffdgaaGreatDoor
open Go Go.Ev Go.RowKit
set_option maxRecDepth 20000
set_option linter.unusedVariables false
set_option linter.unusedSimpArgs false

/-! ### baileyref1: Cmp -/
theorem rcmp_spec {a b : Option Addr} {l c l2 c2 n m : Nat} {w : World} (ha : DigN w a l c n) (hb : DigN w b l2 c2 m) :
    Calls Tryz.prog 25 #[.slice a l c, .slice b l2 c2] w fun e w' => e = .returned (.int .i64 (cmpV n m)) ∧ Below w.heap.size w w' := by
  obtain ⟨h1, h2, h3, h4⟩ := ha
  obtain ⟨g1, g2, g3, g4⟩ := hb
  rw [← cmpN_vd]
  generalize digs n = X at *
  generalize digs m = Y at *
  subst h2 g2
  refine calls_of_ev tysOk extsOk Tryz.func25 rfl rfl rfl ?_
  refine IfP.bne (fun hne => ?_) (fun heq => ?_)
  · have hne' : ¬ X.length = Y.length := by omega
    refine IfP.dec (fun hlt => ?_) (fun hge => ?_)
    · refine ⟨rfl, ?_, Below.refl _ _⟩
      unfold cmpN; rw [if_neg hne', if_pos (by omega)]; rfl
    · refine ⟨rfl, ?_, Below.refl _ _⟩
      unfold cmpN; rw [if_neg hne', if_neg (by omega)]; rfl
  · have heq' : X.length = Y.length := by omega
    have hcmp : cmpN X Y = cmpFrom X Y X.length := by unfold cmpN; rw [if_pos heq']
    rw [hcmp]
    have e0 : IntKind.i64.wrap ((X.length : Int) - 1) = (X.length : Int) - 1 := IntWalk.i64_in _ (by omega)
    refine LoopP.go (S := Nat) 2199022731312 (by kernel_rfl) (fun m => [(5, .int .i64 ((m : Int) - 1))]) (fun m W => m ≤ X.length ∧ cmpFrom X Y m = cmpFrom X Y X.length ∧ Below w.heap.size w W) (fun m => m) X.length
      ⟨congrArg (Value.int .i64) e0, trivial⟩ ⟨Nat.le_refl _, rfl, Below.refl _ _⟩ ?_
    rintro m j W ⟨k1, k2, k4⟩
    refine IfP.dec (fun hge => ?_) (fun hlt => ?_)
    · obtain ⟨n, rfl⟩ : ∃ n, m = n + 1 := ⟨m - 1, by omega⟩
      have hsub : (((n + 1 : Nat) : Int) - 1) = (n : Int) := by omega
      have r1 : NRow W a X := Row.below h1 k4
      have r2 : NRow W b Y := Row.below g1 k4
      refine DrawP.still tysOk extsOk mixed (by kernel_rfl) rfl ?_
      refine IdxP.ld n hsub (Row.drw r1) (ints_length _).symm (by omega) fun _ _ _ => ?_
      refine IdxP.ld n hsub (Row.drw r2) (ints_length _).symm (by omega) fun _ _ _ => ?_
      rw [ints_getD, ints_getD]
      refine IfP.dec (fun hlt => ?_) (fun hge => ?_)
      · refine ⟨rfl, ?_, k4.drew⟩
        rw [← k2]; unfold cmpFrom; rw [if_neg (by omega), if_pos (by omega)]; rfl
      · refine DrawP.still tysOk extsOk mixed (by kernel_rfl) rfl ?_
        refine IdxP.ld n hsub (Row.drw (Row.drw r1)) (ints_length _).symm (by omega) fun _ _ _ => ?_
        refine IdxP.ld n hsub (Row.drw (Row.drw r2)) (ints_length _).symm (by omega) fun _ _ _ => ?_
        rw [ints_getD, ints_getD]
        refine IfP.dec (fun hgt => ?_) (fun hle => ?_)
        · refine ⟨rfl, ?_, k4.drew.drew⟩
          rw [← k2]; unfold cmpFrom; rw [if_neg (by omega), if_neg (by omega)]; rfl
        · have enext : IntKind.i64.wrap (((n + 1 : Nat) : Int) - 1 - 1) = ((n : Int) - 1) := by rw [hsub]; exact IntWalk.i64_in _ (by omega)
          refine ⟨rfl, n, ⟨⟨congrArg (Value.int .i64) enext, trivial⟩, by omega, ?_, k4.drew.drew⟩, by omega⟩
          rw [← k2]
          show cmpFrom X Y n = if X.getD n 0 = Y.getD n 0 then cmpFrom X Y n else _
          rw [if_pos (by omega)]
    · have hm : m = 0 := by omega
      subst hm
      refine ⟨rfl, ?_, k4⟩
      rw [← k2]; rfl
end Go.Proofs.YthneejblcffdgaaGreatDoor

namespace Go.Proofs.YthneejblcffdgaaGreatDoor
open Go Go.Ev Go.RowKit
set_option maxRecDepth 20000
set_option linter.unusedVariables false
set_option linter.unusedSimpArgs false

/-! ### baileyref1: Sub -/
theorem getD_ge {xs : List Nat} {i : Nat} (h : xs.length ≤ i) : xs.getD i 0 = 0 := by
  rw [List.getD_eq_getElem?_getD, List.getElem?_eq_none h]; rfl
set_option maxHeartbeats 1000000 in
theorem rsub_spec {a b : Option Addr} {l c l2 c2 n m : Nat} {w : World} (ha : DigN w a l c n) (hb : DigN w b l2 c2 m) (hle : m ≤ n) :
    Calls Tryz.prog 30 #[.slice a l c, .slice b l2 c2] w fun e w' => ∃ a', e = .returned (.slice a' (digs (n - m)).length (digs (n - m)).length) ∧ DigN w' a' (digs (n - m)).length (digs (n - m)).length (n - m) ∧ (∀ p, a' = some p → w.heap.size ≤ p.block) ∧ Below w.heap.size w w' := by
  have hl12 : l2 ≤ l := by rw [ha.2.1, hb.2.1]; exact digs_mono hle
  obtain ⟨h1, h2, h3, h4⟩ := ha
  obtain ⟨g1, g2, g3, g4⟩ := hb
  have hDX := digs_digs n
  have hDY := digs_digs m
  have hvX := vd_digs n
  have hvY := vd_digs m
  generalize digs n = X at *
  generalize digs m = Y at *
  refine calls_of_ev tysOk extsOk Tryz.func30 rfl rfl rfl ?_
  refine Mk.toN l rfl rfl (by omega) fun w1 m1 b1 s1 => ?_
  refine LoopP.go (S := Nat × Nat) 35184372081600 (by kernel_rfl) (fun s => [(7, .int .i64 (s.1 : Nat)), (6, .int .u64 (s.2 : Nat))])
    (fun s W => s.1 ≤ l ∧ s.2 ≤ 1 ∧ Below w.heap.size w W ∧ ∃ d, d.length = s.1 ∧ Dig d ∧ NBuf W w.heap.size (d ++ List.replicate (l - d.length) 0) l ∧ vd d + vd (Y.take s.1) = vd (X.take s.1) + B32 ^ s.1 * s.2) (fun s => l - s.1) (0, 0) ⟨rfl, rfl, trivial⟩
    ⟨Nat.zero_le _, Nat.zero_le _, b1, [], rfl, (fun x hx => by cases hx), m1, by simp [vd]⟩ ?_
  rintro ⟨i, bw⟩ j W ⟨i1, i7, i2, d, i3, i4, i5, i6⟩
  simp only at i1 i7 i3 i6
  refine IfP.dec (fun hlt => ?_) (fun hge => ?_)
  · have hi : i < l := by omega
    have hx := hDX.getD i
    have hy := hDY.getD i
    obtain ⟨L, hL⟩ : ∃ L, L = bw + Y.getD i 0 := ⟨_, rfl⟩
    have e18 := next_i64 hi (by omega)
    have leaf : ∀ (v c' : Nat) (w2 : World), v + Y.getD i 0 + bw = X.getD i 0 + B32 * c' → c' ≤ 1 → v < B32 → NBuf w2 w.heap.size ((d ++ List.replicate (l - d.length) 0).set i v) l → Chg W.heap.size (fun k => k = w.heap.size) W w2 →
        (i + 1 ≤ l ∧ c' ≤ 1 ∧ Below w.heap.size w w2 ∧ ∃ d, d.length = i + 1 ∧ Dig d ∧ NBuf w2 w.heap.size (d ++ List.replicate (l - d.length) 0) l ∧ vd d + vd (Y.take (i + 1)) = vd (X.take (i + 1)) + B32 ^ (i + 1) * c') := by
      intro v c' w2 hv hc hv2 f1 f2
      rw [← i3, set_zeros d _ _ (by omega), i3] at f1
      refine ⟨hi, hc, Chg.below ((Chg.of_below (s := fun _ => False) i2).thenC f2 i2.size (fun k hk e => absurd e (by omega))), d ++ [v], by simp [i3], i4.snoc hv2, ?_, ?_⟩
      · rw [List.length_append, List.length_singleton, i3]; exact f1
      · rw [vd_snoc, vd_take_succ', vd_take_succ', i3, Nat.pow_succ]
        exact below_step i6 hv
    refine IfP.dec (fun hlt2 => ?_) (fun hge2 => ?_)
    · refine IdxP.ldN i rfl (g1.below i2) g2 (by omega) fun _ _ _ => ?_
      have eL : IntKind.u64.wrap ((bw : Int) + ((Y.getD i 0 : Nat) : Int)) = (L : Int) := by rw [← Int.natCast_add, ← hL]; exact u64_of _ (by omega)
      refine IdxP.ldN i rfl (h1.below i2) h2 (by omega) fun _ _ _ => ?_
      refine IfP.dec (fun hlt3 => ?_) (fun hge3 => ?_)
      · have hlt3 : ((X.getD i 0 : Nat) : Int) < IntKind.u64.wrap ((bw : Int) + ((Y.getD i 0 : Nat) : Int)) := hlt3
        rw [eL] at hlt3
        refine IdxP.toE i (X.getD i 0 + B32 - L) (by rw [eL, show (4294967296 : Int) = ((B32 : Nat) : Int) from rfl, ← Int.natCast_add, u64_of _ (by simp only [B32]; omega), ← Int.ofNat_sub (by simp only [B32]; omega)]; exact u64_of _ (by simp only [B32]; omega)) rfl i5 hi (by simp; omega) fun w2 f1 f2 f3 => ?_
        exact ⟨rfl, (i + 1, 1), ⟨⟨congrArg (Value.int .i64) e18, rfl, trivial⟩, leaf (X.getD i 0 + B32 - L) 1 w2 (by simp only [B32]; omega) (by decide) (by simp only [B32]; omega) f1 f2⟩, by show l - (i + 1) < l - i; omega⟩
      · have hge3 : ¬ (((X.getD i 0 : Nat) : Int) < IntKind.u64.wrap ((bw : Int) + ((Y.getD i 0 : Nat) : Int))) := hge3
        rw [eL] at hge3
        refine IdxP.toE i (X.getD i 0 - L) (by rw [eL, ← Int.ofNat_sub (by omega)]; exact u64_of _ (by omega)) rfl i5 hi (by simp; omega) fun w2 f1 f2 f3 => ?_
        exact ⟨rfl, (i + 1, 0), ⟨⟨congrArg (Value.int .i64) e18, rfl, trivial⟩, leaf (X.getD i 0 - L) 0 w2 (by omega) (by decide) (by simp only [B32]; omega) f1 f2⟩, by show l - (i + 1) < l - i; omega⟩
    · have hbL : bw = L := by rw [hL, getD_ge (by omega)]; rfl
      subst hbL
      refine IdxP.ldN i rfl (h1.below i2) h2 (by omega) fun _ _ _ => ?_
      refine IfP.dec (fun hlt3 => ?_) (fun hge3 => ?_)
      · refine IdxP.toE i (X.getD i 0 + B32 - bw) (by rw [show (4294967296 : Int) = ((B32 : Nat) : Int) from rfl, ← Int.natCast_add, u64_of _ (by simp only [B32]; omega), ← Int.ofNat_sub (by simp only [B32]; omega)]; exact u64_of _ (by simp only [B32]; omega)) rfl i5 hi (by simp; omega) fun w2 f1 f2 f3 => ?_
        exact ⟨rfl, (i + 1, 1), ⟨⟨congrArg (Value.int .i64) e18, rfl, trivial⟩, leaf (X.getD i 0 + B32 - bw) 1 w2 (by simp only [B32]; omega) (by decide) (by simp only [B32]; omega) f1 f2⟩, by show l - (i + 1) < l - i; omega⟩
      · refine IdxP.toE i (X.getD i 0 - bw) (by rw [← Int.ofNat_sub (by omega)]; exact u64_of _ (by omega)) rfl i5 hi (by simp; omega) fun w2 f1 f2 f3 => ?_
        exact ⟨rfl, (i + 1, 0), ⟨⟨congrArg (Value.int .i64) e18, rfl, trivial⟩, leaf (X.getD i 0 - bw) 0 w2 (by omega) (by decide) (by simp only [B32]; omega) f1 f2⟩, by show l - (i + 1) < l - i; omega⟩
  · have hi : i = l := by omega
    subst hi
    rw [i3, Nat.sub_self, List.replicate_zero, List.append_nil] at i5
    rw [List.take_of_length_le (by omega), List.take_of_length_le (by omega), hvX, hvY] at i6
    have hd := vd_lt i4
    rw [i3] at hd
    have hb0 : bw = 0 := by
      rcases (by omega : bw = 0 ∨ bw = 1) with h | h
      · exact h
      · rw [h, Nat.mul_one] at i6; omega
    subst hb0
    have hvd : vd d = n - m := by omega
    refine CallP.intro (rtrim_spec (l := i) (c := i) ⟨d, i5.nrow, i4, i3.symm, Nat.le_refl _, by omega, hvd⟩) ?_
    rintro e w4 ⟨rfl, q1, hw⟩
    have hw := hw.symm
    subst hw
    refine ⟨_, rfl, rfl, _, rfl, q1, fun p hp => ?_, i2⟩
    cases hp; exact Nat.le_refl _
end Go.Proofs.YthneejblcffdgaaGreatDoor

namespace Go.Proofs.YthneejblcffdgaaGreatDoor
open Go Go.Ev Go.RowKit
set_option maxRecDepth 20000
set_option linter.unusedVariables false
set_option linter.unusedSimpArgs false

/-! ### baileyref1: Mul -/
theorem mul_digit32 {x y o cy : Nat} (hx : x < B32) (hy : y < B32) (ho : o < B32) (hc : cy < B32) : cy + (o + x * y) < B64 ∧ (cy + (o + x * y)) / B32 < B32 ∧ (cy + (o + x * y)) % B32 + B32 * ((cy + (o + x * y)) / B32) = x * y + o + cy := by
  have hp : x * y ≤ 4294967295 * 4294967295 := Nat.mul_le_mul (by have : x < 4294967296 := hx; omega) (by have : y < 4294967296 := hy; omega)
  have ho : o < 4294967296 := ho
  have hc : cy < 4294967296 := hc
  show cy + (o + x * y) < 18446744073709551616 ∧ (cy + (o + x * y)) / 4294967296 < 4294967296 ∧ (cy + (o + x * y)) % 4294967296 + 4294967296 * ((cy + (o + x * y)) / 4294967296) = x * y + o + cy
  generalize x * y = p at *
  refine ⟨by omega, by omega, by omega⟩
theorem mul_inner32 {P V V' O x y o cy lo hi T : Nat} (h1 : V' + P * o = V + P * lo) (h2 : V + P * cy = O + T) (h3 : lo + B32 * hi = x * y + o + cy) : V' + P * B32 * hi = O + (T + P * (x * y)) := by
  have e := congrArg (P * ·) h3
  simp only [Nat.mul_add] at e
  rw [Nat.mul_assoc P B32 hi]
  omega
theorem wrapMulN {a b : Nat} (h : a * b < B64) : IntKind.u64.wrap ((a : Int) * (b : Int)) = ((a * b : Nat) : Int) := by rw [← Int.natCast_mul]; exact u64_of _ h
set_option maxHeartbeats 4000000 in
theorem rmul_spec {a b : Option Addr} {l c l2 c2 n m : Nat} {w : World} (ha : DigN w a l c n) (hb : DigN w b l2 c2 m) (hl : l ≤ 250) (hl2 : l2 ≤ 250) :
    Calls Tryz.prog 26 #[.slice a l c, .slice b l2 c2] w fun e w' => ∃ a', e = .returned (.slice a' (digs (n * m)).length (digs (n * m)).length) ∧ DigN w' a' (digs (n * m)).length (digs (n * m)).length (n * m) ∧ (∀ p, a' = some p → w.heap.size ≤ p.block) ∧ Below w.heap.size w w' := by
  obtain ⟨rX, lX, cX, _⟩ := ha
  obtain ⟨rY, lY, cY, _⟩ := hb
  have hLX := digs_digs n
  have hLY := digs_digs m
  have hvX := vd_digs n
  have hvY := vd_digs m
  generalize digs n = X at *
  generalize digs m = Y at *
  subst lX lY
  refine calls_of_ev tysOk extsOk Tryz.func26 rfl rfl rfl ?_
  have e22 := wrapAddI (a := X.length) (b := Y.length) (by omega)
  refine Mk.toN (X.length + Y.length) e22 e22 (by omega) fun w2 m2 b2 s2 => ?_
  have hXr := Row.below rX b2
  have hYr := Row.below rY b2
  refine LoopP.go (S := Nat) 9223372036854711232 (by kernel_rfl) (fun i => [(6, .int .i64 i)])
    (fun i W => i ≤ X.length ∧ Chg w2.heap.size (fun k => k = w.heap.size) w2 W ∧ ∃ o, o.length = X.length + Y.length ∧ Dig o ∧ NBuf W w.heap.size o (X.length + Y.length) ∧ vd o = vd (X.take i) * m ∧ (∀ j, i + Y.length ≤ j → o.getD j 0 = 0))
    (fun i => X.length - i) 0 ⟨rfl, trivial⟩ ⟨Nat.zero_le _, Chg.refl _ _ _, List.replicate (X.length + Y.length) 0, by simp, Dig.zeros _, m2, by rw [vd_zeros]; simp [vd], fun j _ => zeros_get _ _⟩ ?_
  rintro i j W ⟨h1, h2, o, h3, h4, h5, h6, h7⟩
  have hXW : NRow W a X := hXr.chg0 h2 (fun h0 p hp e => by have := Row.lt rX h0 p hp; omega)
  have hYW : NRow W b Y := hYr.chg0 h2 (fun h0 p hp e => by have := Row.lt rY h0 p hp; omega)
  refine IfP.dec (fun hlt => ?_) (fun hge => ?_)
  · have hi : i < X.length := by omega
    have hx := hLX.getD i
    refine IdxP.ldN i rfl hXW rfl hi fun _ _ _ => ?_
    generalize hxv : X.getD i 0 = x at hx
    refine LoopP.go (S := Nat × Nat) 72057593970819712 (by kernel_rfl) (fun s => [(9, .int .i64 s.1), (7, .int .u64 s.2)])
      (fun s V => s.1 ≤ Y.length ∧ s.2 < B32 ∧ Chg W.heap.size (fun k => k = w.heap.size) W V ∧ ∃ q, q.length = X.length + Y.length ∧ Dig q ∧ NBuf V w.heap.size q (X.length + Y.length) ∧ vd q + B32 ^ (i + s.1) * s.2 = vd o + x * (B32 ^ i * vd (Y.take s.1)) ∧ (∀ j, i + Y.length ≤ j → q.getD j 0 = 0))
      (fun s => Y.length - s.1) (0, 0) ⟨rfl, rfl, trivial⟩ ⟨Nat.zero_le _, by decide, Chg.refl _ _ _, o, h3, h4, h5, by simp [vd], h7⟩ ?_
    rintro ⟨t, cy⟩ j2 V ⟨v1, v2, v3, q, v4, v5, v6, v7, v8⟩
    simp only at v1 v2 v7
    have hYV : NRow V b Y := hYW.chg0 v3 (fun h0 p hp e => by have := Row.lt rY h0 p hp; omega)
    refine IfP.dec (fun hlt2 => ?_) (fun hge2 => ?_)
    · have ht : t < Y.length := by omega
      have hy := hLY.getD t
      have e49 := wrapAddI (a := i) (b := t) (by omega)
      have ho := v5.getD (i + t)
      have hyv : vd (Y.take (t + 1)) = vd (Y.take t) + B32 ^ t * Y.getD t 0 := vd_take_succ' Y t
      refine DrawP.still tysOk extsOk mixed (by kernel_rfl) rfl ?_
      refine IdxP.ldN (i + t) e49 (Row.drw v6.nrow) v4.symm (by omega) fun _ _ _ => ?_
      refine IdxP.ldN t rfl (Row.drw hYV) rfl ht fun _ _ _ => ?_
      generalize Y.getD t 0 = y at hy hyv
      generalize hov : q.getD (i + t) 0 = ov at ho
      obtain ⟨d1, d2, d3⟩ := mul_digit32 hx hy ho v2
      have eT : IntKind.u64.wrap ((cy : Int) + IntKind.u64.wrap ((ov : Int) + IntKind.u64.wrap ((x : Int) * (y : Int)))) = ((cy + (ov + x * y) : Nat) : Int) := by
        rw [wrapMulN (by omega), wrapAdd (by omega), wrapAdd (by omega)]
      generalize hT : cy + (ov + x * y) = T at d1 d2 d3 eT
      have hcy : (cy : Nat) = cy := rfl
      refine ChkP.go (by decide) ?_
      refine IdxP.toE (i + t) (T % B32) (by rw [eT, show (4294967296 : Int) = ((B32 : Nat) : Int) from rfl, ← Int.ofNat_tmod]) e49 (Buf.drw v6) (by omega) v4.symm fun w' g1 g2 g3 => ?_
      refine ChkP.go (by decide) ?_
      have e71 : IntKind.u64.wrap ((IntKind.u64.wrap ((cy : Int) + IntKind.u64.wrap ((ov : Int) + IntKind.u64.wrap ((x : Int) * (y : Int))))).tdiv 4294967296) = ((T / B32 : Nat) : Int) := by
        rw [eT, show (4294967296 : Int) = ((B32 : Nat) : Int) from rfl, ← Int.ofNat_tdiv]; exact u64_of _ (Nat.lt_trans d2 (by decide))
      have hs := vd_set q (i + t) (T % B32) (by omega)
      rw [hov] at hs
      have v3d : Chg W.heap.size (fun k => k = w.heap.size) W w' := v3.drw.thenC g2 v3.size (fun _ _ h => h)
      refine ⟨rfl, (t + 1, T / B32), ⟨⟨congrArg (Value.int .i64) (next_i64 ht (by omega)), congrArg (Value.int .u64) e71, trivial⟩, ht, d2, v3d, _, by simp [v4], v5.set _ (Nat.mod_lt _ (by decide)), g1, ?_, fun j hj => ?_⟩, by show Y.length - (t + 1) < Y.length - t; omega⟩
      · show vd _ + B32 ^ (i + (t + 1)) * _ = _
        have e9 : B32 ^ (i + t) * (x * y) = x * (B32 ^ i * (B32 ^ t * y)) := by rw [Nat.pow_add, Nat.mul_assoc, Nat.mul_left_comm x, Nat.mul_left_comm x]
        rw [← Nat.add_assoc, Nat.pow_succ, hyv, mul_inner32 hs v7 d3, e9, Nat.mul_add (B32 ^ i), Nat.mul_add x]
      · rw [List.getD_eq_getElem?_getD, List.getElem?_set_ne (by omega), ← List.getD_eq_getElem?_getD]; exact v8 j hj
    · have ht : t = Y.length := by omega
      subst ht
      rw [List.take_length, hvY] at v7
      have e78 := wrapAddI (a := i) (b := Y.length) (by omega)
      refine IdxP.toN (i + Y.length) e78 v6 (by omega) v4.symm fun w' g1 g2 g3 => ?_
      have hs := vd_set q (i + Y.length) cy (by omega)
      rw [v8 _ (Nat.le_refl _), Nat.mul_zero, Nat.add_zero] at hs
      refine ⟨rfl, i + 1, ⟨⟨congrArg (Value.int .i64) (next_i64 hi (by omega)), trivial⟩, hi, h2.thenC (v3.thenC g2 v3.size (fun _ _ h => h)) h2.size (fun _ _ h => h), _, by simp [v4], v5.set _ v2, g1, ?_, fun j hj => ?_⟩, by omega⟩
      · rw [hs, v7, h6, vd_take_succ' X i, hxv, Nat.add_mul]
        congr 1
        rw [Nat.mul_assoc, Nat.mul_left_comm]
      · rw [List.getD_eq_getElem?_getD, List.getElem?_set_ne (by omega), ← List.getD_eq_getElem?_getD]; exact v8 j (by omega)
  · have hi : i = X.length := by omega
    rw [List.take_of_length_le (by omega), hvX] at h6
    have hC := (Chg.of_below (s := fun _ => False) b2).thenC h2 b2.size (fun k hk e => by omega)
    refine CallP.intro (rtrim_spec (l := X.length + Y.length) (c := X.length + Y.length) ⟨o, h5.nrow, h4, h3.symm, Nat.le_refl _, by omega, h6⟩) ?_
    rintro e w5 ⟨rfl, u1, hw⟩
    subst hw
    exact ⟨_, rfl, rfl, _, rfl, u1, fun p hp => (by cases hp; exact Nat.le_refl _), Chg.below hC⟩
end Go.Proofs.YthneejblcffdgaaGreatDoor

namespace Go.Proofs.YthneejblcffdgaaGreatDoor
open Go Go.Ev Go.RowKit
set_option maxRecDepth 20000
set_option linter.unusedVariables false
set_option linter.unusedSimpArgs false

/-! ### baileyref1: small, times -/
theorem zeros_set (i v : Nat) (r : List Nat) : (List.replicate (i + 1) 0 ++ r).set i v = List.replicate i 0 ++ (v :: r) := by
  rw [List.replicate_succ', List.append_assoc, List.set_append_right _ _ (by simp)]
  simp
theorem vd_append_zeros (i : Nat) (r : List Nat) : vd (List.replicate i 0 ++ r) = B32 ^ i * vd r := by rw [vd_append, vd_zeros, List.length_replicate, Nat.zero_add]
theorem vd_drop_getD (xs : List Nat) (i : Nat) (h : i < xs.length) : vd (xs.drop i) = xs.getD i 0 + B32 * vd (xs.drop (i + 1)) := by
  rw [List.drop_eq_getElem_cons h, vd_cons, List.getD_eq_getElem?_getD, List.getElem?_eq_getElem h]; rfl
theorem small_step {m c x S Q : Nat} (hm : 0 < m) (hS : S = m * Q + c) : x + B32 * S = m * ((c * B32 + x) / m + B32 * Q) + (c * B32 + x) % m := by
  have h := Nat.div_add_mod (c * B32 + x) m
  rw [hS, Nat.mul_add, Nat.mul_add, Nat.mul_left_comm B32 m Q]
  rw [Nat.mul_comm B32 c]
  omega
set_option maxHeartbeats 1000000 in
theorem rsmall_spec {a : Option Addr} {l c n m : Nat} {w : World} (h : DigS w a l c n) (hm : 0 < m) (hm2 : m < B32) :
    Calls Tryz.prog 81 #[.slice a l c, .int .u64 m] w fun e w' => ∃ a', e = .returned (.tuple #[.slice a' (digs (n / m)).length (digs (n / m)).length, .int .u64 ((n % m : Nat) : Int)]) ∧ DigN w' a' (digs (n / m)).length (digs (n / m)).length (n / m) ∧ Below w.heap.size w w' := by
  obtain ⟨X, hr, hD, hl, hc, hs, hv⟩ := h
  refine calls_of_ev tysOk extsOk Tryz.func81 rfl rfl rfl ?_
  refine Mk.toN l rfl rfl (by omega) fun w1 m1 b1 s1 => ?_
  have e14 : IntKind.i64.wrap ((l : Int) - 1) = (l : Int) - 1 := IntWalk.i64_in _ (by omega)
  refine LoopP.go (S := Nat × Nat) 34359705984 (by kernel_rfl) (fun s => [(8, .int .i64 ((s.1 : Int) - 1)), (7, .int .u64 (s.2 : Nat))])
    (fun s W => s.1 ≤ l ∧ s.2 < m ∧ Below w.heap.size w W ∧ ∃ d, d.length = l - s.1 ∧ Dig d ∧ NBuf W w.heap.size (List.replicate s.1 0 ++ d) l ∧ vd (X.drop s.1) = m * vd d + s.2) (fun s => s.1) (l, 0) ⟨congrArg (Value.int .i64) e14, rfl, trivial⟩
    ⟨Nat.le_refl _, hm, b1, [], by simp, (fun x hx => by cases hx), by rw [List.append_nil]; exact m1, by rw [List.drop_of_length_le (by omega)]; simp [vd]⟩ ?_
  rintro ⟨i, cy⟩ j W ⟨i1, i7, i2, d, i3, i4, i5, i6⟩
  simp only at i1 i7 i3 i6 i5
  refine IfP.dec (fun hge => ?_) (fun hlt => ?_)
  · have hge : ((i : Int) - 1) ≥ 0 := hge
    obtain ⟨k, rfl⟩ : ∃ k, i = k + 1 := ⟨i - 1, by omega⟩
    have hsub : (((k + 1 : Nat) : Int) - 1) = (k : Int) := by omega
    have hx := hD.getD k
    refine IdxP.ldN k hsub (hr.below i2) hl (by omega) fun _ _ _ => ?_
    have hvd := vd_drop_getD X k (by omega)
    generalize X.getD k 0 = x at hx hvd
    have hC : cy * B32 + x < m * B32 := by
      have : cy * B32 + B32 ≤ m * B32 := by rw [← Nat.succ_mul]; exact Nat.mul_le_mul_right _ i7
      have hx : x < B32 := hx
      omega
    have hmB : m * B32 ≤ B32 * B32 := Nat.mul_le_mul_right _ (Nat.le_of_lt hm2)
    have hBB : B32 * B32 = B64 := by decide
    have hlt1 : cy * B32 + x < B64 := Nat.lt_of_lt_of_le hC (hBB ▸ hmB)
    have hlt2 : cy * B32 < B64 := Nat.lt_of_le_of_lt (Nat.le_add_right _ _) hlt1
    have eC : IntKind.u64.wrap (IntKind.u64.wrap ((cy : Int) * 4294967296) + (x : Int)) = ((cy * B32 + x : Nat) : Int) := by
      rw [show (4294967296 : Int) = ((B32 : Nat) : Int) from rfl, wrapMulN hlt2, wrapAdd hlt1]
    have hq : (cy * B32 + x) / m < B32 := (Nat.div_lt_iff_lt_mul hm).2 (by rw [Nat.mul_comm B32 m]; exact hC)
    refine ChkP.go (by omega) ?_
    refine IdxP.toE k ((cy * B32 + x) / m) (by rw [eC, ← Int.ofNat_tdiv]; exact u64_of _ (Nat.lt_trans hq (by decide))) hsub i5 (by omega) (by simp; omega) fun w2 f1 f2 f3 => ?_
    refine ChkP.go (by omega) ?_
    rw [zeros_set] at f1
    have e7 : (IntKind.u64.wrap (IntKind.u64.wrap ((cy : Int) * 4294967296) + (x : Int))).tmod (m : Int) = (((cy * B32 + x) % m : Nat) : Int) := by rw [eC, ← Int.ofNat_tmod]
    have e8 : IntKind.i64.wrap (((k + 1 : Nat) : Int) - 1 - 1) = (k : Int) - 1 := by rw [hsub]; exact IntWalk.i64_in _ (by omega)
    refine ⟨rfl, (k, (cy * B32 + x) % m), ⟨⟨congrArg (Value.int .i64) e8, congrArg (Value.int .u64) e7, trivial⟩, by show k ≤ l; omega, Nat.mod_lt _ hm, Chg.below ((Chg.of_below (s := fun _ => False) i2).thenC f2 i2.size (fun k hk e => absurd e (by omega))), (cy * B32 + x) / m :: d, by simp [i3]; omega, ?_, f1, ?_⟩, Nat.lt_succ_self _⟩
    · intro y hy
      rcases List.mem_cons.1 hy with rfl | hy
      · exact hq
      · exact i4 y hy
    · show vd (X.drop k) = m * vd ((cy * B32 + x) / m :: d) + (cy * B32 + x) % m
      rw [hvd, vd_cons]
      exact small_step hm i6
  · have hi : i = 0 := by have hlt : ¬ ((i : Int) - 1 ≥ 0) := hlt; omega
    subst hi
    rw [List.drop_zero, hv] at i6
    rw [show List.replicate 0 0 ++ d = d from rfl] at i5
    have hdiv : vd d = n / m := by rw [i6, Nat.mul_add_div hm, Nat.div_eq_of_lt i7, Nat.add_zero]
    have hmod : cy = n % m := by rw [i6, Nat.mul_add_mod, Nat.mod_eq_of_lt i7]
    refine CallP.intro (rtrim_spec (l := l) (c := l) ⟨d, i5.nrow, i4, by omega, Nat.le_refl _, hs, hdiv⟩) ?_
    rintro e w4 ⟨rfl, q1, hw⟩
    have hw := hw.symm
    subst hw
    rw [hmod]
    exact ⟨_, rfl, rfl, _, rfl, q1, i2⟩
theorem times_step {P V X m c x : Nat} (h : V + P * c = X * m) : V + P * ((c + x * m) % B32) + P * B32 * ((c + x * m) / B32) = (X + P * x) * m := by
  have h2 := Nat.div_add_mod (c + x * m) B32
  have h3 := congrArg (P * ·) h2
  simp only [Nat.mul_add] at h3
  rw [Nat.mul_assoc P B32, Nat.add_mul, ← h, Nat.mul_assoc P x m]
  omega
set_option maxHeartbeats 1000000 in
theorem rtimes_spec {a : Option Addr} {l c n m : Nat} {w : World} (h : DigS w a l c n) (hm2 : m < B32) (hl2 : l ≤ 500) :
    Calls Tryz.prog 82 #[.slice a l c, .int .u64 m] w fun e w' => ∃ D, e = .returned (.slice (some ⟨w.heap.size, 0, none⟩) (l + 1 : Nat) (l + 1 : Nat)) ∧ NBuf w' w.heap.size D (l + 1) ∧ D.length = l + 1 ∧ Dig D ∧ vd D = n * m ∧ Below w.heap.size w w' := by
  obtain ⟨X, hr, hD, hl, hc, hs, hv⟩ := h
  refine calls_of_ev tysOk extsOk Tryz.func82 rfl rfl rfl ?_
  have e10 : IntKind.i64.wrap ((l : Int) + 1) = ((l + 1 : Nat) : Int) := IntWalk.i64_in _ (by omega)
  refine Mk.toN (l + 1) e10 e10 (by omega) fun w1 m1 b1 s1 => ?_
  refine LoopP.go (S := Nat × Nat) 8589930688 (by kernel_rfl) (fun s => [(7, .int .i64 (s.1 : Nat)), (6, .int .u64 (s.2 : Nat))])
    (fun s W => s.1 ≤ l ∧ s.2 < B32 ∧ Below w.heap.size w W ∧ ∃ d, d.length = s.1 ∧ Dig d ∧ NBuf W w.heap.size (d ++ List.replicate (l + 1 - d.length) 0) (l + 1) ∧ vd d + B32 ^ s.1 * s.2 = vd (X.take s.1) * m) (fun s => l - s.1) (0, 0) ⟨rfl, rfl, trivial⟩
    ⟨Nat.zero_le _, by decide, b1, [], rfl, (fun x hx => by cases hx), m1, by simp [vd]⟩ ?_
  rintro ⟨i, cy⟩ j W ⟨i1, i7, i2, d, i3, i4, i5, i6⟩
  simp only at i1 i7 i3 i6
  refine IfP.dec (fun hlt => ?_) (fun hge => ?_)
  · have hi : i < l := by omega
    have hx := hD.getD i
    refine IdxP.ldN i rfl (hr.below i2) hl hi fun _ _ _ => ?_
    have hvd := vd_take_succ' X i
    generalize X.getD i 0 = x at hx hvd
    have hp : x * m ≤ 4294967295 * 4294967295 := Nat.mul_le_mul (by omega) (by have : m < 4294967296 := hm2; omega)
    have hc2 : cy < 4294967296 := i7
    have eC : IntKind.u64.wrap ((cy : Int) + IntKind.u64.wrap ((x : Int) * (m : Int))) = ((cy + x * m : Nat) : Int) := by
      rw [wrapMulN (by show _ < 18446744073709551616; omega), wrapAdd (by show _ < 18446744073709551616; omega)]
    have hq : (cy + x * m) / B32 < B32 := by
      show (cy + x * m) / 4294967296 < 4294967296
      omega
    refine ChkP.go (by decide) ?_
    refine IdxP.toE i ((cy + x * m) % B32) (by rw [eC, show (4294967296 : Int) = ((B32 : Nat) : Int) from rfl, ← Int.ofNat_tmod]) rfl i5 (by omega) (by simp; omega) fun w2 f1 f2 f3 => ?_
    refine ChkP.go (by decide) ?_
    rw [← i3, set_zeros d _ _ (by omega), i3] at f1
    have e7 : IntKind.u64.wrap ((IntKind.u64.wrap ((cy : Int) + IntKind.u64.wrap ((x : Int) * (m : Int)))).tdiv 4294967296) = (((cy + x * m) / B32 : Nat) : Int) := by
      rw [eC, show (4294967296 : Int) = ((B32 : Nat) : Int) from rfl, ← Int.ofNat_tdiv]; exact u64_of _ (Nat.lt_trans hq (by decide))
    have e17 := next_i64 hi (by omega)
    refine ⟨rfl, (i + 1, (cy + x * m) / B32), ⟨⟨congrArg (Value.int .i64) e17, congrArg (Value.int .u64) e7, trivial⟩, hi, hq, Chg.below ((Chg.of_below (s := fun _ => False) i2).thenC f2 i2.size (fun k hk e => absurd e (by omega))), d ++ [(cy + x * m) % B32], by simp [i3], i4.snoc (Nat.mod_lt _ (by decide)), ?_, ?_⟩, by show l - (i + 1) < l - i; omega⟩
    · rw [List.length_append, List.length_singleton, i3]; exact f1
    · show vd (d ++ [_]) + B32 ^ (i + 1) * _ = vd (X.take (i + 1)) * m
      rw [vd_snoc, hvd, i3, Nat.pow_succ]
      exact times_step i6
  · have hi : i = l := by omega
    subst hi
    rw [List.take_of_length_le (by omega), hv] at i6
    refine IdxP.toE i cy rfl rfl i5 (by omega) (by simp; omega) fun w2 f1 f2 f3 => ?_
    rw [← i3, set_zeros d _ _ (by omega), i3] at f1
    rw [Nat.sub_self, List.replicate_zero, List.append_nil] at f1
    refine ⟨rfl, d ++ [cy], rfl, f1, by simp [i3], i4.snoc i7, by rw [vd_snoc, i3]; exact i6, Chg.below ((Chg.of_below (s := fun _ => False) i2).thenC f2 i2.size (fun k hk e => absurd e (by omega)))⟩
end Go.Proofs.YthneejblcffdgaaGreatDoor

namespace Go.Proofs.YthneejblcffdgaaGreatDoor
open Go Go.Ev Go.RowKit
set_option maxRecDepth 20000
set_option linter.unusedVariables false
set_option linter.unusedSimpArgs false

/-! ### baileyref1: less -/
theorem less_step {V g Yt Pt y cy bw d c' b' x P B : Nat} (h : V + g * Yt = Pt + P * (cy + bw)) (h2 : d + (cy + y * g) + bw = x + B * (b' + c')) : V + P * d + g * (Yt + P * y) = Pt + P * x + P * B * (c' + b') := by
  have h3 := congrArg (P * ·) h2
  simp only [Nat.mul_add] at h3 h ⊢
  rw [Nat.mul_left_comm g P y, Nat.mul_comm g y, Nat.mul_assoc P B, Nat.mul_assoc P B]
  omega
theorem drop_getD (xs : List Nat) (k i : Nat) : (xs.drop k).getD i 0 = xs.getD (k + i) 0 := by
  rw [List.getD_eq_getElem?_getD, List.getElem?_drop, ← List.getD_eq_getElem?_getD]
set_option maxHeartbeats 2000000 in
theorem rless_spec {ub wb lu cu cs n cv cW cws k g : Nat} {va : Option Addr} {U V Wl : List Nat} {w : World} (hU : NBuf w ub U cu) (hUl : U.length = lu) (hlu : lu ≤ 600) (hDU : Dig U) (hcs : lu ≤ cs)
    (hV : NRow w va V) (hVl : V.length = n) (hDV : Dig V) (hvo : ∀ p, va = some p → p.block ≠ wb ∧ p.block ≠ ub) (hW : NBuf w wb Wl cW) (hWl : Wl.length = n + 1) (hne : ub ≠ wb) (hk : k + n < lu) (hg : g < B32) :
    Calls Tryz.prog 83 #[.slice (some ⟨ub, 0, none⟩) lu cs, .slice va n cv, .slice (some ⟨wb, 0, none⟩) (n + 1 : Nat) cws, .int .i64 k, .int .u64 g] w fun e w' =>
      ∃ W', W'.length = n + 1 ∧ NBuf w' wb W' cW ∧ Chg w.heap.size (fun q => q = ub ∨ q = wb) w w' ∧
        ((g * vd V ≤ vd ((U.drop k).take (n + 1)) ∧ e = .returned (.bool true) ∧ ∃ d, d.length = n + 1 ∧ Dig d ∧ vd d + g * vd V = vd ((U.drop k).take (n + 1)) ∧ NBuf w' ub (U.take k ++ d ++ U.drop (k + (n + 1))) cu) ∨
         (vd ((U.drop k).take (n + 1)) < g * vd V ∧ e = .returned (.bool false) ∧ NBuf w' ub U cu)) := by
  refine calls_of_ev tysOk extsOk Tryz.func83 rfl rfl rfl ?_
  have hub := hU.lt
  have hwb := hW.lt
  refine LoopP.go (S := Nat × Nat × Nat) 288230376151314432 (by kernel_rfl) (fun s => [(14, .int .i64 (s.1 : Nat)), (12, .int .u64 (s.2.1 : Nat)), (13, .int .u64 (s.2.2 : Nat))])
    (fun s W => s.1 ≤ n + 1 ∧ s.2.1 < B32 ∧ s.2.2 ≤ 1 ∧ (s.1 = n + 1 → s.2.1 = 0) ∧ Chg w.heap.size (fun q => q = wb) w W ∧ ∃ d, d.length = s.1 ∧ Dig d ∧ NBuf W wb (d ++ Wl.drop s.1) cW ∧ vd d + g * vd (V.take s.1) = vd ((U.drop k).take s.1) + B32 ^ s.1 * (s.2.1 + s.2.2)) (fun s => n + 1 - s.1) (0, 0, 0) ⟨rfl, rfl, rfl, trivial⟩
    ⟨Nat.zero_le _, by decide, Nat.zero_le _, (fun h => by cases h), Chg.refl _ _ _, [], rfl, (fun x hx => by cases hx), hW, by simp [vd]⟩ ?_
  rintro ⟨i, cy, bw⟩ j W ⟨i1, i7, i8, i9, i2, d, i3, i4, i5, i6⟩
  simp only at i1 i7 i8 i9 i3 i5 i6
  have hUW : NBuf W ub U cu := hU.chg i2 hub hne
  have hVW : NRow W va V := hV.chg i2 (fun p hp => (hvo p hp).1)
  refine IfP.dec (fun hle => ?_) (fun hgt => ?_)
  · have hle : (i : Int) ≤ (n : Int) := hle
    have hi : i < n + 1 := by omega
    have hx := hDU.getD (k + i)
    have hy := hDV.getD i
    obtain ⟨s, hs⟩ : ∃ s, s = cy + V.getD i 0 * g := ⟨_, rfl⟩
    have hp : V.getD i 0 * g ≤ 4294967295 * 4294967295 := Nat.mul_le_mul (by omega) (by have : g < 4294967296 := hg; omega)
    have hc2 : cy < 4294967296 := i7
    have hs64 : s < 18446744073709551616 := by omega
    have hsq : s / B32 < B32 := by show s / 4294967296 < 4294967296; omega
    have hlast : i = n → s / B32 = 0 := fun h => by
      rw [hs, h, getD_ge (by omega), Nat.zero_mul, Nat.add_zero]; exact Nat.div_eq_of_lt i7
    have e23 := next_i64 hi (by omega)
    have e44 := wrapAddI (a := k) (b := i) (by omega)
    have edv : IntKind.u64.wrap ((s : Int).tdiv 4294967296) = ((s / B32 : Nat) : Int) := by
      rw [show (4294967296 : Int) = ((B32 : Nat) : Int) from rfl, ← Int.ofNat_tdiv]; exact u64_of _ (Nat.lt_trans hsq (by decide))
    have eof : IntKind.u64.wrap ((s : Int).tmod 4294967296 + (bw : Int)) = ((s % B32 + bw : Nat) : Int) := by
      rw [show (4294967296 : Int) = ((B32 : Nat) : Int) from rfl, ← Int.ofNat_tmod]
      exact wrapAdd (by have := Nat.mod_lt s (show 0 < B32 by decide); show _ < 18446744073709551616; have : s % B32 < 4294967296 := this; omega)
    have hoff : s % B32 + bw ≤ 4294967296 := by have : s % B32 < 4294967296 := Nat.mod_lt s (by decide); omega
    have hsd : s % B32 + B32 * (s / B32) = s := Nat.mod_add_div s B32
    have leaf : ∀ (v b' : Nat) (w2 : World), v + (s % B32 + bw) = U.getD (k + i) 0 + B32 * b' → b' ≤ 1 → v < B32 → NBuf w2 wb ((d ++ Wl.drop i).set i v) cW → Chg W.heap.size (fun k => k = wb) W w2 →
        (i + 1 ≤ n + 1 ∧ s / B32 < B32 ∧ b' ≤ 1 ∧ (i + 1 = n + 1 → s / B32 = 0) ∧ Chg w.heap.size (fun q => q = wb) w w2 ∧ ∃ d, d.length = i + 1 ∧ Dig d ∧ NBuf w2 wb (d ++ Wl.drop (i + 1)) cW ∧ vd d + g * vd (V.take (i + 1)) = vd ((U.drop k).take (i + 1)) + B32 ^ (i + 1) * (s / B32 + b')) := by
      intro v b' w2 hv hb hv2 f1 f2
      rw [set_mid i3 (by omega)] at f1
      refine ⟨hi, hsq, hb, fun h => hlast (by omega), i2.thenC f2 i2.size (fun _ _ h => h), d ++ [v], by simp [i3], i4.snoc hv2, f1, ?_⟩
      rw [vd_snoc, vd_take_succ', vd_take_succ', i3, Nat.pow_succ, drop_getD]
      refine less_step i6 ?_
      rw [← hs, Nat.mul_add]
      omega
    refine IfP.dec (fun hlt2 => ?_) (fun hge2 => ?_)
    · have hlt2 : (i : Int) < (n : Int) := hlt2
      refine IdxP.ldN i rfl hVW hVl.symm (by omega) fun _ _ _ => ?_
      have eS : IntKind.u64.wrap ((cy : Int) + IntKind.u64.wrap (((V.getD i 0 : Nat) : Int) * (g : Int))) = (s : Int) := by
        rw [wrapMulN (by show _ < 18446744073709551616; omega), wrapAdd (by show _ < 18446744073709551616; omega), hs]
      refine ChkP.go (by decide) ?_
      refine ChkP.go (by decide) ?_
      refine IdxP.ldN (k + i) e44 hUW.nrow hUl.symm (by omega) fun _ _ _ => ?_
      refine IfP.dec (fun hlt3 => ?_) (fun hge3 => ?_)
      · have hlt3 : ((U.getD (k + i) 0 : Nat) : Int) < IntKind.u64.wrap ((IntKind.u64.wrap ((cy : Int) + IntKind.u64.wrap (((V.getD i 0 : Nat) : Int) * (g : Int)))).tmod 4294967296 + (bw : Int)) := hlt3
        rw [eS, eof] at hlt3
        refine IdxP.toE i (U.getD (k + i) 0 + B32 - (s % B32 + bw)) (by rw [eS, eof, show (4294967296 : Int) = ((B32 : Nat) : Int) from rfl, ← Int.natCast_add, u64_of _ (by simp only [B32]; omega), ← Int.ofNat_sub (by simp only [B32]; omega)]; exact u64_of _ (by simp only [B32]; omega)) rfl i5 (by omega) (by simp; omega) fun w2 f1 f2 f3 => ?_
        exact ⟨rfl, (i + 1, s / B32, 1), ⟨⟨congrArg (Value.int .i64) e23, congrArg (Value.int .u64) (by rw [eS]; exact edv), rfl, trivial⟩, leaf (U.getD (k + i) 0 + B32 - (s % B32 + bw)) 1 w2 (by simp only [B32] at hoff ⊢; omega) (by decide) (by simp only [B32] at hlt3 ⊢; omega) f1 f2⟩, by show n + 1 - (i + 1) < n + 1 - i; omega⟩
      · have hge3 : ¬ (((U.getD (k + i) 0 : Nat) : Int) < IntKind.u64.wrap ((IntKind.u64.wrap ((cy : Int) + IntKind.u64.wrap (((V.getD i 0 : Nat) : Int) * (g : Int)))).tmod 4294967296 + (bw : Int))) := hge3
        rw [eS, eof] at hge3
        refine IdxP.toE i (U.getD (k + i) 0 - (s % B32 + bw)) (by rw [eS, eof, ← Int.ofNat_sub (by omega)]; exact u64_of _ (by omega)) rfl i5 (by omega) (by simp; omega) fun w2 f1 f2 f3 => ?_
        exact ⟨rfl, (i + 1, s / B32, 0), ⟨⟨congrArg (Value.int .i64) e23, congrArg (Value.int .u64) (by rw [eS]; exact edv), rfl, trivial⟩, leaf (U.getD (k + i) 0 - (s % B32 + bw)) 0 w2 (by omega) (by decide) (by simp only [B32]; omega) f1 f2⟩, by show n + 1 - (i + 1) < n + 1 - i; omega⟩
    · have hge2 : ¬ ((i : Int) < (n : Int)) := hge2
      have hcs : cy = s := by rw [hs, getD_ge (by omega), Nat.zero_mul, Nat.add_zero]
      rw [hcs]
      refine ChkP.go (by decide) ?_
      refine ChkP.go (by decide) ?_
      refine IdxP.ldN (k + i) e44 hUW.nrow hUl.symm (by omega) fun _ _ _ => ?_
      refine IfP.dec (fun hlt3 => ?_) (fun hge3 => ?_)
      · have hlt3 : ((U.getD (k + i) 0 : Nat) : Int) < IntKind.u64.wrap (((s : Int)).tmod 4294967296 + (bw : Int)) := hlt3
        rw [eof] at hlt3
        refine IdxP.toE i (U.getD (k + i) 0 + B32 - (s % B32 + bw)) (by rw [eof, show (4294967296 : Int) = ((B32 : Nat) : Int) from rfl, ← Int.natCast_add, u64_of _ (by simp only [B32]; omega), ← Int.ofNat_sub (by simp only [B32]; omega)]; exact u64_of _ (by simp only [B32]; omega)) rfl i5 (by omega) (by simp; omega) fun w2 f1 f2 f3 => ?_
        exact ⟨rfl, (i + 1, s / B32, 1), ⟨⟨congrArg (Value.int .i64) e23, congrArg (Value.int .u64) edv, rfl, trivial⟩, leaf (U.getD (k + i) 0 + B32 - (s % B32 + bw)) 1 w2 (by simp only [B32] at hoff ⊢; omega) (by decide) (by simp only [B32] at hlt3 ⊢; omega) f1 f2⟩, by show n + 1 - (i + 1) < n + 1 - i; omega⟩
      · have hge3 : ¬ (((U.getD (k + i) 0 : Nat) : Int) < IntKind.u64.wrap (((s : Int)).tmod 4294967296 + (bw : Int))) := hge3
        rw [eof] at hge3
        refine IdxP.toE i (U.getD (k + i) 0 - (s % B32 + bw)) (by rw [eof, ← Int.ofNat_sub (by omega)]; exact u64_of _ (by omega)) rfl i5 (by omega) (by simp; omega) fun w2 f1 f2 f3 => ?_
        exact ⟨rfl, (i + 1, s / B32, 0), ⟨⟨congrArg (Value.int .i64) e23, congrArg (Value.int .u64) edv, rfl, trivial⟩, leaf (U.getD (k + i) 0 - (s % B32 + bw)) 0 w2 (by omega) (by decide) (by simp only [B32]; omega) f1 f2⟩, by show n + 1 - (i + 1) < n + 1 - i; omega⟩
  · have hgt : ¬ ((i : Int) ≤ (n : Int)) := hgt
    have hi : i = n + 1 := by omega
    subst hi
    have hc0 := i9 rfl
    subst hc0
    rw [List.drop_of_length_le (by omega), List.append_nil] at i5
    rw [List.take_of_length_le (by omega), Nat.zero_add] at i6
    have hd := vd_lt i4
    rw [i3] at hd
    have hiW : Chg w.heap.size (fun q => q = ub ∨ q = wb) w W := i2.mono (Nat.le_refl _) (fun _ _ h => .inr h)
    refine IfP.bne (fun hb => ?_) (fun hb => ?_)
    · have hb1 : bw = 1 := by
        rcases (by omega : bw = 0 ∨ bw = 1) with h | h
        · subst h; exact absurd rfl hb
        · exact h
      subst hb1
      refine ⟨rfl, d, i3, i5, hiW, .inr ⟨by omega, rfl, hUW⟩⟩
    · have hb0 : bw = 0 := Int.ofNat_inj.1 hb
      subst hb0
      rw [Nat.mul_zero, Nat.add_zero] at i6
      refine SlcP.exact (l := lu) (c := cs) k lu rfl rfl (by omega) hcs (by omega) ?_
      have hmin : min (n + 1) (lu - k) = n + 1 := by omega
      refine RdP.row' (xs := ints d) i5.nrow (by rw [ints_length, i3]; show min (n + 1) (lu - k) * 1 = n + 1; omega) ?_
      refine StsP.buf (ys := ints d) (0 + k * 1) hUW (by rw [ints_length, ints_length]; omega) fun w2 m2 b2 s2 => ?_
      have e : (ints U).take (0 + k * 1) ++ ints d ++ (ints U).drop (0 + k * 1 + (ints d).length) = ints (U.take k ++ d ++ U.drop (k + (n + 1))) := by
        rw [ints_append, ints_append, ints_length, i3, Nat.zero_add, Nat.mul_one]
        simp [ints]
      rw [e] at m2
      have hdW : NBuf w2 wb d cW := i5.chg b2 (by have := i2.size; omega) (by omega)
      refine ⟨rfl, d, i3, hdW, hiW.thenC b2 hiW.size (fun _ _ h => .inl h), .inl ⟨by omega, rfl, d, i3, i4, i6, m2⟩⟩
theorem rless_specI {ub wb lu cu cs n cv cW cws k g : Nat} {ki : Int} {va : Option Addr} {U V Wl : List Nat} {w : World} (hki : ki = (k : Int)) (hU : NBuf w ub U cu) (hUl : U.length = lu) (hlu : lu ≤ 600) (hDU : Dig U) (hcs : lu ≤ cs)
    (hV : NRow w va V) (hVl : V.length = n) (hDV : Dig V) (hvo : ∀ p, va = some p → p.block ≠ wb ∧ p.block ≠ ub) (hW : NBuf w wb Wl cW) (hWl : Wl.length = n + 1) (hne : ub ≠ wb) (hk : k + n < lu) (hg : g < B32) :
    Calls Tryz.prog 83 #[.slice (some ⟨ub, 0, none⟩) lu cs, .slice va n cv, .slice (some ⟨wb, 0, none⟩) (n + 1 : Nat) cws, .int .i64 ki, .int .u64 g] w fun e w' =>
      ∃ W', W'.length = n + 1 ∧ NBuf w' wb W' cW ∧ Chg w.heap.size (fun q => q = ub ∨ q = wb) w w' ∧
        ((g * vd V ≤ vd ((U.drop k).take (n + 1)) ∧ e = .returned (.bool true) ∧ ∃ d, d.length = n + 1 ∧ Dig d ∧ vd d + g * vd V = vd ((U.drop k).take (n + 1)) ∧ NBuf w' ub (U.take k ++ d ++ U.drop (k + (n + 1))) cu) ∨
         (vd ((U.drop k).take (n + 1)) < g * vd V ∧ e = .returned (.bool false) ∧ NBuf w' ub U cu)) := by
  subst hki
  exact rless_spec hU hUl hlu hDU hcs hV hVl hDV hvo hW hWl hne hk hg
end Go.Proofs.YthneejblcffdgaaGreatDoor
