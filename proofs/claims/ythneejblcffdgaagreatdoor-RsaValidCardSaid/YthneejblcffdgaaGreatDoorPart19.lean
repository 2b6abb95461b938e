/- Texts of this proof, one behind the other: Nm17 Nm18 Nm19 Nm20 Nm21. -/
import Derived.Test.YthneejblcffdgaaGreatDoorPart18
namespace Go.Proofs.YthneejblcffdgaaGreatDoor
open Go Go.Ev Go.RowKit
set_option maxRecDepth 20000
set_option linter.unusedVariables false
set_option linter.unusedSimpArgs false

/-! ### limb.Each: the bits, the highest first -/
theorem each_spec {a : Option Addr} {l c n : Nat} {w : World} (ha : NumS w a l c n) :
    Calls Tryz.prog 84 #[.slice a l c] w fun e w' => ∃ eb a' l' c', e = .returned (.func (.func 92) #[] #[.pointer (some ⟨eb, 0, none⟩)]) ∧ w.heap.size ≤ eb ∧ Blk w' eb [.slice a' l' c'] 23 ∧ NumN w' a' l' c' n ∧ (∀ p, a' = some p → p.block ≠ eb ∧ w.heap.size ≤ p.block ∧ p.block < w'.heap.size) ∧ Below w.heap.size w w' := by
  refine calls_of_ev tysOk extsOk Tryz.func84 rfl rfl rfl ?_
  have hb := (Below.refl w.heap.size w).alloc (Nat.le_refl _) (.cells (#[.slice a l c] : Array Value) 23)
  have hB := Blk.newA w (#[.slice a l c] : Array Value) 23
  refine LdSl.go (hB.cell 0) ?_
  refine CallP.intro (madeV_spec (ha.below hb)) ?_
  rintro e w1 ⟨a', l', c', o', rfl, g1, g2, g3⟩
  refine ⟨_, rfl, ?_⟩
  have hB1 := hB.belowS g3
  have hs1 := g3.size
  have hz : (w.alloc (.cells (#[.slice a l c] : Array Value) 23)).heap.size = w.heap.size + 1 := by rw [size_alloc]
  refine StP.to 0 hB1 rfl Nat.one_pos fun w2 h1 h2 h3 => ?_
  have g4 : ∀ k, o' = some k → w.heap.size + 1 ≤ k := fun k hk => by rw [← hz]; exact g2 k hk
  have gO := g1.1.chg h2 g1.1.lt (fun b hb e => by have := g4 b hb; omega)
  have gN : NumO w2 a' l' c' n o' := ⟨gO, g1.2⟩
  have hB2 : Below w.heap.size w w1 := hb.trans (g3.mono hb.size)
  refine ⟨rfl, w.heap.size, a', l', c', rfl, Nat.le_refl _, h1, gN.n, fun p hp => ?_, Chg.below ((Chg.of_below (s := fun _ => False) hB2).thenC h2 hB2.size (fun k hk e => absurd e (by omega)))⟩
  have := g4 _ (g1.1.at p hp)
  have := gO.lt _ (gO.at p hp)
  omega
theorem blen_le {n l : Nat} (h : n < B64 ^ l) : blen n ≤ 64 * l := by
  rw [B64_two] at h
  rcases (blen_ok n).2 with g | g
  · omega
  · have := (Nat.pow_lt_pow_iff_right (by decide)).1 (Nat.lt_of_le_of_lt g h)
    omega
/-- the closure that goes over them: I k holds ahead of the bit k - 1. -/
theorem each1_spec {eb lp n l c : Nat} {a : Option Addr} {I : Nat → World → Prop} {J : World → Prop} {S : Nat → Prop} {w : World}
    (hbb : Blk w eb [.slice a l c] 23) (ha : NumN w a l c n) (hS1 : ¬ S eb) (hS2 : ∀ p, a = some p → ¬ S p.block) (h0 : I (blen n) w)
    (hy : ∀ k W, k < blen n → I (k + 1) W → Blk W eb [.slice a l c] 23 → NumN W a l c n → Chg w.heap.size S w W →
      YieldP Tryz.prog none lp #[.int .i64 k, .int .u64 ((n / 2 ^ k % 2 : Nat) : Int)] (fun v W' => (v = .bool true ∧ I k W' ∧ Chg W.heap.size S W W') ∨ (v = .bool false ∧ J W')) W) :
    Calls Tryz.prog 92 #[.func (.yield lp) #[] #[], .pointer (some ⟨eb, 0, none⟩)] w fun e w' => e = .returned (.tuple #[]) ∧ (J w' ∨ I 0 w') := by
  refine calls_of_ev tysOk extsOk Tryz.func92 rfl rfl rfl ?_
  refine LdSl.go (hbb.cell 0) ?_
  refine CallP.intro (bitsV_spec ha.s) ?_
  rintro e w1 ⟨rfl, hw⟩
  have hw := hw.symm
  subst hw
  refine ⟨_, rfl, ?_⟩
  have hbl : blen n ≤ 16000 := Nat.le_trans (blen_le (ha.2.1 ▸ lt_of_limbs n)) (by have := ha.2.2.2; omega)
  have e6 : IntKind.i64.wrap ((blen n : Int) - 1) = (blen n : Int) - 1 := IntWalk.i64_in _ (by omega)
  have ha0 : ∀ W, Chg w.heap.size S w W → NumN W a l c n := fun W hW => ⟨ha.1.chg hW (fun p hp => hS2 p hp), ha.2⟩
  refine LoopP.go (S := Nat) 262024 (by kernel_rfl) (fun k => [(3, .int .i64 ((k : Int) - 1))])
    (fun k W => k ≤ blen n ∧ I k W ∧ Chg w.heap.size S w W) (fun k => k) (blen n) ⟨congrArg (Value.int .i64) e6, trivial⟩ ⟨Nat.le_refl _, h0, Chg.refl _ _ _⟩ ?_
  rintro k1 j W ⟨i1, i2, i3⟩
  refine IfP.dec (fun hge => ?_) (fun hlt => ?_)
  · obtain ⟨k, rfl⟩ : ∃ k, k1 = k + 1 := ⟨k1 - 1, by omega⟩
    have e3 : (((k + 1 : Nat) : Int) - 1) = (k : Int) := by omega
    have hB := hbb.chg i3 hbb.lt hS1
    refine LdSl.go (hB.cell 0) ?_
    rw [e3]
    refine CallP.intro (bit_spec (i := k) (ha0 W i3).s (by omega)) ?_
    rintro e w2 ⟨rfl, hw⟩
    have hw := hw.symm
    subst hw
    refine ⟨_, rfl, ?_⟩
    refine (hy k W (by omega) i2 hB (ha0 W i3) i3).mono ?_
    rintro v W2 (⟨rfl, k1, k2⟩ | ⟨rfl, k1⟩)
    · refine IfP.no ?_
      have e9 : IntKind.i64.wrap ((k : Int) - 1) = (k : Int) - 1 := IntWalk.i64_in _ (by omega)
      exact ⟨rfl, k, ⟨⟨congrArg (Value.int .i64) e9, trivial⟩, by omega, k1, i3.thenC k2 i3.size (fun _ _ h => h)⟩, Nat.lt_succ_self _⟩
    · refine IfP.yes ?_
      exact ⟨rfl, rfl, .inl k1⟩
  · have hk : k1 = 0 := by omega
    subst hk
    exact ⟨rfl, rfl, .inr i2⟩
end Go.Proofs.YthneejblcffdgaaGreatDoor

namespace Go.Proofs.YthneejblcffdgaaGreatDoor
open Go Go.Ev Go.RowKit
set_option maxRecDepth 20000
set_option linter.unusedVariables false
set_option linter.unusedSimpArgs false

/-! ### zmont: Exp -/
theorem pow_bit (x n k : Nat) : x ^ (n / 2 ^ k) = x ^ (n / 2 ^ (k + 1)) * x ^ (n / 2 ^ (k + 1)) * (if n / 2 ^ k % 2 = 1 then x else 1) := by
  have e : n / 2 ^ k = n / 2 ^ (k + 1) + n / 2 ^ (k + 1) + n / 2 ^ k % 2 := by
    rw [Nat.pow_succ, ← Nat.div_div_eq_div_mul]; omega
  rw [← Nat.pow_add]
  split
  · rename_i h
    conv => lhs; rw [e, h]
    rw [Nat.pow_succ]
  · rename_i h
    have h0 : n / 2 ^ k % 2 = 0 := by omega
    conv => lhs; rw [e, h0]
    rw [Nat.mul_one, Nat.add_zero]
theorem blen_top (n : Nat) : n / 2 ^ blen n = 0 := Nat.div_eq_of_lt (blen_ok n).1
set_option maxHeartbeats 2000000 in
theorem expM_spec {w : World} {db n m inv mc oc rc ac l c x v : Nat} {ma oa ra aa ea : Option Addr} {One RR : List Nat} (h : ZMod w db n m inv ma mc oa oc ra rc One RR) (hx : Form w aa n m x) (he : NumS w ea l c v) :
    Calls Tryz.prog 66 #[.pointer (some ⟨db, 0, none⟩), .slice aa n ac, .slice ea l c] w fun e w' => ∃ a' c', e = .returned (.slice a' n c') ∧ (∀ p, a' = some p → w.heap.size ≤ p.block) ∧ Form w' a' n m (x ^ v) ∧ Below w.heap.size w w' := by
  refine calls_of_evM tysOk extsOk Tryz.func66 rfl rfl rfl ?_
  have hx0 : Blk (w.alloc (.cells (#[.pointer (some ⟨db, 0, none⟩)] : Array Value) 90)) w.heap.size [.pointer (some ⟨db, 0, none⟩)] 90 := Blk.newA _ _ _
  have hA0 : Below w.heap.size w (w.alloc (.cells (#[.pointer (some ⟨db, 0, none⟩)] : Array Value) 90)) := (Below.refl _ _).alloc (Nat.le_refl _) _
  generalize hw0 : w.alloc (.cells (#[.pointer (some ⟨db, 0, none⟩)] : Array Value) 90) = w0 at hx0 hA0
  have hx1 : Blk (w0.alloc (.cells (#[.slice aa n ac] : Array Value) 22)) w0.heap.size [.slice aa n ac] 22 := Blk.newA _ _ _
  have hA1 : Below w0.heap.size w0 (w0.alloc (.cells (#[.slice aa n ac] : Array Value) 22)) := (Below.refl _ _).alloc (Nat.le_refl _) _
  have hx01 := hx0.belowS hA1
  have hs0 : w0.heap.size = w.heap.size + 1 := by rw [← hw0, size_alloc]
  generalize hw1 : w0.alloc (.cells (#[.slice aa n ac] : Array Value) 22) = w1 at hx1 hA1 hx01
  have hs1 : w1.heap.size = w.heap.size + 2 := by rw [← hw1, size_alloc, hs0]
  have hB1 : Below w.heap.size w w1 := hA0.trans (hA1.mono hA0.size)
  subst hw0
  subst hw1
  refine LdPt.go (hx01.cell 0) ?_
  refine CallP.intro (oneF_spec (h.below hB1)) ?_
  rintro e w2 ⟨a1, c1, rfl, o1, o2, o3⟩
  refine ⟨_, rfl, ?_⟩
  have x02 := hx01.belowS o3
  have x12 := hx1.belowS o3
  have z2 : w.heap.size + 2 ≤ w2.heap.size := by rw [← hs1]; exact o3.size
  have hv0 : Blk (w2.alloc (.cells (#[.slice none 0 0] : Array Value) 22)) w2.heap.size [.slice none 0 0] 22 := Blk.newA _ _ _
  have hA2 : Below w2.heap.size w2 (w2.alloc (.cells (#[.slice none 0 0] : Array Value) 22)) := (Below.refl _ _).alloc (Nat.le_refl _) _
  refine StP.to 0 hv0 rfl Nat.one_pos fun w3 v1 v2 v3 => ?_
  have hv1 : Blk w3 w2.heap.size [.slice a1 n c1] 22 := v1
  have hB2 : Below w.heap.size w w2 := hB1.trans (o3.mono hB1.size)
  have hB2a := hB2.trans (hA2.mono hB2.size)
  have hB3 : Below w.heap.size w w3 := Chg.below ((Chg.of_below (s := fun _ => False) hB2a).thenC v2 hB2a.size (fun k hk e => absurd e (by omega)))
  refine CallP.intro (each_spec (he.below hB3)) ?_
  rintro e w4 ⟨eb, ea', el', ec', rfl, f1, f2, f3, f4, f5⟩
  refine ⟨_, rfl, ?_⟩
  refine DrawP.rangeA tysOk extsOk rfl (by kernel_rfl) rfl rfl rfl ?_
  rintro rc d w6 hd hdm hlp hb6 hs6 hy
  have y3 := v2.size
  have y2 : w2.heap.size + 1 ≤ w3.heap.size := by rw [v3]; exact Nat.le_of_eq (size_alloc _ _).symm
  have y4 := f5.size
  have x03 : Blk w3 w.heap.size [.pointer (some ⟨db, 0, none⟩)] 90 := (x02.belowS hA2).chg v2 (by have := hA2.size; omega) (by omega)
  have hw01 : (w.alloc (.cells (#[.pointer (some ⟨db, 0, none⟩)] : Array Value) 90)).heap.size = w.heap.size + 1 := hs0
  have x12 : Blk w2 (w.heap.size + 1) [.slice aa n ac] 22 := hw01 ▸ x12
  have x13 : Blk w3 (w.heap.size + 1) [.slice aa n ac] 22 := (x12.belowS hA2).chg v2 (by have := hA2.size; omega) (by omega)
  have x06 := (x03.belowS f5).belowS hb6
  have x16 := (x13.belowS f5).belowS hb6
  have v6 := (hv1.belowS f5).belowS hb6
  have e6 := f2.belowS hb6
  have hB4 : Below w.heap.size w w4 := hB3.trans (f5.mono hB3.size)
  have hB6 : Below w.heap.size w w6 := hB4.trans (hb6.mono hB4.size)
  have hebd : eb < d := by rw [hd]; exact f2.lt
  have o2n : ∀ p, a1 = some p → p.block < w2.heap.size := fun p hp => by
    obtain ⟨Y, r1, r2, r3, r4⟩ := o2
    obtain ⟨b', o', e', hc⟩ := row_cell r1 (t := 0) (by have := h.npos; omega)
    rw [hp] at e'; cases e'
    exact (cell_lt hc : b' < _)
  have o26 : Form w6 a1 n m 1 := by
    have g3 : Form w3 a1 n m 1 := by
      obtain ⟨Y, r1, r2⟩ := o2.below hA2
      exact ⟨Y, r1.chg v2 (fun p hp e => by have := o2n p hp; omega), r2⟩
    exact (g3.below f5).below hb6
  refine (each1_spec (eb := eb) (lp := d + 1) (n := v) (w := w6)
    (I := fun k W => W.heap[d + 1]? = some (.loop (rc .ready none)) ∧ Chg w6.heap.size (fun q => q = w2.heap.size ∨ q = d + 1) w6 W ∧ ∃ a' c', Blk W w2.heap.size [.slice a' n c'] 22 ∧ Form W a' n m (x ^ (v / 2 ^ k)) ∧ (∀ p, a' = some p → w.heap.size ≤ p.block ∧ p.block ≠ w2.heap.size ∧ p.block ≠ d + 1 ∧ p.block ≠ d))
    (J := fun _ => False) (S := fun q => q = w2.heap.size ∨ q = d + 1) e6 (f3.below hb6) (by omega) (fun p hp => by have := f4 p hp; omega) ⟨hlp, Chg.refl _ _ _, a1, c1, v6, by rw [blen_top, Nat.pow_zero]; exact o26, fun p hp => by have := o2n p hp; have o1' : w.heap.size + 2 ≤ p.block := (by rw [← hs1]; exact o1 p hp); omega⟩ ?_).mono ?_
  · rintro k W hk ⟨i1, i2, a', c', i3, i4, i5⟩ hE hN hC
    refine hy [.int .i64 k, .int .u64 ((v / 2 ^ k % 2 : Nat) : Int)] W _ i1 rfl ?_
    refine ⟨i1, ?_⟩
    have gw := i2.size
    generalize hW1 : W.putObj (d + 1) (.loop (rc .busy none)) = W1
    have hc1 : Chg W.heap.size (fun q => q = d + 1) W W1 := by rw [← hW1]; exact (Chg.refl _ _ _).put _ _ (fun _ => rfl)
    have hl1 : W1.heap[d + 1]? = some (.loop (rc .busy none)) := by rw [← hW1]; exact put_same (heap_lt i1)
    have hs1' := hc1.size
    have i21 : Chg w6.heap.size (fun q => q = w2.heap.size ∨ q = d + 1) w6 W1 := i2.thenC hc1 gw (fun _ _ h => .inr h)
    have hBW1 : Below w.heap.size w W1 := Chg.below ((Chg.of_below (s := fun _ => False) hB6).thenC i21 hB6.size (fun q hq e => by rcases e with e | e <;> omega))
    have x07 := x06.chg i21 (by have := x06.lt; omega) (by omega)
    have x17 := x16.chg i21 (by have := x16.lt; omega) (by omega)
    have v7 := i3.chg hc1 i3.lt (by omega)
    have i41 : Form W1 a' n m (x ^ (v / 2 ^ (k + 1))) := by
      obtain ⟨Y, r1, r2⟩ := i4
      exact ⟨Y, r1.chg hc1 (fun p hp e => (i5 p hp).2.2.1 e), r2⟩
    have hxW := hx.below hBW1
    refine LdPt.go (x07.cell 0) ?_
    refine LdSl.go (v7.cell 0) ?_
    refine LdSl.go (v7.cell 0) ?_
    refine CallP.intro (mulF_spec (h.below hBW1) i41 i41) ?_
    rintro e W2 ⟨yb, rfl, k1, k2, k3⟩
    refine ⟨_, rfl, ?_⟩
    have v8 := v7.belowS k3
    have gs2 := k3.size
    have gs1 : w2.heap.size < W1.heap.size := v7.lt
    have hld : d + 1 < W1.heap.size := heap_lt hl1
    refine StP.to 0 v8 rfl Nat.one_pos fun W3 t1 t2 t3 => ?_
    have t1 : Blk W3 w2.heap.size [.slice (some ⟨yb, 0, none⟩) n n] 22 := t1
    have ts := t2.size
    have i23 : Chg w6.heap.size (fun q => q = w2.heap.size ∨ q = d + 1) w6 W3 := (i21.thenB k3 i21.size).thenC t2 (by omega) (fun _ _ h => .inl h)
    have hBW3 : Below w.heap.size w W3 := Chg.below ((Chg.of_below (s := fun _ => False) hB6).thenC i23 hB6.size (fun q hq e => by rcases e with e | e <;> omega))
    have F3 : Form W3 (some ⟨yb, 0, none⟩) n m (x ^ (v / 2 ^ (k + 1)) * x ^ (v / 2 ^ (k + 1))) := by
      obtain ⟨Y, r1, r2⟩ := k2
      exact ⟨Y, r1.chg t2 (fun p hp e => by cases hp; have e : yb = w2.heap.size := e; omega), r2⟩
    have hl3 : W3.heap[d + 1]? = some (.loop (rc .busy none)) := by
      rw [t2.block _ (by omega) (by show ¬ (d + 1 = w2.heap.size); omega), k3.block _ hld]; exact hl1
    have hb := pow_bit x v k
    have fin : ∀ (W4 : World) (zb cz : Nat) (e0 : Nat), W4.heap[d + 1]? = some (.loop (rc .busy none)) → Chg W.heap.size (fun q => q = w2.heap.size ∨ q = d + 1) W W4 → Blk W4 w2.heap.size [.slice (some ⟨zb, 0, none⟩) n cz] 22 → Form W4 (some ⟨zb, 0, none⟩) n m e0 → e0 = x ^ (v / 2 ^ k) → d + 2 ≤ zb →
        ((Value.bool true = .bool true ∧ ((W4.putObj (d + 1) (.loop (rc .ready none))).heap[d + 1]? = some (.loop (rc .ready none)) ∧ Chg w6.heap.size (fun q => q = w2.heap.size ∨ q = d + 1) w6 (W4.putObj (d + 1) (.loop (rc .ready none))) ∧ ∃ a' c', Blk (W4.putObj (d + 1) (.loop (rc .ready none))) w2.heap.size [.slice a' n c'] 22 ∧ Form (W4.putObj (d + 1) (.loop (rc .ready none))) a' n m (x ^ (v / 2 ^ k)) ∧ (∀ p, a' = some p → w.heap.size ≤ p.block ∧ p.block ≠ w2.heap.size ∧ p.block ≠ d + 1 ∧ p.block ≠ d)) ∧ Chg W.heap.size (fun q => q = w2.heap.size ∨ q = d + 1) W (W4.putObj (d + 1) (.loop (rc .ready none)))) ∨ (Value.bool true = .bool false ∧ False)) := by
      rintro W4 zb cz e0 u1 u2 u3 ⟨Y, r1, r2⟩ rfl u5
      refine .inl ⟨rfl, ⟨put_same (heap_lt u1), (i2.trans (u2.mono gw (fun _ _ h => h))).put _ _ (fun _ => .inr rfl), some ⟨zb, 0, none⟩, cz, u3.put _ _ (by omega), ⟨Y, r1.chg ((Chg.refl W4.heap.size (fun q => q = d + 1) W4).put _ _ (fun _ => rfl)) (fun p hp e => by cases hp; have e : zb = d + 1 := e; omega), r2⟩, fun p hp => ?_⟩, u2.put _ _ (fun _ => .inr rfl)⟩
      cases hp
      show w.heap.size ≤ zb ∧ zb ≠ w2.heap.size ∧ zb ≠ d + 1 ∧ zb ≠ d
      omega
    refine IfP.beq (fun h1 => ?_) (fun h1 => ?_)
    · have h1 : v / 2 ^ k % 2 = 1 := Int.ofNat_inj.1 h1
      rw [if_pos h1] at hb
      have cW3 : Chg W.heap.size (fun q => q = w2.heap.size ∨ q = d + 1) W W3 := ((hc1.mono (Nat.le_refl _) (fun _ _ h => .inr h)).thenB k3 hs1').thenC t2 (by omega) (fun _ _ h => .inl h)
      have x08 := x06.chg i23 (by have := x06.lt; omega) (by omega)
      have x18 := x16.chg i23 (by have := x16.lt; omega) (by omega)
      refine LdPt.go (x08.cell 0) ?_
      refine LdSl.go (t1.cell 0) ?_
      refine LdSl.go ((show W3.cell? ⟨(w.alloc (.cells (Value.pointer (some ⟨db, 0, none⟩)).cells 90)).heap.size, 0, none⟩ = some (.slice aa n ac) by rw [show (w.alloc (.cells (Value.pointer (some ⟨db, 0, none⟩)).cells 90)).heap.size = w.heap.size + 1 from hs0]; exact x18.cell 0)) ?_
      refine CallP.intro (mulF_spec (h.below hBW3) F3 (hx.below hBW3)) ?_
      rintro e W5 ⟨zb, rfl, m1, m2, m3⟩
      refine ⟨_, rfl, ?_⟩
      have t5 := t1.belowS m3
      have ms := m3.size
      refine StP.to 0 t5 rfl Nat.one_pos fun W6 n1 n2 n3 => ?_
      have ns := n2.size
      have n1 : Blk W6 w2.heap.size [.slice (some ⟨zb, 0, none⟩) n n] 22 := n1
      have hl6 : W6.heap[d + 1]? = some (.loop (rc .busy none)) := by
        rw [n2.block _ (by omega) (by show ¬ (d + 1 = w2.heap.size); omega), m3.block _ (by omega)]; exact hl3
      refine ⟨hl6, fin W6 zb n _ hl6 ((cW3.thenB m3 cW3.size).thenC n2 (by omega) (fun _ _ h => .inl h)) n1 ?_ hb.symm (by omega)⟩
      obtain ⟨Y, r1, r2⟩ := m2
      exact ⟨Y, r1.chg n2 (fun p hp e => by cases hp; have e : zb = w2.heap.size := e; omega), r2⟩
    · have h1 : ¬ v / 2 ^ k % 2 = 1 := fun h => h1 (by rw [h]; rfl)
      rw [if_neg h1, Nat.mul_one] at hb
      have cW3 : Chg W.heap.size (fun q => q = w2.heap.size ∨ q = d + 1) W W3 := ((hc1.mono (Nat.le_refl _) (fun _ _ h => .inr h)).thenB k3 hs1').thenC t2 (by omega) (fun _ _ h => .inl h)
      exact ⟨hl3, fin W3 yb n _ hl3 cW3 t1 F3 hb.symm (by omega)⟩
  · rintro e W ⟨rfl, (hJ | ⟨g1, g2, a', c', g3, g4, g5⟩)⟩
    · exact hJ.elim
    refine ⟨_, rfl, .inl ⟨g1, ?_⟩⟩
    have gw := g2.size
    have q1 := g3.put (d + 1) (.loop (rc .exhausted none)) (by omega)
    refine LdSl.go (q1.cell 0) ?_
    have hmark : (W.putObj (d + 1) (.loop (rc .exhausted none))).heap[d]? = some (.deferred (some [])) := by
      rw [World.putObj_heap_other (by omega), g2.block d (by omega) (by omega)]
      exact hdm
    refine .inr ⟨d, rfl, hmark, ?_⟩
    obtain ⟨Y, r1, r2, r3, r4⟩ := g4
    rw [Nat.pow_zero, Nat.div_one] at r4
    have hBW : Below w.heap.size w W := Chg.below ((Chg.of_below (s := fun _ => False) hB6).thenC g2 hB6.size (fun q hq e => by rcases e with e | e <;> omega))
    have c1 : Chg W.heap.size (fun q => q = d + 1 ∨ q = d) W ((W.putObj (d + 1) (.loop (rc .exhausted none))).putObj d (.deferred none)) := ((Chg.refl _ _ _).put _ _ (fun _ => .inl rfl)).put _ _ (fun _ => .inr rfl)
    have offd : ∀ p, a' = some p → p.block ≠ d := fun p hp => (g5 p hp).2.2.2
    refine ⟨a', c', rfl, fun p hp => (g5 p hp).1, ⟨Y, r1.chg c1 (fun p hp e => by have := g5 p hp; have := offd p hp; rcases e with e | e <;> omega), r2, r3, r4⟩, Chg.below ((Chg.of_below (s := fun _ => False) hBW).thenC c1 hBW.size (fun q hq e => by rcases e with e | e <;> omega))⟩
end Go.Proofs.YthneejblcffdgaaGreatDoor

namespace Go.Proofs.YthneejblcffdgaaGreatDoor
open Go Go.Ev Go.RowKit
set_option maxRecDepth 20000
set_option linter.unusedVariables false
set_option linter.unusedSimpArgs false

/-! ### zmont: New -/
/-- one step of Newton's way to the inverse modulo 2^64. -/
theorem newton {a x e : Int} (h : a * x = 1 + e) : a * (x * (2 - a * x)) = 1 - e * e := by
  have h1 : a * (x * (2 - a * x)) = (a * x) * (2 - a * x) := by rw [Int.mul_assoc]
  rw [h1, h]
  rw [Int.add_mul, Int.mul_sub, Int.mul_sub, Int.mul_add, Int.mul_add]; omega
theorem wrap_sub (z : Int) : ∃ t, IntKind.u64.wrap z = z + 18446744073709551616 * t := ⟨-(z / 18446744073709551616), by rw [IntKind.wrap_u64]; omega⟩
theorem newton_wrap {a x e p q : Int} (hq : (18446744073709551616 : Int) = p * p * q) (h : a * x = 1 + p * e) : ∃ e', a * IntKind.u64.wrap (x * IntKind.u64.wrap (2 - IntKind.u64.wrap (a * x))) = 1 + p * p * e' := by
  obtain ⟨t1, h1⟩ := wrap_sub (a * x)
  obtain ⟨t2, h2⟩ := wrap_sub (2 - IntKind.u64.wrap (a * x))
  obtain ⟨t3, h3⟩ := wrap_sub (x * IntKind.u64.wrap (2 - IntKind.u64.wrap (a * x)))
  have n := newton h
  refine ⟨-(e * e) + q * (a * x * (t2 - t1) + a * t3), ?_⟩
  rw [h3, h2, h1]
  have e1 : a * (x * (2 - (a * x + 18446744073709551616 * t1) + 18446744073709551616 * t2) + 18446744073709551616 * t3) = a * (x * (2 - a * x)) + 18446744073709551616 * (a * x * (t2 - t1) + a * t3) := by grind
  rw [e1, n, hq]
  grind
theorem wrap_nat (z : Int) : ∃ x : Nat, IntKind.u64.wrap z = (x : Int) ∧ x < B64 := ⟨(z % 18446744073709551616).toNat, by rw [IntKind.wrap_u64]; omega, by simp only [B64]; omega⟩
theorem newton_pow : ∀ i, i < 6 → ∃ q : Int, (18446744073709551616 : Int) = (2 : Int) ^ (2 ^ i) * (2 : Int) ^ (2 ^ i) * q
  | 0, _ => ⟨4611686018427387904, by decide⟩
  | 1, _ => ⟨1152921504606846976, by decide⟩
  | 2, _ => ⟨72057594037927936, by decide⟩
  | 3, _ => ⟨281474976710656, by decide⟩
  | 4, _ => ⟨4294967296, by decide⟩
  | 5, _ => ⟨1, by decide⟩
set_option maxHeartbeats 2000000 in
theorem newM_spec {a : Option Addr} {l c m : Nat} {w : World} (ha : NumS w a l c m) (hl : l ≤ 100) (hp : 1 < m) (ho : m % 2 = 1) :
    Calls Tryz.prog 65 #[.slice a l c] w fun e w' => ∃ db n inv ma mc oa oc ra rc One RR, e = .returned (.pointer (some ⟨db, 0, none⟩)) ∧ w.heap.size ≤ db ∧ ZMod w' db n m inv ma mc oa oc ra rc One RR ∧ n ≤ 100 ∧ Below w.heap.size w w' := by
  refine calls_of_ev tysOk extsOk Tryz.func65 rfl rfl rfl ?_
  refine CallP.intro (normV_spec ha) ?_
  rintro e w1 ⟨ma, n, mc, mo, rfl, g1, g2, g3⟩
  refine ⟨_, rfl, ?_⟩
  have hN := g1.n
  have hn0 : 0 < n := by rw [hN.2.1]; exact (limbs_pos (by omega)).1
  have hnl : n ≤ 100 := by rw [hN.2.1]; exact limbs_len_le (Nat.lt_of_lt_of_le ha.lt (Nat.pow_le_pow_right (by decide) hl))
  have hM0 := (limbs_limbs m).getD 0
  obtain ⟨hm0, _⟩ := val_mod (limbs_limbs m) (by rw [← hN.2.1]; exact hn0)
  rw [val_limbs] at hm0
  have hodd : (limbs m).getD 0 0 % 2 = 1 := by rw [← hm0, Nat.mod_mod_of_dvd _ (by decide)]; exact ho
  generalize hM : (limbs m).getD 0 0 = M0 at *
  refine LoopP.go (S := Nat × Nat) 33538056 (by kernel_rfl) (fun s => [(14, .int .i64 (s.1 : Nat)), (3, .int .u64 (s.2 : Nat))])
    (fun s W => W = w1 ∧ s.1 ≤ 6 ∧ s.2 < B64 ∧ ∃ e : Int, (M0 : Int) * (s.2 : Int) = 1 + (2 : Int) ^ (2 ^ s.1) * e) (fun s => 6 - s.1) (0, 1) ⟨rfl, rfl, trivial⟩ ⟨rfl, Nat.zero_le _, by decide, ((M0 / 2 : Nat) : Int), by simp; omega⟩ ?_
  rintro ⟨i, x⟩ j W ⟨hw, i1, i2, e, i3⟩
  have hw := hw.symm
  subst hw
  simp only at i1 i2 i3
  refine IfP.dec (fun hlt => ?_) (fun hge => ?_)
  · refine IdxP.ldN 0 rfl hN.1 hN.2.1 hn0 fun _ _ _ => ?_
    rw [hM]
    obtain ⟨q, hq⟩ := newton_pow i (by omega)
    obtain ⟨e', he'⟩ := newton_wrap hq i3
    obtain ⟨x', hx', hx2⟩ := wrap_nat ((x : Int) * IntKind.u64.wrap (2 - IntKind.u64.wrap ((M0 : Int) * (x : Int))))
    rw [hx'] at he'
    have e24 := next_i64 (show i < 6 by omega) (by decide)
    refine ⟨rfl, (i + 1, x'), ⟨⟨congrArg (Value.int .i64) e24, congrArg (Value.int .u64) hx', trivial⟩, rfl, by omega, hx2, e', ?_⟩, by show 6 - (i + 1) < 6 - i; omega⟩
    show (M0 : Int) * (x' : Int) = 1 + (2 : Int) ^ (2 ^ (i + 1)) * e'
    rw [he', Nat.pow_succ, Int.pow_mul, Int.pow_succ, Int.pow_succ, Int.pow_zero, Int.one_mul]
  · have hi : i = 6 := by omega
    subst hi
    obtain ⟨inv, hinv, hinv2⟩ := wrap_nat (0 - (x : Int))
    have hi0 : (inv * M0 + 1) % B64 = 0 := by
      obtain ⟨t, ht⟩ := wrap_sub (0 - (x : Int))
      rw [hinv] at ht
      have e1 : ((inv * M0 + 1 : Nat) : Int) = 18446744073709551616 * ((M0 : Int) * t - e) := by
        have i4 : (M0 : Int) * (x : Int) = 1 + 18446744073709551616 * e := i3
        push_cast
        rw [ht]
        grind
      show (inv * M0 + 1) % 18446744073709551616 = 0
      omega
    have b0 : Blk (w1.alloc (.cells (#[.slice ma n mc, .int .u64 (IntKind.u64.wrap (0 - (x : Int))), .slice none 0 0, .slice none 0 0] : Array Value) 117)) w1.heap.size [.slice ma n mc, .int .u64 (IntKind.u64.wrap (0 - (x : Int))), .slice none 0 0, .slice none 0 0] 117 := Blk.newA _ _ _
    have hA0 : Below w1.heap.size w1 (w1.alloc (.cells (#[.slice ma n mc, .int .u64 (IntKind.u64.wrap (0 - (x : Int))), .slice none 0 0, .slice none 0 0] : Array Value) 117)) := (Below.refl _ _).alloc (Nat.le_refl _) _
    have hz0 : (w1.alloc (.cells (#[.slice ma n mc, .int .u64 (IntKind.u64.wrap (0 - (x : Int))), .slice none 0 0, .slice none 0 0] : Array Value) 117)).heap.size = w1.heap.size + 1 := by rw [size_alloc]
    generalize hw2 : w1.alloc (.cells (#[.slice ma n mc, .int .u64 (IntKind.u64.wrap (0 - (x : Int))), .slice none 0 0, .slice none 0 0] : Array Value) 117) = w2 at b0 hA0 hz0
    rw [hinv] at b0
    refine Mk.toN n rfl rfl (by omega) fun w3 m3 b3 s3 => ?_
    have e3 : w3.heap.size = w2.heap.size + 1 := by rw [← hw2]; exact s3
    have b3 : Below w2.heap.size w2 w3 := by rw [← hw2]; exact b3
    have m3 : NBuf w3 w2.heap.size (List.replicate n 0) n := by rw [← hw2]; exact m3
    clear s3
    have hO : OwnS .u64 34 w3 (some ⟨w2.heap.size, 0, none⟩) n n (ints (List.replicate n 0)) (some w2.heap.size) := ⟨rfl, by rw [ints_length, List.length_replicate], m3⟩
    have bX : Below w3.heap.size w3 (w3.alloc (.cells (([1] : List Int).map (Value.int .u64)).toArray 34)) := (Below.refl _ _).alloc (Nat.le_refl _) _
    have x1 := Blk.newA w3 (([1] : List Int).map (Value.int .u64)).toArray 34
    have hzX : (w3.alloc (.cells (([1] : List Int).map (Value.int .u64)).toArray 34)).heap.size = w3.heap.size + 1 := by rw [size_alloc]
    have hO2 := hO.below bX
    have b03 := (b0.belowS b3).belowS bX
    have hBX : Below w2.heap.size w2 (w3.alloc (.cells (([1] : List Int).map (Value.int .u64)).toArray 34)) := b3.trans (bX.mono b3.size)
    have hk : ∀ (a' : Option Addr) (c' : Nat) (o' : Option Nat) (w4 : World), OwnS .u64 34 w4 a' (n + 1) c' (ints (List.replicate n 0) ++ [1]) o' → Chg (w3.alloc (.cells (([1] : List Int).map (Value.int .u64)).toArray 34)).heap.size (fun k => some w2.heap.size = some k) (w3.alloc (.cells (([1] : List Int).map (Value.int .u64)).toArray 34)) w4 →
        NumS w4 a' (n + 1) c' (B64 ^ n) ∧ Below w2.heap.size w2 w4 := by
      intro a' c' o' w4 q1 q2
      refine ⟨⟨List.replicate n 0 ++ [1], ?_, ?_, by simp, q1.le, by omega, ?_⟩, Chg.below ((Chg.of_below (s := fun _ => False) hBX).thenC q2 hBX.size (fun k hk e => by cases e; omega))⟩
      · have := q1.row
        show Row w4 a' .u64 (ints _)
        rw [ints_append]; exact this
      · intro y hy
        rcases List.mem_append.1 hy with hy | hy
        · rw [List.eq_of_mem_replicate hy]; decide
        · simp at hy; subst hy; decide
      · rw [val_append, val_zeros, List.length_replicate]; simp [val]
    have hk2 : ∀ w4, Chg (w3.alloc (.cells (([1] : List Int).map (Value.int .u64)).toArray 34)).heap.size (fun k => some w2.heap.size = some k) (w3.alloc (.cells (([1] : List Int).map (Value.int .u64)).toArray 34)) w4 → Blk w4 w1.heap.size [.slice ma n mc, .int .u64 (inv : Nat), .slice none 0 0, .slice none 0 0] 117 :=
      fun w4 q2 => b03.chg q2 (by have := b3.size; have := bX.size; omega) (fun e => by have e := Option.some.inj e; omega)
    have hk3 : ∀ w4, Below w2.heap.size w2 w4 → Below w1.heap.size w1 w4 := fun w4 q => hA0.trans (q.mono hA0.size)
    subst hw2
    refine RdP.row' (xs := [1]) (Buf.of (xs := [1]) x1).row rfl ?_
    refine App.own hO2 rfl (by omega) (by decide) fun a4 c4 o4 w4 q1 q2 q3 => ?_
    obtain ⟨n4, k4⟩ := hk _ _ _ _ q1 q2
    have b4 := hk2 _ q2
    have k14 := hk3 _ k4
    clear hk hk2 hk3 q1 q2 q3 k4 hO2 b03 hBX x1 hzX bX hO m3 b3 e3 hz0 hA0 b0
    have hNm : NumN w4 ma n mc m := hN.below k14
    refine CallP.intro (quo_spec n4 hNm.s (by omega)) ?_
    rintro e w5 ⟨qa, ql, qc, oa, ol, oc, rfl, _, p2, _, p4, p5⟩
    rw [remV_pos (by omega)] at p2
    refine ⟨_, rfl, ?_⟩
    have hmlt : m < B64 ^ n := by rw [hN.2.1]; exact lt_of_limbs m
    have hol : ol ≤ n := by
      rw [p2.2.1]; exact limbs_len_le (Nat.lt_trans (Nat.mod_lt _ (by omega)) hmlt)
    refine CallP.intro (mul_spec p2.s p2.s (by omega) (by omega)) ?_
    rintro e w6 ⟨ta, tl, tc, rfl, t1, _, t3⟩
    refine ⟨_, rfl, ?_⟩
    have htl : tl ≤ 200 := by
      rw [t1.2.1]
      refine Nat.le_trans (limbs_len_le (k := n + n) ?_) (by omega)
      rw [Nat.pow_add]
      have h1 : B64 ^ n % m < B64 ^ n := Nat.lt_trans (Nat.mod_lt _ (by omega)) hmlt
      exact Nat.mul_lt_mul_of_lt_of_lt h1 h1
    have k15 := k14.trans (p5.mono k14.size)
    have k16 := k15.trans (t3.mono k15.size)
    refine CallP.intro (quo_spec t1.s (hN.below k16).s htl) ?_
    rintro e w7 ⟨ua, ul, uc, ra, rl, rc, rfl, _, r2, _, r4, r5⟩
    rw [remV_pos (by omega)] at r2
    refine ⟨_, rfl, ?_⟩
    have k17 := k16.trans (r5.mono k16.size)
    have b7 := ((b4.belowS p5).belowS t3).belowS r5
    have p27 := (p2.below t3).below r5
    have hrl : rl ≤ n := by
      rw [r2.2.1]; exact limbs_len_le (Nat.lt_trans (Nat.mod_lt _ (by omega)) hmlt)
    have hM7 : MAt w7 w1.heap.size ma n mc inv (limbs m) [.slice none 0 0, .slice none 0 0] := ⟨b7, (hN.below k17).1, hN.2.1.symm, limbs_limbs m, by omega, fun p hp => by
      have := g1.1.at p hp
      have := g1.1.lt _ this
      omega⟩
    refine CallP.intro (fill_spec hM7 p27.s hol) ?_
    rintro e w8 ⟨Y1, rfl, y1, y2, y3, y4, y5⟩
    refine ⟨_, rfl, ?_⟩
    refine CallP.intro (fill_spec (hM7.below y5) (r2.below y5).s hrl) ?_
    rintro e w9 ⟨Y2, rfl, z1, z2, z3, z4, z5⟩
    refine ⟨_, rfl, ?_⟩
    refine NilP.go ?_
    have b9 := (b7.belowS y5).belowS z5
    have k18 := k17.trans (y5.mono k17.size)
    have k19 := k18.trans (z5.mono k18.size)
    refine StP.to 2 b9 rfl (by show 2 < 4; decide) fun w10 v1 v2 v3 => ?_
    refine NilP.go ?_
    refine StP.to 3 v1 rfl (by show 3 < 4; decide) fun w11 u1 u2 u3 => ?_
    have u1 : Blk w11 w1.heap.size [.slice ma n mc, .int .u64 (inv : Nat), .slice (some ⟨w7.heap.size, 0, none⟩) n n, .slice (some ⟨w8.heap.size, 0, none⟩) n n] 117 := u1
    have c911 : Chg w9.heap.size (fun k => k = w1.heap.size) w9 w11 := v2.thenC u2 v2.size (fun _ _ h => h)
    have k1b := k19.size
    have kB11 : Below w1.heap.size w1 w11 := Chg.below ((Chg.of_below (s := fun _ => False) k19).thenC c911 k1b (fun k hk e => by omega))
    have kW := g3.trans (kB11.mono g3.size)
    have q1 : w1.heap.size < w7.heap.size := b7.lt
    have q2 := y5.size
    have R1 : NRow w11 (some ⟨w7.heap.size, 0, none⟩) Y1 := (y1.nrow.below z5).chg c911 (fun p hp e => by cases hp; have e : w7.heap.size = w1.heap.size := e; omega)
    have R2 : NRow w11 (some ⟨w8.heap.size, 0, none⟩) Y2 := z1.nrow.chg c911 (fun p hp e => by cases hp; have e : w8.heap.size = w1.heap.size := e; omega)
    have hM11 : MAt w11 w1.heap.size ma n mc inv (limbs m) [.slice (some ⟨w7.heap.size, 0, none⟩) n n, .slice (some ⟨w8.heap.size, 0, none⟩) n n] := ⟨u1, (hN.below kB11).1, hN.2.1.symm, limbs_limbs m, by omega, hM7.2.2.2.2.2⟩
    refine ⟨rfl, w1.heap.size, n, inv, ma, mc, _, n, _, n, Y1, Y2, rfl, g3.size, ⟨hM11, R1, y2, y3, y4, R2, z2, z3, ?_, hp, ho, by rw [hM]; exact hi0, hinv2⟩, hnl, kW⟩
    rw [z4, ← Nat.mul_mod]
end Go.Proofs.YthneejblcffdgaaGreatDoor

namespace Go.Proofs.YthneejblcffdgaaGreatDoor
open Go Go.Ev Go.RowKit
set_option maxRecDepth 20000
set_option linter.unusedVariables false
set_option linter.unusedSimpArgs false

/-! ### modarith: may, candidate -/
theorem may_spec {b l c : Nat} {xs : List (Option Addr × Nat × Nat × Nat)} {w : World} (hB : Blk w b (xs.map fun s => .slice s.1 s.2.1 s.2.2.1) 23) (hx : ∀ s ∈ xs, NumS w s.1 s.2.1 s.2.2.1 s.2.2.2) (hl : l = xs.length) (hs : l ≤ 100) :
    Calls Tryz.prog 63 #[.slice (some ⟨b, 0, none⟩) l c] w fun e w' => e = .returned (.bool (decide (∀ s ∈ xs, blen s.2.2.2 ≤ 4096))) ∧ w' = w := by
  refine calls_of_ev tysOk extsOk Tryz.func63 rfl rfl rfl ?_
  refine LoopP.go (S := Nat) 32660 (by kernel_rfl) (fun i => [(7, .int .i64 (i : Nat))]) (fun i W => W = w ∧ i ≤ xs.length ∧ ∀ j (h : j < xs.length), j < i → blen xs[j].2.2.2 ≤ 4096) (fun i => xs.length - i) 0 ⟨rfl, trivial⟩ ⟨rfl, Nat.zero_le _, fun _ _ h => absurd h (by omega)⟩ ?_
  rintro i j W ⟨hw, i1, i2⟩
  have hw := hw.symm
  subst hw
  refine IfP.dec (fun hlt => ?_) (fun hge => ?_)
  · have hi : i < xs.length := by omega
    refine IdxP.at i rfl (by omega) ?_
    refine LdSl.go (show w.cell? ⟨b, 0 + i * 1, none⟩ = _ by rw [hB.cell, Nat.zero_add, Nat.mul_one, List.getElem?_map, List.getElem?_eq_getElem hi]; rfl) ?_
    refine CallP.intro (bitsV_spec (hx _ (List.getElem_mem hi))) ?_
    rintro e w1 ⟨rfl, hw⟩
    have hw := hw.symm
    subst hw
    refine ⟨_, rfl, ?_⟩
    refine IfP.dec (fun hgt => ?_) (fun hle => ?_)
    · refine ⟨rfl, congrArg (fun z => Ending.returned (.bool z)) (decide_eq_false fun h => ?_).symm, rfl⟩
      have := h _ (List.getElem_mem hi)
      have hgt : (blen xs[i].2.2.2 : Int) > 4096 := hgt
      omega
    · have e14 := next_i64 (show i < l by omega) (by omega)
      refine ⟨rfl, i + 1, ⟨⟨congrArg (Value.int .i64) e14, trivial⟩, rfl, by omega, fun j h hj => ?_⟩, by show xs.length - (i + 1) < xs.length - i; omega⟩
      rcases Nat.lt_or_ge j i with h1 | h1
      · exact i2 j h h1
      · have : j = i := by omega
        subst this
        have hle : ¬ ((blen xs[j].2.2.2 : Int) > 4096) := hle
        omega
  · refine ⟨rfl, congrArg (fun z => Ending.returned (.bool z)) (decide_eq_true fun s hs => ?_).symm, rfl⟩
    obtain ⟨j, hj, rfl⟩ := List.getElem_of_mem hs
    exact i2 j hj (by omega)
theorem blen_lt2 (n : Nat) : blen n < 2 ↔ n < 2 := by
  have h := blen_ok n
  constructor
  · intro h2
    have := h.1
    rcases (by omega : blen n = 0 ∨ blen n = 1) with e | e <;> rw [e] at this <;> omega
  · intro h2
    rcases (by omega : n = 0 ∨ n = 1) with rfl | rfl <;> decide
theorem blen_one (n : Nat) : blen n = 1 ↔ n = 1 := by
  have h := blen_ok n
  constructor
  · intro h2
    have h1 := h.1
    rw [h2] at h1
    rcases h.2 with g | g
    · omega
    · rw [h2] at g; omega
  · rintro rfl; decide
def candV (n : Nat) : Bool × Bool := if n % 2 = 0 ∨ n < 2 then (false, decide (n = 2)) else (decide (blen n ≤ 4096), false)
theorem cand_spec {a : Option Addr} {l c n : Nat} {w : World} (ha : NumS w a l c n) :
    Calls Tryz.prog 44 #[.slice a l c] w fun e w' => e = .returned (.tuple #[.bool (candV n).1, .bool (candV n).2]) ∧ Below w.heap.size w w' := by
  refine calls_of_ev tysOk extsOk Tryz.func44 rfl rfl rfl ?_
  refine CallP.intro (bit_spec (i := 0) ha (by decide)) ?_
  rintro e w1 ⟨rfl, hw⟩
  have hw := hw.symm
  subst hw
  refine ⟨_, rfl, ?_⟩
  have hc1 : n % 2 = 0 ∨ n < 2 → candV n = (false, decide (n = 2)) := fun h => if_pos h
  have hc2 : ¬ (n % 2 = 0 ∨ n < 2) → candV n = (decide (blen n ≤ 4096), false) := fun h => if_neg h
  have h20 : n / 2 ^ 0 % 2 = n % 2 := by rw [Nat.pow_zero, Nat.div_one]
  refine IfP.nbeq (fun h1 => ?_) (fun h1 => ?_)
  · have h1 : n % 2 ≠ 0 := fun h => h1 (by rw [h20, h]; rfl)
    (repeat (first | refine IfP.yes ?_ | refine IfP.no ?_ | refine NilP.go ?_))
    refine CallP.intro (bitsV_spec ha) ?_
    rintro e w1 ⟨rfl, hw⟩
    have hw := hw.symm
    subst hw
    refine ⟨_, rfl, ?_⟩
    (repeat (first | refine IfP.yes ?_ | refine IfP.no ?_ | refine NilP.go ?_))
    refine IfP.dec (fun h2 => ?_) (fun h2 => ?_)
    · have h2 : n < 2 := (blen_lt2 n).1 (by have h2 : (blen n : Int) < 2 := h2; omega)
      refine CallP.intro (ofV_spec 2 (by decide) w) ?_
      rintro e w3 ⟨b, bl, bc, bo, rfl, g1, g2, g3⟩
      refine ⟨_, rfl, ?_⟩
      refine CallP.intro (cmpV_spec (ha.below g3) g1.n.s) ?_
      rintro e w4 ⟨rfl, k4⟩
      refine ⟨_, rfl, rfl, ?_, g3.trans (k4.mono g3.size)⟩
      rw [hc1 (.inr h2)]
      show Ending.returned (.tuple #[.bool false, .bool (cmpV n 2 == 0)]) = _
      rw [cmpV_zero]
    · have h2 : ¬ n < 2 := fun h => h2 (by have := (blen_lt2 n).2 h; show (blen n : Int) < 2; omega)
      have hB := Blk.newA w (#[.slice a l c] : Array Value) 23
      have hA : Below w.heap.size w (w.alloc (.cells (#[.slice a l c] : Array Value) 23)) := (Below.refl _ _).alloc (Nat.le_refl _) _
      refine CallP.intro (may_spec (xs := [(a, l, c, n)]) (l := 1) (c := 1) hB (fun s hs => ?_) rfl (by decide)) ?_
      · rw [List.mem_singleton.1 hs]; exact ha.below hA
      rintro e w4 ⟨rfl, rfl⟩
      refine ⟨_, rfl, rfl, ?_, hA⟩
      rw [hc2 (fun h => h.elim (fun h => h1 h) h2)]
      show Ending.returned (.tuple #[.bool (decide _), .bool false]) = _
      congr 5
      simp
  · have h1 : n % 2 = 0 := by rw [h20] at h1; omega
    (repeat (first | refine IfP.yes ?_ | refine IfP.no ?_ | refine NilP.go ?_))
    refine CallP.intro (ofV_spec 2 (by decide) w) ?_
    rintro e w3 ⟨b, bl, bc, bo, rfl, g1, g2, g3⟩
    refine ⟨_, rfl, ?_⟩
    refine CallP.intro (cmpV_spec (ha.below g3) g1.n.s) ?_
    rintro e w4 ⟨rfl, k4⟩
    refine ⟨_, rfl, rfl, ?_, g3.trans (k4.mono g3.size)⟩
    rw [hc1 (.inl h1)]
    show Ending.returned (.tuple #[.bool false, .bool (cmpV n 2 == 0)]) = _
    rw [cmpV_zero]
end Go.Proofs.YthneejblcffdgaaGreatDoor

namespace Go.Proofs.YthneejblcffdgaaGreatDoor
open Go Go.Ev Go.RowKit
set_option maxRecDepth 20000
set_option linter.unusedVariables false
set_option linter.unusedSimpArgs false

/-! ### modarith: Exp, of an odd modulus -/
theorem limbs_mono {a b : Nat} (h : a ≤ b) : (limbs a).length ≤ (limbs b).length := limbs_len_le (Nat.lt_of_le_of_lt h (lt_of_limbs b))
set_option maxHeartbeats 1000000 in
theorem exp_spec {a ea ma : Option Addr} {l c l2 c2 l3 c3 x v m : Nat} {w : World} (ha : NumS w a l c x) (he : NumS w ea l2 c2 v) (hm : NumS w ma l3 c3 m) (hl : l ≤ 100) (hl3 : l3 ≤ 100) (h1 : blen x ≤ 4096) (h2 : blen v ≤ 4096) (h3 : blen m ≤ 4096) (hp : 1 < m) (ho : m % 2 = 1) :
    Calls Tryz.prog 55 #[.slice a l c, .slice ea l2 c2, .slice ma l3 c3] w fun e w' => ∃ a' l' c', e = .returned (.tuple #[.slice a' l' c', .bool true]) ∧ NumN w' a' l' c' (x ^ v % m) ∧ (∀ p, a' = some p → w.heap.size ≤ p.block) ∧ Below w.heap.size w w' := by
  refine calls_of_ev tysOk extsOk Tryz.func55 rfl rfl rfl ?_
  have hx0 : Blk (w.alloc (.cells (#[.slice a l c] : Array Value) 23)) w.heap.size [.slice a l c] 23 := Blk.newA _ _ _
  have hA0 : Below w.heap.size w (w.alloc (.cells (#[.slice a l c] : Array Value) 23)) := (Below.refl _ _).alloc (Nat.le_refl _) _
  have hs0 : (w.alloc (.cells (#[.slice a l c] : Array Value) 23)).heap.size = w.heap.size + 1 := size_alloc _ _
  generalize hw0 : w.alloc (.cells (#[.slice a l c] : Array Value) 23) = w0 at hx0 hA0 hs0
  have hx1 : Blk (w0.alloc (.cells (#[.slice ma l3 c3] : Array Value) 23)) w0.heap.size [.slice ma l3 c3] 23 := Blk.newA _ _ _
  have hA1 : Below w0.heap.size w0 (w0.alloc (.cells (#[.slice ma l3 c3] : Array Value) 23)) := (Below.refl _ _).alloc (Nat.le_refl _) _
  have hx01 := hx0.belowS hA1
  have hs1 : (w0.alloc (.cells (#[.slice ma l3 c3] : Array Value) 23)).heap.size = w.heap.size + 2 := by rw [size_alloc, hs0]
  generalize hw1 : w0.alloc (.cells (#[.slice ma l3 c3] : Array Value) 23) = w1 at hx1 hA1 hx01 hs1
  have hB1 : Below w.heap.size w w1 := hA0.trans (hA1.mono hA0.size)
  subst hw0
  subst hw1
  have hm1 := hm.below hB1
  have ha1 := ha.below hB1
  have he1 := he.below hB1
  rw [hs0] at hx1
  have hx1' := hx1
  rw [← hs0] at hx1'
  refine LdSl.go (hx1'.cell 0) ?_
  refine CallP.intro (bitsV_spec hm1) ?_
  rintro e w2 ⟨rfl, hw⟩
  have hw := hw.symm
  subst hw
  refine ⟨_, rfl, ?_⟩
  have hb0 : blen m ≠ 0 := fun h => by have := (blen_ok m).1; rw [h] at this; omega
  have hb1 : ¬ blen m < 2 := fun h => by have := (blen_lt2 m).1 h; omega
  refine IfP.nbeq (fun _ => ?_) (fun h => absurd (Int.ofNat_inj.1 h) hb0)
  (repeat (first | refine IfP.yes ?_ | refine IfP.no ?_ | refine NilP.go ?_))
  refine LdSl.go (hx01.cell 0) ?_
  (repeat (first | refine IfP.yes ?_ | refine IfP.no ?_ | refine NilP.go ?_))
  refine LdSl.go (hx1'.cell 0) ?_
  (repeat (first | refine IfP.yes ?_ | refine IfP.no ?_ | refine NilP.go ?_))
  have hB3 := Blk.newA ((w.alloc (.cells (#[.slice a l c] : Array Value) 23)).alloc (.cells (#[.slice ma l3 c3] : Array Value) 23)) (#[.slice a l c, .slice ea l2 c2, .slice ma l3 c3] : Array Value) 23
  have hA3 : Below ((w.alloc (.cells (#[.slice a l c] : Array Value) 23)).alloc (.cells (#[.slice ma l3 c3] : Array Value) 23)).heap.size ((w.alloc (.cells (#[.slice a l c] : Array Value) 23)).alloc (.cells (#[.slice ma l3 c3] : Array Value) 23)) (((w.alloc (.cells (#[.slice a l c] : Array Value) 23)).alloc (.cells (#[.slice ma l3 c3] : Array Value) 23)).alloc (.cells (#[.slice a l c, .slice ea l2 c2, .slice ma l3 c3] : Array Value) 23)) := (Below.refl _ _).alloc (Nat.le_refl _) _
  refine CallP.intro (may_spec (xs := [(a, l, c, x), (ea, l2, c2, v), (ma, l3, c3, m)]) (l := 3) (c := 3) hB3 (fun s hs => ?_) rfl (by decide)) ?_
  · rcases List.mem_cons.1 hs with rfl | hs
    · exact ha1.below hA3
    rcases List.mem_cons.1 hs with rfl | hs
    · exact he1.below hA3
    · rw [List.mem_singleton.1 hs]; exact hm1.below hA3
  rintro e w4 ⟨rfl, hw4⟩
  refine ⟨_, rfl, ?_⟩
  rw [decide_eq_true (show ∀ s ∈ [(a, l, c, x), (ea, l2, c2, v), (ma, l3, c3, m)], blen s.2.2.2 ≤ 4096 by simp; omega)]
  have k4 : Below w.heap.size w w4 := by rw [hw4]; exact hB1.trans (hA3.mono hB1.size)
  have x4 : Blk w4 w.heap.size [.slice a l c] 23 := by rw [hw4]; exact hx01.belowS hA3
  have y4 : Blk w4 (w.heap.size + 1) [.slice ma l3 c3] 23 := by rw [hw4]; exact hx1.belowS hA3
  clear hw4 hB3 hA3 hx1' hx1 hx01 hm1 ha1 he1 hB1 hA0 hA1 hs1
  have y4' := y4
  rw [← hs0] at y4'
  (repeat (first | refine IfP.yes ?_ | refine IfP.no ?_ | refine NilP.go ?_))
  refine LdSl.go (x4.cell 0) ?_
  refine LdSl.go (y4'.cell 0) ?_
  refine CallP.intro (rest_spec (ha.below k4) (hm.below k4) (by omega)) ?_
  rintro e w5 ⟨r, rl, rc, rfl, g1, g2, g3⟩
  refine ⟨_, rfl, ?_⟩
  have gz := k4.size
  have gz4 := y4.lt
  refine StP.to 0 (x4.belowS g3) rfl Nat.one_pos fun w6 x6 c6 s6 => ?_
  have x6 : Blk w6 w.heap.size [.slice r rl rc] 23 := x6
  have gz5 := g3.size
  have y6' := (y4'.belowS g3).chg c6 (y4'.belowS g3).lt (by rw [hs0]; omega)
  have k5 := k4.trans (g3.mono k4.size)
  have k6 : Below w.heap.size w w6 := Chg.below ((Chg.of_below (s := fun _ => False) k5).thenC c6 k5.size (fun k hk e => by omega))
  have g6 : NumN w6 r rl rc (remV x m) := ⟨g1.1.chg c6 (fun p hp e => by have := g2 p hp; omega), g1.2⟩
  rw [remV_pos (by omega)] at g6
  refine LdSl.go (y6'.cell 0) ?_
  refine CallP.intro (bit_spec (i := 0) (hm.below k6) (by decide)) ?_
  rintro e w7 ⟨rfl, hw⟩
  have hw := hw.symm
  subst hw
  refine ⟨_, rfl, ?_⟩
  rw [show m / 2 ^ 0 % 2 = 1 by rw [Nat.pow_zero, Nat.div_one]; exact ho]
  (repeat (first | refine IfP.yes ?_ | refine IfP.no ?_ | refine NilP.go ?_))
  refine LdSl.go (y6'.cell 0) ?_
  (repeat (first | refine IfP.yes ?_ | refine IfP.no ?_ | refine NilP.go ?_))
  refine CallP.intro (bitsV_spec (hm.below k6)) ?_
  rintro e w7 ⟨rfl, hw⟩
  have hw := hw.symm
  subst hw
  refine ⟨_, rfl, ?_⟩
  (repeat (first | refine IfP.yes ?_ | refine IfP.no ?_ | refine NilP.go ?_))
  refine IfP.pos (decide_eq_true (show (blen m : Int) > 1 by omega)) ?_
  refine LdSl.go (y6'.cell 0) ?_
  refine CallP.intro (newM_spec (hm.below k6) hl3 hp ho) ?_
  rintro e w7 ⟨db, n, inv, ma', mc, oa, oc, ra, rc', One, RR, rfl, f1, f2, f3, f4⟩
  refine ⟨_, rfl, ?_⟩
  have x7 := x6.belowS f4
  have g7 := g6.below f4
  have k7 := k6.trans (f4.mono k6.size)
  refine LdSl.go (x7.cell 0) ?_
  refine CallP.intro (to_spec f2 g7.s (by rw [g7.2.1, ← f2.len]; exact limbs_mono (Nat.le_of_lt (Nat.mod_lt _ (by omega))))) ?_
  rintro e w8 ⟨yb, rfl, h1', h2', h3'⟩
  refine ⟨_, rfl, ?_⟩
  have k8 := k7.trans (h3'.mono k7.size)
  refine CallP.intro (expM_spec (f2.below h3') h2' (he.below k8)) ?_
  rintro e w9 ⟨a9, c9, rfl, i1, i2, i3⟩
  refine ⟨_, rfl, ?_⟩
  have k9 := k8.trans (i3.mono k8.size)
  refine CallP.intro (from_spec ((f2.below h3').below i3) i2) ?_
  rintro e w10 ⟨a', l', c', o', rfl, j1, j2, j3⟩
  refine ⟨_, rfl, rfl, a', l', c', rfl, ?_, fun p hp => Nat.le_trans k9.size (j2 _ (j1.1.at p hp)), k9.trans (j3.mono k9.size)⟩
  rw [Nat.pow_mod]
  exact j1.n
end Go.Proofs.YthneejblcffdgaaGreatDoor
