/- Texts of this proof, one behind the other: Nm31 Nm32 Rb1 Rb2. -/
import Derived.Test.YthneejblcffdgaaGreatDoorPart21
namespace Go.Proofs.YthneejblcffdgaaGreatDoor
open Go Go.Ev Go.RowKit
set_option maxRecDepth 20000
set_option linter.unusedVariables false
set_option linter.unusedSimpArgs false

/-! ### rsa: Primes, as far as the laws begin -/
theorem primes_spec (n : Int) (a : Option Addr) (l c : Nat) (d : Option Addr) (w : World) :
    Calls Tryz.prog 11 #[.int .i64 n, .slice a l c, .pointer d] w fun e w' => ∃ b1 b2 b3, e = .returned (.func (.func 33) #[] #[.pointer (some ⟨b1, 0, none⟩), .pointer (some ⟨b2, 0, none⟩), .pointer (some ⟨b3, 0, none⟩)]) ∧
      Blk w' b1 [.int .i64 n] 3 ∧ Blk w' b2 [.slice a l c] 23 ∧ Blk w' b3 [.pointer d] 40 ∧ w.heap.size ≤ b1 ∧ w.heap.size ≤ b2 ∧ w.heap.size ≤ b3 ∧ Below w.heap.size w w' := by
  refine calls_of_ev tysOk extsOk Tryz.func11 rfl rfl rfl ?_
  have h1 := (Below.refl w.heap.size w).alloc (Nat.le_refl _) (.cells (#[.int .i64 n] : Array Value) 3)
  have h2 := h1.alloc h1.size (.cells (#[.slice a l c] : Array Value) 23)
  have h3 := h2.alloc h2.size (.cells (#[.pointer d] : Array Value) 40)
  refine ⟨rfl, _, _, _, rfl, ?_, ?_, ?_, Nat.le_refl _, h1.size, h2.size, h3⟩
  · exact ((Blk.newA w (#[.int .i64 n] : Array Value) 3).alloc _).alloc _
  · exact (Blk.newA _ (#[.slice a l c] : Array Value) 23).alloc _
  · exact Blk.newA _ (#[.pointer d] : Array Value) 40
set_option maxHeartbeats 2000000 in
theorem primes1_spec {b1 b2 b3 lp db el ec : Nat} {ea : Option Addr} {m : Int} {J : World → Prop} {w : World} (h1 : Blk w b1 [.int .i64 64] 3) (h2 : Blk w b2 [.slice ea el ec] 23) (h3 : Blk w b3 [.pointer (some ⟨db, 0, none⟩)] 40)
    (he : NumS w ea el ec 3) (hel : el ≤ 100) (hd : DAt w db nilK nilV m) (hk : Row w (some ⟨3, 0, none⟩) .u64 ktab) (hk0 : 3 ≠ db) (n1 : b1 ≠ db) (n2 : b2 ≠ db) (n3 : b3 ≠ db) (n4 : ∀ p, ea = some p → p.block ≠ db)
    (hy : ∀ W a l c, NumS W a l c nilQ → Chg w.heap.size (fun k => k = db) w W → YieldP Tryz.prog none lp #[.slice a l c] (fun v W' => v = .bool false ∧ J W') W) :
    Calls Tryz.prog 33 #[.func (.yield lp) #[] #[], .pointer (some ⟨b1, 0, none⟩), .pointer (some ⟨b2, 0, none⟩), .pointer (some ⟨b3, 0, none⟩)] w fun e w' => e = .returned (.tuple #[]) ∧ J w' := by
  refine calls_of_ev tysOk extsOk Tryz.func33 rfl rfl rfl ?_
  refine LdI.go (h1.cell 0) ?_
  (repeat (first | refine IfP.yes ?_ | refine IfP.no ?_ | refine NilP.go ?_))
  refine LdI.go (h1.cell 0) ?_
  (repeat (first | refine IfP.yes ?_ | refine IfP.no ?_ | refine NilP.go ?_))
  refine LdI.go (h1.cell 0) ?_
  (repeat (first | refine IfP.yes ?_ | refine IfP.no ?_ | refine NilP.go ?_))
  refine ChkP.go (by decide) ?_
  (repeat (first | refine IfP.yes ?_ | refine IfP.no ?_ | refine NilP.go ?_))
  refine LdSl.go (h2.cell 0) ?_
  (repeat (first | refine IfP.yes ?_ | refine IfP.no ?_ | refine NilP.go ?_))
  refine CallP.same (exponent_spec he (by decide) (by decide)) ?_
  (repeat (first | refine IfP.yes ?_ | refine IfP.no ?_ | refine NilP.go ?_))
  refine LdPt.go (h3.cell 0) ?_
  (repeat (first | refine IfP.yes ?_ | refine IfP.no ?_ | refine NilP.go ?_))
  refine LoopP.go (S := Unit) 18446744073441116384 (by kernel_rfl) (fun _ => []) (fun _ W => W = w) (fun _ => 0) () trivial rfl ?_
  rintro ⟨⟩ j W hw
  have hw := hw.symm
  subst hw
  refine LdPt.go (h3.cell 0) ?_
  refine LdI.go (h1.cell 0) ?_
  refine ChkP.go (by decide) ?_
  refine CallP.intro (bytesB_spec (n := 8) hd (by decide) (by decide) hk ktab_len hk0) ?_
  rintro e w1 ⟨ob, rfl, ⟨C, g1⟩, g2, g3, g4⟩
  rw [nil_bytes] at g1
  refine ⟨_, rfl, ?_⟩
  refine IdxP.ld 0 rfl g1.row rfl (by decide) fun _ _ _ => ?_
  refine IdxP.toBuf 0 rfl g1 (by decide) rfl fun w2 f1 f2 f3 => ?_
  refine IdxP.ld 7 (by decide) f1.row rfl (by decide) fun _ _ _ => ?_
  refine IdxP.toBuf 7 (by decide) f1 (by decide) rfl fun w3 i1 i2 i3 => ?_
  have i1 : Buf .u8 5 w3 ob (ints [244, 66, 153, 144, 126, 78, 66, 171]) C := i1
  have c23 : Chg w1.heap.size (fun k => k = ob) w1 w3 := f2.thenC i2 f2.size (fun _ _ h => h)
  have hdl := hd.lt
  have hs1 := g4.size
  have cW3 : Chg w.heap.size (fun k => k = db) w w3 := g4.thenC c23 g4.size (fun k hk e => by omega)
  have x1 := h1.chg cW3 h1.lt n1
  have x2 := h2.chg cW3 h2.lt n2
  have e3 : NumS w3 ea el ec 3 := by
    obtain ⟨X, y1, y2⟩ := he
    exact ⟨X, y1.chg cW3 n4, y2⟩
  refine DrawP.tree tysOk extsOk mixed [] (.take 0 (.held 2 (.alt 1 (.alt 3 (.take 4 (.held 5 (.take 7 (.held 6 (.take 8 .done))))) .nil) .nil))) 4468415255281856 (by kernel_rfl) (by kernel_rfl)
    (X := Option Addr × Nat × Nat) (fun W' => Blk W' b2 [.slice ea el ec] 23) (fun s => [(7, .bool true), (6, .slice s.1 s.2.1 s.2.2)])
    (fun s W' => NumS W' s.1 s.2.1 s.2.2 nilQ ∧ Below w3.heap.size w3 W') ?_ ?_
  · intro w0 k0 b0 s0
    have q2 := x2.belowS b0
    refine ⟨q2, ?_⟩
    refine HeldP.go (fun w' hS => LdSl.go (hS.cell 0) rfl) ?_
    refine ⟨?_, trivial⟩
    refine CallP.intro (fromBytesV_spec (bl := [244, 66, 153, 144, 126, 78, 66, 171]) (i1.below b0).row rfl (by decide) (by decide)) ?_
    rintro e w4 ⟨pa, pl, pc, rfl, j1, j2, j3⟩
    have e1 : beV [244, 66, 153, 144, 126, 78, 66, 171] = nilP := by decide
    rw [e1] at j1
    refine ⟨_, rfl, q2.belowS j3, ?_⟩
    refine ⟨?_, trivial⟩
    have hf : first nilP = nilP := by decide
    have hno' : ∀ i, i < 23 → okN (first nilP + 2 * i) 3 = false := by rw [hf]; exact nil_no
    have hyes' : okN (first nilP + 2 * 23) 3 = true := by rw [hf]; exact nil_yes
    refine CallP.intro (next_spec (k := 23) j1.s ((e3.below b0).below j3) (by have := j1.2.1; have := limbs_len_le (k := 1) (n := nilP) (by decide); omega) hel (by have := blen64 (n := nilP) (by decide); omega) rfl (Nat.lt_of_lt_of_le (show first nilP + 2 * 23 < B64 ^ 1 by decide) (Nat.pow_le_pow_right (by decide) (by decide))) hyes' hno') ?_
    rintro e w5 ⟨qa, ql, qc, rfl, k1, k2, k3⟩
    refine ⟨_, rfl, (q2.belowS j3).belowS k3, ?_⟩
    refine HeldP.go (fun w' hS => rfl) ?_
    refine HeldP.go (fun w' hS => rfl) ?_
    have hq : first nilP + 2 * 23 = nilQ := by decide
    rw [hq] at k1
    have b1' := b0.trans (j3.mono b0.size)
    exact ⟨(qa, ql, qc), ⟨rfl, rfl, trivial⟩, k1, b1'.trans (k3.mono b1'.size)⟩
  · rintro ⟨qa, ql, qc⟩ j W ⟨j1, j2⟩
    simp only at j1
    have cW : Chg w.heap.size (fun k => k = db) w W := cW3.thenB j2 cW3.size
    have y1 := x1.belowS j2
    refine DrawP.tree tysOk extsOk mixed [] (.take 0 (.held 1 (.take 2 (.take 3 (.held 5 (.alt 4 (.held 6 (.held 7 .done)) .nil)))))) 1148417904979476480 (by kernel_rfl) (by kernel_rfl)
      (X := Unit) (fun W' => Blk W' b1 [.int .i64 64] 3) (fun _ => [(59, .bool false)])
      (fun _ W' => Below W.heap.size W W') ?_ ?_
    · intro w0 k0 b0 s0
      have q1 := y1.belowS b0
      refine ⟨q1, ?_⟩
      refine HeldP.go (fun w' hS => rfl) ?_
      (repeat (first | refine IfP.yes ?_ | refine IfP.no ?_ | refine NilP.go ?_))
      refine HeldP.go (fun w' hS => LdI.go (hS.cell 0) rfl) ?_
      refine ⟨IfP.yes ?_, trivial⟩
      refine CallP.intro (bitsV_spec (j1.below b0)) ?_
      rintro e w6 ⟨rfl, hw⟩
      have hw := hw.symm
      subst hw
      refine ⟨_, rfl, q1, ?_⟩
      (repeat (first | refine IfP.yes ?_ | refine IfP.no ?_ | refine NilP.go ?_))
      refine HeldP.go (fun w' hS => rfl) ?_
      refine HeldP.go (fun w' hS => IfP.no rfl) ?_
      have hb : ¬ ((blen nilQ : Int) > 64) := by have := blen64 (n := nilQ) (by decide); omega
      exact ⟨(), ⟨congrArg Value.bool (decide_eq_false hb), trivial⟩, b0⟩
    · rintro ⟨⟩ j W2 b2'
      refine IfP.no ?_
      refine (hy W2 qa ql qc (j1.below b2') (cW.thenB b2' cW.size)).mono ?_
      rintro v W3 ⟨rfl, hJ⟩
      refine IfP.yes ?_
      exact ⟨rfl, rfl, hJ⟩
end Go.Proofs.YthneejblcffdgaaGreatDoor

namespace Go.Proofs.YthneejblcffdgaaGreatDoor
open Go Go.Ev Go.RowKit
set_option maxRecDepth 20000
set_option linter.unusedVariables false
set_option linter.unusedSimpArgs false

/-! ### law 7: begun -/
abbrev al (w : World) (x : Int) : World := w.alloc (.cells (#[.int .u64 x] : Array Value) 34)
theorem al_below (w : World) (x : Int) : Below w.heap.size w (al w x) := (Below.refl _ _).alloc (Nat.le_refl _) _
theorem al_num (w : World) {x : Nat} (hx : x < B64) : NumL (al w x) (some ⟨w.heap.size, 0, none⟩, 1, 1) x := by
  have hB := Blk.newA w (#[.int .u64 x] : Array Value) 34
  refine ⟨⟨[x], ?_, ?_, rfl, Nat.le_refl _, (by show 1 ≤ 250; decide), by simp [val]⟩, (by show 1 ≤ 50; decide)⟩
  · exact Row.of_blk 0 hB (by
      intro i hi
      have hi0 : i = 0 := by simp [ints] at hi; omega
      subst hi0; rfl)
  · intro y hy
    rw [List.mem_singleton.1 hy]; exact hx
theorem five {w W1 W2 W3 W4 W5 : World} (h1 : W1 = al w 3233) (h2 : W2 = al W1 17) (h3 : W3 = al W2 413) (h4 : W4 = al W3 61) (h5 : W5 = al W4 53) :
    KeyL W5 (some ⟨w.heap.size, 0, none⟩, 1, 1) (some ⟨W1.heap.size, 0, none⟩, 1, 1) (some ⟨W2.heap.size, 0, none⟩, 1, 1) (some ⟨W3.heap.size, 0, none⟩, 1, 1) (some ⟨W4.heap.size, 0, none⟩, 1, 1) 3233 17 413 61 53 ∧ Below w.heap.size w W5 := by
  subst h1 h2 h3 h4 h5
  refine ⟨⟨(((((al_num w (by decide)).below (al_below _ _)).below (al_below _ _)).below (al_below _ _)).below (al_below _ _)), ((((al_num (x := 17) _ (by decide)).below (al_below _ _)).below (al_below _ _)).below (al_below _ _)), (((al_num (x := 413) _ (by decide)).below (al_below _ _)).below (al_below _ _)), (al_num (x := 61) _ (by decide)).below (al_below _ _), al_num (x := 53) _ (by decide)⟩, ?_⟩
  have b1 := al_below w 3233
  have b2 := b1.trans ((al_below (al w 3233) 17).mono b1.size)
  have b3 := b2.trans ((al_below (al (al w 3233) 17) 413).mono b2.size)
  have b4 := b3.trans ((al_below (al (al (al w 3233) 17) 413) 61).mono b3.size)
  exact b4.trans ((al_below (al (al (al (al w 3233) 17) 413) 61) 53).mono b4.size)
theorem limbs_small {x : Nat} (h0 : 0 < x) (hx : x < B64) : limbs x = [x] := by
  have := limbs_eq (xs := [x]) (fun y hy => by rw [List.mem_singleton.1 hy]; exact hx) (.inr (by simp; omega))
  rw [this]; simp [val]
theorem pow_there : 65 ^ 17 % 3233 = 2790 := by kernel_rfl
theorem pow_back : 2790 ^ 413 % 3233 = 65 := by kernel_rfl
set_option maxHeartbeats 400000 in
theorem begun7_spec {w : World} (hk : Row w (some ⟨3, 0, none⟩) .u64 ktab) :
    Calls Tryz.prog 4 #[] w fun e w' => e = .returned (.bool true) ∧ Below w.heap.size w w' := by
  have hkl3 : 3 < w.heap.size := by obtain ⟨b, o, h1, h2⟩ := hk 0 (by decide); cases h1; exact cell_lt h2
  refine calls_of_evM tysOk extsOk Tryz.func4 rfl rfl rfl ?_
  obtain ⟨k5, b5⟩ := five (w := w) rfl rfl rfl rfl rfl
  have hz := Blk.newA (al (al (al (al (al w 3233) 17) 413) 61) 53) inf25.zero.cells 25
  have hA : Below (al (al (al (al (al w 3233) 17) 413) 61) 53).heap.size (al (al (al (al (al w 3233) 17) 413) 61) 53) ((al (al (al (al (al w 3233) 17) 413) 61) 53).alloc (.cells inf25.zero.cells 25)) := (Below.refl _ _).alloc (Nat.le_refl _) _
  refine ChkP.go rfl ?_
  refine StsP.to (vs := [sl (some ⟨w.heap.size, 0, none⟩, 1, 1), sl (some ⟨(al w 3233).heap.size, 0, none⟩, 1, 1), sl (some ⟨(al (al w 3233) 17).heap.size, 0, none⟩, 1, 1), sl (some ⟨(al (al (al w 3233) 17) 413).heap.size, 0, none⟩, 1, 1), sl (some ⟨(al (al (al (al w 3233) 17) 413) 61).heap.size, 0, none⟩, 1, 1)]) hz ?_ rfl fun w6 g1 g2 g3 => ?_
  · intro v hv
    simp only [List.mem_cons, List.not_mem_nil, or_false] at hv
    rcases hv with rfl | rfl | rfl | rfl | rfl <;> rfl
  have g2 : Chg ((al (al (al (al (al w 3233) 17) 413) 61) 53).alloc (.cells inf25.zero.cells 25)).heap.size (fun k => k = (al (al (al (al (al w 3233) 17) 413) 61) 53).heap.size) ((al (al (al (al (al w 3233) 17) 413) 61) 53).alloc (.cells inf25.zero.cells 25)) w6 := g2
  have bb : Below (al (al (al (al (al w 3233) 17) 413) 61) 53).heap.size (al (al (al (al (al w 3233) 17) 413) 61) 53) w6 := Chg.below ((Chg.of_below (s := fun _ => False) hA).thenC g2 hA.size (fun k hk e => absurd e (by omega)))
  have K6' := k5.below bb
  obtain ⟨s1, s2, s3, s4, s5, G1, K6⟩ : ∃ s1 s2 s3 s4 s5, Blk w6 (al (al (al (al (al w 3233) 17) 413) 61) 53).heap.size [sl s1, sl s2, sl s3, sl s4, sl s5] 25 ∧ KeyL w6 s1 s2 s3 s4 s5 3233 17 413 61 53 := ⟨_, _, _, _, _, g1, K6'⟩
  have b6 : Below w.heap.size w w6 := b5.trans (bb.mono b5.size)
  have hkb : w.heap.size ≤ (al (al (al (al (al w 3233) 17) 413) 61) 53).heap.size := b5.size
  clear K6' g1 g2 g3 bb hA hz k5
  refine LdAgg.go G1 (Nat.le_refl _) ?_
  have a6 := al_below w6 65
  have K7 := K6.below a6
  have n6 : NumL (al w6 65) (some ⟨w6.heap.size, 0, none⟩, 1, 1) 65 := al_num w6 (x := 65) (by decide)
  have t2 := public_spec K7 n6 (by decide) (by decide) (by decide) (by decide) (by decide) (by decide)
  rw [pow_there] at t2
  refine CallP.intro t2 ?_
  rintro e w8 ⟨ca, cl, cc, rfl, c1, c2, c3⟩
  refine ⟨_, rfl, ?_⟩
  have b68 := a6.trans (c3.mono a6.size)
  have G8 := G1.belowS b68
  have K8 := K6.below b68
  have b8 := b6.trans (b68.mono b6.size)
  have hcl : cl = 1 := by rw [c1.2.1, limbs_small (by decide) (by decide)]; rfl
  subst hcl
  refine LdAgg.go G8 (Nat.le_refl _) ?_
  have n8 : NumL w8 (ca, 1, cc) 2790 := ⟨c1.s, (by show 1 ≤ 50; decide)⟩
  have t3 := private_spec K8 n8 (by decide) (by decide) (by decide) (by decide) (by decide) (by decide)
  rw [pow_back] at t3
  refine CallP.intro t3 ?_
  rintro e w9 ⟨da, dl, dc, rfl, d1, d2, d3⟩
  refine ⟨_, rfl, ?_⟩
  have hdl : dl = 1 := by rw [d1.2.1, limbs_small (by decide) (by decide)]; rfl
  subst hdl
  have b9 := b8.trans (d3.mono b8.size)
  have c9 := c1.below d3
  have G9 := G8.belowS d3
  have K9 := K8.below d3
  have a9 := al_below w9 3
  have n9 : NumL (al w9 3) (some ⟨w9.heap.size, 0, none⟩, 1, 1) 3 := al_num w9 (x := 3) (by decide)
  have b10 := b9.trans (a9.mono b9.size)
  refine CallP.intro (newD_spec (Row.nil _ none .u8) rfl (by decide) (hk.below b10) ktab_len) ?_
  rintro e w11 ⟨db, rfl, e1, e2, e3⟩
  rw [nil_kv] at e1
  refine ⟨_, rfl, ?_⟩
  have b11 := b10.trans (e3.mono b10.size)
  refine CallP.intro (primes_spec 64 _ 1 1 _ w11) ?_
  rintro e w12 ⟨p1, p2, p3, rfl, f1, f2, f3, f4, f5, f6, f7⟩
  refine ⟨_, rfl, ?_⟩
  have b12 := b11.trans (f7.mono b11.size)
  refine IfP.no ?_
  have e2 : (al w9 3).heap.size ≤ db := e2
  have e3 : Below (al w9 3).heap.size (al w9 3) w11 := e3
  have dlt := e1.lt
  have hdb : w9.heap.size < db := by have := a9.size; have h3 : (al w9 3).heap.size = w9.heap.size + 1 := size_alloc _ _; omega
  have hA13 : Below w12.heap.size w12 (w12.alloc (.cells (#[.int .i64 0] : Array Value) 3)) := (Below.refl _ _).alloc (Nat.le_refl _) _
  have hB13 := Blk.newA w12 (#[.int .i64 0] : Array Value) 3
  refine StP.to 0 hB13 rfl Nat.one_pos fun w14 v1 v2 v3 => ?_
  have v1 : Blk w14 w12.heap.size [.int .i64 0] 3 := v1
  have bb14 : Below w12.heap.size w12 w14 := Chg.below ((Chg.of_below (s := fun _ => False) hA13).thenC v2 hA13.size (fun q hq e => absurd e (by omega)))
  have b14 := b12.trans (bb14.mono b12.size)
  refine DrawP.rangeA tysOk extsOk rfl (by kernel_rfl) rfl rfl rfl ?_
  rintro rc d w15 hd hdm hlp hb15 hs15 hy
  have bz15 := bb14.trans (hb15.mono bb14.size)
  have b15 := b14.trans (hb15.mono b14.size)
  have v15 := v1.belowS hb15
  have z11 := f7.size
  have lv := v1.lt
  have kp : 3 ≠ db := by have := b9.size; omega
  have e15 : DAt w15 db nilK nilV 0 := (e1.below f7).below bz15
  have n15 : NumL w15 (some ⟨w9.heap.size, 0, none⟩, 1, 1) 3 := ((n9.below e3).below f7).below bz15
  refine (primes1_spec (lp := d + 1) (db := db) (w := w15)
    (J := fun W => W.heap[d + 1]? = some (.loop (rc .done (some (.exit 0)))) ∧ Blk W w12.heap.size [.int .i64 1] 3 ∧ Chg w15.heap.size (fun q => q = db ∨ q = d + 1 ∨ q = w12.heap.size) w15 W)
    (f1.belowS bz15) (f2.belowS bz15) (f3.belowS bz15) n15.1 (by decide) e15 (hk.below b15) kp (by omega) (by omega) (by omega) (fun p hp => by cases hp; show w9.heap.size ≠ db; omega) ?_).mono ?_
  · intro W a l c hN hC
    have i1 : W.heap[d + 1]? = some (.loop (rc .ready none)) := by rw [hC.block (d + 1) (heap_lt hlp) (by omega)]; exact hlp
    refine hy [.slice a l c] W _ i1 rfl ?_
    refine ⟨i1, ?_⟩
    have hc1 : Chg W.heap.size (fun q => q = d + 1) W (W.putObj (d + 1) (.loop (rc .busy none))) := (Chg.refl _ _ _).put _ _ (fun _ => rfl)
    have hl1 : (W.putObj (d + 1) (.loop (rc .busy none))).heap[d + 1]? = some (.loop (rc .busy none)) := put_same (heap_lt i1)
    generalize W.putObj (d + 1) (.loop (rc .busy none)) = W1 at hc1 hl1 ⊢
    have cz := hC.size
    have v16 := (v15.chg hC v15.lt (by omega)).chg hc1 (by have := v15.lt; omega) (by omega)
    refine LdI.go (v16.cell 0) ?_
    refine StP.to 0 v16 rfl Nat.one_pos fun W2 x1 x2 x3 => ?_
    have x1 : Blk W2 w12.heap.size [.int .i64 1] 3 := x1
    have hl2 : W2.heap[d + 1]? = some (.loop (rc .busy none)) := by rw [x2.block (d + 1) (heap_lt hl1) (by show ¬ (d + 1 = w12.heap.size); omega)]; exact hl1
    refine ⟨hl2, rfl, put_same (heap_lt hl2), x1.put _ _ (by omega), ?_⟩
    have q0 : Chg w15.heap.size (fun q => q = db ∨ q = d + 1 ∨ q = w12.heap.size) w15 W := hC.mono (Nat.le_refl _) (fun _ _ h => .inl h)
    have q1 := q0.thenC hc1 cz (fun _ _ h => .inr (.inl h))
    exact (q1.thenC x2 q1.size (fun _ _ h => .inr (.inr h))).put _ _ (fun _ => .inr (.inl rfl))
  · rintro e W ⟨rfl, h1, h2, h3⟩
    refine ⟨_, rfl, .inr ⟨.exit 0, rfl, rfl, h1, ?_⟩⟩
    have q1 := h2.put (d + 1) (.loop (rc .exhausted (some (.exit 0)))) (by omega)
    have c2 : Chg w15.heap.size (fun q => q = db ∨ q = d + 1 ∨ q = w12.heap.size) w15 (W.putObj (d + 1) (.loop (rc .exhausted (some (.exit 0))))) := h3.put _ _ (fun _ => .inr (.inl rfl))
    generalize W.putObj (d + 1) (.loop (rc .exhausted (some (.exit 0)))) = V at q1 c2 ⊢
    have hmark : V.heap[d]? = some (.deferred (some [])) := by
      rw [c2.block d (by omega) (by omega)]; exact hdm
    have hbV : Below w9.heap.size w9 V := by
      have t1 := a9.trans (e3.mono a9.size)
      have t2 := t1.trans (f7.mono t1.size)
      have t3 := t2.trans (bz15.mono t2.size)
      exact Chg.below ((Chg.of_below (s := fun _ => False) t3).thenC c2 t3.size (fun q hq e => by have := t2.size; omega))
    have bV := b9.trans (hbV.mono b9.size)
    have cV := c9.below hbV
    have dV := d1.below hbV
    have GV := G9.belowS hbV
    have KV := K9.below hbV
    have e27 : (limbs 2790).getD 0 0 = 2790 := by rw [limbs_small (by decide) (by decide)]; rfl
    have e65 : (limbs 65).getD 0 0 = 65 := by rw [limbs_small (by decide) (by decide)]; rfl
    (repeat (first | refine IfP.yes ?_ | refine IfP.no ?_ | refine NilP.go ?_))
    obtain ⟨cb, co, hca, cc0⟩ := row_cell cV.1 (t := 0) (by rw [← cV.2.1]; decide)
    subst hca
    rw [e27] at cc0
    refine IdxP.at 0 rfl (by decide) ?_
    (repeat (first | refine IfP.yes ?_ | refine IfP.no ?_ | refine NilP.go ?_))
    refine LdI.go cc0 ?_
    (repeat (first | refine IfP.yes ?_ | refine IfP.no ?_ | refine NilP.go ?_))
    obtain ⟨db', do', hda, dd0⟩ := row_cell dV.1 (t := 0) (by rw [← dV.2.1]; decide)
    subst hda
    rw [e65] at dd0
    refine IdxP.at 0 rfl (by decide) ?_
    (repeat (first | refine IfP.yes ?_ | refine IfP.no ?_ | refine NilP.go ?_))
    refine LdI.go dd0 ?_
    (repeat (first | refine IfP.yes ?_ | refine IfP.no ?_ | refine NilP.go ?_))
    refine LdAgg.go GV (Nat.le_refl _) ?_
    (repeat (first | refine IfP.yes ?_ | refine IfP.no ?_ | refine NilP.go ?_))
    refine CallP.intro (rsize_spec (kb := 0) KV) ?_
    rintro e V1 ⟨rfl, z1⟩
    have e12 : (blen 3233 + 7) / 8 = 2 := by decide
    rw [e12]
    refine ⟨_, rfl, ?_⟩
    (repeat (first | refine IfP.yes ?_ | refine IfP.no ?_ | refine NilP.go ?_))
    refine LdAgg.go (GV.belowS z1) (Nat.le_refl _) ?_
    (repeat (first | refine IfP.yes ?_ | refine IfP.no ?_ | refine NilP.go ?_))
    refine CallP.intro (valid_spec (KV.below z1)) ?_
    rintro e V2 ⟨rfl, z2⟩
    have ev : validV 3233 17 413 61 53 = false := @decide_eq_false _ (Classical.propDecidable _) (fun h => absurd h.1 (by decide))
    rw [ev]
    refine ⟨_, rfl, ?_⟩
    (repeat (first | refine IfP.yes ?_ | refine IfP.no ?_ | refine NilP.go ?_))
    have z12 := z1.trans (z2.mono z1.size)
    refine LdI.go ((q1.belowS z12).cell 0) ?_
    iterate 2 refine IfP.yes ?_
    have hmark2 : V2.heap[d]? = some (.deferred (some [])) := by
      rw [z12.block d (heap_lt hmark)]; exact hmark
    refine .inr ⟨d, rfl, hmark2, rfl, ?_⟩
    have bz := bV.trans (z12.mono bV.size)
    exact Chg.below ((Chg.of_below (s := fun _ => False) bz).put _ _ (fun h => by have := b14.size; omega))
end Go.Proofs.YthneejblcffdgaaGreatDoor

namespace Go.Proofs.YthneejblcffdgaaGreatDoor
open Go Go.Ev Go.RowKit
set_option maxRecDepth 20000
set_option linter.unusedVariables false
set_option linter.unusedSimpArgs false

/-! ### numbers to the base 2^32: plain -/
abbrev B32 : Nat := 4294967296
def vd : List Nat → Nat
  | [] => 0
  | x :: r => x + B32 * vd r
def Dig (xs : List Nat) : Prop := ∀ x ∈ xs, x < 4294967296
theorem Dig.getD {xs : List Nat} (h : Dig xs) (i : Nat) : xs.getD i 0 < 4294967296 := by
  rw [List.getD_eq_getElem?_getD]
  cases hx : xs[i]? with
  | none => decide
  | some x => exact h x (List.mem_of_getElem? hx)
theorem Dig.trimmed {xs : List Nat} (h : Dig xs) : Dig (trimmed xs) := fun x hx => h x (List.mem_of_mem_take hx)
theorem Dig.limbs {xs : List Nat} (h : Dig xs) : Limbs xs := fun x hx => Nat.lt_trans (h x hx) (by decide)
theorem B32_pos (k : Nat) : 0 < B32 ^ k := Nat.pow_pos (by decide)
theorem vd_cons (x : Nat) (r : List Nat) : vd (x :: r) = x + B32 * vd r := rfl
theorem vd_append : ∀ (xs ys : List Nat), vd (xs ++ ys) = vd xs + B32 ^ xs.length * vd ys
  | [], ys => by simp [vd]
  | x :: r, ys => by
    rw [List.cons_append, vd_cons, vd_cons, vd_append r ys, List.length_cons, Nat.pow_succ, Nat.mul_add, Nat.mul_comm (B32 ^ r.length) B32, Nat.mul_assoc, Nat.add_assoc]
theorem vd_zeros : ∀ n, vd (List.replicate n 0) = 0
  | 0 => rfl
  | n + 1 => by rw [List.replicate_succ, vd_cons, vd_zeros n]; rfl
theorem vd_lt : ∀ {xs : List Nat}, Dig xs → vd xs < B32 ^ xs.length
  | [], _ => by simp [vd]
  | x :: r, h => by
    have h1 := h x (by simp)
    have h2 := vd_lt (xs := r) fun y hy => h y (by simp [hy])
    rw [vd_cons, List.length_cons, Nat.pow_succ]
    have h1 : x < B32 := h1
    have : B32 * vd r + B32 ≤ B32 * B32 ^ r.length := by rw [← Nat.mul_succ]; exact Nat.mul_le_mul_left _ h2
    rw [Nat.mul_comm (B32 ^ r.length)]
    omega
theorem vd_split (xs : List Nat) (i : Nat) (h : i ≤ xs.length) : vd xs = vd (xs.take i) + B32 ^ i * vd (xs.drop i) := by
  conv => lhs; rw [← List.take_append_drop i xs]
  rw [vd_append, List.length_take, Nat.min_eq_left h]
theorem vd_take_succ (xs : List Nat) (i : Nat) (h : i < xs.length) : vd (xs.take (i + 1)) = vd (xs.take i) + B32 ^ i * xs.getD i 0 := by
  rw [List.take_succ_eq_append_getElem h, vd_append, List.length_take, Nat.min_eq_left (by omega), List.getD_eq_getElem?_getD, List.getElem?_eq_getElem h]
  simp [vd]
theorem vd_pos : ∀ {xs : List Nat}, 0 < xs.length → xs.getD (xs.length - 1) 0 ≠ 0 → B32 ^ (xs.length - 1) ≤ vd xs
  | [], h, _ => absurd h (by simp)
  | x :: r, _, h => by
    cases r with
    | nil => simp [vd] at h ⊢; omega
    | cons y r =>
      have := vd_pos (xs := y :: r) (by simp) (by simpa using h)
      rw [vd_cons]
      simp only [List.length_cons, Nat.add_sub_cancel] at this ⊢
      rw [Nat.pow_succ, Nat.mul_comm]
      exact Nat.le_trans (Nat.mul_le_mul_left _ this) (Nat.le_add_left _ _)
theorem vd_zero_of : ∀ (xs : List Nat), (∀ i, i < xs.length → xs.getD i 0 = 0) → vd xs = 0
  | [], _ => rfl
  | x :: r, h => by
    have h0 : x = 0 := h 0 (by simp)
    rw [vd_cons, h0, vd_zero_of r fun i hi => by have := h (i + 1) (by simp; omega); simpa using this]; rfl
theorem vd_trimmed (xs : List Nat) : vd (trimmed xs) = vd xs := by
  have hle := trimLen_le xs xs.length
  rw [vd_split xs (trimLen xs xs.length) hle, vd_zero_of (xs.drop (trimLen xs xs.length)), Nat.mul_zero, Nat.add_zero]; rfl
  intro i hi
  rw [List.length_drop] at hi
  have := trimLen_zero xs xs.length (trimLen xs xs.length + i) (by omega) (by omega)
  rw [List.getD_eq_getElem?_getD, List.getElem?_drop, ← List.getD_eq_getElem?_getD]
  exact this
theorem vd_inj : ∀ {xs ys : List Nat}, Dig xs → Dig ys → Nz xs → Nz ys → vd xs = vd ys → xs = ys
  | [], [], _, _, _, _, _ => rfl
  | [], y :: s, _, _, _, hn, h => by
    rcases hn with hn | hn
    · cases hn
    · have := vd_pos (xs := y :: s) (by simp) hn
      have := B32_pos ((y :: s).length - 1)
      rw [← h] at *
      simp [vd] at *
  | x :: r, [], _, _, hn, _, h => by
    rcases hn with hn | hn
    · cases hn
    · have := vd_pos (xs := x :: r) (by simp) hn
      have := B32_pos ((x :: r).length - 1)
      rw [h] at *
      simp [vd] at *
  | x :: r, y :: s, hx, hy, hn, hm, h => by
    rw [vd_cons, vd_cons] at h
    have h1 : x < B32 := hx x (by simp)
    have h2 : y < B32 := hy y (by simp)
    have e1 : x = y := by
      have := congrArg (· % B32) h
      simp only [Nat.add_mul_mod_self_left] at this
      rwa [Nat.mod_eq_of_lt h1, Nat.mod_eq_of_lt h2] at this
    subst e1
    have e2 : vd r = vd s := Nat.eq_of_mul_eq_mul_left (by decide : 0 < B32) (by omega)
    rw [vd_inj (fun z hz => hx z (by simp [hz])) (fun z hz => hy z (by simp [hz])) hn.tail hm.tail e2]
def digsF : Nat → Nat → List Nat
  | 0, _ => []
  | f + 1, n => if n = 0 then [] else n % B32 :: digsF f (n / B32)
theorem digsF_digs : ∀ f n, Dig (digsF f n)
  | 0, _ => by intro x hx; cases hx
  | f + 1, n => by
    unfold digsF
    split
    · intro x hx; cases hx
    · intro x hx
      rcases List.mem_cons.1 hx with rfl | hx
      · exact Nat.mod_lt _ (by decide)
      · exact digsF_digs f _ x hx
theorem digsF_val : ∀ f n, n < B32 ^ f → vd (digsF f n) = n
  | 0, n, h => by simp at h; subst h; rfl
  | f + 1, n, h => by
    unfold digsF
    split
    · rename_i h0; rw [h0]; rfl
    · rw [vd_cons, digsF_val f _ ((Nat.div_lt_iff_lt_mul (by decide)).2 (by rw [← Nat.pow_succ]; exact h)), Nat.mod_add_div]
theorem digsF_nz : ∀ f n, n < B32 ^ f → Nz (digsF f n)
  | 0, n, h => .inl rfl
  | f + 1, n, h => by
    have hd : n / B32 < B32 ^ f := (Nat.div_lt_iff_lt_mul (by decide)).2 (by rw [← Nat.pow_succ]; exact h)
    have ih := digsF_nz f (n / B32) hd
    have iv := digsF_val f (n / B32) hd
    unfold digsF
    split
    · exact .inl rfl
    · rename_i h0
      refine .inr ?_
      cases hr : digsF f (n / B32) with
      | nil =>
        rw [hr] at iv
        have : n / B32 = 0 := iv.symm
        have h1 : n < B32 := Nat.lt_of_div_eq_zero (by decide) this
        simp only [List.length_cons, List.length_nil, Nat.zero_add, Nat.sub_self, List.getD_cons_zero]
        rw [Nat.mod_eq_of_lt h1]; exact h0
      | cons y s =>
        rw [hr] at ih
        rcases ih with ih | ih
        · cases ih
        · simpa using ih
theorem lt_pow_log32 (n : Nat) : n < B32 ^ (n.log2 + 1) := by
  refine Nat.lt_of_lt_of_le Nat.lt_log2_self ?_
  exact Nat.pow_le_pow_left (by decide) _
/-- the digs of a number, none at the end that is 0. -/
def digs (n : Nat) : List Nat := digsF (n.log2 + 1) n
theorem digs_digs (n : Nat) : Dig (digs n) := digsF_digs _ _
theorem vd_digs (n : Nat) : vd (digs n) = n := digsF_val _ _ (lt_pow_log32 n)
theorem digs_nz (n : Nat) : Nz (digs n) := digsF_nz _ _ (lt_pow_log32 n)
theorem digs_eq {xs : List Nat} (h : Dig xs) (hn : Nz xs) : xs = digs (vd xs) := vd_inj h (digs_digs _) hn (digs_nz _) (vd_digs _).symm
theorem trimmed_eqD {xs : List Nat} (h : Dig xs) : trimmed xs = digs (vd xs) := by rw [← vd_trimmed]; exact digs_eq (Dig.trimmed h) (trimmed_nz xs)
theorem trimmed_digs (n : Nat) : trimmed (digs n) = digs n := by rw [trimmed_eqD (digs_digs n), vd_digs]
theorem digs_zero : digs 0 = [] := rfl
theorem digs_len_le {n k : Nat} (h : n < B32 ^ k) : (digs n).length ≤ k := by
  rcases digs_nz n with h0 | h0
  · rw [h0]; simp
  · by_cases hl : (digs n).length = 0
    · omega
    · have h1 := vd_pos (by omega) h0
      rw [vd_digs] at h1
      have h2 : B32 ^ ((digs n).length - 1) < B32 ^ k := Nat.lt_of_le_of_lt h1 h
      have := (Nat.pow_lt_pow_iff_right (by decide : 1 < B32)).1 h2
      omega
theorem lt_of_digs (n : Nat) : n < B32 ^ (digs n).length := by
  have := vd_lt (digs_digs n); rwa [vd_digs] at this
theorem digs_pos {n : Nat} (h : 0 < n) : 0 < (digs n).length ∧ B32 ^ ((digs n).length - 1) ≤ n := by
  rcases digs_nz n with h0 | h0
  · have := vd_digs n; rw [h0] at this; simp [vd] at this; omega
  · by_cases hl : (digs n).length = 0
    · have := vd_digs n; rw [List.eq_nil_of_length_eq_zero hl] at this; simp [vd] at this; omega
    · refine ⟨by omega, ?_⟩
      have := vd_pos (by omega) h0; rwa [vd_digs] at this


theorem vd_take_succ' (xs : List Nat) (i : Nat) : vd (xs.take (i + 1)) = vd (xs.take i) + B32 ^ i * xs.getD i 0 := by
  rcases Nat.lt_or_ge i xs.length with h | h
  · exact vd_take_succ xs i h
  · rw [List.take_of_length_le (by omega), List.take_of_length_le h, List.getD_eq_getElem?_getD, List.getElem?_eq_none h]; simp
theorem vd_snoc (d : List Nat) (v : Nat) : vd (d ++ [v]) = vd d + B32 ^ d.length * v := by rw [vd_append]; simp [vd]
theorem Dig.snoc {d : List Nat} (h : Dig d) {v : Nat} (hv : v < B32) : Dig (d ++ [v]) := fun x hx => by
  rcases List.mem_append.1 hx with hx | hx
  · exact h x hx
  · rw [List.mem_singleton.1 hx]; exact hv
theorem Dig.set {xs : List Nat} (h : Dig xs) (i : Nat) {v : Nat} (hv : v < 4294967296) : Dig (xs.set i v) := fun x hx => by
  rcases List.mem_or_eq_of_mem_set hx with h1 | rfl
  · exact h x h1
  · exact hv
theorem Dig.take {xs : List Nat} (h : Dig xs) (i : Nat) : Dig (xs.take i) := fun x hx => h x (List.mem_of_mem_take hx)
theorem Dig.drop {xs : List Nat} (h : Dig xs) (i : Nat) : Dig (xs.drop i) := fun x hx => h x (List.mem_of_mem_drop hx)
theorem Dig.zeros (n : Nat) : Dig (List.replicate n 0) := fun x hx => by rw [List.eq_of_mem_replicate hx]; decide
theorem vd_set : ∀ (xs : List Nat) (i v : Nat), i < xs.length → vd (xs.set i v) + B32 ^ i * xs.getD i 0 = vd xs + B32 ^ i * v
  | [], _, _, h => absurd h (by simp)
  | x :: r, 0, v, _ => by simp [vd]; omega
  | x :: r, i + 1, v, h => by
    have ih := vd_set r i v (by simpa using h)
    rw [List.set_cons_succ, vd_cons, vd_cons, List.getD_cons_succ, Nat.pow_succ, Nat.mul_comm (B32 ^ i) B32, Nat.mul_assoc, Nat.mul_assoc, Nat.add_assoc, ← Nat.mul_add, ih, Nat.mul_add, Nat.add_assoc]
theorem cmpFrom_vd (a b : List Nat) (ha : Dig a) (hb : Dig b) : ∀ k, cmpFrom a b k = cmpV (vd (a.take k)) (vd (b.take k))
  | 0 => by simp [cmpFrom, cmpV, vd]
  | k + 1 => by
    have h1 : vd (a.take k) < B32 ^ k := Nat.lt_of_lt_of_le (vd_lt fun x hx => ha x (List.mem_of_mem_take hx)) (Nat.pow_le_pow_right (by decide) (by simp; omega))
    have h2 : vd (b.take k) < B32 ^ k := Nat.lt_of_lt_of_le (vd_lt fun x hx => hb x (List.mem_of_mem_take hx)) (Nat.pow_le_pow_right (by decide) (by simp; omega))
    unfold cmpFrom
    rw [vd_take_succ', vd_take_succ', cmpFrom_vd a b ha hb k]
    generalize vd (a.take k) = u at *
    generalize vd (b.take k) = v at *
    generalize a.getD k 0 = x at *
    generalize b.getD k 0 = y at *
    generalize B32 ^ k = P at *
    by_cases hxy : x = y
    · subst hxy
      rw [if_pos rfl]
      rcases Nat.lt_trichotomy u v with h | h | h
      · rw [cmpV_lt h, cmpV_lt (by omega)]
      · rw [cmpV_eq h, cmpV_eq (by rw [h])]
      · rw [cmpV_gt h, cmpV_gt (by omega)]
    · rw [if_neg hxy]
      rcases Nat.lt_or_ge x y with h | h
      · have : P * x + P ≤ P * y := by rw [← Nat.mul_succ]; exact Nat.mul_le_mul_left _ h
        rw [if_pos h, cmpV_lt (by omega)]
      · have : P * y + P ≤ P * x := by rw [← Nat.mul_succ]; exact Nat.mul_le_mul_left _ (by omega)
        rw [if_neg (by omega), cmpV_gt (by omega)]
theorem cmpN_vd (n m : Nat) : cmpN (digs n) (digs m) = cmpV n m := by
  unfold cmpN
  by_cases h : (digs n).length = (digs m).length
  · rw [if_pos h, cmpFrom_vd _ _ (digs_digs n) (digs_digs m), List.take_length, h, List.take_length, vd_digs, vd_digs]
  · rw [if_neg h]
    have key : ∀ {x y : Nat}, (digs x).length < (digs y).length → x < y := by
      intro x y hxy
      have h1 := lt_of_digs x
      have hy : 0 < y := by
        rcases Nat.eq_zero_or_pos y with h0 | h0
        · subst h0; rw [digs_zero] at hxy; simp at hxy
        · exact h0
      have h2 := (digs_pos hy).2
      exact Nat.lt_of_lt_of_le h1 (Nat.le_trans (Nat.pow_le_pow_right (by decide) (by omega)) h2)
    rcases Nat.lt_or_ge (digs n).length (digs m).length with h1 | h1
    · rw [if_pos h1, cmpV_lt (key h1)]
    · rw [if_neg (by omega), cmpV_gt (key (x := m) (y := n) (by omega))]
theorem vd_div (xs : List Nat) (hL : Dig xs) (i : Nat) : vd (xs.drop i) = vd xs / B32 ^ i := by
  rcases Nat.lt_or_ge xs.length i with h | h
  · have h1 := vd_lt hL
    have h2 : B32 ^ xs.length ≤ B32 ^ i := Nat.pow_le_pow_right (by decide) (by omega)
    rw [List.drop_eq_nil_of_le (by omega), Nat.div_eq_of_lt (by omega)]; rfl
  · have h1 : vd (xs.take i) < B32 ^ i := Nat.lt_of_lt_of_le (vd_lt fun x hx => hL x (List.mem_of_mem_take hx)) (Nat.pow_le_pow_right (by decide) (by simp; omega))
    rw [vd_split xs i h, Nat.add_mul_div_left _ _ (B32_pos i), Nat.div_eq_of_lt h1, Nat.zero_add]
theorem getD_vd (xs : List Nat) (hL : Dig xs) (i : Nat) : xs.getD i 0 = vd xs / B32 ^ i % B32 := by
  rw [← vd_div xs hL]
  rcases Nat.lt_or_ge i xs.length with h | h
  · rw [List.drop_eq_getElem_cons h, vd_cons, Nat.add_mul_mod_self_left, List.getD_eq_getElem?_getD, List.getElem?_eq_getElem h]
    exact (Nat.mod_eq_of_lt (hL _ (List.getElem_mem h))).symm
  · rw [List.drop_eq_nil_of_le h, List.getD_eq_getElem?_getD, List.getElem?_eq_none h]; rfl
theorem B32_two (i : Nat) : B32 ^ i = 2 ^ (32 * i) := by rw [Nat.pow_mul]
theorem B32_sq (i : Nat) : B32 ^ (2 * i) = B64 ^ i := by rw [Nat.pow_mul, show B32 ^ 2 = B64 by decide]
/-! ### in memory -/
def DigS (w : World) (a : Option Addr) (l c n : Nat) : Prop := ∃ xs, NRow w a xs ∧ Dig xs ∧ l = xs.length ∧ l ≤ c ∧ l ≤ 600 ∧ vd xs = n
def DigN (w : World) (a : Option Addr) (l c n : Nat) : Prop := NRow w a (digs n) ∧ l = (digs n).length ∧ l ≤ c ∧ l ≤ 600
theorem DigN.s {w : World} {a : Option Addr} {l c n : Nat} (h : DigN w a l c n) : DigS w a l c n := ⟨_, h.1, digs_digs n, h.2.1, h.2.2.1, h.2.2.2, vd_digs n⟩
theorem DigS.below {w w' : World} {a : Option Addr} {l c n : Nat} (h : DigS w a l c n) (hb : Below w.heap.size w w') : DigS w' a l c n := by
  obtain ⟨xs, h1, h2⟩ := h; exact ⟨xs, Row.below h1 hb, h2⟩
theorem DigN.below {w w' : World} {a : Option Addr} {l c n : Nat} (h : DigN w a l c n) (hb : Below w.heap.size w w') : DigN w' a l c n := ⟨Row.below h.1 hb, h.2⟩
theorem DigN.nil (w : World) (a : Option Addr) (c : Nat) : DigN w a 0 c 0 := ⟨Row.nil _ _ _, rfl, Nat.zero_le _, Nat.zero_le _⟩
theorem DigN.lt {w : World} {a : Option Addr} {l c n : Nat} (h : DigN w a l c n) : n < B32 ^ l := by rw [h.2.1]; exact lt_of_digs n
theorem digs_mono {a b : Nat} (h : a ≤ b) : (digs a).length ≤ (digs b).length := digs_len_le (Nat.lt_of_le_of_lt h (lt_of_digs b))
theorem digs_len0 {n : Nat} (h : (digs n).length = 0) : n = 0 := by
  have := vd_digs n
  rw [List.eq_nil_of_length_eq_zero h] at this; exact this.symm
theorem SlcP.cut {a : Option Addr} {l c sz : Nat} {k : Option Addr → Nat → Nat → Prop} {hi mx : Option Int} (n : Nat) (hhi : hi = some (n : Int)) (hmx : mx = some (n : Int)) (hc : n ≤ c) (ha : 0 < n → ∃ b o, a = some ⟨b, o, none⟩) (hk : k a n n) : SlcP a l c 0 hi mx sz k := by
  subst hhi hmx
  refine ⟨⟨by decide, by simp, by simp, by simp, by simp, by simp; omega, ?_⟩⟩
  simp only [Option.getD_some, Int.toNat_natCast, Int.toNat_zero, Nat.zero_mul, Nat.sub_zero]
  rcases Nat.eq_zero_or_pos n with h0 | h0
  · subst h0; exact hk
  · rw [if_neg (by omega)]
    obtain ⟨b, o, rfl⟩ := ha h0
    show k (some ((⟨b, o, none⟩ : Addr).add 0)) n n
    rw [add_none, Nat.add_zero]; exact hk
end Go.Proofs.YthneejblcffdgaaGreatDoor

namespace Go.Proofs.YthneejblcffdgaaGreatDoor
open Go Go.Ev Go.RowKit
set_option maxRecDepth 20000
set_option linter.unusedVariables false
set_option linter.unusedSimpArgs false

/-! ### baileyref1: trim, From, Of, Cmp -/
theorem rtrim_spec {a : Option Addr} {l c n : Nat} {w : World} (h : DigS w a l c n) :
    Calls Tryz.prog 50 #[.slice a l c] w fun e w' => e = .returned (.slice a (digs n).length (digs n).length) ∧ DigN w' a (digs n).length (digs n).length n ∧ w' = w := by
  obtain ⟨xs, hr, hD, hl, hc, hs, hv⟩ := h
  have ht : trimmed xs = digs n := by rw [trimmed_eqD hD, hv]
  have hlen : (digs n).length = trimLen xs l := by rw [← ht, trimmed_length, ← hl]
  have hle : trimLen xs l ≤ l := trimLen_le _ _
  have hN : DigN w a (digs n).length (digs n).length n := by
    refine ⟨?_, rfl, Nat.le_refl _, by omega⟩
    have := Row.take hr (trimLen xs l)
    rw [← ht]
    unfold NRow ints trimmed
    rw [List.map_take, ← hl]; exact this
  refine calls_of_ev tysOk extsOk Tryz.func50 rfl rfl rfl ?_
  have hil := ints_length xs
  refine LoopP.go (S := Nat) 262088 (by kernel_rfl) (fun n => [(3, .int .i64 n)]) (fun n W => n ≤ l ∧ trimLen xs n = trimLen xs l ∧ W = w) (fun n => n) l ⟨rfl, trivial⟩ ⟨Nat.le_refl _, rfl, rfl⟩ ?_
  rintro m j W ⟨h1, h2, hW⟩
  have hW := hW.symm
  subst hW
  rcases m with _ | m
  · iterate 6 refine IfP.neg rfl ?_
    refine IfP.neg rfl ?_
    refine IfP.no ?_
    have hn : trimLen xs 0 = 0 := rfl
    have h0 : (digs n).length = 0 := by rw [hlen, ← h2, hn]
    refine SlcP.cut 0 rfl rfl (by omega) (fun h => absurd h (by decide)) ?_
    rw [h0] at hN ⊢
    exact ⟨rfl, rfl, hN, rfl⟩
  · have hpos : decide (((m + 1 : Nat) : Int) > 0) = true := decide_eq_true (by omega)
    have hsub : IntKind.i64.wrap (((m + 1 : Nat) : Int) - 1) = (m : Int) := by rw [show (((m + 1 : Nat) : Int) - 1) = (m : Int) by omega]; exact i64_of _ (by omega)
    refine IfP.pos hpos ?_
    iterate 3 refine IfP.yes ?_
    obtain ⟨b, o, ha, hcell⟩ := hr m (by omega)
    have hx : (ints xs)[m]'(by omega) = ((xs.getD m 0 : Nat) : Int) := by
      rw [← ints_getD, List.getD_eq_getElem?_getD, List.getElem?_eq_getElem (by omega)]; rfl
    rw [hx] at hcell
    subst ha
    refine IdxP.at m hsub (by omega) ?_
    refine IfP.yes ?_
    refine LdI.go (n := ((xs.getD m 0 : Nat) : Int)) (show w.cell? ⟨b, o + m * 1, none⟩ = _ by rw [Nat.mul_one]; exact hcell) ?_
    refine IfP.yes ?_
    refine IfP.yes ?_
    refine IfP.beq (fun hz => ?_) (fun hz => ?_)
    · refine ⟨rfl, m, ⟨⟨congrArg (Value.int .i64) hsub, trivial⟩, by omega, ?_, rfl⟩, by omega⟩
      rw [← h2]
      show trimLen xs m = if xs.getD m 0 = 0 then trimLen xs m else m + 1
      rw [if_pos (by omega)]
    · have hn : trimLen xs (m + 1) = m + 1 := by unfold trimLen; rw [if_neg (by omega)]
      have h0 : (digs n).length = m + 1 := by rw [hlen, ← h2, hn]
      refine SlcP.cut (m + 1) rfl rfl (by omega) (fun h => ⟨b, o, rfl⟩) ?_
      rw [h0] at hN ⊢
      exact ⟨rfl, rfl, hN, rfl⟩
theorem from_dig {d X P x : Nat} : d + P * (x % B32) + P * B32 * (x / B32) = d + P * x := by
  rw [Nat.mul_assoc, Nat.add_assoc, ← Nat.mul_add, Nat.mod_add_div]
theorem rfrom_spec {a : Option Addr} {l c n : Nat} {w : World} (h : NumS w a l c n) (hl2 : l ≤ 250) :
    Calls Tryz.prog 31 #[.slice a l c] w fun e w' => ∃ a', e = .returned (.slice a' (digs n).length (digs n).length) ∧ DigN w' a' (digs n).length (digs n).length n ∧ (∀ p, a' = some p → w.heap.size ≤ p.block) ∧ Below w.heap.size w w' := by
  obtain ⟨X, hr, hD, hl, hc, hs, hv⟩ := h
  refine calls_of_ev tysOk extsOk Tryz.func31 rfl rfl rfl ?_
  have e0 : IntKind.i64.wrap (2 * (l : Int)) = ((2 * l : Nat) : Int) := IntWalk.i64_in _ (by omega)
  refine Mk.toN (2 * l) e0 e0 (by omega) fun w1 m1 b1 s1 => ?_
  have x1 := hr.below b1
  have hs1 := b1.size
  refine LoopP.go (S := Nat) 17179868688 (by kernel_rfl) (fun i => [(4, .int .i64 (i : Nat))])
    (fun i W => i ≤ l ∧ Below w.heap.size w W ∧ ∃ d, d.length = 2 * i ∧ Dig d ∧ NBuf W w.heap.size (d ++ List.replicate (2 * l - d.length) 0) (2 * l) ∧ vd d = val (X.take i)) (fun i => l - i) 0 ⟨rfl, trivial⟩
    ⟨Nat.zero_le _, b1, [], rfl, (fun x hx => by cases hx), m1, by simp [val, vd]⟩ ?_
  rintro i j W ⟨i1, i2, d, i3, i4, i5, i6⟩
  refine IfP.dec (fun hlt => ?_) (fun hge => ?_)
  · have hi : i < l := by omega
    have e1 : IntKind.i64.wrap (2 * (i : Int)) = ((2 * i : Nat) : Int) := IntWalk.i64_in _ (by omega)
    have e2 : IntKind.i64.wrap (IntKind.i64.wrap (2 * (i : Int)) + 1) = ((2 * i + 1 : Nat) : Int) := by rw [e1]; exact IntWalk.i64_in _ (by omega)
    refine IdxP.ldN i rfl (hr.below i2) hl hi fun _ _ _ => ?_
    refine ChkP.go (by decide) ?_
    refine IdxP.toE (2 * i) (X.getD i 0 % B32) (by rw [show (4294967296 : Int) = ((B32 : Nat) : Int) from rfl, ← Int.ofNat_tmod]) e1 i5 (by omega) (by simp; omega) fun w2 g1 g2 g3 => ?_
    have hB2 : Below w.heap.size w w2 := Chg.below ((Chg.of_below (s := fun _ => False) i2).thenC g2 i2.size (fun k hk e => absurd e (by omega)))
    refine IdxP.ldN i rfl (hr.below hB2) hl hi fun _ _ _ => ?_
    refine ChkP.go (by decide) ?_
    have hxl := hD.getD i
    have hdv : X.getD i 0 / B32 < B32 := (Nat.div_lt_iff_lt_mul (by decide)).2 hxl
    refine IdxP.toE (2 * i + 1) (X.getD i 0 / B32) (by rw [show (4294967296 : Int) = ((B32 : Nat) : Int) from rfl, ← Int.ofNat_tdiv]; exact u64_of _ (Nat.lt_trans hdv (by decide))) e2 g1 (by omega) (by simp; omega) fun w3 f1 f2 f3 => ?_
    have hB3 : Below w.heap.size w w3 := Chg.below ((Chg.of_below (s := fun _ => False) hB2).thenC f2 hB2.size (fun k hk e => absurd e (by omega)))
    have e13 := next_i64 hi (by omega)
    rw [← i3, set_zeros d _ _ (by omega), i3] at f1
    have f1' : NBuf w3 w.heap.size ((d ++ [X.getD i 0 % B32]) ++ [X.getD i 0 / B32] ++ List.replicate (2 * l - ((d ++ [X.getD i 0 % B32]).length + 1)) 0) (2 * l) := by
      rw [← set_zeros (d ++ [X.getD i 0 % B32]) _ _ (by simp; omega)]
      have hl3 : (d ++ [X.getD i 0 % B32]).length = 2 * i + 1 := by simp [i3]
      rw [hl3]; exact f1
    refine ⟨rfl, i + 1, ⟨⟨congrArg (Value.int .i64) e13, trivial⟩, hi, hB3, (d ++ [X.getD i 0 % B32]) ++ [X.getD i 0 / B32], by simp [i3]; omega, (i4.snoc (Nat.mod_lt _ (by decide))).snoc hdv, ?_, ?_⟩, by omega⟩
    · have hl4 : ((d ++ [X.getD i 0 % B32]) ++ [X.getD i 0 / B32]).length = (d ++ [X.getD i 0 % B32]).length + 1 := by simp
      rw [hl4]; exact f1'
    · rw [vd_snoc, vd_snoc, List.length_append, List.length_singleton, i3, Nat.pow_succ, from_dig (X := 0), i6, val_take_succ', B32_sq]
  · have hi : i = l := by omega
    subst hi
    rw [i3, Nat.sub_self, List.replicate_zero, List.append_nil] at i5
    rw [List.take_of_length_le (by omega), hv] at i6
    refine CallP.intro (rtrim_spec (l := 2 * i) (c := 2 * i) ⟨d, i5.nrow, i4, i3.symm, Nat.le_refl _, by omega, i6⟩) ?_
    rintro e w4 ⟨rfl, q1, hw⟩
    have hw := hw.symm
    subst hw
    refine ⟨_, rfl, rfl, _, rfl, q1, fun p hp => ?_, i2⟩
    cases hp; exact Nat.le_refl _
theorem rof_spec (n : Nat) (hn : n < B64) (w : World) :
    Calls Tryz.prog 24 #[.int .u64 n] w fun e w' => ∃ a', e = .returned (.slice a' (digs n).length (digs n).length) ∧ DigN w' a' (digs n).length (digs n).length n ∧ (∀ p, a' = some p → w.heap.size ≤ p.block) ∧ Below w.heap.size w w' := by
  refine calls_of_ev tysOk extsOk Tryz.func24 rfl rfl rfl ?_
  have h := al_num w hn
  have hb := al_below w n
  refine CallP.intro (rfrom_spec h.1 (by show 1 ≤ 250; decide)) ?_
  rintro e w1 ⟨a', rfl, g1, g2, g3⟩
  exact ⟨_, rfl, rfl, a', rfl, g1, fun p hp => Nat.le_trans hb.size (g2 p hp), hb.trans (g3.mono hb.size)⟩
end Go.Proofs.YthneejblcffdgaaGreatDoor
