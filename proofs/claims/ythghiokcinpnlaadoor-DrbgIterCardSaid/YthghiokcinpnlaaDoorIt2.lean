import Derived.Test.YthghiokcinpnlaaDoorIt1
namespace Go.Proofs.YthghiokcinpnlaaDoor
open Go Go.Ev Go.RowKit
set_option maxRecDepth 20000
set_option linter.unusedVariables false
set_option linter.unusedSimpArgs false

set_option maxHeartbeats 4000000 in
theorem drbgIter_spec {kt bs : List Int} {a : Option Addr} {l c : Nat} {n : Int} {w : World} (hr : Row w a .u8 bs) (hl : l = bs.length) (hc : l ≤ c)
    (hk : Row w (some ⟨3, 0, none⟩) .u64 kt) (hkl : kt.length = 80) (hko : KtOk kt) :
    Calls Tryd.prog 3 #[.slice a l c, .int .i64 n] w fun e w' => e = .returned (.bool true) ∧ Below w.heap.size w w' := by
  have hkl3 : 3 < w.heap.size := by obtain ⟨b, o, h1, h2⟩ := hk 0 (by omega); cases h1; exact cell_lt h2
  refine calls_of_evM tysOk extsOk Tryd.func3 rfl rfl rfl ?_
  have bA : Below w.heap.size w (w.alloc (.cells #[.int .i64 n] 3)) := (Below.refl _ _).alloc (Nat.le_refl _) _
  have bB := bA.alloc bA.size (.cells #[.bool false] 4)
  have y3 : Blk ((w.alloc (.cells #[.int .i64 n] 3)).alloc (.cells #[.bool false] 4)) w.heap.size [.int .i64 n] 3 := (Blk.newA w #[.int .i64 n] 3).alloc _
  have y4 : Blk ((w.alloc (.cells #[.int .i64 n] 3)).alloc (.cells #[.bool false] 4)) (w.alloc (.cells #[.int .i64 n] 3)).heap.size [.bool false] 4 := Blk.newA _ #[.bool false] 4
  have z4 : (w.alloc (.cells #[.int .i64 n] 3)).heap.size = w.heap.size + 1 := size_alloc _ _
  refine CallP.intro (begun_spec (hk.below bB) hkl) ?_
  rintro e w1 ⟨rfl, b1⟩
  refine ⟨_, rfl, ?_⟩
  have b1 : Below ((w.alloc (.cells #[.int .i64 n] 3)).alloc (.cells #[.bool false] 4)).heap.size ((w.alloc (.cells #[.int .i64 n] 3)).alloc (.cells #[.bool false] 4)) w1 := b1
  have x3 := y3.belowS b1
  have x4 := y4.belowS b1
  have b01 := bB.trans (b1.mono bB.size)
  have hk1 := hk.below b01
  have l4 := x4.lt
  clear y3 y4 bB b1
  refine CallP.intro (short_spec (hr.below b01) hl hc) ?_
  rintro e w1' ⟨a', l', rfl, hr1, hl1, hc1, h60, ho, hw⟩
  have hw := hw.symm
  subst hw
  refine ⟨_, rfl, ?_⟩
  generalize bs.take 60 = data at hr1 hl1
  refine CallP.intro (newD_spec hr1 hl1 (by omega) hk1 hkl) ?_
  rintro e w2 ⟨db, rfl, d2, g2, b2⟩
  refine ⟨_, rfl, ?_⟩
  refine CallP.intro (rnew_spec (hr1.below b2) hl1 (by omega)) ?_
  rintro e w3 ⟨rb, rfl, r3, g3, b3⟩
  refine ⟨_, rfl, ?_⟩
  have d3 := d2.below b3
  have ldb := d2.lt
  have b13 : Below w1.heap.size w1 w3 := b2.trans (b3.mono b2.size)
  rw [newKV_eq hko (by omega)] at d3
  have hs0 : Len32 (rnewKV data) := rupdKV_length
  generalize rnewKV data = s0 at d3 r3 hs0
  have x33 := x3.belowS b13
  have x43 := x4.belowS b13
  have hs13 := b13.size
  have hs12 := b2.size
  have b7 : Below w3.heap.size w3 (w3.alloc (.cells #[.pointer none] 27)) := (Below.refl _ _).alloc (Nat.le_refl _) _
  refine StP.to 0 (Blk.newA w3 #[.pointer none] 27) rfl (by decide) fun w4 x7 c7 s7 => ?_
  have x7 : Blk w4 w3.heap.size [.pointer (some ⟨rb, 0, none⟩)] 27 := x7
  have b34 : Below w3.heap.size w3 w4 := Chg.below ((Chg.of_below (s := fun _ => False) b7).thenC c7 b7.size (fun k hk e => by omega))
  have lrb := r3.lt
  have ld3 := d3.lt
  clear c7 s7
  refine IfP.no ?_
  refine CallP.intro (all_spec' _ _) ?_
  rintro e w5 ⟨q, rfl, q5, x5, b5⟩
  refine ⟨_, rfl, ?_⟩
  have b35 := b34.trans (b5.mono b34.size)
  have d5 := d3.below b35
  have r5 := r3.below b35
  have x35 := x33.belowS b35
  have x45 := x43.belowS b35
  have x75 := x7.belowS b5
  have b05 : Below w.heap.size w w5 := b01.trans ((b13.trans (b35.mono b13.size)).mono b01.size)
  have l7 := x7.lt
  have l75 := x75.lt
  have hs01 := b01.size
  have hs34 := b34.size
  have hs45 := b5.size
  clear d2 r3 x3 x4 x33 x43 x7 b34 b7 d3
  refine IfP.yes ?_
  refine LdI.go (x35.cell 0) ?_
  refine IfP.yes ?_
  refine IfP.no ?_
  have out : ∀ (k : World → Prop), (∀ w', Blk w' (w.alloc (.cells #[.int .i64 n] 3)).heap.size [.bool true] 4 → Below w.heap.size w w' → k w') → StP ⟨(w.alloc (.cells #[.int .i64 n] 3)).heap.size, 0, none⟩ (.bool true) k w5 := by
    intro k hk
    refine StP.to 0 x45 rfl (by decide) fun w' h1 h2 h3 => hk w' h1 ?_
    exact Chg.below ((Chg.of_below (s := fun _ => False) b05).thenC h2 b05.size (fun k hk e => by omega))
  by_cases hn1 : n < 1
  · refine IfP.neg (by simp [hn1]) ?_
    refine IfP.neg rfl ?_
    refine IfP.pos rfl ?_
    refine IfP.pos rfl ?_
    refine IfP.yes ?_
    refine IfP.yes ?_
    refine IfP.yes ?_
    refine out _ fun w' h1 h2 => ?_
    exact .inl ⟨rfl, LdB.go (h1.cell 0) ⟨rfl, h2⟩⟩
  refine IfP.pos (by simp [hn1]) ?_
  refine LdI.go (x35.cell 0) ?_
  refine IfP.pos rfl ?_
  refine IfP.neg rfl ?_
  by_cases hn2 : n > 20
  · refine IfP.pos (by simp [hn2]) ?_
    refine IfP.yes ?_
    refine IfP.yes ?_
    refine IfP.yes ?_
    refine out _ fun w' h1 h2 => ?_
    exact .inl ⟨rfl, LdB.go (h1.cell 0) ⟨rfl, h2⟩⟩
  refine IfP.neg (by simp [hn2]) ?_
  obtain ⟨N, rfl⟩ : ∃ N : Nat, n = N := ⟨n.toNat, by omega⟩
  have b9 : Below w5.heap.size w5 (w5.alloc (.cells #[.int .i64 0] 3)) := (Below.refl _ _).alloc (Nat.le_refl _) _
  refine StP.to 0 (Blk.newA w5 #[.int .i64 0] 3) rfl (by decide) fun w6 x9 c9 s9 => ?_
  have x9 : Blk w6 w5.heap.size [.int .i64 0] 3 := x9
  have b56 : Below w5.heap.size w5 w6 := Chg.below ((Chg.of_below (s := fun _ => False) b9).thenC c9 b9.size (fun k hk e => by omega))
  have l9 := x9.lt
  have l5 := x5.lt
  refine DrawP.rangeA tysOk extsOk rfl (by kernel_rfl) rfl rfl rfl ?_
  rintro rc d w9 hd hdm hlp hb9 hs9 hy
  have bw9 := b56.trans (hb9.mono b56.size)
  have hs56 := b56.size
  have b09 : Below w.heap.size w w9 := b05.trans (bw9.mono b05.size)
  have hne : db ≠ rb := by have := b2.size; omega
  refine (all1_spec hko hkl (q := q) (db := db) (lp := d + 1) (N := N) hs0
    (I := fun i W => i < N ∧ W.heap[d + 1]? = some (.loop (rc .ready none)) ∧ (∃ m, DAt W db (rkv s0 i).1 (rkv s0 i).2 m) ∧ (∃ m, RAt W rb (rkv s0 i).1 (rkv s0 i).2 m) ∧ Blk W w5.heap.size [.int .i64 i] 3 ∧ Chg w9.heap.size (fun k => k = db ∨ k = rb ∨ k = w5.heap.size ∨ k = d + 1) w9 W)
    (J := fun W => W.heap[d + 1]? = some (.loop (rc .done (some (.exit 0)))) ∧ (∃ m, DAt W db (rkv s0 N).1 (rkv s0 N).2 m) ∧ (∃ m, RAt W rb (rkv s0 N).1 (rkv s0 N).2 m) ∧ Blk W w5.heap.size [.int .i64 N] 3 ∧ Chg w9.heap.size (fun k => k = db ∨ k = rb ∨ k = w5.heap.size ∨ k = d + 1) w9 W)
    ?_ (by omega) ?_ ?_).mono ?_
  · rintro i W ⟨h1, h2, h3, h4, h5, h6⟩
    refine ⟨h1, ?_, h3, ?_⟩
    · exact (x5.belowS bw9).chg h6 (x5.belowS bw9).lt (by have := g2; omega)
    · exact (hk.below b09).chg h6 (by intro p hp; cases hp; show ¬ (3 = db ∨ 3 = rb ∨ 3 = w5.heap.size ∨ 3 = d + 1); omega)
  · exact ⟨by omega, hlp, ⟨_, d5.below bw9⟩, ⟨_, r5.below bw9⟩, x9.belowS hb9, Chg.refl _ _ _⟩
  · rintro i W W1 ⟨h1, h2, h3, ⟨m4, h4⟩, h5, h6⟩ ⟨m1, hd1⟩ hc1
    obtain ⟨m3, h3⟩ := h3
    obtain ⟨hK, hV⟩ := rkv_length hs0 i
    have hl1 : W1.heap[d + 1]? = some (.loop (rc .ready none)) := by rw [hc1.block _ (heap_lt h2) (by omega)]; exact h2
    refine hy [.int .u8 _] W1 _ hl1 rfl ?_
    refine ⟨hl1, ?_⟩
    have hr1 := h4.chgD h3 hc1 (fun e => hne e.symm)
    have h51 := h5.chg hc1 h5.lt (by omega)
    have hC1 : Chg w9.heap.size (fun k => k = db ∨ k = rb ∨ k = w5.heap.size ∨ k = d + 1) w9 W1 := h6.thenC hc1 h6.size (fun k _ h => .inl h)
    have hc2 : Chg W1.heap.size (fun k => k = d + 1) W1 (W1.putObj (d + 1) (.loop (rc .busy none))) := (Chg.refl _ _ _).put _ _ (fun _ => rfl)
    have hl2 : (W1.putObj (d + 1) (.loop (rc .busy none))).heap[d + 1]? = some (.loop (rc .busy none)) := put_same (heap_lt hl1)
    generalize W1.putObj (d + 1) (.loop (rc .busy none)) = W2 at hc2 hl2 ⊢
    have offl := off_loop hl1
    have hd2 := hd1.chgB hc2 (by omega) offl
    have hr2 := hr1.chgB hc2 (by omega) offl
    have h52 := h51.chg hc2 h51.lt (by omega)
    have hC2 := hC1.thenC hc2 hC1.size (fun k _ h => .inr (.inr (.inr h)))
    have x72 : Blk W2 w3.heap.size [.pointer (some ⟨rb, 0, none⟩)] 27 := (x75.belowS bw9).chg hC2 (x75.belowS bw9).lt (by omega)
    have x32 : Blk W2 w.heap.size [.int .i64 N] 3 := (x35.belowS bw9).chg hC2 (x35.belowS bw9).lt (by omega)
    refine LdPt.go (x72.cell 0) ?_
    refine CallP.intro (rbytes_spec (n := 1) hr2 (by decide) (by decide)) ?_
    rintro e W3 ⟨ob, oc, rfl, t1, t2, t3, t4⟩
    refine ⟨_, rfl, ?_⟩
    have hb1 : (rbytesOf (rkv s0 i).1 (rkv s0 i).2 1).length = 1 := rbytesOf_length 1
    have hcell : W3.cell? ⟨ob, 0 + 0 * 1, none⟩ = some (.int .u8 ((rbytesOf (rkv s0 i).1 (rkv s0 i).2 1).getD 0 0)) := by
      obtain ⟨b', o', e1, e2⟩ := t1 0 (by rw [hb1]; decide)
      cases e1
      rw [List.getD_eq_getElem?_getD, List.getElem?_eq_getElem (by rw [hb1]; decide)]; exact e2
    refine IdxP.at 0 rfl (by decide) ?_
    refine LdI.go hcell ?_
    refine IfP.neg (by simp) ?_
    have hd3 := hd2.chgR hr2 t4 hne
    have h53 := h52.chg t4 h52.lt (by omega)
    have x73 := x72.chg t4 x72.lt (by omega)
    have x33' := x32.chg t4 x32.lt (by omega)
    have hC3 := hC2.thenC t4 hC2.size (fun k _ h => .inr (.inl h))
    have hl3 : W3.heap[d + 1]? = some (.loop (rc .busy none)) := by rw [t4.block _ (heap_lt hl2) (by omega)]; exact hl2
    refine LdI.go (h53.cell 0) ?_
    refine StP.to 0 h53 rfl (Nat.succ_pos _) fun W4 v1 v2 v3 => ?_
    have hnext : IntKind.i64.wrap ((i : Int) + 1) = ((i + 1 : Nat) : Int) := by rw [show (i : Int) + 1 = ((i + 1 : Nat) : Int) by omega]; exact i64_of _ (by omega)
    have v1 : Blk W4 w5.heap.size [.int .i64 (IntKind.i64.wrap ((i : Int) + 1))] 3 := v1
    rw [hnext] at v1
    have v2 : Chg W3.heap.size (fun k => k = w5.heap.size) W3 W4 := v2
    have off9 := off_one h53 (fun x => by simp)
    have hd4 := hd3.chgB v2 (by omega) off9
    have hr4 := t3.chgB v2 (by omega) off9
    have x34 := x33'.chg v2 x33'.lt (by omega)
    have hC4 := hC3.thenC v2 hC3.size (fun k _ h => .inr (.inr (.inl h)))
    have hl4 : W4.heap[d + 1]? = some (.loop (rc .busy none)) := by rw [v2.block _ (heap_lt hl3) (by omega)]; exact hl3
    have offl4 := off_loop hl4
    refine LdI.go (v1.cell 0) ?_
    refine LdI.go (x34.cell 0) ?_
    have key : ∀ o : Loop, Chg W4.heap.size (fun k => k = d + 1) W4 (W4.putObj (d + 1) (.loop o)) := fun o => (Chg.refl _ _ _).put _ _ (fun _ => rfl)
    refine IfP.beq (fun heq => ?_) (fun hneq => ?_)
    · have hi : i + 1 = N := by omega
      subst hi
      have A1 := hd4.chgB (key (rc .done (some (.exit 0)))) (by omega) offl4
      have A2 := hr4.chgB (key (rc .done (some (.exit 0)))) (by omega) offl4
      exact ⟨hl4, .inr ⟨rfl, put_same (heap_lt hl4), ⟨_, A1⟩, ⟨_, A2⟩, v1.chg (key _) v1.lt (by omega), hC4.thenC (key _) hC4.size (fun k _ h => .inr (.inr (.inr h)))⟩⟩
    · have hi : i + 1 < N := by omega
      refine ⟨hl4, .inl ⟨rfl, hi, put_same (heap_lt hl4), ⟨_, hd4.chgB (key _) (by omega) offl4⟩, ⟨_, hr4.chgB (key _) (by omega) offl4⟩, v1.chg (key _) v1.lt (by omega), hC4.thenC (key _) hC4.size (fun k _ h => .inr (.inr (.inr h)))⟩⟩
  · rintro e W ⟨rfl, h1, ⟨m2, h2⟩, ⟨m3, h3⟩, h4, h5⟩
    refine ⟨_, rfl, .inr ⟨.exit 0, rfl, rfl, h1, ?_⟩⟩
    have offl := off_loop h1
    have hc2 : Chg W.heap.size (fun k => k = d + 1) W (W.putObj (d + 1) (.loop (rc .exhausted (some (.exit 0))))) := (Chg.refl _ _ _).put _ _ (fun _ => rfl)
    generalize W.putObj (d + 1) (.loop (rc .exhausted (some (.exit 0)))) = V at hc2 ⊢
    have d8 := h2.chgB hc2 (by omega) offl
    have r8 := h3.chgB hc2 (by omega) offl
    have x98 := h4.chg hc2 h4.lt (by omega)
    have hC := h5.thenC hc2 h5.size (fun k _ h => .inr (.inr (.inr h)))
    have x78 : Blk V w3.heap.size [.pointer (some ⟨rb, 0, none⟩)] 27 := (x75.belowS bw9).chg hC (x75.belowS bw9).lt (by omega)
    have x38 : Blk V w.heap.size [.int .i64 N] 3 := (x35.belowS bw9).chg hC (x35.belowS bw9).lt (by omega)
    have x48 : Blk V (w.alloc (.cells #[.int .i64 N] 3)).heap.size [.bool false] 4 := (x45.belowS bw9).chg hC (x45.belowS bw9).lt (by omega)
    have k8 : Row V (some ⟨3, 0, none⟩) .u64 kt := (hk.below b09).chg hC (by intro p hp; cases hp; show ¬ (3 = db ∨ 3 = rb ∨ 3 = w5.heap.size ∨ 3 = d + 1); omega)
    have hdm8 : V.heap[d]? = some (.deferred (some [])) := by rw [hC.block d (by omega) (by omega)]; exact hdm
    have b0V : Below w.heap.size w V := Chg.below ((Chg.of_below (s := fun _ => False) b09).thenC hC b09.size (fun k hk e => by omega))
    obtain ⟨hK, hV⟩ := rkv_length hs0 N
    have l48 := x48.lt
    have l38 := x38.lt
    have l78 := x78.lt
    have l98 := x98.lt
    have hsV := b0V.size
    refine DrawP.tree tysOk extsOk mixed [15] (.take 0 (.take 1 (.held 2 (.held 3 (.held 4 (.held 5 (.take 6 (.take 7 (.held 10 (.alt 8 (.alt 9 (.alt 11 (.alt 12 (.held 13 (.held 14 (.fin 15 .done .nil))) .nil) .nil) (.alt 11 (.alt 9 (.alt 12 (.held 13 (.held 14 (.fin 15 .done .nil))) .nil) (.alt 12 (.alt 9 (.held 13 (.held 14 (.fin 15 .done .nil))) .nil) .nil)) .nil)) .nil)))))))))) 147569448990049042432 (by kernel_rfl) (by kernel_rfl) (X := Unit)
      (fun U => U.cell? ⟨w5.heap.size, 0, none⟩ = some (.int .i64 N) ∧ U.cell? ⟨w.heap.size, 0, none⟩ = some (.int .i64 N) ∧ U.cell? ⟨w3.heap.size, 0, none⟩ = some (.pointer (some ⟨rb, 0, none⟩))) (fun _ => [])
      (fun _ U => Blk U (w.alloc (.cells #[.int .i64 N] 3)).heap.size [.bool true] 4 ∧ Below w.heap.size w U ∧ U.heap[d]? = some (.deferred (some []))) ?_ ?_
    · intro u0 c0 b0 s0'
      have dU := d8.below b0
      have rU := r8.below b0
      have S0 : u0.cell? ⟨w5.heap.size, 0, none⟩ = some (.int .i64 N) ∧ u0.cell? ⟨w.heap.size, 0, none⟩ = some (.int .i64 N) ∧ u0.cell? ⟨w3.heap.size, 0, none⟩ = some (.pointer (some ⟨rb, 0, none⟩)) := ⟨(x98.belowS b0).cell 0, (x38.belowS b0).cell 0, (x78.belowS b0).cell 0⟩
      have Sk : ∀ U U', Chg U.heap.size (fun k => k = db ∨ k = rb) U U' → V.heap.size ≤ U.heap.size → (U.cell? ⟨w5.heap.size, 0, none⟩ = some (.int .i64 N) ∧ U.cell? ⟨w.heap.size, 0, none⟩ = some (.int .i64 N) ∧ U.cell? ⟨w3.heap.size, 0, none⟩ = some (.pointer (some ⟨rb, 0, none⟩))) →
          (U'.cell? ⟨w5.heap.size, 0, none⟩ = some (.int .i64 N) ∧ U'.cell? ⟨w.heap.size, 0, none⟩ = some (.int .i64 N) ∧ U'.cell? ⟨w3.heap.size, 0, none⟩ = some (.pointer (some ⟨rb, 0, none⟩))) := by
        rintro U U' hc hle ⟨e1, e2, e3⟩
        refine ⟨?_, ?_, ?_⟩
        · rw [World.cell?_of_block (w := U) (hc.block _ (by show w5.heap.size < _; omega) (by show ¬ (w5.heap.size = db ∨ w5.heap.size = rb); omega))]; exact e1
        · rw [World.cell?_of_block (w := U) (hc.block _ (by show w.heap.size < _; omega) (by show ¬ (w.heap.size = db ∨ w.heap.size = rb); omega))]; exact e2
        · rw [World.cell?_of_block (w := U) (hc.block _ (by show w3.heap.size < _; omega) (by show ¬ (w3.heap.size = db ∨ w3.heap.size = rb); omega))]; exact e3
      refine ⟨S0, ?_⟩
      refine IfP.yes ?_
      refine HeldP.go (fun w' hS => LdI.go hS.1 rfl) ?_
      refine IfP.yes ?_
      refine HeldP.go (fun w' hS => LdI.go hS.2.1 rfl) ?_
      refine IfP.yes ?_
      refine HeldP.go (fun w' hS => rfl) ?_
      refine HeldP.go (fun w' hS => IfP.yes rfl) ?_
      refine IfP.pos (beq_self_eq_true (N : Int)) ?_
      refine IfP.yes ?_
      refine HeldP.go (fun w' hS => LdPt.go hS.2.2 rfl) ?_
      refine ⟨?_, trivial⟩
      refine IfP.yes ?_
      refine CallP.intro (bytes_spec (n := 9) dU (by decide) (by decide) (k8.below b0) hkl (by omega)) ?_
      rintro e u1 ⟨o1, rfl, p1, p2, p3, p4⟩
      have S1 := Sk u0 u1 (p4.mono (Nat.le_refl _) (fun k _ h => .inl h)) b0.size S0
      refine ⟨_, rfl, S1, ?_⟩
      rw [bytesOf_eq hko (by omega) hV] at p1
      have rU1 := rU.chgD dU p4 (fun e => hne e.symm)
      have hC1 : Chg V.heap.size (fun k => k = db ∨ k = rb) V u1 := (Chg.of_below b0).thenC p4 b0.size (fun k _ h => .inl h)
      have p1o : ∀ p, (some ⟨o1, 0, none⟩ : Option Addr) = some p → p.block ≠ rb := by
        intro p hp; cases hp; have := rU.lt; have := b0.size; show o1 ≠ rb; omega
      have post : ∀ (U : World), Chg V.heap.size (fun k => k = db ∨ k = rb) V U → ∀ (b : Bool) (k : World → Prop), b = true → (∀ U', Blk U' (w.alloc (.cells #[.int .i64 N] 3)).heap.size [.bool true] 4 → Below w.heap.size w U' → U'.heap[d]? = some (.deferred (some [])) → k U') → StP ⟨(w.alloc (.cells #[.int .i64 N] 3)).heap.size, 0, none⟩ (.bool b) k U := by
        intro U hc b k hb hk
        subst hb
        have x4U := x48.chg hc x48.lt (by omega)
        refine StP.to 0 x4U rfl (by decide) fun U' h1 h2 h3 => hk U' h1 ?_ ?_
        · exact Chg.below (((Chg.of_below (s := fun _ => False) b0V).thenC hc b0V.size (fun k hk e => by omega)).thenC h2 (by have := hc.size; omega) (fun k hk e => by omega))
        · have hdV : d < V.heap.size := heap_lt hdm8
          rw [h2.block d (by have := hc.size; omega) (by omega), hc.block d hdV (by omega)]; exact hdm8
      refine ⟨?_, ?_, trivial⟩
      · refine IfP.yes ?_
        refine RdP.row' p1 (rbytesOf_length 9).symm ⟨_, rfl, S1, ?_⟩
        refine ⟨?_, trivial⟩
        refine IfP.yes ?_
        refine CallP.intro (rbytes_spec (n := 9) rU1 (by decide) (by decide)) ?_
        rintro e u2 ⟨o2, c2, rfl, q1, q2, q3, q4⟩
        have S2 := Sk u1 u2 (q4.mono (Nat.le_refl _) (fun k _ h => .inr h)) hC1.size S1
        have hC2 := hC1.thenC q4 hC1.size (fun k _ h => .inr h)
        refine ⟨_, rfl, S2, ?_⟩
        refine ⟨?_, trivial⟩
        refine IfP.yes ?_
        refine RdP.row' q1 (rbytesOf_length 9).symm ⟨_, rfl, S2, ?_⟩
        refine IfP.yes ?_
        refine HeldP.go (fun w' hS => rfl) ?_
        refine HeldP.go (fun w' hS => IfP.yes rfl) ?_
        refine ⟨?_, trivial⟩
        refine post u2 hC2 _ _ (beq_self_eq_true _) fun U' h1 h2 h3 => ?_
        exact ⟨(), trivial, h1, h2, h3⟩
      · refine IfP.yes ?_
        refine CallP.intro (rbytes_spec (n := 9) rU1 (by decide) (by decide)) ?_
        rintro e u2 ⟨o2, c2, rfl, q1, q2, q3, q4⟩
        have S2 := Sk u1 u2 (q4.mono (Nat.le_refl _) (fun k _ h => .inr h)) hC1.size S1
        have hC2 := hC1.thenC q4 hC1.size (fun k _ h => .inr h)
        have p12 := p1.chg q4 p1o
        refine ⟨_, rfl, S2, ?_⟩
        refine ⟨?_, ?_, trivial⟩
        · refine IfP.yes ?_
          refine RdP.row' p12 (rbytesOf_length 9).symm ⟨_, rfl, S2, ?_⟩
          refine ⟨?_, trivial⟩
          refine IfP.yes ?_
          refine RdP.row' q1 (rbytesOf_length 9).symm ⟨_, rfl, S2, ?_⟩
          refine IfP.yes ?_
          refine HeldP.go (fun w' hS => rfl) ?_
          refine HeldP.go (fun w' hS => IfP.yes rfl) ?_
          refine ⟨?_, trivial⟩
          refine post u2 hC2 _ _ (beq_self_eq_true _) fun U' h1 h2 h3 => ?_
          exact ⟨(), trivial, h1, h2, h3⟩
        · refine IfP.yes ?_
          refine RdP.row' q1 (rbytesOf_length 9).symm ⟨_, rfl, S2, ?_⟩
          refine ⟨?_, trivial⟩
          refine IfP.yes ?_
          refine RdP.row' p12 (rbytesOf_length 9).symm ⟨_, rfl, S2, ?_⟩
          refine IfP.yes ?_
          refine HeldP.go (fun w' hS => rfl) ?_
          refine HeldP.go (fun w' hS => IfP.yes rfl) ?_
          refine ⟨?_, trivial⟩
          refine post u2 hC2 _ _ (beq_self_eq_true _) fun U' h1 h2 h3 => ?_
          exact ⟨(), trivial, h1, h2, h3⟩
    · rintro ⟨⟩ j' U ⟨h1, h2, h3⟩
      refine .inr ⟨d, rfl, h3, ?_⟩
      have hdU := heap_lt h3
      have hcU : Chg U.heap.size (fun k => k = d) U (U.putObj d (.deferred none)) := (Chg.refl _ _ _).put _ _ (fun _ => rfl)
      have h1' := h1.chg hcU h1.lt (by omega)
      refine LdB.go (h1'.cell 0) ⟨rfl, ?_⟩
      exact Chg.below ((Chg.of_below (s := fun _ => False) h2).put _ _ (fun h => by omega))
end Go.Proofs.YthghiokcinpnlaaDoor
