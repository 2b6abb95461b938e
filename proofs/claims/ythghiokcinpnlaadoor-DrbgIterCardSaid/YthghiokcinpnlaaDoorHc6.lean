import Derived.Test.YthghiokcinpnlaaDoorHc5
namespace Go.Proofs.YthghiokcinpnlaaDoor
open Go Go.Ev Go.RowKit
set_option maxRecDepth 20000
set_option linter.unusedVariables false

/-! ### the code of a message by a key -/
def mapTo (f : Int → Int) (l : List Int) (i : Nat) : List Int := (l.take i).map f ++ l.drop i
theorem mapTo_length (f : Int → Int) (l : List Int) (i : Nat) : (mapTo f l i).length = l.length := by simp [mapTo]; omega
theorem mapTo_get (f : Int → Int) (l : List Int) {i : Nat} (h : i < l.length) : (mapTo f l i).getD i 0 = l.getD i 0 := by
  have hl : ((l.take i).map f).length = i := by simp; omega
  unfold mapTo
  rw [List.getD_eq_getElem?_getD, List.getElem?_append_right (by omega), hl, Nat.sub_self, List.drop_eq_getElem_cons h, List.getD_eq_getElem?_getD, List.getElem?_eq_getElem h]; rfl
theorem mapTo_succ (f : Int → Int) (l : List Int) {i : Nat} (h : i < l.length) : (mapTo f l i).set i (f (l.getD i 0)) = mapTo f l (i + 1) := by
  have hl : ((l.take i).map f).length = i := by simp; omega
  have hd : l.drop i = l.getD i 0 :: l.drop (i + 1) := by
    rw [List.drop_eq_getElem_cons h, List.getD_eq_getElem?_getD, List.getElem?_eq_getElem h]; rfl
  unfold mapTo
  rw [hd]
  have := set_split ((l.take i).map f) (l.getD i 0) (f (l.getD i 0)) (l.drop (i + 1))
  rw [hl] at this
  rw [this, List.take_succ_eq_append_getElem h, List.map_append, List.getD_eq_getElem?_getD, List.getElem?_eq_getElem h]
  simp
theorem mapTo_all (f : Int → Int) (l : List Int) : mapTo f l l.length = l.map f := by simp [mapTo]
def padK (key : List Int) : List Int := key ++ List.replicate (64 - key.length) 0
def xorK (c : Int) (key : List Int) : List Int := (padK key).map (fun x => Go.bits .xor .u8 x c)
abbrev HS := List Int × List Int × Int
def feed (kt : List Int) (s : HS) (bs : List Int) : HS := (mixH kt s.1 (s.2.1 ++ bs), mixR (s.2.1 ++ bs), IntKind.u64.wrap (s.2.2 + IntKind.u64.wrap bs.length))
def hsum (kt : List Int) (s : HS) : List Int := sumOf kt s.1 s.2.1 s.2.2
def keyS (kt : List Int) (c : Int) (key : List Int) : HS := feed kt (start, [], 0) (xorK c key)
def hmac (kt key : List Int) (parts : List (List Int)) : List Int := hsum kt (feed kt (keyS kt 92 key) (hsum kt (parts.foldl (feed kt) (keyS kt 54 key))))
def HAt (w : World) (hb : Nat) (s : HS) (wo : Option Nat) : Prop := HashAt w hb s.1 s.2.1 s.2.2 wo

theorem newKeyed_spec {kt key : List Int} {a : Option Addr} {l c : Nat} {w : World} (hr : Row w a .u8 key) (hl : l = key.length) (h64 : l ≤ 64) (hk : Row w (some ⟨3, 0, none⟩) .u64 kt) (hkl : kt.length = 80) :
    Calls Tryd.prog 47 #[.int .i64 3, .slice a l c] w fun e w' => ∃ h1 h2 o1 o2, e = .returned (.agg #[.pointer (some ⟨h1, 0, none⟩), .pointer (some ⟨h2, 0, none⟩)]) ∧ HAt w' h1 (keyS kt 54 key) o1 ∧ HAt w' h2 (keyS kt 92 key) o2 ∧ Below w.heap.size w w' := by
  refine calls_of_ev tysOk extsOk Tryd.func47 rfl rfl rfl ?_
  have hA0 : Below w.heap.size w (w.alloc (.cells inf78.zero.cells 78)) := (Below.refl _ _).alloc (Nat.le_refl _) _
  have hz0 := Blk.newA w inf78.zero.cells 78
  have hr0 := hr.below hA0
  have hk0 := hk.below hA0
  refine CallP.same (block_spec _) ?_
  refine IfP.dneg (by omega) ?_
  have hl0 : w.heap.size < (w.alloc (.cells inf78.zero.cells 78)).heap.size := by rw [size_alloc]; omega
  generalize w.alloc (.cells inf78.zero.cells 78) = w0 at *
  refine DrawP.any tysOk extsOk mixed (.take 0 (.take 3 (.alt 1 (.alt 2 (.alt 4 (.take 6 (.alt 5 (.take 7 (.done)) (.done))) (.done)) (.alt 4 (.alt 2 (.take 6 (.alt 5 (.take 7 (.done)) (.done))) (.alt 5 (.alt 2 (.take 6 (.take 7 (.done))) (.done)) (.done))) (.done))) (.done)))) 16515168 (by kernel_rfl) (by kernel_rfl)
    (S := Nat × Nat) (fun s => [(5, .slice (some ⟨s.1, 0, none⟩) 64 64), (6, .slice (some ⟨s.2, 0, none⟩) 64 64)])
    (fun s w' => Buf .u8 5 w' s.1 (List.replicate 64 0) 64 ∧ Buf .u8 5 w' s.2 (List.replicate 64 0) 64 ∧ s.1 ≠ s.2 ∧ w0.heap.size ≤ s.1 ∧ w0.heap.size ≤ s.2 ∧ Below w0.heap.size w0 w') ?_ ?_
  · have hb0 : Below w0.heap.size w0 { w0 with drawn := w0.drawn + 1 } := (Below.refl _ _).drew
    have hs0 : ({ w0 with drawn := w0.drawn + 1 } : World).heap.size = w0.heap.size := rfl
    generalize ({ w0 with drawn := w0.drawn + 1 } : World) = v at hb0 hs0 ⊢
    refine ⟨CallP.same (block_spec _) ⟨?_, ?_, trivial⟩, trivial⟩
    · refine Mk.to 64 64 rfl rfl (Nat.le_refl _) (by omega) rfl fun v1 p1 a1 s1 => ⟨CallP.same (block_spec _) ⟨?_, trivial⟩, trivial⟩
      refine Mk.to 64 64 rfl rfl (Nat.le_refl _) (by omega) rfl fun v2 p2 a2 s2 => ?_
      exact ⟨(v.heap.size, v1.heap.size), ⟨rfl, rfl, trivial⟩, p1.below a2, p2, by show v.heap.size ≠ v1.heap.size; omega, by show _ ≤ v.heap.size; omega, by show _ ≤ v1.heap.size; omega, (hb0.trans (a1.mono hb0.size)).trans (a2.mono (by omega))⟩
    · refine CallP.same (block_spec _) ⟨?_, ?_, trivial⟩
      · refine Mk.to 64 64 rfl rfl (Nat.le_refl _) (by omega) rfl fun v1 p1 a1 s1 => ⟨?_, trivial⟩
        refine Mk.to 64 64 rfl rfl (Nat.le_refl _) (by omega) rfl fun v2 p2 a2 s2 => ?_
        exact ⟨(v.heap.size, v1.heap.size), ⟨rfl, rfl, trivial⟩, p1.below a2, p2, by show v.heap.size ≠ v1.heap.size; omega, by show _ ≤ v.heap.size; omega, by show _ ≤ v1.heap.size; omega, (hb0.trans (a1.mono hb0.size)).trans (a2.mono (by omega))⟩
      · refine Mk.to 64 64 rfl rfl (Nat.le_refl _) (by omega) rfl fun v1 p1 a1 s1 => ⟨?_, trivial⟩
        refine Mk.to 64 64 rfl rfl (Nat.le_refl _) (by omega) rfl fun v2 p2 a2 s2 => ?_
        exact ⟨(v1.heap.size, v.heap.size), ⟨rfl, rfl, trivial⟩, p2, p1.below a2, by show v1.heap.size ≠ v.heap.size; omega, by show _ ≤ v1.heap.size; omega, by show _ ≤ v.heap.size; omega, (hb0.trans (a1.mono hb0.size)).trans (a2.mono (by omega))⟩
  rintro ⟨ib, ob⟩ j w1 ⟨g1, g2, g3, g4, g5, g6⟩
  simp only at g1 g2 g3 g4 g5
  have hr1 := hr0.below g6
  have hk1 := hk0.below g6
  have hz1 := hz0.below g6 hl0
  have hmin : (min l 64) * 1 = key.length := by omega
  have hoff0 : ∀ p, a = some p → p.block < w0.heap.size ∨ key = [] := by
    intro p hp
    rcases Nat.eq_zero_or_pos key.length with h0 | h0
    · exact .inr (List.eq_nil_of_length_eq_zero h0)
    · obtain ⟨b', o', e1, e2⟩ := hr0 0 h0
      rw [hp] at e1; cases e1
      exact .inl (cell_lt e2)
  have hsp : (List.replicate 64 (0 : Int)).take 0 ++ key ++ (List.replicate 64 (0 : Int)).drop (0 + key.length) = padK key := by
    rw [List.take_zero, List.nil_append, Nat.zero_add, List.drop_replicate]; rfl
  refine RdP.row' hr1 hmin ?_
  refine StsP.buf (ys := key) 0 g1 (by simp; omega) fun w2 p2 c2 s2 => ?_
  rw [hsp] at p2
  have c2 : Chg w1.heap.size (fun k => k = ib) w1 w2 := c2
  have hr2 : Row w2 a .u8 key := by
    rcases Nat.eq_zero_or_pos key.length with h0 | h0
    · rw [List.eq_nil_of_length_eq_zero h0]; exact Row.nil _ _ _
    · exact hr1.chg c2 (fun p hp => by rcases hoff0 p hp with h | h; omega; rw [h] at h0; simp at h0)
  have q2 := g2.chg c2 g2.lt (fun e => g3 e.symm)
  refine RdP.row' hr2 hmin ?_
  refine StsP.buf (ys := key) 0 q2 (by simp; omega) fun w3 q3 c3 s3 => ?_
  rw [hsp] at q3
  have c3 : Chg w2.heap.size (fun k => k = ob) w2 w3 := c3
  have p3 := p2.chg c3 p2.lt g3
  have hb3 : Below w0.heap.size w0 w3 := Chg.below (((Chg.of_below (s := fun _ => False) g6).thenC c2 g6.size (fun k hk e => absurd e (by omega))).thenC c3 (Nat.le_trans g6.size c2.size) (fun k hk e => absurd e (by omega)))
  have hpk : (padK key).length = 64 := by simp [padK]; omega
  generalize hP : padK key = P at *
  refine LoopP.go (S := Nat) 281470681743488 (by kernel_rfl) (fun i => [(32, .int .i64 i)])
    (fun i W => i ≤ 64 ∧ Buf .u8 5 W ib (mapTo (fun x => Go.bits .xor .u8 x 54) P i) 64 ∧ Buf .u8 5 W ob (mapTo (fun x => Go.bits .xor .u8 x 92) P i) 64 ∧ Below w0.heap.size w0 W) (fun i => 64 - i) 0 ⟨rfl, trivial⟩
    ⟨by omega, by simpa [mapTo] using p3, by simpa [mapTo] using q3, hb3⟩ ?_
  rintro i j' W ⟨hi, k1, k2, k3⟩
  refine IfP.dec (fun hlt => ?_) (fun hge => ?_)
  · have hlt' : i < 64 := by omega
    have l1 := mapTo_length (fun x => Go.bits .xor .u8 x 54) P i
    have l2 := mapTo_length (fun x => Go.bits .xor .u8 x 92) P i
    refine IdxP.ld i rfl k1.row (by omega) hlt' fun b o e => ?_
    refine IdxP.toBuf i rfl k1 hlt' (by omega) fun W1 m1 d1 _ => ?_
    have d1 : Chg W.heap.size (fun k => k = ib) W W1 := d1
    rw [mapTo_get _ _ (by omega), mapTo_succ _ _ (by omega)] at m1
    have m2 := k2.chg d1 k2.lt (fun e => g3 e.symm)
    refine IdxP.ld i rfl m2.row (by omega) hlt' fun b o e => ?_
    refine IdxP.toBuf i rfl m2 hlt' (by omega) fun W2 n2 d2 _ => ?_
    have d2 : Chg W1.heap.size (fun k => k = ob) W1 W2 := d2
    rw [mapTo_get _ _ (by omega), mapTo_succ _ _ (by omega)] at n2
    have n1 := m1.chg d2 m1.lt g3
    have hnext : IntKind.i64.wrap ((i : Int) + 1) = ((i + 1 : Nat) : Int) := by rw [show (i : Int) + 1 = ((i + 1 : Nat) : Int) by omega]; exact i64_of _ (by omega)
    refine ⟨rfl, i + 1, ⟨⟨congrArg (Value.int .i64) hnext, trivial⟩, by omega, n1, n2, ?_⟩, by omega⟩
    exact Chg.below (((Chg.of_below (s := fun _ => False) k3).thenC d1 k3.size (fun k hk e => absurd e (by omega))).thenC d2 (Nat.le_trans k3.size d1.size) (fun k hk e => absurd e (by omega)))
  · have hi64 : i = 64 := by omega
    subst hi64
    have hm : ∀ f, mapTo f P 64 = P.map f := by intro f; rw [← hpk]; exact mapTo_all f P
    rw [hm] at k1 k2
    have e1 : P.map (fun x => Go.bits .xor .u8 x 54) = xorK 54 key := by unfold xorK; rw [hP]
    have e2 : P.map (fun x => Go.bits .xor .u8 x 92) = xorK 92 key := by unfold xorK; rw [hP]
    rw [e1] at k1; rw [e2] at k2
    have lx : ∀ c, (xorK c key).length = 64 := by intro c; unfold xorK; rw [hP]; simp [hpk]
    have hzW := hz0.below k3 hl0
    have hkW := hk0.below k3
    have hibW := k1.lt
    have hobW := k2.lt
    refine CallP.intro (new_spec _) ?_
    rintro e w4 ⟨h1, rfl, a1, a2, a3⟩
    refine ⟨_, rfl, ?_⟩
    refine CallP.intro (new_spec _) ?_
    rintro e w5 ⟨h2, rfl, b1, b2, b3⟩
    refine ⟨_, rfl, ?_⟩
    have hB4 : Below w0.heap.size w0 w4 := k3.trans (a3.mono k3.size)
    have hB5 : Below w0.heap.size w0 w5 := hB4.trans (b3.mono hB4.size)
    have hA : HAt w5 h1 (start, [], 0) none := ⟨none, 0, 0, a2.belowS b3, OwnS.nil _, by decide, by simp⟩
    have hBt : HAt w5 h2 (start, [], 0) none := ⟨none, 0, 0, b2, OwnS.nil _, by decide, by simp⟩
    have h1l := a2.lt
    have h2l := b2.lt
    have sz4 := a3.size
    have sz5 := b3.size
    have m1 := (k1.below a3).below b3
    have m2 := (k2.below a3).below b3
    have hk5 := (hkW.below a3).below b3
    have hz5 := (hzW.belowS a3).belowS b3
    have hkl3 : 3 < w0.heap.size := by obtain ⟨b, o, h1, h2⟩ := hk0 0 (by omega); cases h1; exact cell_lt h2
    have hsW := k3.size
    refine ChkP.go rfl ?_
    have hA6 : Below w5.heap.size w5 (w5.alloc (.cells inf78.zero.cells 78)) := (Below.refl _ _).alloc (Nat.le_refl _) _
    refine StsP.to (Blk.newA w5 inf78.zero.cells 78) ?_ rfl fun w6 x6 c6 _ => ?_
    · intro v hv
      have : v = .pointer (some ⟨h1, 0, none⟩) ∨ v = .pointer (some ⟨h2, 0, none⟩) := by simpa [Value.cells] using hv
      rcases this with rfl | rfl <;> rfl
    have x6 : Blk w6 w5.heap.size [.pointer (some ⟨h1, 0, none⟩), .pointer (some ⟨h2, 0, none⟩)] 78 := x6
    have hx6l := x6.lt
    have hB6 : Below w5.heap.size w5 w6 := Chg.below ((Chg.of_below hA6).thenC c6 hA6.size (fun k hk e => by have : k = w5.heap.size := e; omega))
    refine LdPt.go (x6.cell 0) ?_
    have hA6 := hA.below hB6
    have hB6' := hBt.below hB6
    refine CallP.intro (write_spec hA6 (m1.row.below hB6) (lx 54).symm (by show 0 + 64 ≤ _; omega) (by intro _ p hp; cases hp; exact ⟨by show ib ≠ h1; omega, by simp⟩) (hk5.below hB6) hkl (by omega) (by simp)) ?_
    rintro e w7 ⟨rfl, o1, f1, f2, f3⟩
    refine ⟨_, rfl, ?_⟩
    have f3 : Chg w6.heap.size (fun k => k = h1) w6 w7 := f3.mono (Nat.le_refl _) (fun k _ h => by rcases h with h | h; exact h; cases h)
    have sz7 := f3.size
    have x7 := x6.chg f3 x6.lt (by omega)
    refine LdPt.go (x7.cell 1) ?_
    have hB7 := hB6'.chg f3 hB6'.lt (by simp) (by omega) (by simp)
    have hkk7 := (hk5.below hB6).chg f3 (by intro p hp; cases hp; show ¬ (3 = h1); omega)
    have mm7 := (m2.row.below hB6).chg f3 (by intro p hp; cases hp; show ¬ (ob = h1); omega)
    refine CallP.intro (write_spec hB7 mm7 (lx 92).symm (by show 0 + 64 ≤ _; omega) (by intro _ p hp; cases hp; exact ⟨by show ob ≠ h2; omega, by simp⟩) hkk7 hkl (by omega) (by simp)) ?_
    rintro e w8 ⟨rfl, o2, f4, f5, f6⟩
    refine ⟨_, rfl, ?_⟩
    have f6 : Chg w7.heap.size (fun k => k = h2) w7 w8 := f6.mono (Nat.le_refl _) (fun k _ h => by rcases h with h | h; exact h; cases h)
    have x8 := x7.chg f6 x7.lt (by omega)
    have f1' := f1.chg f6 f1.lt f1.wlt (by omega) (fun b hb => by have := f2 b hb; omega)
    refine LdAgg.go (o := 0) (n := 2) x8 (Nat.le_refl 2) ?_
    refine ChkP.go rfl ?_
    have hB06 : Below w0.heap.size w0 w6 := hB5.trans (hB6.mono hB5.size)
    have hB08 : Below w0.heap.size w0 w8 := Chg.below (((Chg.of_below (s := fun _ => False) hB06).thenC f3 hB06.size (fun k hk e => absurd e (by omega))).thenC f6 (by omega) (fun k hk e => absurd e (by omega)))
    have hz8 := hz0.below hB08 hl0
    refine StsP.to hz8 ?_ rfl fun w9 x9 c9 _ => ?_
    · intro v hv
      have : v = .pointer (some ⟨h1, 0, none⟩) ∨ v = .pointer (some ⟨h2, 0, none⟩) := by simpa [Value.cells] using hv
      rcases this with rfl | rfl <;> rfl
    have c9 : Chg w8.heap.size (fun k => k = w.heap.size) w8 w9 := c9
    have x9 : Blk w9 w.heap.size [.pointer (some ⟨h1, 0, none⟩), .pointer (some ⟨h2, 0, none⟩)] 78 := x9
    refine ⟨rfl, LdAgg.go (o := 0) (n := 2) x9 (Nat.le_refl 2) ⟨h1, h2, o1, o2, rfl, ?_, ?_, ?_⟩⟩
    · have := f1'.chg c9 f1'.lt f1'.wlt (by omega) (fun b hb => by have := f2 b hb; omega)
      unfold HAt keyS feed
      rw [lx]
      exact this
    · have := f4.chg c9 f4.lt f4.wlt (by omega) (fun b hb => by have := f5 b hb; omega)
      unfold HAt keyS feed
      rw [lx]
      exact this
    · exact Chg.below (((Chg.of_below (s := fun _ => False) hA0).thenB hB08 hA0.size).thenC c9 (by have := hB08.size; omega) (fun k hk e => absurd e (by omega)))
end Go.Proofs.YthghiokcinpnlaaDoor
