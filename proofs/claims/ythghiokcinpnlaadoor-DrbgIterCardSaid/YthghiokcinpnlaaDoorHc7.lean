import Derived.Test.YthghiokcinpnlaaDoorHc6
namespace Go.Proofs.YthghiokcinpnlaaDoor
open Go Go.Ev Go.RowKit
set_option maxRecDepth 20000
set_option linter.unusedVariables false

/-- a slice of slices of bytes. -/
def Parts (w : World) (pa : Option Addr) (parts : List (List Int)) : Prop :=
  ∀ i (h : i < parts.length), ∃ b o a l c, pa = some ⟨b, o, none⟩ ∧ w.cell? ⟨b, o + i, none⟩ = some (.slice a l c) ∧ Row w a .u8 parts[i] ∧ l = parts[i].length ∧ l ≤ 100000000
theorem Parts.below {w w' : World} {pa : Option Addr} {parts : List (List Int)} (h : Parts w pa parts) (hb : Below w.heap.size w w') : Parts w' pa parts := fun i hi => by
  obtain ⟨b, o, a, l, c, h1, h2, h3, h4, h5⟩ := h i hi
  exact ⟨b, o, a, l, c, h1, (hb.cell (cell_lt h2)).trans h2, h3.below hb, h4, h5⟩
theorem feed_rest (kt : List Int) (s : HS) (bs : List Int) : (feed kt s bs).2.1.length < 64 := mixR_length _
theorem feeds_rest (kt : List Int) : ∀ (parts : List (List Int)) (s : HS), s.2.1.length < 64 → (parts.foldl (feed kt) s).2.1.length < 64
  | [], _, h => h
  | p :: r, s, _ => feeds_rest kt r _ (feed_rest kt s p)

theorem of_spec {kt : List Int} {s1 s2 : HS} {parts : List (List Int)} {h1 h2 : Nat} {o1 o2 : Option Nat} {pa : Option Addr} {pl pc : Nat} {w : World} (hA : HAt w h1 s1 o1) (hB : HAt w h2 s2 o2) (hs1 : s1.2.1.length < 64) (hs2 : s2.2.1.length < 64)
    (hp : Parts w pa parts) (hpl : pl = parts.length) (hp9 : pl ≤ 1000) (hk : Row w (some ⟨3, 0, none⟩) .u64 kt) (hkl : kt.length = 80) :
    Calls Tryd.prog 48 #[.agg #[.pointer (some ⟨h1, 0, none⟩), .pointer (some ⟨h2, 0, none⟩)], .slice pa pl pc] w fun e w' => ∃ a' c' o', e = .returned (.slice a' 32 c') ∧
      OwnS .u8 5 w' a' 32 c' (hsum kt (feed kt s2 (hsum kt (parts.foldl (feed kt) s1)))) o' ∧ (∀ k, o' = some k → w.heap.size ≤ k) ∧ Below w.heap.size w w' := by
  refine calls_of_ev tysOk extsOk Tryd.func48 rfl rfl rfl ?_
  have hx := Blk.new w [.pointer (some ⟨h1, 0, none⟩), .pointer (some ⟨h2, 0, none⟩)] 78
  have hX : Below w.heap.size w (w.alloc (.cells [.pointer (some ⟨h1, 0, none⟩), .pointer (some ⟨h2, 0, none⟩)].toArray 78)) := (Below.refl _ _).alloc (Nat.le_refl _) _
  have hkl3 : 3 < w.heap.size := by obtain ⟨b, o, h1, h2⟩ := hk 0 (by omega); cases h1; exact cell_lt h2
  have hl0 : w.heap.size < (w.alloc (.cells [.pointer (some ⟨h1, 0, none⟩), .pointer (some ⟨h2, 0, none⟩)].toArray 78)).heap.size := by rw [size_alloc]; omega
  refine DrawP.any tysOk extsOk mixed (.take 0 (.take 3 (.alt 1 (.alt 2 (.alt 4 (.alt 5 (.take 6 (.take 7 (.done))) (.done)) (.done)) (.alt 4 (.alt 2 (.alt 5 (.take 6 (.take 7 (.done))) (.done)) (.done)) (.done))) (.alt 4 (.alt 1 (.alt 2 (.alt 5 (.take 6 (.take 7 (.done))) (.done)) (.done)) (.done)) (.done))))) 32352 (by kernel_rfl) (by kernel_rfl)
    (S := Nat × Option Nat × Nat × Option Nat) (fun s => [(5, .pointer (some ⟨s.1, 0, none⟩)), (6, .pointer (some ⟨s.2.2.1, 0, none⟩))])
    (fun s w' => HAt w' s.1 s1 s.2.1 ∧ HAt w' s.2.2.1 s2 s.2.2.2 ∧ w.heap.size ≤ s.1 ∧ (∀ k, s.2.1 = some k → w.heap.size ≤ k) ∧ w.heap.size ≤ s.2.2.1 ∧ (∀ k, s.2.2.2 = some k → w.heap.size ≤ k) ∧ s.1 ≠ s.2.2.1 ∧ s.2.1 ≠ some s.2.2.1 ∧ s.2.2.2 ≠ some s.1 ∧ (∀ k, s.2.1 = some k → s.2.2.2 ≠ some k) ∧ Below w.heap.size w w') ?_ ?_
  · have hb0 : Below w.heap.size w { (w.alloc (.cells [.pointer (some ⟨h1, 0, none⟩), .pointer (some ⟨h2, 0, none⟩)].toArray 78)) with drawn := (w.alloc (.cells [.pointer (some ⟨h1, 0, none⟩), .pointer (some ⟨h2, 0, none⟩)].toArray 78)).drawn + 1 } := hX.drew
    have hx0 := hx.drw
    have hA0 : HAt _ h1 s1 o1 := hA.below hb0
    have hB0 : HAt _ h2 s2 o2 := hB.below hb0
    show evSch _ _ _ _ _ _ _ ({ (w.alloc (.cells [.pointer (some ⟨h1, 0, none⟩), .pointer (some ⟨h2, 0, none⟩)].toArray 78)) with drawn := (w.alloc (.cells [.pointer (some ⟨h1, 0, none⟩), .pointer (some ⟨h2, 0, none⟩)].toArray 78)).drawn + 1 } : World)
    generalize ({ (w.alloc (.cells [.pointer (some ⟨h1, 0, none⟩), .pointer (some ⟨h2, 0, none⟩)].toArray 78)) with drawn := (w.alloc (.cells [.pointer (some ⟨h1, 0, none⟩), .pointer (some ⟨h2, 0, none⟩)].toArray 78)).drawn + 1 } : World) = v at hb0 hx0 hA0 hB0 ⊢
    have hszv := hb0.size
    have fin : ∀ (ci : Nat) (wi : Option Nat) (u1 : World) (co : Nat) (wo : Option Nat) (u2 : World), HAt u1 ci s1 wi → v.heap.size ≤ ci → (∀ k, wi = some k → v.heap.size ≤ k) → Below v.heap.size v u1 →
        HAt u2 co s2 wo → u1.heap.size ≤ co → (∀ k, wo = some k → u1.heap.size ≤ k) → Below u1.heap.size u1 u2 →
        HAt u2 ci s1 wi ∧ HAt u2 co s2 wo ∧ w.heap.size ≤ ci ∧ (∀ k, wi = some k → w.heap.size ≤ k) ∧ w.heap.size ≤ co ∧ (∀ k, wo = some k → w.heap.size ≤ k) ∧ ci ≠ co ∧ wi ≠ some co ∧ wo ≠ some ci ∧ (∀ k, wi = some k → wo ≠ some k) ∧ Below w.heap.size w u2 := by
      intro ci wi u1 co wo u2 a1 a2 a3 a4 b1 b2 b3 b4
      have l1 := a1.lt
      have l2 := a1.wlt
      have sz1 := a4.size
      refine ⟨a1.below b4, b1, by omega, fun k hk => by have := a3 k hk; omega, by omega, fun k hk => by have := b3 k hk; omega, by omega, fun e => by have := l2 _ e; omega, fun e => by have := b3 _ e; omega, fun k hk e => by have := l2 _ hk; have := b3 _ e; omega, (hb0.trans (a4.mono hszv)).trans (b4.mono (by omega))⟩
    refine ⟨?_, ?_, trivial⟩
    · refine LdPt.go (hx0.cell 0) ⟨?_, ?_, trivial⟩
      · refine CallP.intro (copy_spec hA0 (by omega)) ?_
        rintro e u1 ⟨ci, wi, rfl, a1, a2, a3, a4⟩
        refine ⟨_, rfl, ?_, trivial⟩
        refine LdPt.go ((hx0.belowS a4).cell 1) ⟨?_, trivial⟩
        refine CallP.intro (copy_spec (hB0.below a4) (by omega)) ?_
        rintro e u2 ⟨co, wo, rfl, b1, b2, b3, b4⟩
        exact ⟨_, rfl, (ci, wi, co, wo), ⟨rfl, rfl, trivial⟩, fin ci wi u1 co wo u2 a1 a2 a3 a4 b1 b2 b3 b4⟩
      · refine LdPt.go (hx0.cell 1) ⟨?_, trivial⟩
        refine CallP.intro (copy_spec hA0 (by omega)) ?_
        rintro e u1 ⟨ci, wi, rfl, a1, a2, a3, a4⟩
        refine ⟨_, rfl, ?_, trivial⟩
        refine CallP.intro (copy_spec (hB0.below a4) (by omega)) ?_
        rintro e u2 ⟨co, wo, rfl, b1, b2, b3, b4⟩
        exact ⟨_, rfl, (ci, wi, co, wo), ⟨rfl, rfl, trivial⟩, fin ci wi u1 co wo u2 a1 a2 a3 a4 b1 b2 b3 b4⟩
    · refine LdPt.go (hx0.cell 1) ⟨?_, trivial⟩
      refine LdPt.go (hx0.cell 0) ⟨?_, trivial⟩
      refine CallP.intro (copy_spec hA0 (by omega)) ?_
      rintro e u1 ⟨ci, wi, rfl, a1, a2, a3, a4⟩
      refine ⟨_, rfl, ?_, trivial⟩
      refine CallP.intro (copy_spec (hB0.below a4) (by omega)) ?_
      rintro e u2 ⟨co, wo, rfl, b1, b2, b3, b4⟩
      exact ⟨_, rfl, (ci, wi, co, wo), ⟨rfl, rfl, trivial⟩, fin ci wi u1 co wo u2 a1 a2 a3 a4 b1 b2 b3 b4⟩
  rintro ⟨ci, wi, co, wo⟩ j w1 ⟨g1, g2, g3, g4, g5, g6, g7, g8, g9, g10, g11⟩
  simp only at g1 g2 g3 g4 g5 g6 g7 g8 g9 g10
  refine LoopP.go (S := Nat) 33423616 (by kernel_rfl) (fun i => [(17, .int .i64 i)])
    (fun i W => i ≤ pl ∧ (∃ wi', HAt W ci ((parts.take i).foldl (feed kt) s1) wi' ∧ (∀ k, wi' = some k → w.heap.size ≤ k) ∧ wi' ≠ some co ∧ (∀ k, wi' = some k → wo ≠ some k)) ∧ HAt W co s2 wo ∧ Below w.heap.size w W) (fun i => pl - i) 0 ⟨rfl, trivial⟩
    ⟨by omega, ⟨wi, g1, g4, g8, g10⟩, g2, g11⟩ ?_
  rintro i j' W ⟨k1, ⟨wi', k2, k3, k4, k5⟩, k6, k7⟩
  have hkW := hk.below k7
  refine IfP.dec (fun hlt => ?_) (fun hge => ?_)
  · have hlt' : i < parts.length := by omega
    obtain ⟨b, o, a, l, c, rfl, p2, p3, p4, p5⟩ := hp i hlt'
    have p6 := p3.lt
    refine IdxP.at i rfl (by omega) ?_
    refine LdSl.go (b := a) (l := l) (c := c) ?_ ?_
    rotate_left
    · have hrest := feeds_rest kt (parts.take i) s1 hs1
      refine CallP.intro (write_spec (bs := parts[i]) k2 (p3.below k7) p4 (by omega) (fun h0 p hp' => ⟨by have := p6 h0 p hp'; omega, fun e => by have := p6 h0 p hp'; have := k3 _ e; omega⟩) hkW hkl (by omega) (fun e => by have := k3 _ e; omega)) ?_
      rintro e W1 ⟨rfl, wi2, f1, f2, f3⟩
      refine ⟨_, rfl, ?_⟩
      have hnext : IntKind.i64.wrap ((i : Int) + 1) = ((i + 1 : Nat) : Int) := by rw [show (i : Int) + 1 = ((i + 1 : Nat) : Int) by omega]; exact i64_of _ (by omega)
      have hcoW := k6.lt
      have hwoW := k6.wlt
      refine ⟨rfl, i + 1, ⟨⟨congrArg (Value.int .i64) hnext, trivial⟩, by omega, ⟨wi2, ?_, ?_, ?_, ?_⟩, ?_, ?_⟩, by omega⟩
      · rw [List.take_succ_eq_append_getElem hlt', List.foldl_append]
        show HashAt W1 ci _ _ _ wi2
        simp only [List.foldl_cons, List.foldl_nil, feed]
        rw [← p4]; exact f1
      · intro k hk'; have := f2 k hk'; exact Nat.le_trans k7.size this
      · intro e; have := f2 _ e; omega
      · intro k hk' e; have := f2 _ hk'; have := hwoW _ e; omega
      · exact k6.chg f3 hcoW hwoW (by rintro (e | e); omega; exact k4 e) (fun b hb => by rintro (e | e); exact g9 (by rw [hb, e]); exact k5 _ e hb)
      · exact Chg.below ((Chg.of_below (s := fun _ => False) k7).thenC f3 k7.size (fun k hk e => by rcases e with e | e; omega; have := k3 _ e; omega))
    · show W.cell? ⟨b, o + i * 1, none⟩ = _
      rw [Nat.mul_one]
      exact (k7.cell (cell_lt p2)).trans p2
  · have hi : i = parts.length := by omega
    subst hi
    rw [List.take_length] at k2
    have hr1 := feeds_rest kt parts s1 hs1
    generalize hS : parts.foldl (feed kt) s1 = S at *
    refine CallP.intro (sum_spec k2 hr1 hkW hkl) ?_
    rintro e W1 ⟨a', c', o', rfl, q1, q2, q3⟩
    refine ⟨_, rfl, ?_⟩
    have hcoW := k6.lt
    have hkW1 := hkW.below q3
    have k61 : HAt W1 co s2 wo := k6.below q3
    refine CallP.intro (write_spec (hb := co) (rest := s2.2.1) k61 q1.row q1.len (by omega) (fun _ p hp' => ?_) hkW1 hkl (by omega) (fun e => by have := g6 _ e; omega)) ?_
    · have := q2 _ (q1.at p hp')
      exact ⟨by omega, fun e => by have := k6.wlt _ e; omega⟩
    rintro e W2 ⟨rfl, wo2, f1, f2, f3⟩
    refine ⟨_, rfl, ?_⟩
    have hb1 : Below w.heap.size w W1 := k7.trans (q3.mono k7.size)
    have hb2 : Below w.heap.size w W2 := Chg.below ((Chg.of_below (s := fun _ => False) hb1).thenC f3 hb1.size (fun k hk e => by rcases e with e | e; omega; have := g6 _ e; omega))
    have hkW2 := hk.below hb2
    refine CallP.intro (sum_spec f1 (mixR_length _) hkW2 hkl) ?_
    rintro e W3 ⟨a3, c3, o3, rfl, r1, r2, r3⟩
    refine ⟨_, rfl, rfl, a3, c3, o3, rfl, ?_, fun k hk' => Nat.le_trans hb2.size (r2 k hk'), hb2.trans (r3.mono hb2.size)⟩
    have hl32 : (hsum kt S).length = 32 := by have := q1.len; unfold hsum; omega
    have e1 : hsum kt (feed kt s2 (hsum kt S)) = sumOf kt (mixH kt s2.1 (s2.2.1 ++ sumOf kt S.1 S.2.1 S.2.2)) (mixR (s2.2.1 ++ sumOf kt S.1 S.2.1 S.2.2)) (IntKind.u64.wrap (s2.2.2 + IntKind.u64.wrap (32 : Nat))) := by
      have hl32' : (sumOf kt S.1 S.2.1 S.2.2).length = 32 := hl32
      show sumOf kt _ _ (IntKind.u64.wrap (s2.2.2 + IntKind.u64.wrap ((sumOf kt S.1 S.2.1 S.2.2).length : Nat))) = _
      rw [hl32']; rfl
    rw [e1]; exact r1
theorem hmac_spec {kt key : List Int} {parts : List (List Int)} {a pa : Option Addr} {l c pl pc : Nat} {w : World} (hr : Row w a .u8 key) (hl : l = key.length) (h64 : l ≤ 64)
    (hp : Parts w pa parts) (hpl : pl = parts.length) (hp9 : pl ≤ 1000) (hk : Row w (some ⟨3, 0, none⟩) .u64 kt) (hkl : kt.length = 80) :
    Calls Tryd.prog 29 #[.int .i64 3, .slice a l c, .slice pa pl pc] w fun e w' => ∃ a' c' o', e = .returned (.slice a' 32 c') ∧ OwnS .u8 5 w' a' 32 c' (hmac kt key parts) o' ∧ (∀ k, o' = some k → w.heap.size ≤ k) ∧ Below w.heap.size w w' := by
  refine calls_of_ev tysOk extsOk Tryd.func29 rfl rfl rfl ?_
  refine CallP.same (size_spec _) ?_
  refine IfP.neg rfl ?_
  refine CallP.intro (newKeyed_spec hr hl h64 hk hkl) ?_
  rintro e w1 ⟨h1, h2, o1, o2, rfl, a1, a2, a3⟩
  refine ⟨_, rfl, ?_⟩
  refine CallP.intro (of_spec a1 a2 (feed_rest _ _ _) (feed_rest _ _ _) (hp.below a3) hpl hp9 (hk.below a3) hkl) ?_
  rintro e w2 ⟨a', c', o', rfl, b1, b2, b3⟩
  exact ⟨_, rfl, rfl, a', c', o', rfl, b1, fun k hk => Nat.le_trans a3.size (b2 k hk), a3.trans (b3.mono a3.size)⟩
theorem hmac_length {kt key : List Int} {parts : List (List Int)} : (hmac kt key parts).length = 32 := by unfold hmac hsum sumOf; rw [outTo_length]
end Go.Proofs.YthghiokcinpnlaaDoor
