/- Texts of this proof, one behind the other: Hc7 Dr1 Dr2 Dr3. -/
import Derived.Test.YthneejblcffdgaaGreatDoorPart9
import Derived.Lib.MakeNoZero
namespace Go.Proofs.YthneejblcffdgaaGreatDoor
open Go Go.Ev Go.RowKit
set_option maxRecDepth 20000
set_option linter.unusedVariables false

/-- a slice of slices of bytes. -/
def Parts (w : World) (pa : Option Addr) (parts : List (List Int)) : Prop :=
  ∀ i (h : i < parts.length), ∃ b o a l c, pa = some ⟨b, o, none⟩ ∧ w.cell? ⟨b, o + i, none⟩ = some (.slice a l c) ∧ Row w a .u8 parts[i] ∧ l = parts[i].length ∧ l ≤ 100000000
theorem Parts.below {w w' : World} {pa : Option Addr} {parts : List (List Int)} (h : Parts w pa parts) (hb : Below w.heap.size w w') : Parts w' pa parts := fun i hi => by
  obtain ⟨b, o, a, l, c, h1, h2, h3, h4, h5⟩ := h i hi
  exact ⟨b, o, a, l, c, h1, (hb.cell (cell_lt h2)).trans h2, h3.below hb, h4, h5⟩
theorem feed_rest (kt : List Int) (s : HS) (bs : List Int) : (feed kt s bs).2.1.length < 64 := mixR_length _
theorem feeds_rest (kt : List Int) : ∀ (parts : List (List Int)) (s : HS), s.2.1.length < 64 → (parts.foldl (feed kt) s).2.1.length < 64
  | [], _, h => h
  | p :: r, s, _ => feeds_rest kt r _ (feed_rest kt s p)

theorem of_spec {kt : List Int} {s1 s2 : HS} {parts : List (List Int)} {h1 h2 : Nat} {o1 o2 : Option Nat} {pa : Option Addr} {pl pc : Nat} {w : World} (hA : HAt w h1 s1 o1) (hB : HAt w h2 s2 o2) (hs1 : s1.2.1.length < 64) (hs2 : s2.2.1.length < 64)
    (hp : Parts w pa parts) (hpl : pl = parts.length) (hp9 : pl ≤ 1000) (hk : Row w (some ⟨3, 0, none⟩) .u64 kt) (hkl : kt.length = 80) :
    Calls Tryz.prog 95 #[.agg #[.pointer (some ⟨h1, 0, none⟩), .pointer (some ⟨h2, 0, none⟩)], .slice pa pl pc] w fun e w' => ∃ a' c' o', e = .returned (.slice a' 32 c') ∧
      OwnS .u8 5 w' a' 32 c' (hsum kt (feed kt s2 (hsum kt (parts.foldl (feed kt) s1)))) o' ∧ (∀ k, o' = some k → w.heap.size ≤ k) ∧ Below w.heap.size w w' := by
  refine calls_of_ev tysOk extsOk Tryz.func95 rfl rfl rfl ?_
  have hx := Blk.new w [.pointer (some ⟨h1, 0, none⟩), .pointer (some ⟨h2, 0, none⟩)] 124
  have hX : Below w.heap.size w (w.alloc (.cells [.pointer (some ⟨h1, 0, none⟩), .pointer (some ⟨h2, 0, none⟩)].toArray 124)) := (Below.refl _ _).alloc (Nat.le_refl _) _
  have hkl3 : 3 < w.heap.size := by obtain ⟨b, o, h1, h2⟩ := hk 0 (by omega); cases h1; exact cell_lt h2
  have hl0 : w.heap.size < (w.alloc (.cells [.pointer (some ⟨h1, 0, none⟩), .pointer (some ⟨h2, 0, none⟩)].toArray 124)).heap.size := by rw [size_alloc]; omega
  refine DrawP.any tysOk extsOk mixed (.take 0 (.take 3 (.alt 1 (.alt 2 (.alt 4 (.alt 5 (.take 6 (.take 7 (.done))) (.done)) (.done)) (.alt 4 (.alt 2 (.alt 5 (.take 6 (.take 7 (.done))) (.done)) (.done)) (.done))) (.alt 4 (.alt 1 (.alt 2 (.alt 5 (.take 6 (.take 7 (.done))) (.done)) (.done)) (.done)) (.done))))) 32352 (by kernel_rfl) (by kernel_rfl)
    (S := Nat × Option Nat × Nat × Option Nat) (fun s => [(5, .pointer (some ⟨s.1, 0, none⟩)), (6, .pointer (some ⟨s.2.2.1, 0, none⟩))])
    (fun s w' => HAt w' s.1 s1 s.2.1 ∧ HAt w' s.2.2.1 s2 s.2.2.2 ∧ w.heap.size ≤ s.1 ∧ (∀ k, s.2.1 = some k → w.heap.size ≤ k) ∧ w.heap.size ≤ s.2.2.1 ∧ (∀ k, s.2.2.2 = some k → w.heap.size ≤ k) ∧ s.1 ≠ s.2.2.1 ∧ s.2.1 ≠ some s.2.2.1 ∧ s.2.2.2 ≠ some s.1 ∧ (∀ k, s.2.1 = some k → s.2.2.2 ≠ some k) ∧ Below w.heap.size w w') ?_ ?_
  · have hb0 : Below w.heap.size w { (w.alloc (.cells [.pointer (some ⟨h1, 0, none⟩), .pointer (some ⟨h2, 0, none⟩)].toArray 124)) with drawn := (w.alloc (.cells [.pointer (some ⟨h1, 0, none⟩), .pointer (some ⟨h2, 0, none⟩)].toArray 124)).drawn + 1 } := hX.drew
    have hx0 := hx.drw
    have hA0 : HAt _ h1 s1 o1 := hA.below hb0
    have hB0 : HAt _ h2 s2 o2 := hB.below hb0
    show evSch _ _ _ _ _ _ _ ({ (w.alloc (.cells [.pointer (some ⟨h1, 0, none⟩), .pointer (some ⟨h2, 0, none⟩)].toArray 124)) with drawn := (w.alloc (.cells [.pointer (some ⟨h1, 0, none⟩), .pointer (some ⟨h2, 0, none⟩)].toArray 124)).drawn + 1 } : World)
    generalize ({ (w.alloc (.cells [.pointer (some ⟨h1, 0, none⟩), .pointer (some ⟨h2, 0, none⟩)].toArray 124)) with drawn := (w.alloc (.cells [.pointer (some ⟨h1, 0, none⟩), .pointer (some ⟨h2, 0, none⟩)].toArray 124)).drawn + 1 } : World) = v at hb0 hx0 hA0 hB0 ⊢
    have hszv := hb0.size
    have fin : ∀ (ci : Nat) (wi : Option Nat) (u1 : World) (co : Nat) (wo : Option Nat) (u2 : World), HAt u1 ci s1 wi → v.heap.size ≤ ci → (∀ k, wi = some k → v.heap.size ≤ k) → Below v.heap.size v u1 →
        HAt u2 co s2 wo → u1.heap.size ≤ co → (∀ k, wo = some k → u1.heap.size ≤ k) → Below u1.heap.size u1 u2 →
        HAt u2 ci s1 wi ∧ HAt u2 co s2 wo ∧ w.heap.size ≤ ci ∧ (∀ k, wi = some k → w.heap.size ≤ k) ∧ w.heap.size ≤ co ∧ (∀ k, wo = some k → w.heap.size ≤ k) ∧ ci ≠ co ∧ wi ≠ some co ∧ wo ≠ some ci ∧ (∀ k, wi = some k → wo ≠ some k) ∧ Below w.heap.size w u2 := by
      intro ci wi u1 co wo u2 a1 a2 a3 a4 b1 b2 b3 b4
      have l1 := a1.lt
      have l2 := a1.wlt
      have sz1 := a4.size
      refine ⟨a1.below b4, b1, by omega, fun k hk => by have := a3 k hk; omega, by omega, fun k hk => by have := b3 k hk; omega, by omega, fun e => by have := l2 _ e; omega, fun e => by have := b3 _ e; omega, fun k hk e => by have := l2 _ hk; have := b3 _ e; omega, (hb0.trans (a4.mono hszv)).trans (b4.mono (by omega))⟩
    refine ⟨?_, ?_, trivial⟩
    · refine LdPt.go (hx0.cell 0) ⟨?_, ?_, trivial⟩
      · refine CallP.intro (copy_spec hA0 (by omega)) ?_
        rintro e u1 ⟨ci, wi, rfl, a1, a2, a3, a4⟩
        refine ⟨_, rfl, ?_, trivial⟩
        refine LdPt.go ((hx0.belowS a4).cell 1) ⟨?_, trivial⟩
        refine CallP.intro (copy_spec (hB0.below a4) (by omega)) ?_
        rintro e u2 ⟨co, wo, rfl, b1, b2, b3, b4⟩
        exact ⟨_, rfl, (ci, wi, co, wo), ⟨rfl, rfl, trivial⟩, fin ci wi u1 co wo u2 a1 a2 a3 a4 b1 b2 b3 b4⟩
      · refine LdPt.go (hx0.cell 1) ⟨?_, trivial⟩
        refine CallP.intro (copy_spec hA0 (by omega)) ?_
        rintro e u1 ⟨ci, wi, rfl, a1, a2, a3, a4⟩
        refine ⟨_, rfl, ?_, trivial⟩
        refine CallP.intro (copy_spec (hB0.below a4) (by omega)) ?_
        rintro e u2 ⟨co, wo, rfl, b1, b2, b3, b4⟩
        exact ⟨_, rfl, (ci, wi, co, wo), ⟨rfl, rfl, trivial⟩, fin ci wi u1 co wo u2 a1 a2 a3 a4 b1 b2 b3 b4⟩
    · refine LdPt.go (hx0.cell 1) ⟨?_, trivial⟩
      refine LdPt.go (hx0.cell 0) ⟨?_, trivial⟩
      refine CallP.intro (copy_spec hA0 (by omega)) ?_
      rintro e u1 ⟨ci, wi, rfl, a1, a2, a3, a4⟩
      refine ⟨_, rfl, ?_, trivial⟩
      refine CallP.intro (copy_spec (hB0.below a4) (by omega)) ?_
      rintro e u2 ⟨co, wo, rfl, b1, b2, b3, b4⟩
      exact ⟨_, rfl, (ci, wi, co, wo), ⟨rfl, rfl, trivial⟩, fin ci wi u1 co wo u2 a1 a2 a3 a4 b1 b2 b3 b4⟩
  rintro ⟨ci, wi, co, wo⟩ j w1 ⟨g1, g2, g3, g4, g5, g6, g7, g8, g9, g10, g11⟩
  simp only at g1 g2 g3 g4 g5 g6 g7 g8 g9 g10
  refine LoopP.go (S := Nat) 33423616 (by kernel_rfl) (fun i => [(17, .int .i64 i)])
    (fun i W => i ≤ pl ∧ (∃ wi', HAt W ci ((parts.take i).foldl (feed kt) s1) wi' ∧ (∀ k, wi' = some k → w.heap.size ≤ k) ∧ wi' ≠ some co ∧ (∀ k, wi' = some k → wo ≠ some k)) ∧ HAt W co s2 wo ∧ Below w.heap.size w W) (fun i => pl - i) 0 ⟨rfl, trivial⟩
    ⟨by omega, ⟨wi, g1, g4, g8, g10⟩, g2, g11⟩ ?_
  rintro i j' W ⟨k1, ⟨wi', k2, k3, k4, k5⟩, k6, k7⟩
  have hkW := hk.below k7
  refine IfP.dec (fun hlt => ?_) (fun hge => ?_)
  · have hlt' : i < parts.length := by omega
    obtain ⟨b, o, a, l, c, rfl, p2, p3, p4, p5⟩ := hp i hlt'
    have p6 := p3.lt
    refine IdxP.at i rfl (by omega) ?_
    refine LdSl.go (b := a) (l := l) (c := c) ?_ ?_
    rotate_left
    · have hrest := feeds_rest kt (parts.take i) s1 hs1
      refine CallP.intro (write_spec (bs := parts[i]) k2 (p3.below k7) p4 (by omega) (fun h0 p hp' => ⟨by have := p6 h0 p hp'; omega, fun e => by have := p6 h0 p hp'; have := k3 _ e; omega⟩) hkW hkl (by omega) (fun e => by have := k3 _ e; omega)) ?_
      rintro e W1 ⟨rfl, wi2, f1, f2, f3⟩
      refine ⟨_, rfl, ?_⟩
      have hnext : IntKind.i64.wrap ((i : Int) + 1) = ((i + 1 : Nat) : Int) := by rw [show (i : Int) + 1 = ((i + 1 : Nat) : Int) by omega]; exact i64_of _ (by omega)
      have hcoW := k6.lt
      have hwoW := k6.wlt
      refine ⟨rfl, i + 1, ⟨⟨congrArg (Value.int .i64) hnext, trivial⟩, by omega, ⟨wi2, ?_, ?_, ?_, ?_⟩, ?_, ?_⟩, by omega⟩
      · rw [List.take_succ_eq_append_getElem hlt', List.foldl_append]
        show HashAt W1 ci _ _ _ wi2
        simp only [List.foldl_cons, List.foldl_nil, feed]
        rw [← p4]; exact f1
      · intro k hk'; have := f2 k hk'; exact Nat.le_trans k7.size this
      · intro e; have := f2 _ e; omega
      · intro k hk' e; have := f2 _ hk'; have := hwoW _ e; omega
      · exact k6.chg f3 hcoW hwoW (by rintro (e | e); omega; exact k4 e) (fun b hb => by rintro (e | e); exact g9 (by rw [hb, e]); exact k5 _ e hb)
      · exact Chg.below ((Chg.of_below (s := fun _ => False) k7).thenC f3 k7.size (fun k hk e => by rcases e with e | e; omega; have := k3 _ e; omega))
    · show W.cell? ⟨b, o + i * 1, none⟩ = _
      rw [Nat.mul_one]
      exact (k7.cell (cell_lt p2)).trans p2
  · have hi : i = parts.length := by omega
    subst hi
    rw [List.take_length] at k2
    have hr1 := feeds_rest kt parts s1 hs1
    generalize hS : parts.foldl (feed kt) s1 = S at *
    refine CallP.intro (sum_spec k2 hr1 hkW hkl) ?_
    rintro e W1 ⟨a', c', o', rfl, q1, q2, q3⟩
    refine ⟨_, rfl, ?_⟩
    have hcoW := k6.lt
    have hkW1 := hkW.below q3
    have k61 : HAt W1 co s2 wo := k6.below q3
    refine CallP.intro (write_spec (hb := co) (rest := s2.2.1) k61 q1.row q1.len (by omega) (fun _ p hp' => ?_) hkW1 hkl (by omega) (fun e => by have := g6 _ e; omega)) ?_
    · have := q2 _ (q1.at p hp')
      exact ⟨by omega, fun e => by have := k6.wlt _ e; omega⟩
    rintro e W2 ⟨rfl, wo2, f1, f2, f3⟩
    refine ⟨_, rfl, ?_⟩
    have hb1 : Below w.heap.size w W1 := k7.trans (q3.mono k7.size)
    have hb2 : Below w.heap.size w W2 := Chg.below ((Chg.of_below (s := fun _ => False) hb1).thenC f3 hb1.size (fun k hk e => by rcases e with e | e; omega; have := g6 _ e; omega))
    have hkW2 := hk.below hb2
    refine CallP.intro (sum_spec f1 (mixR_length _) hkW2 hkl) ?_
    rintro e W3 ⟨a3, c3, o3, rfl, r1, r2, r3⟩
    refine ⟨_, rfl, rfl, a3, c3, o3, rfl, ?_, fun k hk' => Nat.le_trans hb2.size (r2 k hk'), hb2.trans (r3.mono hb2.size)⟩
    have hl32 : (hsum kt S).length = 32 := by have := q1.len; unfold hsum; omega
    have e1 : hsum kt (feed kt s2 (hsum kt S)) = sumOf kt (mixH kt s2.1 (s2.2.1 ++ sumOf kt S.1 S.2.1 S.2.2)) (mixR (s2.2.1 ++ sumOf kt S.1 S.2.1 S.2.2)) (IntKind.u64.wrap (s2.2.2 + IntKind.u64.wrap (32 : Nat))) := by
      have hl32' : (sumOf kt S.1 S.2.1 S.2.2).length = 32 := hl32
      show sumOf kt _ _ (IntKind.u64.wrap (s2.2.2 + IntKind.u64.wrap ((sumOf kt S.1 S.2.1 S.2.2).length : Nat))) = _
      rw [hl32']; rfl
    rw [e1]; exact r1
theorem hmac_spec {kt key : List Int} {parts : List (List Int)} {a pa : Option Addr} {l c pl pc : Nat} {w : World} (hr : Row w a .u8 key) (hl : l = key.length) (h64 : l ≤ 64)
    (hp : Parts w pa parts) (hpl : pl = parts.length) (hp9 : pl ≤ 1000) (hk : Row w (some ⟨3, 0, none⟩) .u64 kt) (hkl : kt.length = 80) :
    Calls Tryz.prog 85 #[.int .i64 3, .slice a l c, .slice pa pl pc] w fun e w' => ∃ a' c' o', e = .returned (.slice a' 32 c') ∧ OwnS .u8 5 w' a' 32 c' (hmac kt key parts) o' ∧ (∀ k, o' = some k → w.heap.size ≤ k) ∧ Below w.heap.size w w' := by
  refine calls_of_ev tysOk extsOk Tryz.func85 rfl rfl rfl ?_
  refine CallP.same (size_spec _) ?_
  refine IfP.neg rfl ?_
  refine CallP.intro (newKeyed_spec hr hl h64 hk hkl) ?_
  rintro e w1 ⟨h1, h2, o1, o2, rfl, a1, a2, a3⟩
  refine ⟨_, rfl, ?_⟩
  refine CallP.intro (of_spec a1 a2 (feed_rest _ _ _) (feed_rest _ _ _) (hp.below a3) hpl hp9 (hk.below a3) hkl) ?_
  rintro e w2 ⟨a', c', o', rfl, b1, b2, b3⟩
  exact ⟨_, rfl, rfl, a', c', o', rfl, b1, fun k hk => Nat.le_trans a3.size (b2 k hk), a3.trans (b3.mono a3.size)⟩
theorem hmac_length {kt key : List Int} {parts : List (List Int)} : (hmac kt key parts).length = 32 := by unfold hmac hsum sumOf; rw [outTo_length]
end Go.Proofs.YthneejblcffdgaaGreatDoor

namespace Go.Proofs.YthneejblcffdgaaGreatDoor
open Go Go.Ev Go.RowKit
set_option maxRecDepth 20000
set_option linter.unusedVariables false

/-! ### the generator -/
/-- a state: key, value, count. -/
def DAt (w : World) (db : Nat) (K V : List Int) (n : Int) : Prop :=
  ∃ ka kc va vc, Blk w db [.slice ka 32 kc, .slice va 32 vc, .int .i64 n] 68 ∧ Row w ka .u8 K ∧ Row w va .u8 V ∧ K.length = 32 ∧ V.length = 32 ∧ (∀ p, ka = some p → p.block ≠ db ∧ p.block < w.heap.size) ∧ (∀ p, va = some p → p.block ≠ db ∧ p.block < w.heap.size)
theorem DAt.lt {w : World} {db : Nat} {K V : List Int} {n : Int} (h : DAt w db K V n) : db < w.heap.size := by obtain ⟨ka, kc, va, vc, h, _⟩ := h; exact h.lt
theorem DAt.below {w w' : World} {db : Nat} {K V : List Int} {n : Int} (h : DAt w db K V n) (hb : Below w.heap.size w w') : DAt w' db K V n := by
  obtain ⟨ka, kc, va, vc, h1, h2, h3, h4, h5, h6, h7⟩ := h
  exact ⟨ka, kc, va, vc, h1.belowS hb, h2.below hb, h3.below hb, h4, h5, fun p hp => ⟨(h6 p hp).1, Nat.lt_of_lt_of_le (h6 p hp).2 hb.size⟩, fun p hp => ⟨(h7 p hp).1, Nat.lt_of_lt_of_le (h7 p hp).2 hb.size⟩⟩

theorem DAt.row_off {w : World} {db : Nat} {K V xs : List Int} {n : Int} {a : Option Addr} (h : DAt w db K V n) (hr : Row w a .u8 xs) (hx : 0 < xs.length) : ∀ p, a = some p → p.block ≠ db := by
  obtain ⟨ka, kc, va, vc, h1, _⟩ := h
  obtain ⟨b, o, e1, e2⟩ := hr 0 hx
  intro p hp
  rw [hp] at e1
  cases e1
  intro e
  have e : b = db := e
  subst e
  rw [h1.cell] at e2
  rcases o with _ | _ | _ | o
  · cases e2
  · cases e2
  · cases e2
  · cases e2
theorem DAt.ldV {w : World} {db : Nat} {K V : List Int} {n : Int} {k : Option Addr → Nat → Nat → Prop} (h : DAt w db K V n) (hk : ∀ a c, Row w a .u8 V → V.length = 32 → (∀ p, a = some p → p.block ≠ db ∧ p.block < w.heap.size) → k a 32 c) : LdSl ⟨db, 1, none⟩ k w := by
  obtain ⟨ka, kc, va, vc, h1, h2, h3, h4, h5, h6, h7⟩ := h
  exact LdSl.go (h1.cell 1) (hk va vc h3 h5 h7)
theorem DAt.stK {w : World} {db : Nat} {K V K' : List Int} {n : Int} {a : Option Addr} {c : Nat} {o : Option Nat} {k : World → Prop} (h : DAt w db K V n) (hO : OwnS .u8 5 w a 32 c K' o) (ho : o ≠ some db)
    (hk : ∀ w', DAt w' db K' V n → Chg w.heap.size (fun k => k = db) w w' → k w') : StP ⟨db, 0, none⟩ (.slice a 32 c) k w := by
  obtain ⟨ka, kc, va, vc, h1, h2, h3, h4, h5, h6, h7⟩ := h
  refine StP.to 0 h1 rfl (Nat.succ_pos _) fun w' g1 g2 g3 => hk w' ⟨a, c, va, vc, g1, ?_, ?_, hO.len.symm, h5, ?_, ?_⟩ g2
  · exact hO.row.chg g2 (fun p hp e => ho (by rw [hO.at p hp]; exact congrArg some e))
  · exact h3.chg g2 (fun p hp => (h7 p hp).1)
  · intro p hp
    have := hO.at p hp
    exact ⟨fun e => ho (by rw [this, e]), by rw [g3]; exact hO.lt _ this⟩
  · intro p hp; rw [g3]; exact h7 p hp
theorem DAt.stV {w : World} {db : Nat} {K V V' : List Int} {n : Int} {a : Option Addr} {c : Nat} {o : Option Nat} {k : World → Prop} (h : DAt w db K V n) (hO : OwnS .u8 5 w a 32 c V' o) (ho : o ≠ some db)
    (hk : ∀ w', DAt w' db K V' n → Chg w.heap.size (fun k => k = db) w w' → k w') : StP ⟨db, 1, none⟩ (.slice a 32 c) k w := by
  obtain ⟨ka, kc, va, vc, h1, h2, h3, h4, h5, h6, h7⟩ := h
  refine StP.to 1 h1 rfl (Nat.succ_lt_succ (Nat.succ_pos _)) fun w' g1 g2 g3 => hk w' ⟨ka, kc, a, c, g1, ?_, ?_, h4, hO.len.symm, ?_, ?_⟩ g2
  · exact h2.chg g2 (fun p hp => (h6 p hp).1)
  · exact hO.row.chg g2 (fun p hp e => ho (by rw [hO.at p hp]; exact congrArg some e))
  · intro p hp; rw [g3]; exact h6 p hp
  · intro p hp
    have := hO.at p hp
    exact ⟨fun e => ho (by rw [this, e]), by rw [g3]; exact hO.lt _ this⟩

theorem mac_spec {kt K V : List Int} {n : Int} {parts : List (List Int)} {db : Nat} {pa : Option Addr} {pl pc : Nat} {w : World} (hd : DAt w db K V n)
    (hp : Parts w pa parts) (hpl : pl = parts.length) (hp9 : pl ≤ 1000) (hk : Row w (some ⟨3, 0, none⟩) .u64 kt) (hkl : kt.length = 80) :
    Calls Tryz.prog 56 #[.pointer (some ⟨db, 0, none⟩), .slice pa pl pc] w fun e w' => ∃ a' c' o', e = .returned (.slice a' 32 c') ∧ OwnS .u8 5 w' a' 32 c' (hmac kt K parts) o' ∧ (∀ k, o' = some k → w.heap.size ≤ k) ∧ Below w.heap.size w w' := by
  obtain ⟨ka, kc, va, vc, h1, h2, h3, h4, h5, h6, h7⟩ := hd
  refine calls_of_ev tysOk extsOk Tryz.func56 rfl rfl rfl ?_
  refine NilP.go ?_
  refine LdSl.go (h1.cell 0) ?_
  refine CallP.intro (hmac_spec h2 h4.symm (by omega) hp hpl hp9 hk hkl) ?_
  rintro e w1 ⟨a', c', o', rfl, b1, b2, b3⟩
  exact ⟨_, rfl, rfl, a', c', o', rfl, b1, b2, b3⟩

def updKV (kt : List Int) (s : List Int × List Int) (data : List Int) : List Int × List Int :=
  let K1 := hmac kt s.1 [s.2, [0], data]
  let V1 := hmac kt K1 [s.2]
  if 0 < data.length then
    let K2 := hmac kt K1 [V1, [1], data]
    (K2, hmac kt K2 [V1])
  else (K1, V1)
theorem Parts.one {w : World} {b : Nat} {a : Option Addr} {l c : Nat} {T : TypeId} {xs : List Int} (h : Blk w b [.slice a l c] T) (hr : Row w a .u8 xs) (hl : l = xs.length) (h9 : l ≤ 100000000) : Parts w (some ⟨b, 0, none⟩) [xs] := by
  intro i hi
  have hi0 : i = 0 := by simp at hi; omega
  subst hi0
  exact ⟨b, 0, a, l, c, rfl, h.cell 0, hr, hl, h9⟩
theorem Parts.three {w : World} {b : Nat} {a1 a2 a3 : Option Addr} {l1 c1 l2 c2 l3 c3 : Nat} {T : TypeId} {x1 x2 x3 : List Int} (h : Blk w b [.slice a1 l1 c1, .slice a2 l2 c2, .slice a3 l3 c3] T)
    (r1 : Row w a1 .u8 x1) (e1 : l1 = x1.length) (s1 : l1 ≤ 100000000)
    (r2 : Row w a2 .u8 x2) (e2 : l2 = x2.length) (s2 : l2 ≤ 100000000)
    (r3 : Row w a3 .u8 x3) (e3 : l3 = x3.length) (s3 : l3 ≤ 100000000) : Parts w (some ⟨b, 0, none⟩) [x1, x2, x3] := by
  intro i hi
  rcases i with _ | _ | _ | i
  · exact ⟨b, 0, a1, l1, c1, rfl, h.cell 0, r1, e1, s1⟩
  · exact ⟨b, 0, a2, l2, c2, rfl, h.cell 1, r2, e2, s2⟩
  · exact ⟨b, 0, a3, l3, c3, rfl, h.cell 2, r3, e3, s3⟩
  · exact absurd hi (by simp)

theorem three_parts (w : World) {V data : List Int} {va a : Option Addr} {vc l c : Nat} (x : Int) (hV : Row w va .u8 V) (hV32 : V.length = 32) (hr : Row w a .u8 data) (hl : l = data.length) (h9 : l ≤ 100000000) :
    Parts ((w.alloc (.cells #[.int .u8 x] 5)).alloc (.cells #[.slice va 32 vc, .slice (some ⟨w.heap.size, 0, none⟩) 1 1, .slice a l c] 62)) (some ⟨(w.alloc (.cells #[.int .u8 x] 5)).heap.size, 0, none⟩) [V, [x], data] ∧
    Below w.heap.size w ((w.alloc (.cells #[.int .u8 x] 5)).alloc (.cells #[.slice va 32 vc, .slice (some ⟨w.heap.size, 0, none⟩) 1 1, .slice a l c] 62)) := by
  have b1 : Below w.heap.size w (w.alloc (.cells #[.int .u8 x] 5)) := (Below.refl _ _).alloc (Nat.le_refl _) _
  have x1 : Row (w.alloc (.cells #[.int .u8 x] 5)) (some ⟨w.heap.size, 0, none⟩) .u8 [x] := Row.of_blk 0 (Blk.newA w #[.int .u8 x] 5) (by
    intro i hi
    have hi0 : i = 0 := by simp at hi; omega
    subst hi0; rfl)
  have hsz : w.heap.size < (w.alloc (.cells #[.int .u8 x] 5)).heap.size := by rw [size_alloc]; omega
  have b2 := b1.alloc b1.size (.cells #[.slice va 32 vc, .slice (some ⟨w.heap.size, 0, none⟩) 1 1, .slice a l c] 62)
  refine ⟨?_, b2⟩
  have hB := Blk.newA (w.alloc (.cells #[.int .u8 x] 5)) #[.slice va 32 vc, .slice (some ⟨w.heap.size, 0, none⟩) 1 1, .slice a l c] 62
  have hs2 := b2.size
  have hs3 : (w.alloc (.cells #[.int .u8 x] 5)).heap.size < ((w.alloc (.cells #[.int .u8 x] 5)).alloc (.cells #[.slice va 32 vc, .slice (some ⟨w.heap.size, 0, none⟩) 1 1, .slice a l c] 62)).heap.size := by rw [size_alloc (w.alloc _)]; omega
  exact Parts.three hB (hV.below b2) hV32.symm (by omega) (x1.alloc _) rfl (by show 1 ≤ 100000000; omega) (hr.below b2) hl h9
theorem one_part (w : World) {V : List Int} {va : Option Addr} {vc : Nat} (hV : Row w va .u8 V) (hV32 : V.length = 32) :
    Parts (w.alloc (.cells #[.slice va 32 vc] 62)) (some ⟨w.heap.size, 0, none⟩) [V] ∧ Below w.heap.size w (w.alloc (.cells #[.slice va 32 vc] 62)) := by
  have b1 : Below w.heap.size w (w.alloc (.cells #[.slice va 32 vc] 62)) := (Below.refl _ _).alloc (Nat.le_refl _) _
  have hs2 := b1.size
  exact ⟨Parts.one (Blk.newA w #[.slice va 32 vc] 62) (hV.below b1) hV32.symm (by omega), b1⟩

theorem update_spec {kt K V data : List Int} {n : Int} {db : Nat} {a : Option Addr} {l c : Nat} {w : World} (hd : DAt w db K V n)
    (hr : Row w a .u8 data) (hl : l = data.length) (h9 : l ≤ 100000000) (hk : Row w (some ⟨3, 0, none⟩) .u64 kt) (hkl : kt.length = 80) (hk0 : 3 ≠ db) :
    Calls Tryz.prog 39 #[.pointer (some ⟨db, 0, none⟩), .slice a l c] w fun e w' => e = .returned (.tuple #[]) ∧ DAt w' db (updKV kt (K, V) data).1 (updKV kt (K, V) data).2 n ∧ Chg w.heap.size (fun k => k = db) w w' := by
  refine calls_of_ev tysOk extsOk Tryz.func39 rfl rfl rfl ?_
  have C := Chg.refl w.heap.size (fun k => k = db) w
  refine NilP.go ?_
  refine hd.ldV fun va1 vc1 hv1 hv321 hva1 => ?_
  have P1 := three_parts w (vc := vc1) (c := c) 0 hv1 hv321 hr hl h9
  refine CallP.intro (mac_spec (hd.below P1.2) P1.1 rfl (by decide) (hk.below P1.2) hkl) ?_
  rintro e w1m ⟨a1, c1, o1, rfl, x1, y1, z1⟩
  refine ⟨_, rfl, ?_⟩
  have hB1 : Below w.heap.size w w1m := P1.2.trans (z1.mono P1.2.size)
  have y1 : ∀ k, o1 = some k → w.heap.size ≤ k := fun k hk => Nat.le_trans P1.2.size (y1 k hk)
  refine NilP.go ?_
  refine (hd.below hB1).stK x1 (fun e => by have := y1 _ e; have := hd.lt; omega) fun w1 hd1 hc1 => ?_
  have C1 : Chg w.heap.size (fun k => k = db) w w1 := (C.thenB hB1 C.size).thenC hc1 (Nat.le_trans C.size hB1.size) (fun _ _ h => h)
  have hr1 := hr.chg0 C1 (fun h0 => hd.row_off hr h0)
  have hk1 := hk.chg C1 (by intro p hp; cases hp; exact hk0)
  refine NilP.go ?_
  refine hd1.ldV fun va2 vc2 hv2 hv322 hva2 => ?_
  have P2 := one_part w1 (vc := vc2) hv2 hv322
  refine CallP.intro (mac_spec (hd1.below P2.2) P2.1 rfl (by decide) (hk1.below P2.2) hkl) ?_
  rintro e w2m ⟨a2, c2, o2, rfl, x2, y2, z2⟩
  refine ⟨_, rfl, ?_⟩
  have hB2 : Below w1.heap.size w1 w2m := P2.2.trans (z2.mono P2.2.size)
  have y2 : ∀ k, o2 = some k → w1.heap.size ≤ k := fun k hk => Nat.le_trans P2.2.size (y2 k hk)
  refine NilP.go ?_
  refine (hd1.below hB2).stV x2 (fun e => by have := y2 _ e; have := hd1.lt; omega) fun w2 hd2 hc2 => ?_
  have C2 : Chg w.heap.size (fun k => k = db) w w2 := (C1.thenB hB2 C1.size).thenC hc2 (Nat.le_trans C1.size hB2.size) (fun _ _ h => h)
  have hr2 := hr.chg0 C2 (fun h0 => hd.row_off hr h0)
  have hk2 := hk.chg C2 (by intro p hp; cases hp; exact hk0)
  refine IfP.dec (fun hlt => ?_) (fun hge => ?_)
  · refine NilP.go ?_
    refine hd2.ldV fun va3 vc3 hv3 hv323 hva3 => ?_
    have P3 := three_parts w2 (vc := vc3) (c := c) 1 hv3 hv323 hr2 hl h9
    refine CallP.intro (mac_spec (hd2.below P3.2) P3.1 rfl (by decide) (hk2.below P3.2) hkl) ?_
    rintro e w3m ⟨a3, c3, o3, rfl, x3, y3, z3⟩
    refine ⟨_, rfl, ?_⟩
    have hB3 : Below w2.heap.size w2 w3m := P3.2.trans (z3.mono P3.2.size)
    have y3 : ∀ k, o3 = some k → w2.heap.size ≤ k := fun k hk => Nat.le_trans P3.2.size (y3 k hk)
    refine NilP.go ?_
    refine (hd2.below hB3).stK x3 (fun e => by have := y3 _ e; have := hd2.lt; omega) fun w3 hd3 hc3 => ?_
    have C3 : Chg w.heap.size (fun k => k = db) w w3 := (C2.thenB hB3 C2.size).thenC hc3 (Nat.le_trans C2.size hB3.size) (fun _ _ h => h)
    have hr3 := hr.chg0 C3 (fun h0 => hd.row_off hr h0)
    have hk3 := hk.chg C3 (by intro p hp; cases hp; exact hk0)
    refine NilP.go ?_
    refine hd3.ldV fun va4 vc4 hv4 hv324 hva4 => ?_
    have P4 := one_part w3 (vc := vc4) hv4 hv324
    refine CallP.intro (mac_spec (hd3.below P4.2) P4.1 rfl (by decide) (hk3.below P4.2) hkl) ?_
    rintro e w4m ⟨a4, c4, o4, rfl, x4, y4, z4⟩
    refine ⟨_, rfl, ?_⟩
    have hB4 : Below w3.heap.size w3 w4m := P4.2.trans (z4.mono P4.2.size)
    have y4 : ∀ k, o4 = some k → w3.heap.size ≤ k := fun k hk => Nat.le_trans P4.2.size (y4 k hk)
    refine NilP.go ?_
    refine (hd3.below hB4).stV x4 (fun e => by have := y4 _ e; have := hd3.lt; omega) fun w4 hd4 hc4 => ?_
    have C4 : Chg w.heap.size (fun k => k = db) w w4 := (C3.thenB hB4 C3.size).thenC hc4 (Nat.le_trans C3.size hB4.size) (fun _ _ h => h)
    have hr4 := hr.chg0 C4 (fun h0 => hd.row_off hr h0)
    have hk4 := hk.chg C4 (by intro p hp; cases hp; exact hk0)
    have hpos : 0 < data.length := by omega
    refine ⟨rfl, rfl, ?_, C4⟩
    simp only [updKV, if_pos hpos]
    exact hd4
  · have hpos : ¬ 0 < data.length := by omega
    refine ⟨rfl, rfl, ?_, C2⟩
    simp only [updKV, if_neg hpos]
    exact hd2
end Go.Proofs.YthneejblcffdgaaGreatDoor

namespace Go.Proofs.YthneejblcffdgaaGreatDoor
open Go Go.Ev Go.RowKit
set_option maxRecDepth 20000
set_option linter.unusedVariables false

def vIt (kt K V : List Int) : Nat → List Int
  | 0 => V
  | i + 1 => hmac kt K [vIt kt K V i]
theorem vIt_length {kt K V : List Int} (h : V.length = 32) : ∀ i, (vIt kt K V i).length = 32
  | 0 => h
  | i + 1 => hmac_length
def outIt (kt K V : List Int) : Nat → List Int
  | 0 => []
  | i + 1 => outIt kt K V i ++ vIt kt K V (i + 1)
theorem outIt_length {kt K V : List Int} : ∀ i, (outIt kt K V i).length = 32 * i
  | 0 => rfl
  | i + 1 => by rw [outIt, List.length_append, outIt_length i, vIt, hmac_length]; omega
/-- what n bytes are, and the state behind them. -/
def bytesOf (kt K V : List Int) (n : Nat) : List Int := (outIt kt K V ((n + 31) / 32)).take n
def bytesSt (kt K V : List Int) (n : Nat) : List Int × List Int := updKV kt (K, vIt kt K V ((n + 31) / 32)) []
theorem bytesOf_length {kt K V : List Int} (n : Nat) : (bytesOf kt K V n).length = n := by unfold bytesOf; rw [List.length_take, outIt_length]; omega

set_option maxHeartbeats 1000000 in
/-- (with the block of the bytes at hand) -/
theorem bytesB_spec {kt K V : List Int} {m : Int} {db n : Nat} {w : World} (hd : DAt w db K V m) (hn1 : 1 ≤ n) (hn2 : n ≤ 65536)
    (hk : Row w (some ⟨3, 0, none⟩) .u64 kt) (hkl : kt.length = 80) (hk0 : 3 ≠ db) :
    Calls Tryz.prog 35 #[.pointer (some ⟨db, 0, none⟩), .int .i64 n] w fun e w' => ∃ ob, e = .returned (.slice (some ⟨ob, 0, none⟩) n n) ∧ (∃ C, Buf .u8 5 w' ob (bytesOf kt K V n) C) ∧ w.heap.size ≤ ob ∧
      DAt w' db (bytesSt kt K V n).1 (bytesSt kt K V n).2 (IntKind.i64.wrap (m + 1)) ∧ Chg w.heap.size (fun k => k = db) w w' := by
  have hdl := hd.lt
  have hkl3 : 3 < w.heap.size := by obtain ⟨b, o, h1, h2⟩ := hk 0 (by omega); cases h1; exact cell_lt h2
  obtain ⟨ka, kc, va0, vc0, hB, hK, hV, hK32, hV32, hka, hva⟩ := hd
  refine calls_of_ev tysOk extsOk Tryz.func35 rfl rfl rfl ?_
  refine IfP.yes ?_
  refine IfP.yes ?_
  refine IfP.no ?_
  refine IfP.pos (by simp <;> omega) ?_
  refine IfP.pos (by simp <;> omega) ?_
  refine IfP.neg (by simp <;> omega) ?_
  refine IfP.neg (by simp <;> omega) ?_
  refine LoopP.go (S := Nat × Option Addr × Nat × Option Nat) 68719411232 (by kernel_rfl) (fun s => [(5, .slice s.2.1 (32 * s.1) s.2.2.1)])
    (fun s W => 32 * s.1 < n + 32 ∧ (∃ va vc, Blk W db [.slice ka 32 kc, .slice va 32 vc, .int .i64 m] 68 ∧ Row W va .u8 (vIt kt K V s.1) ∧ (∀ p, va = some p → p.block ≠ db ∧ p.block < W.heap.size)) ∧ OwnS .u8 5 W s.2.1 (32 * s.1) s.2.2.1 (outIt kt K V s.1) s.2.2.2 ∧ (∀ k, s.2.2.2 = some k → w.heap.size ≤ k) ∧ Chg w.heap.size (fun k => k = db) w W)
    (fun s => n + 32 - 32 * s.1) (0, none, 0, none) ⟨rfl, trivial⟩
    ⟨by show 0 < _; omega, ⟨va0, vc0, hB, hV, hva⟩, OwnS.nil _, (fun k hk => by cases hk), Chg.refl _ _ _⟩ ?_
  rintro ⟨i, oa, oc, oo⟩ j W ⟨k1, ⟨va, vc, k2, k3, k4⟩, k5, k6, k7⟩
  simp only at k1 k2 k3 k5 k6
  have hszW := k7.size
  have hKW := hK.chg k7 (fun p hp => (hka p hp).1)
  have hkaW : ∀ p, ka = some p → p.block ≠ db ∧ p.block < W.heap.size := fun p hp => ⟨(hka p hp).1, by have := (hka p hp).2; omega⟩
  have hkW := hk.chg k7 (by intro p hp; cases hp; exact hk0)
  have hvl := vIt_length (kt := kt) (K := K) hV32 i
  have hdW : DAt W db K (vIt kt K V i) m := ⟨ka, kc, va, vc, k2, hKW, k3, hK32, hvl, hkaW, k4⟩
  have hk5l := k5.len
  refine IfP.dec (fun hlt => ?_) (fun hge => ?_)
  · have hlt' : 32 * i < n := by omega
    refine NilP.go ?_
    refine LdSl.go (k2.cell 1) ?_
    have P1 := one_part W (vc := vc) k3 hvl
    refine CallP.intro (mac_spec (hdW.below P1.2) P1.1 rfl (by decide) (hkW.below P1.2) hkl) ?_
    rintro e w1 ⟨a1, c1, o1, rfl, x1, y1, z1⟩
    refine ⟨_, rfl, ?_⟩
    have hB1 : Below W.heap.size W w1 := P1.2.trans (z1.mono P1.2.size)
    have y1 : ∀ k, o1 = some k → W.heap.size ≤ k := fun k hk => Nat.le_trans P1.2.size (y1 k hk)
    have hW1 := hB1.size
    have hdbW := k2.lt
    refine NilP.go ?_
    refine StP.to 1 (k2.belowS hB1) rfl (Nat.succ_lt_succ (Nat.succ_pos _)) fun w2 g1 g2 g3 => ?_
    have g1 : Blk w2 db [.slice ka 32 kc, .slice a1 32 c1, .int .i64 m] 68 := g1
    have g2 : Chg w1.heap.size (fun k => k = db) w1 w2 := g2
    have x2 : OwnS .u8 5 w2 a1 32 c1 (vIt kt K V (i + 1)) o1 := x1.chg g2 x1.lt (fun b hb => by have := y1 b hb; omega)
    have q2 := (k5.below hB1).chg g2 (fun b hb => Nat.lt_of_lt_of_le (k5.lt b hb) hW1) (fun b hb => by have := k6 b hb; omega)
    have hool := k5.lt
    refine NilP.go ?_
    refine LdSl.go (g1.cell 1) ?_
    refine RdP.row' x2.row x2.len ?_
    refine App.own q2 x2.len (by omega) (by decide) fun a3 c3 o3 w3 r1 r2 r3 => ?_
    have hC2 : Chg w.heap.size (fun k => k = db) w w2 := (k7.thenB hB1 hszW).thenC g2 (by omega) (fun _ _ h => h)
    have hC3 : Chg w.heap.size (fun k => k = db) w w3 := hC2.thenC r2 hC2.size (fun k hk e => by have := k6 k e; omega)
    have x3 := x2.chg r2 x2.lt (fun b hb e => by have := y1 b hb; have := hool b e; omega)
    refine ⟨rfl, (i + 1, a3, c3, o3), ⟨⟨rfl, trivial⟩, by show 32 * (i + 1) < _; omega, ⟨a1, c1, g1.chg r2 g1.lt (fun e => by have := k6 _ e; omega), x3.row, fun p hp => ?_⟩, r1, fun k hk' => ?_, hC3⟩, by show n + 32 - 32 * (i + 1) < n + 32 - 32 * i; omega⟩
    · have := x3.at p hp
      have h1 := y1 _ this
      exact ⟨by omega, x3.lt _ this⟩
    · rcases r3 with r3 | r3
      · exact k6 k (r3 ▸ hk')
      · rw [r3] at hk'; cases hk'; exact hC2.size
  · have hi : i = (n + 31) / 32 := by omega
    refine CallP.intro (update_spec hdW (Row.nil _ none .u8) rfl (by decide) hkW hkl hk0) ?_
    rintro e w1 ⟨rfl, h1, h2⟩
    refine ⟨_, rfl, ?_⟩
    rw [hi] at h1
    obtain ⟨kb, kd, vb, vd, f1, f2, f3, f4, f5, f6, f7⟩ := h1
    refine NilP.go ?_
    refine LdI.go (f1.cell 2) ?_
    refine NilP.go ?_
    refine StP.to 2 f1 rfl (Nat.succ_lt_succ (Nat.succ_lt_succ (Nat.succ_pos _))) fun w2 g1 g2 g3 => ?_
    have g1 : Blk w2 db [.slice kb 32 kd, .slice vb 32 vd, .int .i64 (IntKind.i64.wrap (m + 1))] 68 := g1
    have g2 : Chg w1.heap.size (fun k => k = db) w1 w2 := g2
    have hC1 := k7.thenC h2 hszW (fun _ _ h => h)
    have hC2 := hC1.thenC g2 hC1.size (fun _ _ h => h)
    cases oo with
    | none => have := k5.2.1; omega
    | some ob =>
      obtain ⟨rfl, hol, hob⟩ := k5
      have hobl := hob.lt
      have hobw := k6 ob rfl
      have hoc := hob.le
      refine SlcP.first (l := 32 * i) (c := oc) n n rfl rfl (Nat.le_refl _) (by omega) ?_
      refine ⟨rfl, ob, rfl, ?_, hobw, ?_, hC2⟩
      · have := (hob.chg h2 hobl (by omega)).chg g2 (by have := h2.size; omega) (by omega)
        unfold bytesOf
        rw [← hi]
        exact ⟨_, this.take n⟩
      · refine ⟨kb, kd, vb, vd, g1, f2.chg g2 (fun p hp => (f6 p hp).1), f3.chg g2 (fun p hp => (f7 p hp).1), f4, f5, fun p hp => by rw [g3]; exact f6 p hp, fun p hp => by rw [g3]; exact f7 p hp⟩
theorem bytes_spec {kt K V : List Int} {m : Int} {db n : Nat} {w : World} (hd : DAt w db K V m) (hn1 : 1 ≤ n) (hn2 : n ≤ 65536)
    (hk : Row w (some ⟨3, 0, none⟩) .u64 kt) (hkl : kt.length = 80) (hk0 : 3 ≠ db) :
    Calls Tryz.prog 35 #[.pointer (some ⟨db, 0, none⟩), .int .i64 n] w fun e w' => ∃ ob, e = .returned (.slice (some ⟨ob, 0, none⟩) n n) ∧ Row w' (some ⟨ob, 0, none⟩) .u8 (bytesOf kt K V n) ∧ w.heap.size ≤ ob ∧
      DAt w' db (bytesSt kt K V n).1 (bytesSt kt K V n).2 (IntKind.i64.wrap (m + 1)) ∧ Chg w.heap.size (fun k => k = db) w w' := by
  refine (bytesB_spec hd hn1 hn2 hk hkl hk0).mono ?_
  rintro e w' ⟨ob, rfl, ⟨C, g1⟩, g2, g3, g4⟩
  exact ⟨ob, rfl, g1.row, g2, g3, g4⟩
end Go.Proofs.YthneejblcffdgaaGreatDoor

namespace Go.Proofs.YthneejblcffdgaaGreatDoor
open Go Go.Ev Go.RowKit
set_option maxRecDepth 20000
set_option linter.unusedVariables false

theorem mul64_1_32 (w : World) : Calls Tryz.prog 42 #[.int .u64 1, .int .u64 32] w fun e w' => e = .returned (.tuple #[.int .u64 0, .int .u64 32]) ∧ w' = w := by
  refine calls_of_ev tysOk extsOk Tryz.func42 rfl rfl rfl ?_
  refine ChkP.go (by decide) ?_
  refine ChkP.go (by decide) ?_
  refine ChkP.go (by decide) ?_
  refine ChkP.go (by decide) ?_
  refine ChkP.go (by decide) ?_
  exact ⟨rfl, by rfl, rfl⟩
theorem mul_1_32 (w : World) : Calls Tryz.prog 61 #[.int .u64 1, .int .u64 32] w fun e w' => e = .returned (.tuple #[.int .u64 0, .int .u64 32]) ∧ w' = w := by
  refine calls_of_ev tysOk extsOk Tryz.func61 rfl rfl rfl ?_
  refine IfP.no ?_
  refine CallP.same (mul64_1_32 _) ?_
  exact ⟨rfl, rfl, rfl⟩
theorem mnz32 (w : World) : ∃ cs : Array Value, 32 ≤ cs.size ∧ (callFunc 62 #[.int .i64 32]).run Tryz.prog w = .ok (.value (.slice (some ⟨w.heap.size, 0, none⟩) 32 cs.size)) (w.drew.drew.alloc (.cells cs 5)) := by
  obtain ⟨cs, hrun, hle, _⟩ := Lib.run_makeNoZero (P := Tryz.prog) w #[3] 62 5 (by kernel_rfl) 32 (by omega)
  refine ⟨cs, hle, ?_⟩
  rw [run_callFunc_extern (P := Tryz.prog) (f := 62) Tryz.func62 (by kernel_rfl) (by kernel_rfl) (by kernel_rfl) (e := Extern.BytealgMakeNoZero.makeNoZero #[3] #[62]) (by kernel_rfl)]
  have : (Extern.BytealgMakeNoZero.makeNoZero #[3] #[62] #[.int .i64 32]).run Tryz.prog w = _ := hrun
  rw [this]; rfl

theorem repeat_spec {sb : Nat} {w : World} (hr : Row w (some ⟨sb, 0, none⟩) .u8 [1]) :
    Calls Tryz.prog 38 #[.slice (some ⟨sb, 0, none⟩) 1 1, .int .i64 32] w fun e w' => ∃ b, e = .returned (.slice (some ⟨b, 0, none⟩) 32 32) ∧ w.heap.size ≤ b ∧ b < w'.heap.size ∧ Row w' (some ⟨b, 0, none⟩) .u8 (List.replicate 32 1) ∧ Below w.heap.size w w' := by
  refine calls_of_ev tysOk extsOk Tryz.func38 rfl rfl rfl ?_
  refine IfP.neg rfl ?_
  refine IfP.neg rfl ?_
  refine CallP.same (mul_1_32 _) ?_
  refine IfP.yes ?_
  refine IfP.yes ?_
  refine IfP.no ?_
  refine IfP.dneg (by decide) ?_
  refine IfP.neg rfl ?_
  refine IfP.dneg (by decide) ?_
  obtain ⟨cs, hcs, hrun⟩ := mnz32 w
  refine ⟨⟨_, _, hrun, ?_⟩⟩
  have hB0 : Below w.heap.size w (w.drew.drew.alloc (.cells cs 5)) := Below.alloc (Below.refl _ _).drew.drew (Nat.le_refl _) _
  have x0 : Blk (w.drew.drew.alloc (.cells cs 5)) w.heap.size cs.toList 5 := Blk.newA w.drew.drew cs 5
  have hl0 : cs.toList.length = cs.size := Array.length_toList
  generalize w.drew.drew.alloc (.cells cs 5) = w1 at hB0 x0 ⊢
  generalize cs.toList = l0 at x0 hl0
  refine SlcP.first (l := 32) (c := cs.size) 32 32 rfl rfl (Nat.le_refl _) hcs ?_
  refine RdP.row' (hr.below hB0) rfl ?_
  refine StsP.blk (o := 0) (vs := [.int .u8 1]) x0 (by simp; rfl) (by simp; omega) ?_
  have x1 := Blk.setCells 0 [.int .u8 1] 0 w1 l0 x0 (by simp; omega)
  have c1 : Below w.heap.size w (setCells w1 ⟨w.heap.size, 0, none⟩ [.int .u8 1] 0) := below_setCells ⟨w.heap.size, 0, none⟩ (Nat.le_refl w.heap.size) _ _ _ hB0
  generalize setCells w1 ⟨w.heap.size, 0, none⟩ [.int .u8 1] 0 = w2 at x1 c1 ⊢
  refine LoopP.go (S := Nat) 75555557882905109728256 (by kernel_rfl) (fun m => [(10, .int .i64 m)])
    (fun m W => 1 ≤ m ∧ m ≤ 32 ∧ (∃ l, Blk W w.heap.size l 5 ∧ l.length = cs.size ∧ l.take m = List.replicate m (.int .u8 1)) ∧ Below w.heap.size w W) (fun m => 32 - m) 1 ⟨rfl, trivial⟩
    ⟨by omega, by omega, ⟨_, x1, by simp; omega, by simp⟩, c1⟩ ?_
  rintro m j W ⟨hm1, hm2, ⟨l, k1, k2, k3⟩, k4⟩
  refine IfP.dec (fun hlt => ?_) (fun hge => ?_)
  · have hlt' : m < 32 := by
      have : IntKind.i64.wrap (32 : Int) = 32 := by decide
      omega
    have hw32 : IntKind.i64.wrap (32 : Int) = 32 := by decide
    have hhi : (if IntKind.i64.wrap (32 : Int) < (m : Int) then IntKind.i64.wrap (32 : Int) else (m : Int)) = m := by rw [hw32, if_neg (by omega)]
    have key : ∀ i, i < m → l[i]? = some (.int .u8 1) := by
      intro i hi
      have : l[i]? = (l.take m)[i]? := by rw [List.getElem?_take, if_pos hi]
      rw [this, k3]; simp [hi]
    have hnext : IntKind.i64.wrap ((m : Int) + ((min m (32 - m) : Nat) : Int)) = ((m + min m (32 - m) : Nat) : Int) := by rw [show (m : Int) + ((min m (32 - m) : Nat) : Int) = ((m + min m (32 - m) : Nat) : Int) by omega]; exact i64_of _ (by omega)
    have k1d := Blk.drw k1
    have k4d := k4.drew
    have fin : ∀ (W1 : World), Blk W1 w.heap.size l 5 → Below w.heap.size w W1 → ∀ k : World → Prop, (∀ W2, (∃ l, Blk W2 w.heap.size l 5 ∧ l.length = cs.size ∧ l.take (m + min m (32 - m)) = List.replicate (m + min m (32 - m)) (.int .u8 1)) → Below w.heap.size w W2 → k W2) →
        RdP (some ⟨w.heap.size, 0, none⟩) (min m (32 - m) * 1) (fun vs => StsP ⟨w.heap.size, 0 + m * 1, none⟩ vs k W1) W1 := by
      intro W1 k1d k4d k hk
      have hrow : Row W1 (some ⟨w.heap.size, 0, none⟩) .u8 (List.replicate (min m (32 - m)) 1) := by
        refine Row.of_blk 0 k1d fun i hi => ?_
        rw [List.length_replicate] at hi
        rw [Nat.zero_add, key i (by omega), List.getElem_replicate]
      refine RdP.row' hrow (by rw [List.length_replicate, Nat.mul_one]) ?_
      refine StsP.blk (o := 0 + m * 1) (vs := (List.replicate (min m (32 - m)) (1 : Int)).map (Value.int .u8)) k1d ?_ (by simp; omega) ?_
      · intro v hv
        obtain ⟨x, _, rfl⟩ := List.mem_map.1 hv
        rfl
      have x2 := Blk.setCells (0 + m * 1) ((List.replicate (min m (32 - m)) (1 : Int)).map (Value.int .u8)) 0 W1 l k1d (by simp; omega)
      have c2 : Below w.heap.size w (setCells W1 ⟨w.heap.size, 0 + m * 1, none⟩ ((List.replicate (min m (32 - m)) (1 : Int)).map (Value.int .u8)) 0) := below_setCells ⟨w.heap.size, 0 + m * 1, none⟩ (Nat.le_refl w.heap.size) _ _ _ k4d
      refine hk _ ⟨_, x2, ?_, ?_⟩ c2
      · simp; omega
      · rw [show 0 + m * 1 = m by omega, Nat.add_zero, k3, List.map_replicate, List.replicate_append_replicate, List.take_append_of_le_length (by simp), List.take_of_length_le (by simp)]
    refine DrawP.any tysOk extsOk mixed (.take 0 (.take 1 (.take 2 (.take 4 (.take 5 (.alt 3 (.alt 6 (.alt 7 (.alt 8 (.take 9 (.done)) (.done)) (.done)) (.done)) (.alt 6 (.alt 3 (.alt 7 (.alt 8 (.take 9 (.done)) (.done)) (.done)) (.done)) (.done)))))))) 75410289773324647007232 (by kernel_rfl) (by kernel_rfl)
      (S := Unit) (fun _ => [(10, .int .i64 ((m + min m (32 - m) : Nat) : Int))]) (fun _ W => (∃ l, Blk W w.heap.size l 5 ∧ l.length = cs.size ∧ l.take (m + min m (32 - m)) = List.replicate (m + min m (32 - m)) (.int .u8 1)) ∧ Below w.heap.size w W) ?_ ?_
    · generalize hW1 : ({ W with drawn := W.drawn + 1 } : World) = W1
      have k1d : Blk W1 w.heap.size l 5 := by rw [← hW1]; exact k1d
      have k4d : Below w.heap.size w W1 := by rw [← hW1]; exact k4d
      refine ⟨?_, ?_, trivial⟩
      · refine SlcP.exact (l := 32) (c := 32) m 32 rfl rfl hm2 (Nat.le_refl _) (.inl hlt') ?_
        refine ⟨SlcP.first (l := 32) (c := 32) m 32 hhi rfl hm2 (Nat.le_refl _) ?_, trivial⟩
        refine ⟨fin W1 k1d k4d _ fun W2 q1 q2 => ?_, trivial⟩
        exact ⟨⟨(), ⟨congrArg (Value.int .i64) hnext, trivial⟩, q1, q2⟩, trivial⟩
      · refine SlcP.first (l := 32) (c := 32) m 32 hhi rfl hm2 (Nat.le_refl _) ?_
        refine ⟨SlcP.exact (l := 32) (c := 32) m 32 rfl rfl hm2 (Nat.le_refl _) (.inl hlt') ?_, trivial⟩
        refine ⟨fin W1 k1d k4d _ fun W2 q1 q2 => ?_, trivial⟩
        exact ⟨⟨(), ⟨congrArg (Value.int .i64) hnext, trivial⟩, q1, q2⟩, trivial⟩
    · rintro ⟨⟩ j' W2 ⟨q1, q2⟩
      exact ⟨rfl, m + min m (32 - m), ⟨⟨rfl, trivial⟩, by omega, by omega, q1, q2⟩, by omega⟩
  · have hm : m = 32 := by
      have : IntKind.i64.wrap (32 : Int) = 32 := by decide
      omega
    subst hm
    refine ⟨rfl, w.heap.size, rfl, Nat.le_refl _, k1.lt, ?_, k4⟩
    refine Row.of_blk 0 k1 fun i hi => ?_
    rw [List.length_replicate] at hi
    have : l[i]? = (l.take 32)[i]? := by rw [List.getElem?_take, if_pos (by omega)]
    rw [Nat.zero_add, this, k3, List.getElem_replicate, List.getElem?_replicate, if_pos (by omega)]
end Go.Proofs.YthneejblcffdgaaGreatDoor
