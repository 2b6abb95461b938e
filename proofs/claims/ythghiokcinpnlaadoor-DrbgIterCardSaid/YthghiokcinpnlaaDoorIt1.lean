import Derived.Test.YthghiokcinpnlaaDoorPl1
import Derived.Test.YthghiokcinpnlaaDoorNone
namespace Go.Proofs.YthghiokcinpnlaaDoor
open Go Go.Ev Go.RowKit
set_option maxRecDepth 20000
set_option linter.unusedVariables false
set_option linter.unusedSimpArgs false

/-- the states, asked for one byte after another. -/
def rkv (s : List Int × List Int) : Nat → List Int × List Int
  | 0 => s
  | i + 1 => rbytesSt (rkv s i).1 (rkv s i).2 1
def Len32 (s : List Int × List Int) : Prop := s.1.length = 32 ∧ s.2.length = 32
theorem rkv_length {s : List Int × List Int} (h : Len32 s) : ∀ i, Len32 (rkv s i)
  | 0 => h
  | i + 1 => by unfold rkv rbytesSt; exact rupdKV_length

theorem DAt.chgR {w w' : World} {d r : Nat} {K V K1 V1 : List Int} {n m : Int} (h : DAt w d K V n) (h1 : RAt w r K1 V1 m) (hc : Chg w.heap.size (fun k => k = r) w w') (hne : d ≠ r) : DAt w' d K V n := by
  obtain ⟨ka, kc, va, vc, g1, g2, g3, g4, g5, g6, g7⟩ := h
  exact ⟨ka, kc, va, vc, g1.chg hc g1.lt hne, g2.chg hc (h1.row_off g2 (by omega)), g3.chg hc (h1.row_off g3 (by omega)), g4, g5,
    fun p hp => ⟨(g6 p hp).1, Nat.lt_of_lt_of_le (g6 p hp).2 hc.size⟩, fun p hp => ⟨(g7 p hp).1, Nat.lt_of_lt_of_le (g7 p hp).2 hc.size⟩⟩
theorem RAt.chgD {w w' : World} {d r : Nat} {K V K1 V1 : List Int} {n m : Int} (h : RAt w r K V n) (h1 : DAt w d K1 V1 m) (hc : Chg w.heap.size (fun k => k = d) w w') (hne : r ≠ d) : RAt w' r K V n := by
  obtain ⟨ka, kc, va, vc, g1, g2, g3, g4, g5, g6, g7⟩ := h
  exact ⟨ka, kc, va, vc, g1.chg hc g1.lt hne, g2.chg hc (h1.row_off g2 (by omega)), g3.chg hc (h1.row_off g3 (by omega)), g4, g5,
    fun p hp => ⟨(g6 p hp).1, Nat.lt_of_lt_of_le (g6 p hp).2 hc.size⟩, fun p hp => ⟨(g7 p hp).1, Nat.lt_of_lt_of_le (g7 p hp).2 hc.size⟩⟩
/-- a change of a block in which no row of numbers lies: one that holds a single int or bool, a loop's record .. (told by the caller) -/
theorem DAt.chgB {w w' : World} {d : Nat} {K V : List Int} {n : Int} {s : Nat → Prop} (h : DAt w d K V n) (hc : Chg w.heap.size s w w') (hd : ¬ s d) (hs : ∀ (a : Option Addr) (xs : List Int), Row w a .u8 xs → 0 < xs.length → ∀ p, a = some p → ¬ s p.block) : DAt w' d K V n := by
  obtain ⟨ka, kc, va, vc, g1, g2, g3, g4, g5, g6, g7⟩ := h
  exact ⟨ka, kc, va, vc, g1.chg hc g1.lt hd, g2.chg hc (hs _ _ g2 (by omega)), g3.chg hc (hs _ _ g3 (by omega)), g4, g5,
    fun p hp => ⟨(g6 p hp).1, Nat.lt_of_lt_of_le (g6 p hp).2 hc.size⟩, fun p hp => ⟨(g7 p hp).1, Nat.lt_of_lt_of_le (g7 p hp).2 hc.size⟩⟩
theorem RAt.chgB {w w' : World} {d : Nat} {K V : List Int} {n : Int} {s : Nat → Prop} (h : RAt w d K V n) (hc : Chg w.heap.size s w w') (hd : ¬ s d) (hs : ∀ (a : Option Addr) (xs : List Int), Row w a .u8 xs → 0 < xs.length → ∀ p, a = some p → ¬ s p.block) : RAt w' d K V n := by
  obtain ⟨ka, kc, va, vc, g1, g2, g3, g4, g5, g6, g7⟩ := h
  exact ⟨ka, kc, va, vc, g1.chg hc g1.lt hd, g2.chg hc (hs _ _ g2 (by omega)), g3.chg hc (hs _ _ g3 (by omega)), g4, g5,
    fun p hp => ⟨(g6 p hp).1, Nat.lt_of_lt_of_le (g6 p hp).2 hc.size⟩, fun p hp => ⟨(g7 p hp).1, Nat.lt_of_lt_of_le (g7 p hp).2 hc.size⟩⟩
/-- a row of bytes does not lie in a block whose first cell is no byte and that has but one. -/
theorem off_one {w : World} {b : Nat} {v : Value} {T : TypeId} (h : Blk w b [v] T) (hv : ∀ x, v ≠ .int .u8 x) : ∀ (a : Option Addr) (xs : List Int), Row w a .u8 xs → 0 < xs.length → ∀ p, a = some p → p.block ≠ b := by
  intro a xs hr h0 p hp e
  obtain ⟨b', o, e1, e2⟩ := hr 0 h0
  rw [hp] at e1; cases e1
  have e : b' = b := e
  subst e
  rw [h.cell] at e2
  rcases o with _ | o
  · simp at e2; exact hv _ e2
  · simp at e2
theorem off_loop {w : World} {b : Nat} {ob : Loop} (h : w.heap[b]? = some (.loop ob)) : ∀ (a : Option Addr) (xs : List Int), Row w a .u8 xs → 0 < xs.length → ∀ p, a = some p → p.block ≠ b := by
  intro a xs hr h0 p hp e
  obtain ⟨b', o, e1, e2⟩ := hr 0 h0
  rw [hp] at e1; cases e1
  have e : b' = b := e
  subst e
  simp [World.cell?, h] at e2

theorem all1_spec {kt : List Int} (hko : KtOk kt) (hkl : kt.length = 80) {q db lp N : Nat} {s0 : List Int × List Int} (hs0 : Len32 s0) {I : Nat → World → Prop} {J : World → Prop} {w : World}
    (hI : ∀ i W, I i W → i < N ∧ Blk W q [.pointer (some ⟨db, 0, none⟩)] 25 ∧ (∃ m, DAt W db (rkv s0 i).1 (rkv s0 i).2 m) ∧ Row W (some ⟨3, 0, none⟩) .u64 kt) (hk0 : 3 ≠ db) (h0 : I 0 w)
    (hy : ∀ i W W1, I i W → (∃ m, DAt W1 db (rkv s0 (i + 1)).1 (rkv s0 (i + 1)).2 m) → Chg W.heap.size (fun k => k = db) W W1 →
      YieldP Tryd.prog none lp #[.int .u8 ((rbytesOf (rkv s0 i).1 (rkv s0 i).2 1).getD 0 0)] (fun v W' => (v = .bool true ∧ I (i + 1) W') ∨ (v = .bool false ∧ J W')) W1) :
    Calls Tryd.prog 19 #[.func (.yield lp) #[] #[], .pointer (some ⟨q, 0, none⟩)] w fun e w' => e = .returned (.tuple #[]) ∧ J w' := by
  refine calls_of_ev tysOk extsOk Tryd.func19 rfl rfl rfl ?_
  refine LoopP.go (S := Nat) 8184 (by kernel_rfl) (fun _ => []) (fun i W => I i W) (fun i => N - i) 0 trivial h0 ?_
  rintro i j W hi
  obtain ⟨hN, hq, ⟨m, hd⟩, hk⟩ := hI i W hi
  obtain ⟨hK, hV⟩ := rkv_length hs0 i
  refine LdPt.go (hq.cell 0) ?_
  (repeat (first | refine IfP.yes ?_ | refine IfP.no ?_ | refine NilP.go ?_))
  refine LdPt.go (hq.cell 0) ?_
  (repeat (first | refine IfP.yes ?_ | refine IfP.no ?_ | refine NilP.go ?_))
  refine CallP.intro (bytes_spec (n := 1) hd (by decide) (by decide) hk hkl hk0) ?_
  rintro e W1 ⟨ob, rfl, h1, h2, h3, h4⟩
  refine ⟨_, rfl, ?_⟩
  (repeat (first | refine IfP.yes ?_ | refine IfP.no ?_ | refine NilP.go ?_))
  refine IdxP.at 0 rfl (by decide) ?_
  (repeat (first | refine IfP.yes ?_ | refine IfP.no ?_ | refine NilP.go ?_))
  have hb1 : (bytesOf kt (rkv s0 i).1 (rkv s0 i).2 1).length = 1 := bytesOf_length 1
  have hc : W1.cell? ⟨ob, 0 + 0 * 1, none⟩ = some (.int .u8 ((rbytesOf (rkv s0 i).1 (rkv s0 i).2 1).getD 0 0)) := by
    obtain ⟨b', o', e1, e2⟩ := h1 0 (by rw [hb1]; decide)
    cases e1
    have e3 : (rbytesOf (rkv s0 i).1 (rkv s0 i).2 1).getD 0 0 = (bytesOf kt (rkv s0 i).1 (rkv s0 i).2 1)[0]'(by rw [hb1]; decide) := by
      rw [← bytesOf_eq hko (by omega) hV, List.getD_eq_getElem?_getD, List.getElem?_eq_getElem (by rw [hb1]; decide)]; rfl
    rw [e3]; exact e2
  refine LdI.go hc ?_
  (repeat (first | refine IfP.yes ?_ | refine IfP.no ?_ | refine NilP.go ?_))
  rw [bytesSt_eq hko (by omega) hV] at h3
  refine (hy i W W1 hi ⟨_, h3⟩ h4).mono ?_
  rintro v W2 (⟨rfl, k1⟩ | ⟨rfl, k1⟩)
  · (repeat (first | refine IfP.yes ?_ | refine IfP.no ?_ | refine NilP.go ?_))
    exact ⟨rfl, i + 1, ⟨trivial, k1⟩, by have := (hI _ _ k1).1; omega⟩
  · (repeat (first | refine IfP.yes ?_ | refine IfP.no ?_ | refine NilP.go ?_))
    exact ⟨rfl, rfl, k1⟩
end Go.Proofs.YthghiokcinpnlaaDoor
