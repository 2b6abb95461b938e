/- The walk by evaluation, part 6: rows and blocks of memory. -/
import Derived.Test.YthghiokcinpnlaaDoorEvKit
set_option linter.unusedSimpArgs false
set_option linter.unusedVariables false
namespace Go.Ev
open Go Go.RowKit

theorem add_none (b o n : Nat) : (⟨b, o, none⟩ : Addr).add n = ⟨b, o + n, none⟩ := by
  unfold Addr.add; split
  · rename_i h; subst h; rfl
  · rfl
abbrev World.drw (w : World) : World := { w with drawn := w.drawn + 1 }

/-- A slice reads as numbers of one kind. -/
def Row (w : World) (a : Option Addr) (K : IntKind) (xs : List Int) : Prop :=
  ∀ i (h : i < xs.length), ∃ b o, a = some ⟨b, o, none⟩ ∧ w.cell? ⟨b, o + i, none⟩ = some (.int K xs[i])
/-- A block known whole. -/
def Blk (w : World) (b : Nat) (cs : List Value) (T : TypeId) : Prop := w.heap[b]? = some (.cells cs.toArray T (0, 0))

theorem cell_lt {w : World} {p : Addr} {v : Value} (h : w.cell? p = some v) : p.block < w.heap.size := by
  rcases Nat.lt_or_ge p.block w.heap.size with h1 | h1
  · exact h1
  · simp [World.cell?, h1] at h
theorem Blk.lt {w : World} {b : Nat} {cs : List Value} {T : TypeId} (h : Blk w b cs T) : b < w.heap.size := (Array.getElem?_eq_some_iff.1 h).1
theorem Blk.cell {w : World} {b : Nat} {cs : List Value} {T : TypeId} (h : Blk w b cs T) (i : Nat) : w.cell? ⟨b, i, none⟩ = cs[i]? := by
  unfold Blk at h; simp [World.cell?, h]
theorem Blk.cellA {w : World} {b : Nat} {cs : List Value} {T : TypeId} (h : Blk w b cs T) (o i : Nat) : w.cell? ((⟨b, o, none⟩ : Addr).add i) = cs[o + i]? := by rw [add_none]; exact h.cell _
theorem Blk.frozen {w : World} {b : Nat} {cs : List Value} {T : TypeId} (h : Blk w b cs T) (p : Addr) (hp : p.block = b) : w.frozen? p = false := by
  unfold Blk at h; simp [World.frozen?, hp, h]
theorem Blk.new (w : World) (cs : List Value) (T : TypeId) : Blk (w.alloc (.cells cs.toArray T)) w.heap.size cs T := by
  unfold Blk; exact World.alloc_heap_new w _
theorem Blk.newA (w : World) (cs : Array Value) (T : TypeId) : Blk (w.alloc (.cells cs T)) w.heap.size cs.toList T := by
  unfold Blk; rw [Array.toArray_toList]; exact World.alloc_heap_new w _
theorem Blk.alloc {w : World} {b : Nat} {cs : List Value} {T : TypeId} (h : Blk w b cs T) (o : Obj) : Blk (w.alloc o) b cs T := (Below.heap_alloc w o b h.lt).trans h
theorem Blk.drw {w : World} {b : Nat} {cs : List Value} {T : TypeId} (h : Blk w b cs T) : Blk { w with drawn := w.drawn + 1 } b cs T := h
theorem Blk.below {w w' : World} {B b : Nat} {cs : List Value} {T : TypeId} (h : Blk w b cs T) (hb : Below B w w') (hlt : b < B) : Blk w' b cs T := (hb.block b hlt).trans h
theorem Blk.belowS {w w' : World} {b : Nat} {cs : List Value} {T : TypeId} (h : Blk w b cs T) (hb : Below w.heap.size w w') : Blk w' b cs T := h.below hb h.lt
theorem Blk.setCell_ne {w : World} {b : Nat} {cs : List Value} {T : TypeId} (h : Blk w b cs T) (p : Addr) (v : Value) (hp : p.block ≠ b) : Blk (w.setCell p v) b cs T := (Below.heap_setCell w p v b (fun e => hp e.symm)).trans h
theorem Blk.setCell {w : World} {b : Nat} {cs : List Value} {T : TypeId} (h : Blk w b cs T) (i : Nat) (v : Value) : Blk (w.setCell ⟨b, i, none⟩ v) b (cs.set i v) T := by
  unfold Blk at h ⊢
  simp [World.setCell, Array.getElem?_modify, h]
theorem Blk.setCellA {w : World} {b : Nat} {cs : List Value} {T : TypeId} (h : Blk w b cs T) (o i : Nat) (v : Value) : Blk (w.setCell ((⟨b, o, none⟩ : Addr).add i) v) b (cs.set (o + i) v) T := by rw [add_none]; exact h.setCell _ _
theorem size_setCell (w : World) (p : Addr) (v : Value) : (w.setCell p v).heap.size = w.heap.size := by simp [World.setCell]
theorem size_alloc (w : World) (o : Obj) : (w.alloc o).heap.size = w.heap.size + 1 := by simp
theorem Blk.setCells {b : Nat} {T : TypeId} (o : Nat) : ∀ (vs : List Value) (i : Nat) (w : World) (cs : List Value), Blk w b cs T → o + i + vs.length ≤ cs.length →
    Blk (setCells w ⟨b, o, none⟩ vs i) b (cs.take (o + i) ++ vs ++ cs.drop (o + i + vs.length)) T
  | [], i, w, cs, h, _ => by simpa [Ev.setCells] using h
  | v :: r, i, w, cs, h, hl => by
    simp only [List.length_cons] at hl
    have := Blk.setCells o r (i + 1) _ _ (h.setCellA o i v) (by simp; omega)
    refine (congrArg (fun l => Blk (Ev.setCells w ⟨b, o, none⟩ (v :: r) i) b l T) ?_).mp this
    apply List.ext_getElem?
    intro n
    simp only [List.getElem?_append, List.getElem?_take, List.getElem?_drop, List.length_append, List.length_take, List.length_set, List.getElem?_set, List.length_cons]
    rcases Nat.lt_trichotomy n (o + i) with hn | hn | hn
    · simp only [show n < o + (i + 1) by omega, show n < o + i by omega, show ¬ o + i = n by omega, show n < min (o + i) cs.length by omega, show n < min (o + (i + 1)) cs.length by omega, show n < min (o + (i + 1)) cs.length + r.length by omega, show n < min (o + i) cs.length + (r.length + 1) by omega, if_true, if_false]
    · subst hn
      simp only [show o + i < o + (i + 1) by omega, show ¬ o + i < min (o + i) cs.length by omega, show o + i < min (o + (i + 1)) cs.length by omega, show o + i < min (o + (i + 1)) cs.length + r.length by omega, show o + i < min (o + i) cs.length + (r.length + 1) by omega, show o + i < cs.length by omega, if_true, if_false]
      simp [show min (o + i) cs.length = o + i by omega]
    · by_cases h3 : n < o + i + (r.length + 1)
      · simp only [show ¬ n < min (o + (i + 1)) cs.length by omega, show ¬ n < min (o + i) cs.length by omega, show n < min (o + (i + 1)) cs.length + r.length by omega, show n < min (o + i) cs.length + (r.length + 1) by omega, if_true, if_false]
        obtain ⟨m, rfl⟩ : ∃ m, n = o + i + 1 + m := ⟨n - (o + i + 1), by omega⟩
        rw [show o + i + 1 + m - min (o + (i + 1)) cs.length = m by omega, show o + i + 1 + m - min (o + i) cs.length = m + 1 by omega, List.getElem?_cons_succ]
      · simp only [show ¬ n < min (o + (i + 1)) cs.length by omega, show ¬ n < min (o + i) cs.length by omega, show ¬ n < min (o + (i + 1)) cs.length + r.length by omega, show ¬ n < min (o + i) cs.length + (r.length + 1) by omega, if_false]
        rw [show o + (i + 1) + r.length + (n - (min (o + (i + 1)) cs.length + r.length)) = n by omega, show o + i + (r.length + 1) + (n - (min (o + i) cs.length + (r.length + 1))) = n by omega, if_neg (by omega)]
theorem Blk.setAll {w : World} {b : Nat} {cs vs : List Value} {T : TypeId} (h : Blk w b cs T) (hl : vs.length = cs.length) : Blk (Ev.setCells w ⟨b, 0, none⟩ vs 0) b vs T := by
  have := Blk.setCells 0 vs 0 w cs h (by omega)
  rw [show (0 + 0 + vs.length) = cs.length by omega, List.drop_length, List.append_nil] at this
  simpa using this
theorem setCells_block (a : Addr) : ∀ (vs : List Value) (i : Nat) (w : World) (k : Nat), k ≠ a.block → (setCells w a vs i).heap[k]? = w.heap[k]?
  | [], _, _, _, _ => rfl
  | v :: r, i, w, k, h => by
    rw [setCells, setCells_block a r (i + 1) _ k h]
    exact Below.heap_setCell w _ v k (fun e => h (by rw [e]; unfold Addr.add; split <;> rfl))
theorem Blk.setCells_ne {w : World} {b : Nat} {cs : List Value} {T : TypeId} (h : Blk w b cs T) (p : Addr) (vs : List Value) (i : Nat) (hp : p.block ≠ b) : Blk (Ev.setCells w p vs i) b cs T := (setCells_block p vs i w b (fun e => hp e.symm)).trans h
theorem size_setCells (a : Addr) : ∀ (vs : List Value) (i : Nat) (w : World), (setCells w a vs i).heap.size = w.heap.size
  | [], _, _ => rfl
  | v :: r, i, w => by rw [setCells, size_setCells a r]; exact size_setCell _ _ _
theorem below_setCells {B : Nat} {a : World} (p : Addr) (hp : B ≤ p.block) : ∀ (vs : List Value) (i : Nat) (w : World), Below B a w → Below B a (setCells w p vs i)
  | [], _, _, h => h
  | v :: r, i, w, h => below_setCells p hp r (i + 1) _ (h.setCell (p := p.add i) (by unfold Addr.add; split <;> exact hp) v)
theorem Below.drw {B : Nat} {a w : World} (h : Below B a w) : Below B a { w with drawn := w.drawn + 1 } := h.drew

theorem Row.nil (w : World) (a : Option Addr) (K : IntKind) : Row w a K [] := fun i h => absurd h (by simp)
theorem Row.cells {w w' : World} {a : Option Addr} {K : IntKind} {xs : List Int} (h : Row w a K xs) (hw : ∀ p v, w.cell? p = some v → w'.cell? p = some v) : Row w' a K xs := fun i hi => by
  obtain ⟨b, o, h1, h2⟩ := h i hi; exact ⟨b, o, h1, hw _ _ h2⟩
theorem Row.below {w w' : World} {a : Option Addr} {K : IntKind} {xs : List Int} (h : Row w a K xs) (hb : Below w.heap.size w w') : Row w' a K xs :=
  h.cells fun p v hv => (hb.cell (cell_lt hv)).trans hv
theorem Row.alloc {w : World} {a : Option Addr} {K : IntKind} {xs : List Int} (h : Row w a K xs) (o : Obj) : Row (w.alloc o) a K xs :=
  h.below ((Below.refl _ w).alloc (Nat.le_refl _) o)
theorem Row.drw {w : World} {a : Option Addr} {K : IntKind} {xs : List Int} (h : Row w a K xs) : Row { w with drawn := w.drawn + 1 } a K xs := h
theorem Row.belowLt {w w' : World} {B : Nat} {a : Option Addr} {K : IntKind} {xs : List Int} (h : Row w a K xs) (hb : Below B w w') (ha : ∀ p, a = some p → p.block < B) : Row w' a K xs := fun i hi => by
  obtain ⟨b, o, h1, h2⟩ := h i hi
  exact ⟨b, o, h1, (hb.cell (p := ⟨b, o + i, none⟩) (show b < B from ha ⟨b, o, none⟩ h1)).trans h2⟩
/-- the blocks in which a row lies are not block b. -/
def Row.Off (a : Option Addr) (b : Nat) : Prop := ∀ p, a = some p → p.block ≠ b
theorem Row.setCell {w : World} {a : Option Addr} {K : IntKind} {xs : List Int} (h : Row w a K xs) (p : Addr) (v : Value) (ho : Row.Off a p.block) : Row (w.setCell p v) a K xs := fun i hi => by
  obtain ⟨b, o, h1, h2⟩ := h i hi
  refine ⟨b, o, h1, ?_⟩
  rw [World.cell?_of_block (w := w) (Below.heap_setCell w p v b (fun e => ho _ h1 e))]; exact h2
theorem Row.setCells {w : World} {a : Option Addr} {K : IntKind} {xs : List Int} (h : Row w a K xs) (p : Addr) (vs : List Value) (i : Nat) (ho : Row.Off a p.block) : Row (Ev.setCells w p vs i) a K xs := fun j hj => by
  obtain ⟨b, o, h1, h2⟩ := h j hj
  refine ⟨b, o, h1, ?_⟩
  rw [World.cell?_of_block (w := w) (setCells_block p vs i w b (fun e => ho _ h1 e))]; exact h2
/-- A row of memory that is older than block B does not lie in it. -/
theorem Row.off {w : World} {a : Option Addr} {K : IntKind} {xs : List Int} (h : Row w a K xs) (hx : 0 < xs.length) {b : Nat} (hb : w.heap.size ≤ b) : Row.Off a b := by
  obtain ⟨b', o, h1, h2⟩ := h 0 hx
  intro p hp
  rw [h1] at hp; cases hp
  have := cell_lt h2; simp only at this ⊢; omega
theorem Row.of_blk {w : World} {b : Nat} {K : IntKind} {xs : List Int} {cs : List Value} {T : TypeId} (o : Nat) (h : Blk w b cs T) (hx : ∀ i (hi : i < xs.length), cs[o + i]? = some (.int K xs[i])) : Row w (some ⟨b, o, none⟩) K xs := fun i hi =>
  ⟨b, o, rfl, (h.cell _).trans (hx i hi)⟩
theorem Row.take {w : World} {a : Option Addr} {K : IntKind} {xs : List Int} (h : Row w a K xs) (n : Nat) : Row w a K (xs.take n) := fun i hi => by
  obtain ⟨b, o, h1, h2⟩ := h i (by simp at hi; omega)
  exact ⟨b, o, h1, by rw [h2]; simp⟩
theorem Row.drop {w : World} {a : Option Addr} {K : IntKind} {xs : List Int} (h : Row w a K xs) (n : Nat) : Row w (a.map (·.add n)) K (xs.drop n) := fun i hi => by
  obtain ⟨b, o, h1, h2⟩ := h (n + i) (by simp at hi; omega)
  refine ⟨b, o + n, by rw [h1]; simp [add_none], by rw [Nat.add_assoc, h2]; simp⟩
theorem Row.append_left {w : World} {a : Option Addr} {K : IntKind} {xs ys : List Int} (h : Row w a K (xs ++ ys)) : Row w a K xs := by
  have := h.take xs.length; simpa using this

/-! ### the steps -/
theorem LdI.go {w : World} {a : Addr} {K : IntKind} {n : Int} {k : Int → Prop} (h : w.cell? a = some (.int K n)) (hk : k n) : LdI K a k w := ⟨⟨n, h, hk⟩⟩
theorem LdB.go {w : World} {a : Addr} {n : Bool} {k : Bool → Prop} (h : w.cell? a = some (.bool n)) (hk : k n) : LdB a k w := ⟨⟨n, h, hk⟩⟩
theorem LdSl.go {w : World} {a : Addr} {b : Option Addr} {l c : Nat} {k : Option Addr → Nat → Nat → Prop} (h : w.cell? a = some (.slice b l c)) (hk : k b l c) : LdSl a k w := ⟨⟨b, l, c, h, hk⟩⟩
theorem LdPt.go {w : World} {a : Addr} {b : Option Addr} {k : Option Addr → Prop} (h : w.cell? a = some (.pointer b)) (hk : k b) : LdPt a k w := ⟨⟨b, h, hk⟩⟩
theorem LdV.go {w : World} {a : Addr} {b : Value} {k : Value → Prop} (h : w.cell? a = some b) (hk : k b) : LdV a k w := ⟨⟨b, h, hk⟩⟩
theorem LdAgg.go {w : World} {b o n : Nat} {cs : List Value} {T : TypeId} {k : Array Value → Prop} (h : Blk w b cs T) (hn : o + n ≤ cs.length) (hk : k ((cs.drop o).take n).toArray) : LdAgg ⟨b, o, none⟩ n k w :=
  ⟨⟨_, by simp; omega, fun i hi => by rw [h.cellA]; simp [hi], hk⟩⟩
theorem StP.go {w : World} {a : Addr} {v u : Value} {k : World → Prop} (h1 : Value.oneCell' v = true) (h : w.cell? a = some u) (hf : w.frozen? a = false) (hk : k (w.setCell a v)) : StP a v k w := ⟨h1, by rw [h]; rfl, hf, hk⟩
theorem StP.blk {w : World} {b i : Nat} {cs : List Value} {T : TypeId} {v : Value} {k : World → Prop} (h : Blk w b cs T) (h1 : Value.oneCell' v = true) (hi : i < cs.length) (hk : k (w.setCell ⟨b, i, none⟩ v)) : StP ⟨b, i, none⟩ v k w :=
  ⟨h1, by rw [h.cell]; simp [hi], h.frozen _ rfl, hk⟩
theorem StsP.blk {w : World} {b o : Nat} {cs : List Value} {T : TypeId} {vs : List Value} {k : World → Prop} (h : Blk w b cs T) (h1 : ∀ v ∈ vs, Value.oneCell' v = true) (hi : o + vs.length ≤ cs.length) (hk : k (setCells w ⟨b, o, none⟩ vs 0)) : StsP ⟨b, o, none⟩ vs k w :=
  ⟨h1, fun i hlt => by rw [h.cellA, List.getElem?_eq_getElem (by omega)]; rfl, fun i _ => h.frozen _ (by rw [add_none]), hk⟩
/-- an element of a row is read. -/
theorem IdxP.ld {w : World} {a : Option Addr} {K : IntKind} {xs : List Int} {l : Nat} {i : Int} {k : Addr → Int → Prop} (n : Nat) (he : i = n) (hr : Row w a K xs) (hl : l = xs.length) (hn : n < l)
    (hk : ∀ b o, a = some ⟨b, o, none⟩ → k ⟨b, o + n, none⟩ (xs.getD n 0)) : IdxP a l i 1 (fun p => LdI K p (k p) w) := by
  subst hl he
  obtain ⟨b, o, rfl, hc⟩ := hr n hn
  refine ⟨⟨_, rfl, by omega, by omega, ?_⟩⟩
  rw [Nat.mul_one, add_none, Int.toNat_natCast]
  refine .go hc ?_
  have := hk b o rfl
  rwa [List.getD_eq_getElem?_getD, List.getElem?_eq_getElem hn] at this
/-- an element's address in a block of one's own. -/
theorem IdxP.at {b o l : Nat} {i : Int} {sz : Nat} {k : Addr → Prop} (n : Nat) (he : i = n) (hn : n < l) (hk : k ⟨b, o + n * sz, none⟩) : IdxP (some ⟨b, o, none⟩) l i sz k := by
  subst he
  exact ⟨⟨_, rfl, by omega, by omega, by rw [add_none, Int.toNat_natCast]; exact hk⟩⟩
theorem RdP.row {w : World} {a : Option Addr} {K : IntKind} {xs : List Int} {n : Nat} {k : List Value → Prop} (hr : Row w a K xs) (hn : n = xs.length) (hk : k (xs.map (Value.int K))) : RdP a n k w := by
  subst hn
  refine ⟨⟨_, by simp, fun i hi => ?_, hk⟩⟩
  obtain ⟨b, o, h1, h2⟩ := hr i hi
  exact ⟨_, h1, by rw [add_none, h2]; simp [hi]⟩
theorem NilP.go {b : Addr} {k : Addr → Prop} (hk : k b) : NilP (some b) k := ⟨⟨b, rfl, hk⟩⟩
theorem PtI.at {K : IntKind} {cs : List Value} {off : Nat} {n : Int} {k : Int → Prop} (m : Nat) (ho : off = m) (h : cs[m]? = some (.int K n)) (hk : k n) : PtI K cs.toArray off k := by subst ho; exact ⟨⟨n, h, hk⟩⟩
theorem PtI.go {K : IntKind} {cs : List Value} {off : Nat} {n : Int} {k : Int → Prop} (h : cs[off]? = some (.int K n)) (hk : k n) : PtI K cs.toArray off k := ⟨⟨n, h, hk⟩⟩
theorem PtV.go {cs : List Value} {off : Nat} {n : Value} {k : Value → Prop} (h : cs[off]? = some n) (hk : k n) : PtV cs.toArray off k := ⟨⟨n, h, hk⟩⟩
theorem ChkP.go {c A : Prop} (h : c) (hk : A) : ChkP c A := ⟨h, hk⟩
theorem IdxP.ldB {w : World} {b o l : Nat} {i : Int} {cs : List Value} {T : TypeId} {K : IntKind} {x : Int} {k : Addr → Int → Prop} (n : Nat) (he : i = n) (h : Blk w b cs T) (hn : n < l) (hc : cs[o + n]? = some (.int K x)) (hk : k ⟨b, o + n, none⟩ x) :
    IdxP (some ⟨b, o, none⟩) l i 1 (fun p => LdI K p (k p) w) :=
  .at n he hn (by rw [Nat.mul_one]; exact .go ((h.cell _).trans hc) hk)
theorem IdxP.stB {w : World} {b o l : Nat} {i : Int} {cs : List Value} {T : TypeId} {v : Value} {k : Addr → World → Prop} (n : Nat) (he : i = n) (h : Blk w b cs T) (hn : n < l) (hv : Value.oneCell' v = true) (hi : o + n < cs.length) (hk : k ⟨b, o + n, none⟩ (w.setCell ⟨b, o + n, none⟩ v)) :
    IdxP (some ⟨b, o, none⟩) l i 1 (fun p => StP p v (k p) w) :=
  .at n he hn (by rw [Nat.mul_one]; exact .blk h hv hi hk)
theorem IdxP.ld0 {w : World} {b l : Nat} {i : Int} {cs : List Value} {T : TypeId} {K : IntKind} {x : Int} {k : Addr → Int → Prop} (n : Nat) (he : i = n) (h : Blk w b cs T) (hn : n < l) (hc : cs[n]? = some (.int K x)) (hk : k ⟨b, n, none⟩ x) :
    IdxP (some ⟨b, 0, none⟩) l i 1 (fun p => LdI K p (k p) w) :=
  .ldB n he h hn (by rw [Nat.zero_add]; exact hc) (by rw [Nat.zero_add]; exact hk)
theorem IdxP.st0 {w : World} {b l : Nat} {i : Int} {cs : List Value} {T : TypeId} {v : Value} {k : Addr → World → Prop} (n : Nat) (he : i = n) (h : Blk w b cs T) (hn : n < l) (hv : Value.oneCell' v = true) (hi : n < cs.length) (hk : k ⟨b, n, none⟩ (w.setCell ⟨b, n, none⟩ v)) :
    IdxP (some ⟨b, 0, none⟩) l i 1 (fun p => StP p v (k p) w) :=
  .stB n he h hn hv (by omega) (by rw [Nat.zero_add]; exact hk)
/-- a slice expression over a row: from n, and to m. -/
theorem SlcP.row {w : World} {a : Option Addr} {K : IntKind} {xs : List Int} {l c : Nat} {lo : Int} {hi : Option Int} {k : Option Addr → Nat → Nat → Prop} (n m : Nat) (hlo : lo = n) (hhi : hi.getD l = m) (hr : Row w a K xs) (hl : l = xs.length) (hc : l ≤ c) (hn : n ≤ m) (hm : m ≤ l)
    (hk : ∀ a', Row w a' K ((xs.take m).drop n) → (∀ p, a' = some p → ∃ q, a = some q ∧ q.block = p.block) → k a' (m - n) (c - n)) : SlcP a l c lo hi none 1 k := by
  subst hlo
  refine ⟨⟨by omega, by omega, by omega, by simp; omega, by simp, by simp, ?_⟩⟩
  rw [hhi]
  simp only [Option.getD_none, Int.toNat_natCast, Nat.mul_one]
  by_cases hcn : c = n
  · rw [if_pos hcn]
    have : (xs.take m).drop n = [] := by apply List.drop_eq_nil_of_le; simp; omega
    exact hk a (by rw [this]; exact Row.nil _ _ _) (fun p hp => ⟨p, hp, rfl⟩)
  · rw [if_neg hcn]
    refine hk _ ((hr.take m).drop n) ?_
    intro p hp
    cases a with
    | none => cases hp
    | some q => simp only [Option.map_some, Option.some.injEq] at hp; exact ⟨q, rfl, by rw [← hp]; unfold Addr.add; split <;> rfl⟩

/-- Below block B only the blocks told by s have turned. -/
structure Chg (B : Nat) (s : Nat → Prop) (w w' : World) : Prop where
  os : w'.os = w.os
  tape : w'.tape = w.tape
  output : w'.output = w.output
  size : w.heap.size ≤ w'.heap.size
  block : ∀ k, k < B → ¬ s k → w'.heap[k]? = w.heap[k]?
theorem Chg.refl (B : Nat) (s : Nat → Prop) (w : World) : Chg B s w w := ⟨rfl, rfl, rfl, Nat.le_refl _, fun _ _ _ => rfl⟩
theorem Chg.of_below {B : Nat} {s : Nat → Prop} {w w' : World} (h : Below B w w') : Chg B s w w' := ⟨h.os, h.tape, h.output, h.size, fun k hk _ => h.block k hk⟩
theorem Chg.below {B : Nat} {w w' : World} (h : Chg B (fun _ => False) w w') : Below B w w' := ⟨h.os, h.tape, h.output, h.size, fun k hk => h.block k hk id⟩
theorem Chg.trans {B : Nat} {s : Nat → Prop} {a b c : World} (h : Chg B s a b) (k : Chg B s b c) : Chg B s a c :=
  ⟨k.os.trans h.os, k.tape.trans h.tape, k.output.trans h.output, Nat.le_trans h.size k.size, fun i hi hs => (k.block i hi hs).trans (h.block i hi hs)⟩
theorem Chg.mono {B B' : Nat} {s s' : Nat → Prop} {a b : World} (h : Chg B s a b) (hB : B' ≤ B) (hs : ∀ k, k < B' → s k → s' k) : Chg B' s' a b :=
  ⟨h.os, h.tape, h.output, h.size, fun k hk hn => h.block k (by omega) (fun hk' => hn (hs k hk hk'))⟩
theorem Chg.alloc {B : Nat} {s : Nat → Prop} {a w : World} (h : Chg B s a w) (hB : B ≤ w.heap.size) (o : Obj) : Chg B s a (w.alloc o) := h.trans (.of_below ((Below.refl _ _).alloc hB o))
theorem Chg.drw {B : Nat} {s : Nat → Prop} {a w : World} (h : Chg B s a w) : Chg B s a { w with drawn := w.drawn + 1 } := h.trans (.of_below (Below.refl _ w).drew)
theorem Chg.setCell {B : Nat} {s : Nat → Prop} {a w : World} (h : Chg B s a w) (p : Addr) (v : Value) (hp : p.block < B → s p.block) : Chg B s a (w.setCell p v) :=
  h.trans ⟨rfl, rfl, rfl, Nat.le_of_eq (size_setCell w p v).symm, fun k hk hn => Below.heap_setCell w p v k (fun e => hn (by rw [e]; exact hp (by omega)))⟩
theorem Chg.setCells {B : Nat} {s : Nat → Prop} {a w : World} (h : Chg B s a w) (p : Addr) (vs : List Value) (i : Nat) (hp : p.block < B → s p.block) : Chg B s a (Ev.setCells w p vs i) := by
  induction vs generalizing i w with
  | nil => exact h
  | cons v r ih => exact ih (h.setCell (p.add i) v (by unfold Addr.add; split <;> exact hp)) (i + 1)
theorem Blk.chg {w w' : World} {B b : Nat} {s : Nat → Prop} {cs : List Value} {T : TypeId} (h : Blk w b cs T) (hc : Chg B s w w') (hlt : b < B) (hs : ¬ s b) : Blk w' b cs T := (hc.block b hlt hs).trans h
theorem Row.chg {w w' : World} {s : Nat → Prop} {a : Option Addr} {K : IntKind} {xs : List Int} (h : Row w a K xs) (hc : Chg w.heap.size s w w') (hs : ∀ p, a = some p → ¬ s p.block) : Row w' a K xs := fun i hi => by
  obtain ⟨b, o, h1, h2⟩ := h i hi
  refine ⟨b, o, h1, ?_⟩
  rw [World.cell?_of_block (w := w) (hc.block b (cell_lt h2) (hs _ h1))]; exact h2
theorem set_split {α : Type} (l : List α) (z v : α) (r : List α) : (l ++ z :: r).set l.length v = l ++ v :: r := by simp
theorem ints_set (K : IntKind) (l : List Int) (i : Nat) (v : Int) : (l.map (Value.int K)).set i (.int K v) = (l.set i v).map (Value.int K) := by simp
end Go.Ev
