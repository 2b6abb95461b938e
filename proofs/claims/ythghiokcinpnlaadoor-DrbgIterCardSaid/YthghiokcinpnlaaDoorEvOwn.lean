/- The walk by evaluation, part 8: slices with blocks of their own, and append. -/
import Derived.Test.YthghiokcinpnlaaDoorEvRng
set_option linter.unusedSimpArgs false
set_option linter.unusedVariables false
namespace Go.Ev
open Go Go.RowKit

theorem nble {a b : Nat} (h : b < a) : Nat.ble a b = false := by
  cases hx : Nat.ble a b with
  | false => rfl
  | true => rw [Nat.ble_eq] at hx; omega
theorem yble {a b : Nat} (h : a ≤ b) : Nat.ble a b = true := by rw [Nat.ble_eq]; exact h
theorem Chg.thenB {B B' : Nat} {s : Nat → Prop} {a w w' : World} (h : Chg B s a w) (hb : Below B' w w') (hB : B ≤ B') : Chg B s a w' :=
  h.trans ((Chg.of_below (s := fun _ => False) hb).mono hB (fun _ _ h => h.elim))
theorem Chg.thenC {B B' : Nat} {s s' : Nat → Prop} {a w w' : World} (h : Chg B s a w) (hb : Chg B' s' w w') (hB : B ≤ B') (hs : ∀ k, k < B → s' k → s k) : Chg B s a w' :=
  h.trans (hb.mono hB hs)
/-- a row that is not empty lies in blocks that have not turned. -/
theorem Row.chg0 {w w' : World} {s : Nat → Prop} {a : Option Addr} {K : IntKind} {xs : List Int} (h : Row w a K xs) (hc : Chg w.heap.size s w w') (hs : 0 < xs.length → ∀ p, a = some p → ¬ s p.block) : Row w' a K xs := by
  rcases Nat.eq_zero_or_pos xs.length with h0 | h0
  · rw [List.eq_nil_of_length_eq_zero h0]; exact Row.nil _ _ _
  · exact h.chg hc (hs h0)
theorem Row.lt {w : World} {a : Option Addr} {K : IntKind} {xs : List Int} (h : Row w a K xs) (h0 : 0 < xs.length) : ∀ p, a = some p → p.block < w.heap.size := by
  obtain ⟨b, o, e1, e2⟩ := h 0 h0
  intro p hp
  rw [hp] at e1; cases e1
  exact cell_lt e2
/-- a cell of a block is stored; the world behind it is known by its facts alone. -/
theorem StP.to {w : World} {b : Nat} (i : Nat) {cs : List Value} {T : TypeId} {v : Value} {k : World → Prop} (h : Blk w b cs T) (h1 : Value.oneCell' v = true) (hi : i < cs.length)
    (hk : ∀ w', Blk w' b (cs.set i v) T → Chg w.heap.size (fun k => k = b) w w' → w'.heap.size = w.heap.size → k w') : StP ⟨b, i, none⟩ v k w :=
  StP.blk h h1 hi (hk _ (h.setCell i v) ((Chg.refl _ _ _).setCell _ _ (fun _ => rfl)) (size_setCell _ _ _))
theorem StsP.to {w : World} {b : Nat} {cs : List Value} {T : TypeId} {vs : List Value} {k : World → Prop} (h : Blk w b cs T) (h1 : ∀ v ∈ vs, Value.oneCell' v = true) (hi : vs.length = cs.length)
    (hk : ∀ w', Blk w' b vs T → Chg w.heap.size (fun k => k = b) w w' → w'.heap.size = w.heap.size → k w') : StsP ⟨b, 0, none⟩ vs k w :=
  StsP.blk (o := 0) h h1 (by omega) (hk _ (h.setAll hi) ((Chg.refl _ _ _).setCells _ _ _ (fun _ => rfl)) (size_setCells _ _ _ _))
theorem IdxP.stTo {w : World} {b l : Nat} {i : Int} {cs : List Value} {T : TypeId} {v : Value} {k : Addr → World → Prop} (n : Nat) (he : i = n) (h : Blk w b cs T) (hn : n < l) (hv : Value.oneCell' v = true) (hi : n < cs.length)
    (hk : ∀ w', Blk w' b (cs.set n v) T → Chg w.heap.size (fun k => k = b) w w' → w'.heap.size = w.heap.size → k ⟨b, n, none⟩ w') :
    IdxP (some ⟨b, 0, none⟩) l i 1 (fun p => StP p v (k p) w) :=
  .st0 n he h hn hv hi (hk _ (h.setCell n v) ((Chg.refl _ _ _).setCell _ _ (fun _ => rfl)) (size_setCell _ _ _))
/-- a block of numbers, and room behind them. -/
def Buf (K : IntKind) (T : TypeId) (w : World) (b : Nat) (xs : List Int) (c : Nat) : Prop := ∃ sp : List Int, Blk w b ((xs ++ sp).map (Value.int K)) T ∧ c = xs.length + sp.length
/-- a slice expression whose place is known. -/
theorem SlcP.exact {b o l c sz : Nat} {lo : Int} {hi : Option Int} {k : Option Addr → Nat → Nat → Prop} (n m : Nat) (hlo : lo = n) (hhi : hi.getD l = m) (hn : n ≤ m) (hm : m ≤ c) (hne : n < c ∨ n = 0)
    (hk : k (some ⟨b, o + n * sz, none⟩) (m - n) (c - n)) : SlcP (some ⟨b, o, none⟩) l c lo hi none sz k := by
  subst hlo
  refine ⟨⟨by omega, by omega, by omega, by simp; omega, by simp, by simp, ?_⟩⟩
  rw [hhi]
  simp only [Option.getD_none, Int.toNat_natCast]
  have : (if c = n then some (⟨b, o, none⟩ : Addr) else Option.map (fun x => x.add (n * sz)) (some (⟨b, o, none⟩ : Addr))) = some ⟨b, o + n * sz, none⟩ := by
    split
    · rcases hne with h | h
      · omega
      · subst h; simp
    · simp [add_none]
  rw [this]; exact hk
/-- the whole of a slice's first cells, the room cut off. -/
theorem SlcP.first {b o l c sz : Nat} {hi : Option Int} {mx : Option Int} {k : Option Addr → Nat → Nat → Prop} (m q : Nat) (hhi : hi.getD l = m) (hmx : mx.getD c = q) (hm : m ≤ q) (hq : q ≤ c)
    (hk : k (some ⟨b, o, none⟩) m q) : SlcP (some ⟨b, o, none⟩) l c 0 hi mx sz k := by
  refine ⟨⟨by omega, by omega, by omega, by omega, by omega, by omega, ?_⟩⟩
  rw [hhi, hmx]
  have : (if q = 0 then some (⟨b, o, none⟩ : Addr) else Option.map (fun x => x.add (0 * sz)) (some (⟨b, o, none⟩ : Addr))) = some ⟨b, o, none⟩ := by
    split
    · rfl
    · simp [add_none]
  simp only [Option.getD_none, Int.toNat_natCast, Int.toNat_zero, Nat.sub_zero]
  rw [this]; exact hk
section
variable {K : IntKind} {T : TypeId}
theorem Buf.row {w : World} {b : Nat} {xs : List Int} {c : Nat} (h : Buf K T w b xs c) : Row w (some ⟨b, 0, none⟩) K xs := by
  obtain ⟨sp, h, _⟩ := h
  refine Row.of_blk 0 h fun i hi => ?_
  rw [Nat.zero_add, List.getElem?_map, List.getElem?_append_left hi, List.getElem?_eq_getElem hi]; rfl
theorem Buf.le {w : World} {b : Nat} {xs : List Int} {c : Nat} (h : Buf K T w b xs c) : xs.length ≤ c := by obtain ⟨sp, _, h⟩ := h; omega
theorem Buf.lt {w : World} {b : Nat} {xs : List Int} {c : Nat} (h : Buf K T w b xs c) : b < w.heap.size := by obtain ⟨sp, h, _⟩ := h; exact h.lt
theorem Buf.chg {w w' : World} {B b : Nat} {s : Nat → Prop} {xs : List Int} {c : Nat} (h : Buf K T w b xs c) (hc : Chg B s w w') (hlt : b < B) (hs : ¬ s b) : Buf K T w' b xs c := by
  obtain ⟨sp, h, e⟩ := h; exact ⟨sp, h.chg hc hlt hs, e⟩
theorem Buf.below {w w' : World} {b : Nat} {xs : List Int} {c : Nat} (h : Buf K T w b xs c) (hc : Below w.heap.size w w') : Buf K T w' b xs c := by
  obtain ⟨sp, h, e⟩ := h; exact ⟨sp, h.belowS hc, e⟩
theorem Buf.drw {w : World} {b : Nat} {xs : List Int} {c : Nat} (h : Buf K T w b xs c) : Buf K T { w with drawn := w.drawn + 1 } b xs c := h
theorem Buf.take {w : World} {b : Nat} {xs : List Int} {c : Nat} (h : Buf K T w b xs c) (n : Nat) : Buf K T w b (xs.take n) c := by
  obtain ⟨sp, h, e⟩ := h
  refine ⟨xs.drop n ++ sp, by rw [← List.append_assoc, List.take_append_drop]; exact h, ?_⟩
  simp; omega
theorem Buf.of {w : World} {b : Nat} {xs : List Int} (h : Blk w b (xs.map (Value.int K)) T) : Buf K T w b xs xs.length := ⟨[], by simpa using h, by simp⟩
/-- an element is set. -/
theorem Buf.set {w : World} {b : Nat} {xs : List Int} {c : Nat} (h : Buf K T w b xs c) (i : Nat) (hi : i < xs.length) (v : Int) : Buf K T (w.setCell ⟨b, i, none⟩ (.int K v)) b (xs.set i v) c := by
  obtain ⟨sp, h, e⟩ := h
  refine ⟨sp, ?_, by simpa using e⟩
  have := h.setCell i (.int K v)
  rw [ints_set, List.set_append_left _ _ hi] at this
  exact this
theorem Buf.setCell_ne {w : World} {b : Nat} {xs : List Int} {c : Nat} (h : Buf K T w b xs c) (p : Addr) (v : Value) (hp : p.block ≠ b) : Buf K T (w.setCell p v) b xs c := by
  obtain ⟨sp, h, e⟩ := h; exact ⟨sp, h.setCell_ne p v hp, e⟩
theorem Buf.alloc {w : World} {b : Nat} {xs : List Int} {c : Nat} (h : Buf K T w b xs c) (o : Obj) : Buf K T (w.alloc o) b xs c := by
  obtain ⟨sp, h, e⟩ := h; exact ⟨sp, h.alloc o, e⟩
/-- an element of a buffer is stored. -/
theorem IdxP.stBuf {w : World} {b l c : Nat} {i : Int} {xs : List Int} {v : Int} {k : Addr → World → Prop} (n : Nat) (he : i = n) (h : Buf K T w b xs c) (hn : n < l) (hl : l = xs.length) (hk : k ⟨b, n, none⟩ (w.setCell ⟨b, n, none⟩ (.int K v))) :
    IdxP (some ⟨b, 0, none⟩) l i 1 (fun p => StP p (.int K v) (k p) w) := by
  obtain ⟨sp, h, e⟩ := h
  exact .st0 n he h hn rfl (by simp; omega) hk
theorem IdxP.toBuf {w : World} {b l c : Nat} {i : Int} {xs : List Int} {v : Int} {k : Addr → World → Prop} (n : Nat) (he : i = n) (h : Buf K T w b xs c) (hn : n < l) (hl : l = xs.length)
    (hk : ∀ w', Buf K T w' b (xs.set n v) c → Chg w.heap.size (fun k => k = b) w w' → w'.heap.size = w.heap.size → k ⟨b, n, none⟩ w') :
    IdxP (some ⟨b, 0, none⟩) l i 1 (fun p => StP p (.int K v) (k p) w) :=
  .stBuf n he h hn hl (hk _ (h.set n (by omega) v) ((Chg.refl _ _ _).setCell _ _ (fun _ => rfl)) (size_setCell _ _ _))
/-- cells of a buffer are stored in a row. -/
theorem StsP.buf {w : World} {b c : Nat} {xs ys : List Int} {k : World → Prop} (o : Nat) (h : Buf K T w b xs c) (hl : o + ys.length ≤ xs.length)
    (hk : ∀ w', Buf K T w' b (xs.take o ++ ys ++ xs.drop (o + ys.length)) c → Chg w.heap.size (fun k => k = b) w w' → w'.heap.size = w.heap.size → k w') :
    StsP ⟨b, o, none⟩ (ys.map (Value.int K)) k w := by
  obtain ⟨sp, hB, e⟩ := h
  refine StsP.blk (o := o) hB (by simp; intros; rfl) (by simp; omega) (hk _ ⟨sp, ?_, by simp; omega⟩ ((Chg.refl _ _ _).setCells _ _ _ (fun _ => rfl)) (size_setCells _ _ _ _))
  have := Blk.setCells o (ys.map (Value.int K)) 0 w _ hB (by simp; omega)
  refine (congrArg (fun l => Blk (Ev.setCells w ⟨b, _, none⟩ (ys.map (Value.int K)) 0) b l T) ?_).mp this
  rw [Nat.add_zero, ← List.map_take, ← List.map_drop, ← List.map_append, ← List.map_append]
  congr 1
  rw [List.take_append_of_le_length (by omega), List.length_map, List.drop_append_of_le_length (by omega), List.append_assoc, List.append_assoc, List.append_assoc]
theorem zeros_flat (n : Nat) : (List.replicate n (Value.cells (.int K 0)).toList).flatten = (List.replicate n (0 : Int)).map (Value.int K) := by simp [Value.cells]
theorem Buf.make (w : World) (l c : Nat) (h : l ≤ c) : Buf K T (w.alloc (.cells (List.replicate c (Value.cells (.int K 0)).toList).flatten.toArray T)) w.heap.size (List.replicate l 0) c := by
  refine ⟨List.replicate (c - l) 0, ?_, by simp; omega⟩
  have := Blk.new w ((List.replicate l (0 : Int) ++ List.replicate (c - l) 0).map (Value.int K)) T
  rw [List.replicate_append_replicate, show l + (c - l) = c by omega] at this ⊢
  rw [zeros_flat]
  exact this
theorem Mk.to {len cap : Int} {bytes : Nat} {k : Value → World → Prop} {w : World} (n c : Nat) (hl : len = n) (hc : cap = c) (hn : n ≤ c) (hs : c ≤ 1000000000) (hb : Nat.ble bytes 1000 = true)
    (hk : ∀ w', Buf K T w' w.heap.size (List.replicate n 0) c → Below w.heap.size w w' → w'.heap.size = w.heap.size + 1 → k (.slice (some ⟨w.heap.size, 0, none⟩) n c) w') : MakeK T bytes (.int K 0) len cap k w := by
  subst hl hc
  rw [Nat.ble_eq] at hb
  refine ⟨⟨⟨by omega, by omega, by omega, ?_, ?_⟩⟩⟩
  · have : bytes * c ≤ 1000 * 1000000000 := Nat.mul_le_mul hb hs
    omega
  · simp only [Int.toNat_natCast]
    exact hk _ (Buf.make w n c hn) ((Below.refl _ _).alloc (Nat.le_refl _) _) (size_alloc _ _)
theorem RdP.row' {w : World} {a : Option Addr} {xs : List Int} {n : Nat} {k : List Value → Prop} (hr : Row w a K xs) (hn : n = xs.length) (hk : k (xs.map (Value.int K))) : RdP a n k w := by
  subst hn
  refine ⟨⟨xs.map (Value.int K), by simp, fun i hi => ?_, hk⟩⟩
  obtain ⟨b, o, h1, h2⟩ := hr i hi
  exact ⟨_, h1, by rw [add_none, h2]; simp [hi]⟩

theorem growBy_le (n : Nat) : ∀ (r c : Nat), c ≤ 2 * n + 768 → Builtin.growBy n r c ≤ 2 * n + 768
  | 0, c, h => h
  | r + 1, c, h => by
    unfold Builtin.growBy
    split
    · exact h
    · exact growBy_le n r _ (by omega)
theorem slicecap_le {need old : Nat} (h : old < need) : Builtin.nextslicecap need old ≤ 2 * need + 768 := by
  unfold Builtin.nextslicecap
  split
  · omega
  · split
    · omega
    · exact growBy_le _ _ _ (by omega)
theorem i64max : IntKind.i64.max = 9223372036854775807 := by decide
theorem GrowP.go {need old el bytes : Nat} {k : Nat → World → Prop} {w : World} (hs : need ≤ 1000000000) (h : old < need) (hb : bytes ≤ 1000) (hk : ∀ c, need ≤ c → k c { w with drawn := w.drawn + 1 }) : GrowP need old el bytes k w := by
  refine ⟨?_, .inl (by rw [i64max]; omega), hk⟩
  have := slicecap_le h
  exact Nat.le_trans (Nat.mul_le_mul this hb) (by omega)

/-- a slice that owns its block, from the first cell; or nil. -/
def OwnS (K : IntKind) (T : TypeId) (w : World) (a : Option Addr) (l c : Nat) (xs : List Int) : Option Nat → Prop
  | none => a = none ∧ l = 0 ∧ c = 0 ∧ xs = []
  | some b => a = some ⟨b, 0, none⟩ ∧ l = xs.length ∧ Buf K T w b xs c
theorem OwnS.row {w : World} {a : Option Addr} {l c : Nat} {xs : List Int} {o : Option Nat} (h : OwnS K T w a l c xs o) : Row w a K xs := by
  cases o with
  | none => obtain ⟨_, _, _, rfl⟩ := h; exact Row.nil _ _ _
  | some b => obtain ⟨rfl, _, h⟩ := h; exact h.row
theorem OwnS.len {w : World} {a : Option Addr} {l c : Nat} {xs : List Int} {o : Option Nat} (h : OwnS K T w a l c xs o) : l = xs.length := by
  cases o with
  | none => obtain ⟨_, rfl, _, rfl⟩ := h; rfl
  | some b => exact h.2.1
theorem OwnS.le {w : World} {a : Option Addr} {l c : Nat} {xs : List Int} {o : Option Nat} (h : OwnS K T w a l c xs o) : l ≤ c := by
  cases o with
  | none => obtain ⟨_, rfl, rfl, rfl⟩ := h; exact Nat.le_refl _
  | some b => obtain ⟨_, rfl, h⟩ := h; exact h.le
theorem OwnS.lt {w : World} {a : Option Addr} {l c : Nat} {xs : List Int} {o : Option Nat} (h : OwnS K T w a l c xs o) : ∀ b, o = some b → b < w.heap.size := by
  rintro b rfl; exact h.2.2.lt
theorem OwnS.at {w : World} {a : Option Addr} {l c : Nat} {xs : List Int} {o : Option Nat} (h : OwnS K T w a l c xs o) : ∀ p, a = some p → o = some p.block := by
  rintro p rfl
  cases o with
  | none => cases h.1
  | some b => have := h.1; cases this; rfl
theorem OwnS.chg {w w' : World} {B : Nat} {s : Nat → Prop} {a : Option Addr} {l c : Nat} {xs : List Int} {o : Option Nat} (h : OwnS K T w a l c xs o) (hc : Chg B s w w') (hlt : ∀ b, o = some b → b < B) (hs : ∀ b, o = some b → ¬ s b) : OwnS K T w' a l c xs o := by
  cases o with
  | none => exact h
  | some b => exact ⟨h.1, h.2.1, h.2.2.chg hc (hlt b rfl) (hs b rfl)⟩
theorem OwnS.below {w w' : World} {a : Option Addr} {l c : Nat} {xs : List Int} {o : Option Nat} (h : OwnS K T w a l c xs o) (hc : Below w.heap.size w w') : OwnS K T w' a l c xs o := by
  cases o with
  | none => exact h
  | some b => exact ⟨h.1, h.2.1, h.2.2.below hc⟩
theorem OwnS.nil (w : World) : OwnS K T w none 0 0 [] none := ⟨rfl, rfl, rfl, rfl⟩

/-- append to a slice that may be nil, of any room. -/
theorem App.grow {bytes : Nat} {w : World} {a : Option Addr} {l c n : Nat} {xs ys : List Int} {k : Value → World → Prop} (hr : Row w a K xs) (hl : l = xs.length) (hn : n = ys.length) (hc : c < l + n) (hs : l + n ≤ 1000000000) (hb : bytes ≤ 1000)
    (hk : ∀ c' w', Buf K T w' w.heap.size (xs ++ ys) c' → l + n ≤ c' → Below w.heap.size w w' → w'.heap.size = w.heap.size + 1 → k (.slice (some ⟨w.heap.size, 0, none⟩) (l + n) c') w') :
    appK T 1 bytes (.int K 0) a l c n (ys.map (Value.int K)) k w := by
  unfold appK
  refine IfP.neg (nble hc) (RdP.row' hr (by rw [hl, Nat.mul_one]) (GrowP.go hs hc hb fun c' hc' => ?_))
  refine hk c' _ ⟨List.replicate (c' - (l + n)) 0, ?_, by simp; omega⟩ hc' (Below.alloc (Below.refl _ w).drew (Nat.le_refl _) _) (size_alloc _ _)
  rw [zeros_flat, ← List.map_append, ← List.map_append]
  exact Blk.new { w with drawn := w.drawn + 1 } _ T
theorem App.stay {bytes : Nat} {w : World} {b l c n : Nat} {xs ys : List Int} {k : Value → World → Prop} (h : Buf K T w b xs c) (hl : l = xs.length) (hn : n = ys.length) (hc : l + n ≤ c)
    (hk : ∀ w', Buf K T w' b (xs ++ ys) c → Chg w.heap.size (fun k => k = b) w w' → w'.heap.size = w.heap.size → k (.slice (some ⟨b, 0, none⟩) (l + n) c) w') :
    appK T 1 bytes (.int K 0) (some ⟨b, 0, none⟩) l c n (ys.map (Value.int K)) k w := by
  unfold appK
  obtain ⟨sp, hB, e⟩ := h
  refine IfP.pos (yble hc) ?_
  show StsP ((⟨b, 0, none⟩ : Addr).add (l * 1)) _ _ w
  rw [add_none, Nat.mul_one, Nat.zero_add]
  refine StsP.blk hB (by simp; intros; rfl) (by simp; omega) ?_
  refine hk _ ⟨sp.drop n, ?_, by simp; omega⟩ ((Chg.refl _ _ _).setCells _ _ _ (fun _ => rfl)) (size_setCells _ _ _ _)
  have := Blk.setCells l (ys.map (Value.int K)) 0 w _ hB (by simp; omega)
  refine (congrArg (fun l => Blk (Ev.setCells w ⟨b, _, none⟩ (ys.map (Value.int K)) 0) b l T) ?_).mp this
  rw [Nat.add_zero, ← List.map_take, ← List.map_drop, ← List.map_append, ← List.map_append]
  congr 1
  subst hl hn
  rw [List.take_left' rfl, List.append_assoc, List.append_assoc]
  congr 2
  simp [List.drop_append]
theorem App.own {bytes : Nat} {w : World} {a : Option Addr} {l c n : Nat} {xs ys : List Int} {o : Option Nat} {k : Value → World → Prop} (h : OwnS K T w a l c xs o) (hn : n = ys.length) (hs : l + n ≤ 1000000000) (hb : bytes ≤ 1000)
    (hk : ∀ a' c' o' w', OwnS K T w' a' (l + n) c' (xs ++ ys) o' → Chg w.heap.size (fun k => o = some k) w w' → (o' = o ∨ o' = some w.heap.size) → k (.slice a' (l + n) c') w') :
    appK T 1 bytes (.int K 0) a l c n (ys.map (Value.int K)) k w := by
  rcases Nat.lt_or_ge c (l + n) with hc | hc
  · refine App.grow h.row h.len hn hc hs hb fun c' w' h1 h2 h3 h4 => ?_
    exact hk _ c' (some w.heap.size) w' ⟨rfl, by rw [h.len, hn]; simp, h1⟩ (.of_below h3) (.inr rfl)
  · cases o with
    | none =>
      obtain ⟨rfl, rfl, rfl, rfl⟩ := h
      have hn0 : n = 0 := by omega
      have hy : ys = [] := List.eq_nil_of_length_eq_zero (by omega)
      subst hn0 hy
      unfold appK
      exact IfP.pos rfl (hk none 0 none w (OwnS.nil w) (Chg.refl _ _ _) (.inl rfl))
    | some b =>
      obtain ⟨rfl, hl, hB⟩ := h
      refine App.stay hB hl hn hc fun w' h1 h2 h3 => ?_
      exact hk _ c (some b) w' ⟨rfl, by rw [hl, hn]; simp, h1⟩ (h2.mono (Nat.le_refl _) (fun k _ hk => by rw [hk])) (.inl rfl)
end
end Go.Ev
