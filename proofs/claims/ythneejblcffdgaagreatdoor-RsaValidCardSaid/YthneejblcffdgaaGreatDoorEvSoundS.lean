/- The walk by evaluation, part 2: an operation that leaves the world as it is does what 'evS' says. -/
import Derived.Test.YthneejblcffdgaaGreatDoorEvDef
set_option linter.unusedSimpArgs false
set_option linter.unusedVariables false
namespace Go.Ev
open Go

/-- The table of types tells the truth about one type. -/
def TyOk (P : Program) (t : TypeId) : Ty → Prop
  | .bool => P.underlying t = some .bool
  | .int k => P.underlying t = some (.int k)
  | .string => P.underlying t = some .string
  | .ptr e => P.underlying t = some (.pointer e)
  | .slice e => P.underlying t = some (.slice e)
  | .arr n e => P.underlying t = some (.array n e)
  | .struct fs => ∃ F : Array Field, P.underlying t = some (.struct F) ∧ F.toList.map (fun f => (f.offset, f.type)) = fs
  | .func => ∃ a b c, P.underlying t = some (.func a b c)
  | .iface => ∃ m, P.underlying t = some (.interface m)
  | .map k e => P.underlying t = some (.map k e)
  | .other => True
/-- Is a type's value an aggregate? -/
def Ty.isAgg : Ty → Bool
  | .arr .. => true
  | .struct _ => true
  | _ => false
structure InfOk (P : Program) (t : TypeId) (i : Inf) : Prop where
  info : ∃ pi : TypeInfo, P.info? t = some pi ∧ pi.size = i.size ∧ pi.bytes = i.bytes ∧ pi.zero = some i.zero
  ty : TyOk P t i.ty
  zc : i.zero.cells.size = i.size
  z1 : i.ty.isAgg = false → i.ty ≠ .other → i.zero.cells.size = 1
def TabOk (T : Tab) (P : Program) : Prop := ∀ t i, T t = some i → InfOk P t i

section
variable {P : Program} {T : Tab}

theorem InfOk.run_typeInfo {t : TypeId} {i : Inf} (h : InfOk P t i) (w : World) : ∃ pi : TypeInfo, (typeInfo t).run P w = .ok pi w ∧ pi.size = i.size ∧ pi.bytes = i.bytes ∧ pi.zero = some i.zero := by
  obtain ⟨pi, h0, h1, h2, h3⟩ := h.info
  exact ⟨pi, by simp [typeInfo, h0], h1, h2, h3⟩
theorem InfOk.run_size {t : TypeId} {i : Inf} (h : InfOk P t i) (w : World) : (sizeOf t).run P w = .ok i.size w := by
  obtain ⟨pi, h0, h1, _, _⟩ := h.run_typeInfo w
  simp [sizeOf, h0, h1]
theorem InfOk.run_zero {t : TypeId} {i : Inf} (h : InfOk P t i) (w : World) : (zeroValue t).run P w = .ok i.zero w := by
  obtain ⟨pi, h0, _, _, h1⟩ := h.run_typeInfo w
  simp [zeroValue, h0, h1]

theorem InfOk.run_isAgg {t : TypeId} {i : Inf} (h : InfOk P t i) (ho : i.ty ≠ .other) (w : World) : (isAgg t).run P w = .ok i.ty.isAgg w := by
  have := h.ty
  cases hy : i.ty with
  | other => exact absurd hy ho
  | struct fs => rw [hy] at this; obtain ⟨F, h1, _⟩ := this; simp [isAgg, underlying, h1, Ty.isAgg]
  | func => rw [hy] at this; obtain ⟨a, b, c, h1⟩ := this; simp [isAgg, underlying, h1, Ty.isAgg]
  | iface => rw [hy] at this; obtain ⟨a, h1⟩ := this; simp [isAgg, underlying, h1, Ty.isAgg]
  | _ => rw [hy] at this; simp only [TyOk] at this; simp [isAgg, underlying, this, Ty.isAgg]

theorem run_loadCells_get {w : World} {a : Addr} {cs : Array Value} (h : ∀ i, i < cs.size → w.cell? (a.add i) = cs[i]?) : (loadCells a cs.size).run P w = .ok cs w := by
  have := run_loadCells_list (P := P) w a cs.toList (fun j v hv => by
    have hj : j < cs.size := by
      rcases Nat.lt_or_ge j cs.size with h | h
      · exact h
      · simp [h] at hv
    rw [h j hj]; simpa using hv)
  simpa using this

theorem ld_run (hT : TabOk T P) {t : Nat} {p : Addr} {k : Value → Prop} {w : World} (h : ld T t p k w) : ∃ v, (loadVar t p).run P w = .ok v w ∧ k v := by
  unfold ld at h
  split at h <;> try exact h.elim
  all_goals rename_i hi
  all_goals have hok := hT _ _ hi
  case h_1 => obtain ⟨n, hc, hk⟩ := h.out; exact ⟨_, by simp [loadVar, hok.run_isAgg (by simp), Ty.isAgg, hc], hk⟩
  case h_2 => obtain ⟨n, hc, hk⟩ := h.out; exact ⟨_, by simp [loadVar, hok.run_isAgg (by simp), Ty.isAgg, hc], hk⟩
  case h_3 => obtain ⟨b, l, c, hc, hk⟩ := h.out; exact ⟨_, by simp [loadVar, hok.run_isAgg (by simp), Ty.isAgg, hc], hk⟩
  case h_4 => obtain ⟨b, hc, hk⟩ := h.out; exact ⟨_, by simp [loadVar, hok.run_isAgg (by simp), Ty.isAgg, hc], hk⟩
  case h_5 =>
    obtain ⟨cs, rfl, hc, hk⟩ := h.out
    exact ⟨_, by simp [loadVar, hok.run_isAgg (by simp), Ty.isAgg, hok.run_size, run_loadCells_get hc], hk⟩
  case h_6 =>
    obtain ⟨cs, rfl, hc, hk⟩ := h.out
    exact ⟨_, by simp [loadVar, hok.run_isAgg (by simp), Ty.isAgg, hok.run_size, run_loadCells_get hc], hk⟩
  case h_8 x h1 h2 h3 h4 h5 h6 h7 =>
    obtain ⟨v, hc, hk⟩ := h.out
    have hna : x.ty.isAgg = false := by
      obtain ⟨ty, _, _, _⟩ := x
      cases ty <;> first | rfl | (exfalso; first | exact h5 _ _ _ _ _ rfl | exact h6 _ _ _ _ rfl)
    have hno : x.ty ≠ .other := by
      obtain ⟨ty, _, _, _⟩ := x
      intro e; simp only at e; subst e; exact h7 _ _ _ rfl
    exact ⟨_, by simp [loadVar, hok.run_isAgg hno, hna, hc], hk⟩

theorem partOf_run (hT : TabOk T P) {t : Nat} {cs : Array Value} {off : Nat} {k : Value → Prop} (w : World) (h : partOf T t cs off k) : ∃ v, (part t cs off).run P w = .ok v w ∧ k v := by
  unfold partOf at h
  split at h <;> try exact h.elim
  all_goals rename_i hi
  all_goals have hok := hT _ _ hi
  case h_1 => exact ⟨_, by simp [part, hok.run_isAgg (by simp), Ty.isAgg, hok.run_size], h⟩
  case h_2 => exact ⟨_, by simp [part, hok.run_isAgg (by simp), Ty.isAgg, hok.run_size], h⟩
  case h_4 =>
    obtain ⟨n, hv, hk⟩ := h.out
    have hv' := hv
    rw [Array.getElem?_toList] at hv'
    exact ⟨_, by simp [part, hok.run_isAgg (by simp), Ty.isAgg, hv'], hk⟩
  case h_5 x h1 h2 h3 h4 =>
    have hna : x.ty.isAgg = false := by
      obtain ⟨ty, _, _, _⟩ := x
      cases ty <;> first | rfl | (exfalso; first | exact h1 _ _ _ _ rfl | exact h2 _ _ _ _ _ rfl)
    have hno : x.ty ≠ .other := by
      obtain ⟨ty, _, _, _⟩ := x
      intro e; simp only at e; subst e; exact h3 _ _ _ rfl
    obtain ⟨v, hv, hk⟩ := h.out
    refine ⟨v, ?_, hk⟩
    have hv' : cs[off]? = some v := by simpa using hv
    simp [part, hok.run_isAgg hno, hna, hv']

theorem asInt_out {v : Value} {k : IntKind → Int → Prop} (h : Ev.asInt v k) : ∃ K n, v = .int K n ∧ k K n := by unfold Ev.asInt at h; split at h <;> first | exact ⟨_, _, rfl, h⟩ | exact h.elim
theorem asBool_out {v : Value} {k : Bool → Prop} (h : Ev.asBool v k) : ∃ n, v = .bool n ∧ k n := by unfold Ev.asBool at h; split at h <;> first | exact ⟨_, rfl, h⟩ | exact h.elim
theorem asAddr_out {v : Value} {k : Addr → Prop} (h : Ev.asAddr v k) : ∃ n, v = .pointer (some n) ∧ k n := by unfold Ev.asAddr at h; split at h <;> first | exact ⟨_, rfl, h⟩ | exact h.elim
theorem asSl_out {v : Value} {k : Option Addr → Nat → Nat → Prop} (h : asSl v k) : ∃ a l c, v = .slice a l c ∧ k a l c := by unfold asSl at h; split at h <;> first | exact ⟨_, _, _, rfl, h⟩ | exact h.elim
theorem asStr_out {v : Value} {k : ByteArray → Prop} (h : asStr v k) : ∃ n, v = .string n ∧ k n := by unfold asStr at h; split at h <;> first | exact ⟨_, rfl, h⟩ | exact h.elim
theorem asAgg_out {v : Value} {k : Array Value → Prop} (h : Ev.asAgg v k) : ∃ n, v = .agg n ∧ k n := by unfold Ev.asAgg at h; split at h <;> first | exact ⟨_, rfl, h⟩ | exact h.elim
theorem asOI_out {v : Option Value} {k : Option Int → Prop} (h : asOI v k) : (v = none ∧ k none) ∨ ∃ K n, v = some (.int K n) ∧ k (some n) := by
  unfold asOI at h; split at h
  · exact .inl ⟨rfl, h⟩
  · obtain ⟨K, n, rfl, h⟩ := asInt_out h; exact .inr ⟨K, n, rfl, h⟩

theorem binI_run {op : BinOp} {K : IntKind} {a b : Int} {k : Value → Prop} (w : World) (t : TypeId) (h : binI op K a b k) : ∃ v, (binOp op t (.int K a) (.int K b)).run P w = .ok v w ∧ k v := by
  cases op <;> simp only [binI] at h
  case quo => obtain ⟨h0, h⟩ := h; exact ⟨_, by simp [binOp, Op.intDiv, h0], h⟩
  case rem => obtain ⟨h0, h⟩ := h; exact ⟨_, by simp [binOp, Op.intDiv, h0], h⟩
  all_goals exact ⟨_, by simp [binOp, Op.intArith, Op.intBits, Op.intCmp, Go.bits], h⟩

theorem eqV_out {t : TypeId} {i : Inf} (hok : InfOk P t i) {x y : Value} {k : Bool → Prop} (w : World) (h : eqV i.ty x y k) :
    ∃ b, k b ∧ (((∀ d, (Op.equalIn (d + 1) t x y).run P w = .ok b w) ∧ (∀ op, op = .eql ∨ op = .neq → binOp op t x y = (do let r ← Op.equal t x y; pure (.bool (if op = .eql then r else !r))))) ∨
      (∃ a c, x = .string a ∧ y = .string c ∧ b = (a.toList == c.toList))) := by
  have hty := hok.ty
  unfold eqV at h
  split at h <;> try exact h.elim
  · rename_i hi; rw [hi] at hty
    obtain ⟨a, rfl, h1⟩ := asBool_out h; obtain ⟨b, rfl, h2⟩ := asBool_out h1
    have hty : P.underlying t = some .bool := hty
    exact ⟨_, h2, .inl ⟨fun d => by simp [Op.equalIn, underlying, hty], by rintro op (rfl | rfl) <;> simp [binOp]⟩⟩
  · rename_i hi; rw [hi] at hty
    obtain ⟨a, rfl, h1⟩ := asStr_out h; obtain ⟨b, rfl, h2⟩ := asStr_out h1
    exact ⟨_, h2, .inr ⟨a, b, rfl, rfl, rfl⟩⟩
  · rename_i e hi; rw [hi] at hty
    have hty : P.underlying t = some (.pointer e) := hty
    split at h
    · rename_i y
      exact ⟨_, h, .inl ⟨fun d => by simp [Op.equalIn, underlying, hty], by rintro op (rfl | rfl) <;> cases y <;> simp [binOp]⟩⟩
    · rename_i a hn
      cases a with
      | none => exact absurd rfl (fun e => hn e)
      | some a => exact ⟨_, h, .inl ⟨fun d => by simp [Op.equalIn, underlying, hty], by rintro op (rfl | rfl) <;> simp [binOp]⟩⟩
    · exact h.elim
  · rename_i e hi; rw [hi] at hty
    have hty : P.underlying t = some (.slice e) := hty
    split at h
    · exact ⟨_, h, .inl ⟨fun d => by simp [Op.equalIn, underlying, hty], by rintro op (rfl | rfl) <;> simp [binOp]⟩⟩
    · rename_i a l c _ _ hn
      cases a with
      | none => exact absurd rfl (fun e => hn e)
      | some a => exact ⟨_, h, .inl ⟨fun d => by simp [Op.equalIn, underlying, hty], by rintro op (rfl | rfl) <;> simp [binOp]⟩⟩
    · exact h.elim
  · rename_i hi; rw [hi] at hty
    obtain ⟨m, hty⟩ := hty
    split at h
    · exact ⟨_, h, .inl ⟨fun d => by simp [Op.equalIn, underlying, hty], by rintro op (rfl | rfl) <;> simp [binOp]⟩⟩
    · exact ⟨_, h, .inl ⟨fun d => by simp [Op.equalIn, underlying, hty], by rintro op (rfl | rfl) <;> simp [binOp]⟩⟩
    · exact h.elim
  · rename_i hi; rw [hi] at hty
    obtain ⟨a, b, c, hty⟩ := hty
    split at h
    · exact ⟨_, h, .inl ⟨fun d => by simp [Op.equalIn, underlying, hty], by rintro op (rfl | rfl) <;> simp [binOp]⟩⟩
    · exact ⟨_, h, .inl ⟨fun d => by simp [Op.equalIn, underlying, hty], by rintro op (rfl | rfl) <;> simp [binOp]⟩⟩
    · exact ⟨_, h, .inl ⟨fun d => by simp [Op.equalIn, underlying, hty], by rintro op (rfl | rfl) <;> simp [binOp]⟩⟩
    · exact h.elim

theorem eqV_run {t : TypeId} {i : Inf} (hok : InfOk P t i) {x y : Value} {k : Bool → Prop} (w : World) (h : eqV i.ty x y k) :
    ∃ b, (binOp .eql t x y).run P w = .ok (.bool b) w ∧ (binOp .neq t x y).run P w = .ok (.bool !b) w ∧ k b := by
  obtain ⟨b, hk, ⟨h1, h2⟩ | ⟨a, c, rfl, rfl, rfl⟩⟩ := eqV_out hok w h
  · have h3 : (Op.equal t x y).run P w = .ok b w := h1 9999
    exact ⟨b, by rw [h2 .eql (.inl rfl)]; simp [h3], by rw [h2 .neq (.inr rfl)]; simp [h3], hk⟩
  · exact ⟨_, by simp [binOp, Op.stringOp], by simp [binOp, Op.stringOp], hk⟩

theorem evBuiltin_run (hT : TabOk T P) {b : Builtin} {tys : Array TypeId} {xs : Array Value} {k : Value → Prop} (t : TypeId) (cs : Array Bool) (w : World) (h : evBuiltin T b tys.toList xs.toList k) :
    ∃ v, (builtin b tys t cs xs).run P w = .ok (.value v) w ∧ k v := by
  obtain ⟨tys⟩ := tys
  obtain ⟨xs⟩ := xs
  simp only at h
  unfold evBuiltin at h
  split at h <;> try exact h.elim
  · split at h <;> try exact h.elim
    · rename_i hi; have hty := (hT _ _ hi).ty
      obtain ⟨a, l, c, rfl, h1⟩ := asSl_out h
      exact ⟨_, by simp [builtin, Builtin.len_, underlying, show P.underlying _ = some (.slice _) from hty, goInt], h1⟩
    · rename_i hi; have hty := (hT _ _ hi).ty
      exact ⟨_, by simp [builtin, Builtin.len_, underlying, show P.underlying _ = some (.array _ _) from hty, goInt], h⟩
    · rename_i hi; have hty := (hT _ _ hi).ty
      obtain ⟨s, rfl, h1⟩ := asStr_out h
      exact ⟨_, by simp [builtin, Builtin.len_, underlying, show P.underlying _ = some .string from hty, goInt], h1⟩
  · obtain ⟨K, a, rfl, h1⟩ := asInt_out h; obtain ⟨K', b, rfl, h2⟩ := asInt_out h1
    exact ⟨_, by simp [builtin, Builtin.min_, Builtin.min2], h2⟩
  · obtain ⟨K, a, rfl, h1⟩ := asInt_out h; obtain ⟨K', b, rfl, h2⟩ := asInt_out h1
    exact ⟨_, by simp [builtin, Builtin.max_, Builtin.max2], h2⟩

theorem fill_eq (place : Nat → Option (Nat × Nat)) : ∀ (parts : List (Nat × Value)) (cells r : List Value), fillL place cells parts = some r → Instr.fill place cells.toArray parts = some r.toArray
  | [], cells, r, h => by simp [fillL] at h; subst h; rfl
  | (i, v) :: rest, cells, r, h => by
    unfold fillL at h
    split at h
    · cases h
    · rename_i off size hp
      by_cases hb : (Nat.beq v.cells.toList.length size && Nat.ble (off + size) cells.length) = true
      · rw [hb] at h
        simp only [Bool.and_eq_true, Nat.beq_eq, Nat.ble_eq] at hb
        obtain ⟨h1, h2⟩ := hb
        have ih := fill_eq place rest _ r h
        have hs : v.cells.size = size := by simpa using h1
        have key : ∀ (l : List (Value × Nat)) (cs : List Value), l.foldl (fun cs x => cs.setIfInBounds (off + x.2) x.1) cs.toArray = (l.foldl (fun cs x => cs.set (off + x.2) x.1) cs).toArray := by
          intro l
          induction l with
          | nil => intro cs; rfl
          | cons x l ih => intro cs; simp only [List.foldl_cons, List.setIfInBounds_toArray]; exact ih _
        unfold Instr.fill
        rw [hp]
        simp only [hs, ne_eq, not_true_eq_false, List.size_toArray, decide_false, Bool.false_or, decide_eq_true_eq, gt_iff_lt]
        rw [if_neg (by omega), ← Array.foldl_toList, Array.toList_zipIdx, key]
        exact ih
      · simp only [Bool.not_eq_true] at hb; rw [hb] at h; cases h

theorem run_mapM_list {α β : Type} (f : α → Sem β) (g : α → β) (w : World) (h : ∀ a, (f a).run P w = .ok (g a) w) : ∀ l : List α, (l.mapM f).run P w = .ok (l.map g) w
  | [] => by simp
  | a :: l => by simp [List.mapM_cons, h a, run_mapM_list f g w h l]
theorem run_mapM_list' {α β : Type} (f : α → Sem β) (g : α → β) (w : World) : ∀ l : List α, (∀ a ∈ l, (f a).run P w = .ok (g a) w) → (l.mapM f).run P w = .ok (l.map g) w
  | [], _ => by simp
  | a :: l, h => by simp [List.mapM_cons, h a (by simp), run_mapM_list' f g w l (fun b hb => h b (by simp [hb]))]
theorem run_mapM {α β : Type} (f : α → Sem β) (g : α → β) (w : World) (l : Array α) (h : ∀ a ∈ l, (f a).run P w = .ok (g a) w) : (l.mapM f).run P w = .ok (l.map g) w := by
  obtain ⟨l⟩ := l
  rw [List.mapM_toArray]
  simp only [Sem.run_map, run_mapM_list' f g w l (by simpa using h)]
  simp

theorem evBuild_run (hT : TabOk T P) {t : Nat} {parts : List (Nat × Value)} {k : Value → Prop} (w : World) (h : evBuild T t parts k) : ∃ v, (Instr.build t parts.toArray).run P w = .ok v w ∧ k v := by
  unfold evBuild at h
  split at h <;> try exact h.elim
  · rename_i fs n b z hi
    have hok := hT _ _ hi
    obtain ⟨F, hu, hF⟩ := hok.ty
    cases hal : fs.all (fun f => (T f.2).isSome) with
    | false => rw [hal] at h; exact h.elim
    | true =>
    rw [hal] at h
    simp only [cond_true] at h
    split at h <;> try exact h.elim
    rename_i l hl
    have hz := hok.run_zero w
    have hall : ∀ f ∈ F, (T f.type).isSome = true := by
      intro f hf
      rw [List.all_eq_true] at hal
      exact hal (f.offset, f.type) (by rw [← hF]; exact List.mem_map.2 ⟨f, by simpa using hf, rfl⟩)
    · have hm := run_mapM (P := P) (fun f : Field => do let s ← sizeOf f.type; pure (f.offset, s)) (fun f => (f.offset, ((T f.type).getD ⟨.other, 0, 0, undef⟩).size)) w F (by
        intro f hf
        cases hi : T f.type with
        | none => have := hall f hf; simp [hi] at this
        | some i => simp [(hT _ _ hi).run_size])
      have hpl : ∀ L : List Field, (∀ f ∈ L, (T f.type).isSome = true) → ∀ i, (placesOf T (L.map fun f => (f.offset, f.type))).getD i none = (L.toArray.map (fun f => (f.offset, ((T f.type).getD ⟨.other, 0, 0, undef⟩).size)))[i]? := by
        intro L
        induction L with
        | nil => intro _ i; simp [placesOf]
        | cons f L ih =>
          intro hL i
          have hf := hL f (by simp)
          cases hi : T f.type with
          | none => simp [hi] at hf
          | some j =>
            cases i with
            | zero => simp [placesOf, hi]
            | succ i => have := ih (fun g hg => hL g (by simp [hg])) i; simpa [placesOf, hi] using this
      have hf := fill_eq _ _ _ _ hl
      rw [← hF] at hf
      simp only [hpl F.toList (by simpa using hall), Array.toArray_toList] at hf
      refine ⟨_, ?_, h⟩
      simp only [Instr.build, Sem.run_bind, hz, Result.andThen_ok, run_underlying hu, hm]
      simp only [Array.getElem?_map] at hf
      simp [hf]
  · rename_i m el n b z hi
    have hok := hT _ _ hi
    have hu : P.underlying t = some (.array m el) := hok.ty
    split at h <;> try exact h.elim
    rename_i i hel
    split at h <;> try exact h.elim
    rename_i l hl
    have hz := hok.run_zero w
    have hf := fill_eq _ _ _ _ hl
    simp only [Array.toArray_toList] at hf
    exact ⟨_, by simp [Instr.build, hz, underlying, hu, (hT _ _ hel).run_size, hf], h⟩

theorem SlcP_run {a : Option Addr} {l c : Nat} {lo hi mx : Option Value} {lo' hi' mx' : Option Int} {sz : Nat} {k : Option Addr → Nat → Nat → Prop} (w : World) (isS : Bool)
    (hlo : (lo = none ∧ lo' = none) ∨ ∃ K n, lo = some (.int K n) ∧ lo' = some n) (hhi : (hi = none ∧ hi' = none) ∨ ∃ K n, hi = some (.int K n) ∧ hi' = some n) (hmx : (mx = none ∧ mx' = none) ∨ ∃ K n, mx = some (.int K n) ∧ mx' = some n)
    (hne : ¬ (hi' = none ∧ mx'.isSome = true)) (h : SlcP a l c (lo'.getD 0) hi' mx' sz k) :
    ∃ x y z, (Instr.sliceBounds isS l c lo hi mx).run P w = .ok (x, y, z) w ∧ k (if z = x then a else a.map (·.add (x * sz))) (y - x) (z - x) := by
  obtain ⟨h1, h2, h3, h4, h5, h6, h7⟩ := h.out
  refine ⟨(lo'.getD 0).toNat, (hi'.getD l).toNat, (mx'.getD c).toNat, ?_, h7⟩
  rcases hlo with ⟨rfl, rfl⟩ | ⟨K1, n1, rfl, rfl⟩ <;> rcases hhi with ⟨rfl, rfl⟩ | ⟨K2, n2, rfl, rfl⟩ <;> rcases hmx with ⟨rfl, rfl⟩ | ⟨K3, n3, rfl, rfl⟩ <;> simp at h1 h2 h3 h4 h5 h6 hne
  all_goals simp [Instr.sliceBounds, Instr.sliceBound, asIntOf]
  all_goals (repeat (first | rw [if_pos (by omega)] | simp))
  all_goals (try omega)

theorem evS_run (hT : TabOk T P) {o : Oper} {e : Env} {k : Value → Prop} {w : World} (h : evS T o e k w) : ∃ v, (execOp (get e) o).run P w = .ok (.value v) w ∧ k v := by
  unfold evS at h
  unfold execOp
  cases ho : o.op <;> simp only [ho] at h <;> try exact h.elim
  case move x => rw [force_eq] at h; exact ⟨_, by simp, h⟩
  case assign x => rw [force_eq] at h; exact ⟨_, by simp, h⟩
  case pick c a b =>
    obtain ⟨t, ht, h1⟩ := asBool_out h
    cases t with
    | true => have h2 := h1.t rfl; rw [force_eq] at h2; exact ⟨_, by simp [ht, Go.asBool], h2⟩
    | false => have h2 := h1.f rfl; rw [force_eq] at h2; exact ⟨_, by simp [ht, Go.asBool], h2⟩
  case build t parts =>
    rw [forceL_eq] at h
    obtain ⟨v, hv, hk⟩ := evBuild_run hT w h
    refine ⟨v, ?_, hk⟩
    have e1 : (parts.map fun (p : Nat × Operand) => (p.1, get e p.2)) = (parts.toList.map fun (i, x) => (i, get e x)).toArray := by
      obtain ⟨l⟩ := parts; simp
    simp only [Sem.run_bind]
    rw [e1, hv]
    rfl
  case load t a =>
    obtain ⟨p, hp, h1⟩ := asAddr_out h
    obtain ⟨v, hv, hk⟩ := ld_run hT h1
    exact ⟨v, by simp [Instr.loadAt, Instr.sureAddr, hp, hv], hk⟩
  case nilCheck x =>
    split at h <;> try exact h.elim
    · rename_i a hx
      obtain ⟨b, rfl, hk⟩ := h.out
      exact ⟨_, by simp [hx], hk⟩
    · rename_i hx; exact ⟨_, by simp [hx], h⟩
    · rename_i hx; exact ⟨_, by simp [hx], h⟩
    · rename_i hx; exact ⟨_, by simp [hx], h⟩
  case binOp op t x y yt =>
    split at h
    · obtain ⟨K, a, hx, h1⟩ := asInt_out h; obtain ⟨K', b, hy, h2⟩ := asInt_out h1
      obtain ⟨h3, h4⟩ := h2
      exact ⟨_, by simp [eqGuard, binOp, Op.shift, hx, hy, show ¬ b < 0 by omega], h4⟩
    · obtain ⟨K, a, hx, h1⟩ := asInt_out h; obtain ⟨K', b, hy, h2⟩ := asInt_out h1
      obtain ⟨h3, h4⟩ := h2
      exact ⟨_, by simp [eqGuard, binOp, Op.shift, hx, hy, show ¬ b < 0 by omega], h4⟩
    · rename_i n1 n2
      split at h <;> try exact h.elim
      · rename_i hi
        obtain ⟨K, a, hx, h1⟩ := asInt_out h; obtain ⟨K', b, hy, h2⟩ := asInt_out h1
        cases hK : ieq K K' with
        | false => rw [hK] at h2; exact h2.elim
        | true =>
          rw [hK] at h2
          obtain rfl := ieq_eq hK
          obtain ⟨v, hv, hk⟩ := binI_run (P := P) w t h2
          refine ⟨v, ?_, hk⟩
          simp [eqGuard, hx, hy, hv]
      · rename_i ty n b z hni hi
        have hok := hT _ _ hi
        split at h <;> try exact h.elim
        · obtain ⟨b, h1, h2, hk⟩ := eqV_run hok w h
          refine ⟨_, ?_, hk⟩
          have hg : (eqGuard .eql t x y (get e x) (get e y)).run P w = .ok () w := by
            unfold eqV at h
            simp only at h
            split at h <;> try exact h.elim
            all_goals (try (obtain ⟨a, ha, h3⟩ := asBool_out h; simp [eqGuard, ha]; done))
            all_goals (try (obtain ⟨a, ha, h3⟩ := asStr_out h; simp [eqGuard, ha]; done))
            all_goals (split at h <;> first | exact h.elim | (rename_i e1 e2; simp [eqGuard, e1, e2]; done) | (rename_i e1 e2 e3; simp [eqGuard, e1, e2, e3]; done) | (rename_i e0 e1 e2 e3; simp [eqGuard, e0, e1, e2, e3]; done))
          simp [hg, h1]
        · obtain ⟨b, h1, h2, hk⟩ := eqV_run hok w h
          refine ⟨_, ?_, hk⟩
          have hg : (eqGuard .neq t x y (get e x) (get e y)).run P w = .ok () w := by
            unfold eqV at h
            simp only at h
            split at h <;> try exact h.elim
            all_goals (try (obtain ⟨a, ha, h3⟩ := asBool_out h; simp [eqGuard, ha]; done))
            all_goals (try (obtain ⟨a, ha, h3⟩ := asStr_out h; simp [eqGuard, ha]; done))
            all_goals (split at h <;> first | exact h.elim | (rename_i e1 e2; simp [eqGuard, e1, e2]; done) | (rename_i e1 e2 e3; simp [eqGuard, e1, e2, e3]; done) | (rename_i e0 e1 e2 e3; simp [eqGuard, e0, e1, e2, e3]; done))
          simp [hg, h2]
  case unOp op t x =>
    cases op <;> simp only at h <;> try exact h.elim
    · obtain ⟨K, n, hx, h1⟩ := asInt_out h
      exact ⟨_, by simp [Op.unary, hx, Op.intArith], h1⟩
    · obtain ⟨K, n, hx, h1⟩ := asInt_out h
      exact ⟨_, by simp [Op.unary, hx, Op.intBits, Go.bits], h1⟩
    · obtain ⟨b, hx, h1⟩ := asBool_out h
      exact ⟨_, by simp [Op.unary, hx], h1⟩
  case convert s d x =>
    split at h <;> try exact h.elim
    rename_i K0 _ _ _ K n b z hs hi
    obtain ⟨K', m, hx, h1⟩ := asInt_out h
    have hd : P.underlying d = some (.int K) := (hT _ _ hi).ty
    have hs : P.underlying s = some (.int K0) := (hT _ _ hs).ty
    exact ⟨_, by simp [convert, run_underlying hd, run_underlying hs, hx, Conv.intToInt], h1⟩
  case makeFunc fn f0 cap =>
    refine ⟨_, ?_, h⟩
    have key : ∀ a : Array Operand, a.map (get e) = (a.toList.map (get e)).toArray := fun a => by cases a; rw [List.map_toArray]
    simp only [Instr.makeFunc, key, Sem.run_bind, Sem.run_pure, Result.andThen_ok]
  case slice t x lo hi mx =>
    split at h <;> try exact h.elim
    · rename_i el n b z hi'
      have hok := (hT _ _ hi').ty
      split at h <;> try exact h.elim
      rename_i inf hel
      obtain ⟨a, l, c, hx, h1⟩ := asSl_out h
      have h2 := asOI_out h1
      have key : ∃ lo' hi'' mx', ((lo.map (get e) = none ∧ lo' = none) ∨ ∃ K n, lo.map (get e) = some (.int K n) ∧ lo' = some n) ∧ ((hi.map (get e) = none ∧ hi'' = none) ∨ ∃ K n, hi.map (get e) = some (.int K n) ∧ hi'' = some n) ∧
          ((mx.map (get e) = none ∧ mx' = none) ∨ ∃ K n, mx.map (get e) = some (.int K n) ∧ mx' = some n) ∧ ¬ (hi'' = none ∧ mx'.isSome = true) ∧ SlcP a l c (lo'.getD 0) hi'' mx' inf.size (fun a l c => k (.slice a l c)) := by
        rcases h2 with ⟨e1, h2⟩ | ⟨K1, n1, e1, h2⟩ <;> rcases asOI_out h2 with ⟨e2, h3⟩ | ⟨K2, n2, e2, h3⟩ <;> rcases asOI_out h3 with ⟨e3, h4⟩ | ⟨K3, n3, e3, h4⟩
        all_goals first
          | exact h4.elim
          | exact ⟨_, _, _, by first | exact .inl ⟨e1, rfl⟩ | exact .inr ⟨_, _, e1, rfl⟩, by first | exact .inl ⟨e2, rfl⟩ | exact .inr ⟨_, _, e2, rfl⟩, by first | exact .inl ⟨e3, rfl⟩ | exact .inr ⟨_, _, e3, rfl⟩, by simp, h4⟩
      obtain ⟨lo', hi'', mx', k1, k2, k3, k4, k5⟩ := key
      obtain ⟨x', y', z', hr, hk⟩ := SlcP_run (P := P) w true k1 k2 k3 k4 k5
      refine ⟨_, ?_, hk⟩
      simp [Instr.sliceAt, Instr.slice, underlying, show P.underlying t = some (.slice el) from hok, hx, hr, (hT _ _ hel).run_size]
    · rename_i n el m b z hi'
      have hok := (hT _ _ hi').ty
      split at h <;> try exact h.elim
      rename_i inf hel
      obtain ⟨a, hx, h1⟩ := asAddr_out h
      have h2 := asOI_out h1
      have key : ∃ lo' hi'' mx', ((lo.map (get e) = none ∧ lo' = none) ∨ ∃ K n, lo.map (get e) = some (.int K n) ∧ lo' = some n) ∧ ((hi.map (get e) = none ∧ hi'' = none) ∨ ∃ K n, hi.map (get e) = some (.int K n) ∧ hi'' = some n) ∧
          ((mx.map (get e) = none ∧ mx' = none) ∨ ∃ K n, mx.map (get e) = some (.int K n) ∧ mx' = some n) ∧ ¬ (hi'' = none ∧ mx'.isSome = true) ∧ SlcP (some a) n n (lo'.getD 0) hi'' mx' inf.size (fun a l c => k (.slice a l c)) := by
        rcases h2 with ⟨e1, h2⟩ | ⟨K1, n1, e1, h2⟩ <;> rcases asOI_out h2 with ⟨e2, h3⟩ | ⟨K2, n2, e2, h3⟩ <;> rcases asOI_out h3 with ⟨e3, h4⟩ | ⟨K3, n3, e3, h4⟩
        all_goals first
          | exact h4.elim
          | exact ⟨_, _, _, by first | exact .inl ⟨e1, rfl⟩ | exact .inr ⟨_, _, e1, rfl⟩, by first | exact .inl ⟨e2, rfl⟩ | exact .inr ⟨_, _, e2, rfl⟩, by first | exact .inl ⟨e3, rfl⟩ | exact .inr ⟨_, _, e3, rfl⟩, by simp, h4⟩
      obtain ⟨lo', hi'', mx', k1, k2, k3, k4, k5⟩ := key
      obtain ⟨x', y', z', hr, hk⟩ := SlcP_run (P := P) w false k1 k2 k3 k4 k5
      refine ⟨_, ?_, hk⟩
      have e4 : (some (if z' = x' then a else a.add (x' * inf.size))) = (if z' = x' then some a else (some a).map (·.add (x' * inf.size))) := by split <;> rfl
      simp only [Instr.sliceAt, underlying, show P.underlying t = some (.array n el) from hok, Instr.sureAddr, hx, Sem.run_bind, run_program, Result.andThen_ok, hr, (hT _ _ hel).run_size, Sem.run_pure, e4]
  case fieldAddr s x f =>
    unfold fieldOf at h
    split at h <;> try exact h.elim
    rename_i fs n b z hi
    obtain ⟨F, hu, hF⟩ := (hT _ _ hi).ty
    split at h <;> try exact h.elim
    rename_i off u hf
    split at h <;> try exact h.elim
    rename_i i hu'
    cases hz : Nat.beq i.size 0 with
    | true => rw [hz] at h; exact h.elim
    | false =>
      rw [hz] at h
      obtain ⟨p, hp, h1⟩ := asAddr_out h
      have hF' : ∃ g : Field, F[f]? = some g ∧ g.offset = off ∧ g.type = u := by
        rw [← hF] at hf
        simp only [List.getElem?_map, Option.map_eq_some_iff, Prod.mk.injEq] at hf
        obtain ⟨g, h1, h2, h3⟩ := hf
        exact ⟨g, by simpa using h1, h2, h3⟩
      obtain ⟨g, hg, rfl, rfl⟩ := hF'
      have hne : ¬ i.size = 0 := by intro h; rw [h] at hz; cases hz
      refine ⟨_, ?_, h1⟩
      simp [Instr.fieldAt, underlying, hu, hg, Instr.sureAddr, hp, fieldPlace, (hT _ _ hu').run_size, hne]
  case field s x f =>
    unfold fieldOf at h
    split at h <;> try exact h.elim
    rename_i fs n b z hi
    obtain ⟨F, hu, hF⟩ := (hT _ _ hi).ty
    split at h <;> try exact h.elim
    rename_i off u hf
    obtain ⟨cs, hx, h1⟩ := asAgg_out h
    have hF' : ∃ g : Field, F[f]? = some g ∧ g.offset = off ∧ g.type = u := by
      rw [← hF] at hf
      simp only [List.getElem?_map, Option.map_eq_some_iff, Prod.mk.injEq] at hf
      obtain ⟨g, h1, h2, h3⟩ := hf
      exact ⟨g, by simpa using h1, h2, h3⟩
    obtain ⟨g, hg, rfl, rfl⟩ := hF'
    obtain ⟨v, hv, hk⟩ := partOf_run hT w h1
    exact ⟨v, by simp [Instr.field, underlying, hu, hg, hx, Go.asAgg, hv], hk⟩
  case indexAddr t x i =>
    split at h <;> try exact h.elim
    · rename_i el n b z hi
      have hok : P.underlying t = some (.slice el) := (hT _ _ hi).ty
      split at h <;> try exact h.elim
      rename_i inf hel
      obtain ⟨a, l, c, hx, h1⟩ := asSl_out h
      obtain ⟨K, m, hix, h2⟩ := asInt_out h1
      obtain ⟨p, rfl, h3, h4, h5⟩ := h2.out
      refine ⟨_, ?_, h5⟩
      simp [Instr.indexAt, underlying, hok, hx, hix, asIntOf, (hT _ _ hel).run_size, h3, h4]
    · rename_i len el n b z hi
      have hok : P.underlying t = some (.array len el) := (hT _ _ hi).ty
      split at h <;> try exact h.elim
      rename_i inf hel
      obtain ⟨a, hx, h1⟩ := asAddr_out h
      obtain ⟨K, m, hix, h2⟩ := asInt_out h1
      obtain ⟨p, h6, h3, h4, h5⟩ := h2.out
      cases h6
      refine ⟨_, ?_, h5⟩
      simp [Instr.indexAt, underlying, hok, hx, hix, asIntOf, Instr.sureAddr, (hT _ _ hel).run_size, h3, h4]
  case index t x i =>
    split at h <;> try exact h.elim
    · rename_i len el n b z hi
      have hok : P.underlying t = some (.array len el) := (hT _ _ hi).ty
      split at h <;> try exact h.elim
      rename_i inf hel
      obtain ⟨cs, hx, h1⟩ := asAgg_out h
      obtain ⟨K, m, hix, h2⟩ := asInt_out h1
      obtain ⟨⟨h3, h4⟩, h5⟩ := h2
      obtain ⟨v, hv, hk⟩ := partOf_run hT w h5
      exact ⟨v, by simp [Instr.index, underlying, hok, hx, hix, asIntOf, (hT _ _ hel).run_size, h3, h4, hv], hk⟩
    · rename_i n b z hi
      have hok : P.underlying t = some .string := (hT _ _ hi).ty
      obtain ⟨s, hx, h1⟩ := asStr_out h
      obtain ⟨K, m, hix, h2⟩ := asInt_out h1
      obtain ⟨h3, c, h4, h5⟩ := h2.out
      exact ⟨_, by simp [Instr.index, underlying, hok, hx, hix, asIntOf, h3, h4], h5⟩
  case extract t i =>
    split at h <;> try exact h.elim
    rename_i vs hx
    split at h <;> try exact h.elim
    rename_i v hv
    exact ⟨v, by simp [Instr.extract, hx, show vs[i]? = some v by simpa using hv], h⟩
  case call c =>
    split at h <;> try exact h.elim
    rename_i b hb
    obtain ⟨v, hv, hk⟩ := evBuiltin_run hT (xs := c.args.map (get e)) o.type (c.args.map fun | .const _ => true | _ => false) w (by simpa using h)
    exact ⟨v, by simp [resolve, hb, invoke]; exact hv, hk⟩
end
end Go.Ev
