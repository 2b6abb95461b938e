/- The walk by evaluation, part 3: operations that make or write memory. -/
import Derived.Test.YthneejblcffdgaaGreatDoorEvSoundS
set_option linter.unusedSimpArgs false
set_option linter.unusedVariables false
namespace Go.Ev
open Go

section
variable {P : Program} {T : Tab}

theorem isSome_setCell (w : World) (p q : Addr) (v : Value) : ((w.setCell p v).cell? q).isSome = (w.cell? q).isSome := by
  unfold World.setCell World.cell?
  simp only [Array.getElem?_modify]
  by_cases h : p.block = q.block
  · simp only [h, if_true]
    cases hb : w.heap[q.block]? with
    | none => rfl
    | some o =>
      cases o <;> simp only [Option.map_some]
      split
      · rfl
      · split
        · rfl
        · simp only [Array.getElem?_setIfInBounds]
          split
          · rename_i c _ _ _ _ h1; rw [h1]
            split
            · rename_i h2; simp [h2]
            · rename_i h2; simp [h2]
          · rfl
  · simp only [h, if_false]

theorem run_storeCells_set (a : Addr) : ∀ (vs : List Value) (i : Nat) (w : World), (∀ v ∈ vs, Value.oneCell' v = true) → (∀ j, j < vs.length → (w.cell? (a.add (i + j))).isSome = true) → (∀ j, j < vs.length → w.frozen? (a.add (i + j)) = false) →
    (storeCells a vs i).run P w = .ok () (setCells w a vs i)
  | [], i, w, _, _, _ => by simp [storeCells, setCells]
  | v :: r, i, w, h1, h2, h3 => by
    have c0 := h2 0 (by simp)
    have f0 := h3 0 (by simp)
    simp only [Nat.add_zero] at c0 f0
    obtain ⟨u, hu⟩ := Option.isSome_iff_exists.1 c0
    have ih := run_storeCells_set a r (i + 1) (w.setCell (a.add i) v) (fun v hv => h1 v (by simp [hv]))
      (fun j hj => by
        rw [show i + 1 + j = i + (j + 1) by omega, isSome_setCell]
        exact h2 (j + 1) (by simpa using hj))
      (fun j hj => by rw [World.frozen?_setCell, show i + 1 + j = i + (j + 1) by omega]; exact h3 (j + 1) (by simpa using hj))
    simp only [storeCells, Sem.run_bind, run_store P w (a.add i) v .plain (h1 v (by simp)), hu, f0, Bool.false_eq_true, if_false, Result.andThen_ok, ih, setCells]

theorem StsP_run {a : Addr} {vs : List Value} {k : World → Prop} {w : World} (h : StsP a vs k w) : ∃ w', (storeCells a vs).run P w = .ok () w' ∧ k w' :=
  ⟨_, run_storeCells_set a vs 0 w h.one (fun j hj => by simpa using h.live j hj) (fun j hj => by simpa using h.free j hj), h.k⟩

theorem RdP_run {a : Option Addr} {size n l c : Nat} {k : List Value → Prop} {w : World} (h : RdP a (n * size) k w) : ∃ vs : List Value, (Builtin.firstCells size n (.slice a l c)).run P w = .ok vs.toArray w ∧ vs.length = n * size ∧ k vs := by
  obtain ⟨vs, hl, hc, hk⟩ := h.out
  refine ⟨vs, ?_, hl, hk⟩
  cases a with
  | none =>
    have h0 : n * size = 0 := by
      rcases Nat.eq_zero_or_pos (n * size) with h | h
      · exact h
      · obtain ⟨b, hb, _⟩ := hc 0 h; cases hb
    have : vs = [] := by cases vs with | nil => rfl | cons a b => simp [h0] at hl
    subst this
    simp [Builtin.firstCells]
  | some b =>
    have := run_loadCells_get (P := P) (w := w) (a := b) (cs := vs.toArray) (fun i hi => by
      obtain ⟨b', hb', h1⟩ := hc i (by simpa [hl] using hi)
      cases hb'
      simpa using h1)
    simp only [List.size_toArray, hl] at this
    simpa [Builtin.firstCells] using this

theorem zeroCells_eq (z : Array Value) (n : Nat) : Builtin.zeroCells z n = (List.replicate n z.toList).flatten.toArray := by
  unfold Builtin.zeroCells
  apply Array.ext'
  apply List.ext_getElem?
  intro i
  simp only [Array.toList_map, Array.toList_range, List.getElem?_map]
  by_cases h : i < n * z.size
  · have hz : 0 < z.size := by rcases Nat.eq_zero_or_pos z.size with h0 | h0; · simp [h0] at h
                               · exact h0
    have hlen : (List.replicate n z.toList).flatten.length = n * z.size := by simp
    rw [List.getElem?_range h]
    simp only [Option.map_some]
    have key : ∀ n i, i < n * z.size → (List.replicate n z.toList).flatten[i]? = z.toList[i % z.size]? := by
      intro n
      induction n with
      | zero => intro i h; simp at h
      | succ n ih =>
        intro i h
        rw [List.replicate_succ, List.flatten_cons, List.getElem?_append]
        split
        · rename_i h1; rw [Nat.mod_eq_of_lt (by simpa using h1)]
        · rename_i h1
          simp only [Array.length_toList, Nat.not_lt] at h1
          rw [ih (i - z.toList.length) (by rw [Nat.succ_mul] at h; simp; omega)]
          simp only [Array.length_toList]
          rw [← Nat.mod_eq_sub_mod h1]
    rw [key n i h]
    have hm := Nat.mod_lt i hz
    simp [hm]
  · have hlen : (List.replicate n z.toList).flatten.length = n * z.size := by simp
    rw [List.getElem?_eq_none (l := (List.replicate n z.toList).flatten) (by omega), List.getElem?_eq_none (by simp; omega)]
    rfl

theorem rangeCells_eq (z : Array Value) (n : Nat) : ((Array.range (n * z.size)).map (z[· % z.size]!)) = (List.replicate n z.toList).flatten.toArray := zeroCells_eq z n

/-- what an operation comes to. -/
def Goes (P : Program) (s : Sem Next) (k : Value → World → Prop) (w : World) : Prop :=
  ∃ nx v w', s.run P w = .ok nx w' ∧ (nx = .value v ∨ nx = .skip ∧ v = undef) ∧ k v w'
theorem Goes.value {s : Sem Value} {k : Value → World → Prop} {w : World} (h : ∃ v w', s.run P w = .ok v w' ∧ k v w') : Goes P (do pure (.value (← s))) k w := by
  obtain ⟨v, w', h1, h2⟩ := h
  exact ⟨_, v, w', by simp [h1], .inl rfl, h2⟩

theorem notInt (d : TypeDesc) : (∀ K, d ≠ .int K) → (d matches .int _) = false := by
  intro h; cases d <;> first | rfl | exact absurd rfl (h _)

theorem range0 : Array.range 0 = #[] := rfl

theorem evAppend_run {t u el : Nat} {i : Inf} {j : Inf} (ht : P.underlying t = some (.slice el)) (hel : InfOk P el i) (hu : InfOk P u j) (hj1 : ∀ K, j.ty ≠ .int K) (hj2 : j.ty ≠ .other) {s x : Value} {k : Value → World → Prop} {w : World} (ty : TypeId)
    (h : evAppend el i.size i.bytes i.zero s x k w) : ∃ v w', (Builtin.append_ #[t, u] ty #[s, x]).run P w = .ok v w' ∧ k v w' := by
  have hund : ∃ d, P.underlying u = some d ∧ ∀ K, d ≠ .int K := by
    have := hu.ty
    cases hy : j.ty with
    | other => exact absurd hy hj2
    | int K => exact absurd hy (hj1 K)
    | struct fs => rw [hy] at this; obtain ⟨F, h1, _⟩ := this; exact ⟨_, h1, by simp⟩
    | func => rw [hy] at this; obtain ⟨a, b, c, h1⟩ := this; exact ⟨_, h1, by simp⟩
    | iface => rw [hy] at this; obtain ⟨a, h1⟩ := this; exact ⟨_, h1, by simp⟩
    | _ => rw [hy] at this; exact ⟨_, this, by simp⟩
  obtain ⟨d, hd, hdK⟩ := hund
  have hdm := notInt d hdK
  obtain ⟨a, l, c, rfl, h1⟩ := asSl_out h
  clear h
  obtain ⟨n, new, hlen, hnew, h3⟩ : ∃ n new, (∀ w : World, (Builtin.lenOf x).run P w = .ok n w) ∧ (∀ w' : World, (∀ b, w'.cell? b = w.cell? b) → (Builtin.firstCells i.size n x).run P w' = .ok new.toArray w') ∧
      appK el i.size i.bytes i.zero a l c n new k w := by
    split at h1 <;> try exact h1.elim
    · rename_i b n' c'
      obtain ⟨us, g1, g2, g3⟩ := h1.out
      refine ⟨n', us, fun w => by simp [Builtin.lenOf], fun w' hw' => ?_, g3⟩
      obtain ⟨vs', h6, h7, rfl⟩ := RdP_run (P := P) (l := n') (c := c') (⟨⟨us, g1, fun i hi => by obtain ⟨b', e1, e2⟩ := g2 i hi; exact ⟨b', e1, (hw' _).trans e2⟩, rfl⟩⟩ : RdP b (n' * i.size) (fun v => us = v) w')
      exact h6
    · rename_i t
      have e1 : t.extract 0 t.size = t := by
        apply ByteArray.ext; simp [ByteArray.data_extract]
      exact ⟨t.size, _, fun w => by simp [Builtin.lenOf], fun w' _ => by simp only [Builtin.firstCells, e1, Sem.run_pure]; rw [← List.map_toArray], h1⟩
  have hsz := hel.run_size (P := P)
  obtain ⟨pi, hpi0, _, hpb, _⟩ := hel.info
  have hpi : ∀ w : World, (typeInfo el).run P w = .ok pi w := fun w => by simp [typeInfo, hpi0]
  have hn0 := hnew w (fun _ => rfl)
  by_cases hfit : l + n ≤ c
  · have h4 := h3.t (by rw [Nat.ble_eq]; exact hfit)
    cases a with
    | none =>
      refine ⟨_, _, ?_, h4⟩
      simp [Builtin.append_, run_underlying ht, hsz, run_underlying hd, hdm, hlen, hfit, hn0]
    | some b =>
      obtain ⟨w', h5, h6⟩ := StsP_run (P := P) h4
      refine ⟨_, _, ?_, h6⟩
      simp [Builtin.append_, run_underlying ht, hsz, run_underlying hd, hdm, hlen, hfit, hn0, h5]
  · have h4 := h3.f (by cases hb : Nat.ble (l + n) c with | false => rfl | true => exact absurd (by rwa [Nat.ble_eq] at hb) hfit)
    obtain ⟨old, g0, g1, g2, g3, g4⟩ := h4.out
    let w1 : World := { w with drawn := w.drawn + 1 }
    have hq : ∀ q, Question.cut (.appendCap (l + n) c el) q = (l + n) + q % (2 ^ 63 - (l + n)) := fun q => rfl
    obtain ⟨vs', h6, _, rfl⟩ := RdP_run (P := P) (l := l) (c := c) (⟨⟨old, g0, g1, rfl⟩⟩ : RdP a (l * i.size) (fun v => old = v) w1)
    have hk := g4 ((l + n) + (w.tape w.drawn (.appendCap (l + n) c el)) % (2 ^ 63 - (l + n))) (by omega)
    refine ⟨_, _, ?_, hk⟩
    have hn1 := hnew w1 (fun _ => rfl)
    have hz1 := hel.run_zero (P := P) w1
    have c1 : ¬ ((((l + n : Nat) : Int) > IntKind.i64.max) ∧ pi.bytes = 0) := by
      rw [hpb]; intro h; rcases g3 with h' | h'
      · omega
      · exact h' h.2
    have c2 : ¬ (2 ^ 48 < Builtin.nextslicecap (l + n) c * pi.bytes) := by rw [hpb]; omega
    have hfit' : ¬ (l + n ≤ c) := hfit
    have hq : ∀ q, Question.cut (.appendCap (l + n) c el) q = (l + n) + q % (2 ^ 63 - (l + n)) := fun q => rfl
    have main : ((choose (.appendCap (l + n) c el)) >>= fun newCap => do
        askRoom (newCap * (← typeInfo el).bytes)
        let old ← Builtin.firstCells i.size l (.slice a l c)
        let new ← Builtin.firstCells i.size n x
        let rest := Builtin.zeroCells (← zeroValue el).cells (newCap - (l + n))
        pure (.slice (some (← newRow el (old ++ new ++ rest))) (l + n) newCap) : Sem Value).run P w =
        .ok (.slice (some ⟨w.heap.size, 0, none⟩) (l + n) ((l + n) + (w.tape w.drawn (.appendCap (l + n) c el)) % (2 ^ 63 - (l + n))))
          (w1.alloc (.cells (old ++ new ++ (List.replicate (((l + n) + (w.tape w.drawn (.appendCap (l + n) c el)) % (2 ^ 63 - (l + n))) - (l + n)) i.zero.cells.toList).flatten).toArray el)) := by
      simp only [Sem.run_bind, run_choose, show Question.forced (.appendCap (l + n) c el) = false from rfl, Bool.false_eq_true, if_false, Result.andThen_ok, hpi, run_askRoom, h6, hn1, hz1, hq, newRow, run_newObj, Sem.run_pure, zeroCells_eq, w1, World.alloc]
      simp
    unfold Builtin.append_
    simp only [List.getElem?_toArray, List.getElem?_cons_zero, List.getElem?_cons_succ, Sem.run_bind, run_underlying ht, Result.andThen_ok, hsz, run_underlying hd, hdm, hlen, Bool.false_eq_true, if_false, Sem.run_pure, hpi]
    simp only [if_neg hfit', Sem.run_bind, hpi, Result.andThen_ok, Sem.run_ite, false_or, gt_iff_lt]
    simp only [gt_iff_lt] at c1
    rw [if_neg c1]
    simp only [hpi, Result.andThen_ok, Sem.run_ite, Sem.run_bind, Result.andThen_ite]
    rw [if_neg c2]
    simp only [Sem.run_bind, hpi, Result.andThen_ok] at main ⊢
    exact main
theorem evCopy_run {t u el : Nat} {i : Inf} (ht : P.underlying t = some (.slice el)) (hel : InfOk P el i) {s x : Value} {k : Value → World → Prop} {w : World} (ty : TypeId) (tys : Array TypeId) (hty : tys[0]? = some t)
    (h : evCopy i.size s x k w) : ∃ v w', (Builtin.copy_ tys ty #[s, x]).run P w = .ok v w' ∧ k v w' := by
  obtain ⟨a, dl, c, rfl, h1⟩ := asSl_out h
  split at h1 <;> try exact h1.elim
  rename_i b n c'
  obtain ⟨vs, h2, h3, h4⟩ := RdP_run (P := P) (l := n) (c := c') h1
  cases a with
  | none =>
    refine ⟨_, _, ?_, h4⟩
    have h2' : (Builtin.firstCells i.size (Nat.min n dl) (.slice b n c')).run P w = .ok vs.toArray w := h2
    simp [Builtin.copy_, hty, run_underlying ht, Builtin.lenOf, hel.run_size, h2', goInt]
  | some p =>
    obtain ⟨w', h5, h6⟩ := StsP_run (P := P) h4
    refine ⟨_, _, ?_, h6⟩
    have h2' : (Builtin.firstCells i.size (Nat.min n dl) (.slice b n c')).run P w = .ok vs.toArray w := h2
    simp [Builtin.copy_, hty, run_underlying ht, Builtin.lenOf, hel.run_size, h2', goInt, h5]

theorem run_storeVar_agg {t : Nat} {i : Inf} (hok : InfOk P t i) {p : Addr} {cs : Array Value} (hs : cs.size = i.size) {k : World → Prop} {w : World} (h : StsP p cs.toList k w) : ∃ w', (storeVar t p (.agg cs)).run P w = .ok () w' ∧ k w' := by
  obtain ⟨w', h1, h2⟩ := StsP_run (P := P) h
  exact ⟨w', by simp [storeVar, hok.run_size, Value.cells, hs, h1], h2⟩
theorem run_storeVar_one {t : Nat} {i : Inf} (hok : InfOk P t i) (hs : i.size = 1) {p : Addr} {v : Value} {k : World → Prop} {w : World} (h : StP p v k w) : ∃ w', (storeVar t p v).run P w = .ok () w' ∧ k w' := by
  obtain ⟨u, hu⟩ := Option.isSome_iff_exists.1 h.live
  have hc : v.cells = #[v] := by have := h.one; cases v <;> first | rfl | cases this
  refine ⟨_, ?_, h.k⟩
  have ha : p.add 0 = p := by simp [Addr.add]
  simp [storeVar, hok.run_size, hc, hs, storeCells, ha, run_store P w p v .plain h.one, hu, h.free]

/-- an operation that is no call. -/
theorem evOp_run (hT : TabOk T P) {ext : Nat → Bool} {r : Option Nat} {o : Oper} {e : Env} {k : Value → World → Prop} {w : World} (hnc : ∀ c f, o.op = .call c → c.callee ≠ .value f) (h : evOp T P ext r o e k w) : Goes P (execOp (get e) o) k w := by
  have hS : evS T o e (fun v => k v w) w → Goes P (execOp (get e) o) k w := fun h => by
    obtain ⟨v, hv, hk⟩ := evS_run hT h
    exact ⟨_, v, w, hv, .inl rfl, hk⟩
  unfold evOp at h
  cases ho : o.op <;> simp only [ho] at h <;> try exact hS h
  case alloc el =>
    split at h <;> try exact h.elim
    rename_i i hi
    unfold execOp; simp only [ho]
    refine Goes.value ⟨_, _, ?_, h⟩
    simp [Instr.alloc, (hT _ _ hi).run_zero, newVar, newRow]
  case box el x =>
    rw [force_eq] at h
    unfold execOp; simp only [ho]
    refine Goes.value ⟨_, _, ?_, h⟩
    simp [Instr.box, newVar, newRow]
  case buildSlice t len parts =>
    split at h <;> try exact h.elim
    rename_i el n b z hi
    have hu : P.underlying t = some (.slice el) := (hT _ _ hi).ty
    split at h <;> try exact h.elim
    rename_i i hel
    cases hb : Nat.ble (len * i.size) 16777216 with
    | false => rw [hb] at h; exact h.elim
    | true =>
      rw [hb] at h
      simp only [cond_true] at h
      rw [forceL_eq] at h
      split at h <;> try exact h.elim
      rename_i l hl
      have hle : len * i.size ≤ 16777216 := by rwa [Nat.ble_eq] at hb
      unfold execOp; simp only [ho]
      refine Goes.value ⟨_, _, ?_, h⟩
      have hf := fill_eq _ _ _ _ hl
      have hsz := (hT _ _ hel).run_size w
      have hz := (hT _ _ hel).run_zero w
      have hzc := (hT _ _ hel).zc
      have e1 : (parts.map fun (p : Nat × Operand) => (p.1, get e p.2)) = (parts.toList.map fun (i, x) => (i, get e x)).toArray := by
        obtain ⟨l⟩ := parts; simp
      have hr := rangeCells_eq i.zero.cells len
      rw [hzc] at hr
      rw [← hr] at hf
      have c1 : ¬ (2 ^ 24 < len * i.size) := by omega
      by_cases h0 : len * i.size = 0
      · simp only [h0, range0, Array.map_empty] at hf
        simp only [Instr.buildSlice, Sem.run_bind, run_underlying hu, Result.andThen_ok, hsz, e1, gt_iff_lt, if_neg c1, h0, if_true, Sem.run_pure, newRow, run_newObj, range0, Array.map_empty, hf]
        simp
      · simp only [Instr.buildSlice, Sem.run_bind, run_underlying hu, Result.andThen_ok, hsz, e1, gt_iff_lt, if_neg c1, if_neg h0, Sem.run_pure, hz, newRow, run_newObj, hzc, hf]
        simp
  case makeSlice t l c =>
    split at h <;> try exact h.elim
    rename_i el n b z hi
    have hu : P.underlying t = some (.slice el) := (hT _ _ hi).ty
    split at h <;> try exact h.elim
    rename_i i hel
    obtain ⟨K, x, hx, h1⟩ := asInt_out h
    obtain ⟨K', y, hy, h2⟩ := asInt_out h1
    obtain ⟨g1, g2, g3, g4, g5⟩ := h2.out.out
    unfold execOp; simp only [ho]
    refine Goes.value ⟨_, _, ?_, g5⟩
    have hsz := (hT _ _ hel).run_size w
    have hz := (hT _ _ hel).run_zero w
    have hzc := (hT _ _ hel).zc
    obtain ⟨pi, hpi, _, hpb, _⟩ := (hT _ _ hel).run_typeInfo w
    have wx : IntKind.i64.wrap x = x := IntWalk.i64_in _ (by omega)
    have wy : IntKind.i64.wrap y = y := IntWalk.i64_in _ (by omega)
    have hr := rangeCells_eq i.zero.cells y.toNat
    rw [hzc] at hr
    have c1 : ((decide (y < 0) || decide ((i.bytes : Int) * y > 2 ^ 48)) || decide (x < 0) || decide (x > y)) = false := by
      simp only [Bool.or_eq_false_iff, decide_eq_false_iff_not]
      refine ⟨⟨⟨by omega, by omega⟩, by omega⟩, by omega⟩
    by_cases h0 : y.toNat * i.size = 0
    · simp only [h0, range0, Array.map_empty] at hr
      simp only [Instr.makeSlice, Sem.run_bind, run_underlying hu, Result.andThen_ok, hx, hy, Go.asInt, asIntOf, Sem.run_pure, hpi, hpb, wx, wy, c1, Bool.false_eq_true, if_false, run_askRoom, hsz, h0, if_true, newRow, run_newObj, range0, Array.map_empty, hr]
      rfl
    · simp only [Instr.makeSlice, Sem.run_bind, run_underlying hu, Result.andThen_ok, hx, hy, Go.asInt, asIntOf, Sem.run_pure, hpi, hpb, wx, wy, c1, Bool.false_eq_true, if_false, run_askRoom, hsz, h0, hz, hzc, newRow, run_newObj, hr]
      rfl
  case store t a x =>
    unfold execOp; simp only [ho]
    have fin : (∃ w', (Instr.storeAt t (get e a) (get e x)).run P w = .ok () w' ∧ k undef w') → Goes P (do Instr.storeAt t (get e a) (get e x); pure .skip) k w := by
      rintro ⟨w', h1, h2⟩
      exact ⟨_, undef, w', by simp [h1], .inr ⟨rfl, rfl⟩, h2⟩
    apply fin
    split at h <;> try exact h.elim
    · rename_i n2 el n b z hi
      obtain ⟨p, hp, h1⟩ := asAddr_out h
      obtain ⟨cs, hx, h2⟩ := asAgg_out h1
      obtain ⟨w', h3, h4⟩ := run_storeVar_agg (hT _ _ hi) h2.h h2.k
      exact ⟨w', by simp [Instr.storeAt, Instr.sureAddr, hp, hx, h3], h4⟩
    · rename_i fs n b z hi
      obtain ⟨p, hp, h1⟩ := asAddr_out h
      obtain ⟨cs, hx, h2⟩ := asAgg_out h1
      obtain ⟨w', h3, h4⟩ := run_storeVar_agg (hT _ _ hi) h2.h h2.k
      exact ⟨w', by simp [Instr.storeAt, Instr.sureAddr, hp, hx, h3], h4⟩
    · rename_i i g1 g2 g3 hi
      obtain ⟨p, hp, h1⟩ := asAddr_out h
      have hsz : i.size = 1 := by
        have hz := (hT _ _ hi).zc
        have ht := (hT _ _ hi).z1
        obtain ⟨ty, _, _, _⟩ := i
        rw [← hz]
        exact ht (by cases ty <;> first | rfl | (exfalso; first | exact g1 _ _ _ _ _ rfl | exact g2 _ _ _ _ rfl)) (by intro e; simp only at e; subst e; exact g3 _ _ _ rfl)
      rw [force_eq] at h1
      obtain ⟨w', h3, h4⟩ := run_storeVar_one (hT _ _ hi) hsz h1
      exact ⟨w', by simp [Instr.storeAt, Instr.sureAddr, hp, h3], h4⟩
  case convert s d x =>
    split at h
    · rename_i el n1 b1 z1 n2 b2 z2 hs hd
      have hs' : P.underlying s = some (.slice el) := (hT _ _ hs).ty
      have hd' : P.underlying d = some .string := (hT _ _ hd).ty
      split at h <;> try exact h.elim
      rename_i hel
      have hel' : P.underlying el = some (.int .u8) := (hT _ _ hel).ty
      obtain ⟨a, l, c, hx, h1⟩ := asSl_out h
      unfold execOp; simp only [ho]
      rw [show l = l * 1 by omega] at h1
      obtain ⟨vs, h2, h3, ns, rfl, h4⟩ := RdP_run (P := P) (l := l) (c := c) h1
      refine Goes.value ⟨_, _, ?_, h4⟩
      rw [hx, run_convert_bytes_string w s d el a l c hs' hel' hd']
      have key : ∀ (ns : List Int) (s : ByteArray), ns.foldl (fun r n => r.push (UInt8.ofNat n.toNat)) s = ⟨s.data ++ (ns.map fun n => UInt8.ofNat n.toNat).toArray⟩ := by
        intro ns
        induction ns with
        | nil => intro s; simp
        | cons n ns ih => intro s; rw [List.foldl_cons, ih]; simp [ByteArray.push]
      cases a with
      | none =>
        have : ns = [] := by
          cases ns with
          | nil => rfl
          | cons n ns => simp [Builtin.firstCells] at h2
        subst this
        simp [Conv.bytesToString, ByteArray.empty, ByteArray.emptyWithCapacity]
        try rfl
      | some p =>
        rw [run_bytesToString w p l c ns (by simpa [Builtin.firstCells] using h2), key]
        simp [ByteArray.empty, ByteArray.emptyWithCapacity]
        try rfl
    · rename_i n1 b1 z1 el n2 b2 z2 hs hd
      have hs' : P.underlying s = some .string := (hT _ _ hs).ty
      have hd' : P.underlying d = some (.slice el) := (hT _ _ hd).ty
      split at h <;> try exact h.elim
      rename_i hel
      have hel' : P.underlying el = some (.int .u8) := (hT _ _ hel).ty
      obtain ⟨t, hx, h1⟩ := asStr_out h
      unfold execOp; simp only [ho]
      have h2 := h1 (t.size + w.tape w.drawn (.appendCap t.size 0 el) % (2 ^ 63 - t.size)) (by omega)
      refine Goes.value ⟨_, _, ?_, h2⟩
      have hq : ∀ q, Question.cut (.appendCap t.size 0 el) q = t.size + q % (2 ^ 63 - t.size) := fun q => rfl
      have hts : t.data.size = t.size := rfl
      rw [hx]
      simp only [convert, Sem.run_bind, run_underlying hs', run_underlying hd', Result.andThen_ok, run_underlying hel', Conv.stringToBytes, run_choose, show Question.forced (.appendCap t.size 0 el) = false from rfl, Bool.false_eq_true, if_false, hq, newRow, run_newObj, Sem.run_pure, markStringish, run_shape, World.shape?]
      simp [hts]
      rfl
    · rename_i a0 n1 b1 z1 el n2 b2 z2 hs hd
      cases hsd : Nat.beq s d with
      | false => rw [hsd] at h; exact h.elim
      | true =>
        rw [hsd] at h
        have hsd' : s = d := Nat.eq_of_beq_eq_true hsd
        subst hsd'
        have hd' : P.underlying s = some (.slice el) := (hT _ _ hd).ty
        simp only [cond_true] at h
        split at h <;> try exact h.elim
        rename_i hel
        have hel' : P.underlying el = some (.int .u8) := (hT _ _ hel).ty
        obtain ⟨a, l, c, hx, h1⟩ := asSl_out h
        cases a with
        | none => exact h1.elim
        | some p =>
          obtain ⟨cs, T0, fr, hb, hk⟩ := h1.out
          unfold execOp; simp only [ho]
          refine Goes.value ⟨_, _, ?_, hk⟩
          have hsh : w.shape? p.block = some (T0, cs.size) := by unfold World.shape?; rw [hb]
          rw [hx]
          simp [convert, run_underlying hd', run_underlying hel', markStringish, hsh]
    · exact hS h
  case call c =>
    split at h
    · rename_i f hf; exact absurd hf (hnc _ _ ho)
    · rename_i hb
      split at h <;> try exact h.elim
      rename_i t u s x hts has
      split at h <;> try exact h.elim
      rename_i el n1 b1 z1 uty n2 b2 z2 ht hu
      split at h <;> try exact h.elim
      rename_i i hel
      have ht' : P.underlying t = some (.slice el) := (hT _ _ ht).ty
      have h' : (∀ K, uty ≠ .int K) ∧ uty ≠ .other ∧ evAppend el i.size i.bytes i.zero (get e s) (get e x) k w := by
        split at h
        · exact h.elim
        · exact h.elim
        · rename_i g1 g2; exact ⟨fun K => by intro e; exact g1 _ e, fun e => g2 e, h⟩
      obtain ⟨g1, g2, h2⟩ := h'
      obtain ⟨v, w', h3, h4⟩ := evAppend_run ht' (hT _ _ hel) (hT _ _ hu) g1 g2 o.type h2
      unfold execOp; simp only [ho]
      refine ⟨_, v, w', ?_, .inl rfl, h4⟩
      have e1 : c.argTypes = #[t, u] := by rw [← Array.toArray_toList (xs := c.argTypes), hts]
      have e2 : c.args.map (get e) = #[get e s, get e x] := by rw [← Array.toArray_toList (xs := c.args), has, List.map_toArray]; rfl
      simp only [resolve, hb, invoke, builtin, e1, e2, Sem.run_bind, Sem.run_pure, Result.andThen_ok, h3]
    · rename_i hb
      split at h <;> try exact h.elim
      rename_i t tys s x hts has
      split at h <;> try exact h.elim
      rename_i el n1 b1 z1 ht
      split at h <;> try exact h.elim
      rename_i i hel
      have ht' : P.underlying t = some (.slice el) := (hT _ _ ht).ty
      have e1 : c.argTypes[0]? = some t := by rw [← Array.toArray_toList (xs := c.argTypes), hts]; rfl
      obtain ⟨v, w', h3, h4⟩ := evCopy_run (u := 0) ht' (hT _ _ hel) o.type c.argTypes e1 h
      unfold execOp; simp only [ho]
      refine ⟨_, v, w', ?_, .inl rfl, h4⟩
      have e2 : c.args.map (get e) = #[get e s, get e x] := by rw [← Array.toArray_toList (xs := c.args), has, List.map_toArray]; rfl
      simp only [resolve, hb, invoke, builtin, e2, Sem.run_bind, Sem.run_pure, Result.andThen_ok, h3]
    · exact hS h
end
end Go.Ev
