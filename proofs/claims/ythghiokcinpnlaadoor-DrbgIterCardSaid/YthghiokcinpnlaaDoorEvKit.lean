/- The walk by evaluation, part 5: laws for use: tests, loads, stores, calls, loops, regions that draw; rows and blocks of memory. -/
import Derived.Test.YthghiokcinpnlaaDoorEvSoundC
set_option linter.unusedSimpArgs false
set_option linter.unusedVariables false
namespace Go.Ev
open Go

section
variable {P : Program} {T : Tab}

/-! ### tests -/
theorem IfP.dec {p : Prop} [Decidable p] {A B : Prop} (h1 : p → A) (h2 : ¬ p → B) : IfP (decide p) A B := ⟨fun h => h1 (of_decide_eq_true h), fun h => h2 (of_decide_eq_false h)⟩
theorem IfP.beq {a b : Int} {A B : Prop} (h1 : a = b → A) (h2 : a ≠ b → B) : IfP (a == b) A B := ⟨fun h => h1 (by simpa using h), fun h => h2 (by simpa using h)⟩
theorem IfP.bne {a b : Int} {A B : Prop} (h1 : a ≠ b → A) (h2 : a = b → B) : IfP (a != b) A B := ⟨fun h => h1 (by simpa using h), fun h => h2 (by simpa using h)⟩
theorem IfP.pos {c : Bool} {A B : Prop} (h : c = true) (h1 : A) : IfP c A B := IfP.mk (fun _ => h1) (fun h' => by rw [h] at h'; cases h')
theorem IfP.neg {c : Bool} {A B : Prop} (h : c = false) (h1 : B) : IfP c A B := IfP.mk (fun h' => by rw [h] at h'; cases h') (fun _ => h1)
theorem IfP.dpos {p : Prop} [Decidable p] {A B : Prop} (h : p) (h1 : A) : IfP (decide p) A B := .pos (decide_eq_true h) h1
theorem IfP.dneg {p : Prop} [Decidable p] {A B : Prop} (h : ¬ p) (h1 : B) : IfP (decide p) A B := .neg (decide_eq_false h) h1
theorem IfP.yes {A B : Prop} (h1 : A) : IfP true A B := .pos rfl h1
theorem IfP.no {A B : Prop} (h1 : B) : IfP false A B := .neg rfl h1
theorem IfP.both {c : Bool} {A B : Prop} (h1 : A) (h2 : B) : IfP c A B := IfP.mk (fun _ => h1) (fun _ => h2)

/-! ### calls -/
theorem CallP.intro {f : FuncId} {args : Array Value} {k : Value → World → Prop} {w : World} {R : Ending → World → Prop} (h : Calls P f args w R) (hk : ∀ e w', R e w' → ∃ v, e = .returned v ∧ k v w') : CallP P f args k w := ⟨h.mono hk⟩
theorem CallP.same {f : FuncId} {args : Array Value} {k : Value → World → Prop} {w : World} {v : Value} (h : Calls P f args w fun e w' => e = .returned v ∧ w' = w) (hk : k v w) : CallP P f args k w :=
  ⟨h.mono fun e w' ⟨h1, h2⟩ => ⟨v, h1, by rw [h2]; exact hk⟩⟩

/-! ### loops -/
def Slots (e : Env) : List (Nat × Value) → Prop
  | [] => True
  | (t, v) :: r => e t = v ∧ Slots e r
def upds (e : Env) : List (Nat × Value) → Env
  | [] => e
  | (t, v) :: r => upd (upds e r) t v
theorem upds_self {e : Env} : ∀ {l : List (Nat × Value)}, Slots e l → upds e l = e
  | [], _ => rfl
  | (t, v) :: r, h => by
    show upd (upds e r) t v = e
    rw [upds_self h.2]; exact upd_self h.1

theorem LoopP.go {S : Type} {asg : Nat} {body : Env → Post → World → Prop} {D : List Deferred} {e : Env} {Q : Post} {w : World} (m : Nat) (hm : asg = m) (V : S → List (Nat × Value)) (I : S → World → Prop) (μ : S → Nat) (s0 : S) (h0 : Slots e (V s0)) (hI : I s0 w)
    (round : ∀ s j w', I s w' → body (upds (over e m j) (V s)) (fun x D' e'' w'' => match x with
      | .normal => D' = D ∧ ∃ s', (Slots e'' (V s') ∧ I s' w'') ∧ μ s' < μ s
      | x => Q x D' e'' w'') w') : LoopP asg body D e Q w := by
  subst hm
  refine ⟨⟨S, fun s e w => Slots e (V s) ∧ I s w, μ, ⟨s0, h0, hI⟩, ?_⟩⟩
  rintro s j w' ⟨hs, hi⟩
  have := round s j w' hi
  rw [upds_self hs] at this
  exact this

/-! ### regions that draw their order -/
/-- An operation that hands back the very world that it got: also a call under such a contract. -/
def evSC (T : Tab) (P : Program) (ext : Nat → Bool) (o : Oper) (e : Env) (k : Value → Prop) (w : World) : Prop :=
  match o.op with
  | .call c => match c.callee with
    | .value f => match get e f with
      | .func (.func g) a cc => bif ext g then ExtP P g (a.toList ++ c.args.toList.map (get e) ++ cc.toList).toArray (fun v w' => w' = w ∧ k v) w
        else ∃ v, Calls P g (a.toList ++ c.args.toList.map (get e) ++ cc.toList).toArray w (fun e w' => e = .returned v ∧ w' = w) ∧ k v
      | _ => False
    | _ => evS T o e k w
  | _ => evS T o e k w
def evStill (T : Tab) (P : Program) (ext : Nat → Bool) (all : List Oper) : List Oper → Env → (Env → Prop) → World → Prop
  | [], e, K, _ => K e
  | o :: rest, e, K, w => match o.guard with
    | none => match o.dst with
      | some d => evSC T P ext o e (fun v => evStill T P ext all rest (upd e d v) K w) w
      | none => evSC T P ext o e (fun _ => evStill T P ext all rest e K w) w
    | some (j, want) => match (all[j]?).bind (·.dst) with
      | some g => asBool (e g) fun c => match o.dst with
        | some d => IfP (bif want then c else !c) (evSC T P ext o (upd e g (.bool want)) (fun v => evStill T P ext all rest (upd (upd e g (.bool want)) d v) K w) w)
          (evStill T P ext all rest (upd (upd e g (.bool !want)) d undef) K w)
        | none => IfP (bif want then c else !c) (evSC T P ext o (upd e g (.bool want)) (fun _ => evStill T P ext all rest (upd e g (.bool want)) K w) w)
          (evStill T P ext all rest (upd e g (.bool !want)) K w)
      | none => False
theorem evStill_cons {T : Tab} {P : Program} {ext : Nat → Bool} {all : List Oper} {o : Oper} {rest : List Oper} {e : Env} {K : Env → Prop} {w : World} :
    evStill T P ext all (o :: rest) e K w = match o.guard with
    | none => evSC T P ext o e (fun v => evStill T P ext all rest (updO e o.dst v) K w) w
    | some (j, want) => match (all[j]?).bind (·.dst) with
      | some d => asBool (e d) fun c =>
        IfP (bif want then c else !c) (evSC T P ext o (upd e d (.bool want)) (fun v => evStill T P ext all rest (updO (upd e d (.bool want)) o.dst v) K w) w)
          (evStill T P ext all rest (updO (upd e d (.bool !want)) o.dst undef) K w)
      | none => False := by
  conv => lhs; unfold evStill
  cases o.guard with
  | none => cases o.dst <;> rfl
  | some jw =>
    obtain ⟨j, want⟩ := jw
    simp only
    cases (all[j]?).bind (·.dst) with
    | none => rfl
    | some g => cases o.dst <;> rfl
end
section
variable {P : Program} {T : Tab}

theorem evSC_still (hT : TabOk T P) {ext : Nat → Bool} (hX : ExtOk P ext) {o : Oper} {a : Act} {w : World} {k : Value → Prop} {next : Act → Prop} (h : evSC T P ext o (actEnv a) k w) (hk : ∀ v, k v → next (a.put o.dst v)) : o.still P a w next := by
  have hS : evS T o (actEnv a) k w → o.still P a w next := fun h => by
    obtain ⟨v, hv, h1⟩ := evS_run hT h
    unfold Oper.still
    rw [eval_get, hv]
    exact ⟨rfl, hk _ h1⟩
  unfold evSC at h
  split at h
  · rename_i c ho
    split at h
    · rename_i f hf
      split at h <;> try exact h.elim
      rename_i g f0 c0 hv
      have hargs : c.args.map (get (actEnv a)) = (c.args.toList.map (get (actEnv a))).toArray := by rw [← List.map_toArray]
      have he : (execOp (get (actEnv a)) o) = (do let d ← resolve (get (actEnv a)) c o.type; invoke d.target d.args) := by unfold execOp; simp only [ho]
      have hres : (do let d ← resolve (get (actEnv a)) c o.type; invoke d.target d.args : Sem Next).run P w = (callFunc g (f0.toList ++ c.args.toList.map (get (actEnv a)) ++ c0.toList).toArray).run P w := by
        simp only [resolve, hf, hv, Deferred.ofValue, hargs, Sem.run_bind, Sem.run_pure, Result.andThen_ok, invoke]
        congr 2
        simp
      unfold Oper.still
      rw [eval_get, he, hres]
      cases hx : ext g with
      | true =>
        rw [hx] at h
        obtain ⟨v, w', h1, rfl, h2⟩ := h.out
        rw [h1]
        exact ⟨rfl, hk _ h2⟩
      | false =>
        rw [hx] at h
        obtain ⟨v, h1, h2⟩ := h
        rw [run_enters (hX g hx)]
        exact ⟨rfl, v, h1, hk _ h2⟩
    · exact hS h
  · exact hS h

/-- the guard of an operation, at the machine's own state. -/
theorem guard_wanted {ops : Array Oper} {o : Oper} {a : Act} {j d : Nat} {want c : Bool} (hg : o.guard = some (j, want)) (hjd : (ops.toList[j]?).bind (·.dst) = some d) (hc : actEnv a d = .bool c) :
    Region.wanted o (yielded ops a.tmps) = (c == want) := by
  have hjd' : (ops[j]?).bind (·.dst) = some d := by simpa using hjd
  have hdl : a.tmps[d]? = some (.bool c) := by
    have hc' : a.tmps.getD d undef = .bool c := hc
    rw [Array.getD_eq_getD_getElem?] at hc'
    cases hx : a.tmps[d]? with
    | none => rw [hx] at hc'; cases hc'
    | some v => rw [hx] at hc'; simpa using hc'
  have hy : yielded ops a.tmps j = some c := by simp [yielded, hjd', hdl]
  simp [Region.wanted, hg, hy]

theorem evStill_wp (hT : TabOk T P) {ext : Nat → Bool} (hX : ExtOk P ext) {ops : Array Oper} {n : Nat} {w : World} :
    ∀ (rest : List Oper) (a : Act) (K : Env → Prop) (K' : Act → Prop), okOps n rest = true → a.tmps.size = n →
      evStill T P ext ops.toList rest (actEnv a) K w → (∀ a', FrO (asgOps rest) a (fun e _ => K e) a' w → K' a') → wpStill P ops w K' rest a
  | [], a, K, K', _, _, h, hq => hq a ⟨rfl, rfl, fun _ _ => rfl, h⟩
  | o :: rest, a, K, K', hok, hn, h, hq => by
    simp only [okOps, Bool.and_eq_true] at hok
    obtain ⟨⟨hdst, hdef⟩, hok'⟩ := hok
    have hlt : ∀ t, o.dst = some t → t < a.tmps.size := by
      intro t ht; rw [ht] at hdst; rw [hn]; simpa [Nat.blt_eq] using hdst
    have step : ∀ v, evStill T P ext ops.toList rest (updO (actEnv a) o.dst v) K w → wpStill P ops w K' rest (a.put o.dst v) := by
      intro v h'
      refine evStill_wp hT hX rest _ K K' hok' (by rw [put_size, hn]) (by rw [actEnv_put _ _ _ hlt]; exact h') ?_
      rintro a' ⟨h1, h2, h3, h4⟩
      refine hq a' ⟨h1.trans (put_size _ _ _), h2.trans (put_defers _ _ _), fun t ht => ?_, h4⟩
      obtain ⟨t1, t2⟩ := testBit_or ht
      rw [h3 t t2, actEnv_put _ _ _ hlt, updO_other t1]
    unfold wpStill
    rw [evStill_cons] at h
    cases hg : o.guard with
    | none =>
      simp only [hg] at h
      have hw : Region.wanted o (yielded ops a.tmps) = true := by simp [Region.wanted, hg]
      rw [if_pos hw]
      exact evSC_still hT hX h step
    | some jw =>
      obtain ⟨j, want⟩ := jw
      simp only [hg] at h
      split at h <;> try exact h.elim
      rename_i d hjd
      obtain ⟨c, hc, h1⟩ := asBool_out h
      rw [guard_wanted hg hjd hc]
      by_cases hcw : c = want
      · subst hcw
        have h2 := h1.t (by cases c <;> rfl)
        rw [upd_self hc] at h2
        rw [if_pos (by simp)]
        exact evSC_still hT hX h2 step
      · have hcn : c = !want := by cases c <;> cases want <;> simp at hcw ⊢
        have h2 := h1.f (by subst hcn; cases want <;> rfl)
        rw [upd_self (by rw [hc, hcn])] at h2
        rw [if_neg (by simp [hcw])]
        exact step undef h2

theorem evOp_wp (hT : TabOk T P) {ext : Nat → Bool} (hX : ExtOk P ext) {o : Oper} {a : Act} {w : World} {k : Value → World → Prop} {next : Act → World → Prop} {Q : Exit → Act → World → Prop}
    (h : evOp T P ext (some 0) o (actEnv a) k w) (hk : ∀ v w', k v w' → next (a.put o.dst v) w') : o.wp P a w next Q := by
  unfold Oper.wp
  rw [eval_get]
  by_cases hc : ∀ c f, o.op = .call c → c.callee ≠ .value f
  · obtain ⟨nx, v, w', h1, h2, h3⟩ := evOp_run hT hc h
    rw [h1]
    rcases h2 with rfl | ⟨rfl, rfl⟩
    · exact hk _ _ h3
    · exact hk _ _ h3
  · have : ∃ c f, o.op = .call c ∧ c.callee = .value f := by
      apply Classical.byContradiction
      intro hn
      exact hc fun c f h1 h2 => hn ⟨c, f, h1, h2⟩
    obtain ⟨c, f, ho, hf⟩ := this
    unfold evOp at h
    simp only [ho, hf] at h
    have he : (execOp (get (actEnv a)) o) = (do let d ← resolve (get (actEnv a)) c o.type; invoke d.target d.args) := by unfold execOp; simp only [ho]
    rw [he]
    have hargs : c.args.map (get (actEnv a)) = (c.args.toList.map (get (actEnv a))).toArray := by rw [← List.map_toArray]
    unfold evCall at h
    split at h <;> try exact h.elim
    · rename_i g f0 c0 hv
      have hres : (do let d ← resolve (get (actEnv a)) c o.type; invoke d.target d.args : Sem Next).run P w = (callFunc g (f0.toList ++ c.args.toList.map (get (actEnv a)) ++ c0.toList).toArray).run P w := by
        simp only [resolve, hf, hv, Deferred.ofValue, hargs, Sem.run_bind, Sem.run_pure, Result.andThen_ok, invoke]
        congr 2
        simp
      rw [hres]
      cases hx : ext g with
      | true =>
        rw [hx] at h
        obtain ⟨v, w', h1, h2⟩ := h.out
        rw [h1]
        exact hk _ _ h2
      | false =>
        rw [hx] at h
        rw [run_enters (hX g hx)]
        refine h.out.mono ?_
        rintro e w' ⟨v, rfl, hkv⟩
        exact hk _ _ hkv
    · exact absurd h.out.1 (by simp)

theorem evOps_wpList (hT : TabOk T P) {ext : Nat → Bool} (hX : ExtOk P ext) {ops : Array Oper} {Q : Exit → Act → World → Prop} {n : Nat} :
    ∀ (rest : List Oper) (a : Act) (w : World) (K : Env → World → Prop), okOps n rest = true → a.tmps.size = n →
      evOps T P ext (some 0) ops.toList rest (actEnv a) K w → (∀ a' w', FrO (asgOps rest) a K a' w' → Q .normal a' w') → wpList P ops Q rest a w
  | [], a, w, K, _, _, h, hq => hq a w ⟨rfl, rfl, fun _ _ => rfl, h⟩
  | o :: rest, a, w, K, hok, hn, h, hq => by
    simp only [okOps, Bool.and_eq_true] at hok
    obtain ⟨⟨hdst, hdef⟩, hok'⟩ := hok
    have hlt : ∀ t, o.dst = some t → t < a.tmps.size := by
      intro t ht; rw [ht] at hdst; rw [hn]; simpa [Nat.blt_eq] using hdst
    have hdefer : ∀ c, o.op ≠ .defer c := by
      intro c hc; rw [hc] at hdef; cases hdef
    have step : ∀ v w', evOps T P ext (some 0) ops.toList rest (updO (actEnv a) o.dst v) K w' → wpList P ops Q rest (a.put o.dst v) w' := by
      intro v w' h'
      refine evOps_wpList hT hX rest _ w' K hok' (by rw [put_size, hn]) (by rw [actEnv_put _ _ _ hlt]; exact h') ?_
      rintro a' w'' ⟨h1, h2, h3, h4⟩
      refine hq a' w'' ⟨h1.trans (put_size _ _ _), h2.trans (put_defers _ _ _), fun t ht => ?_, h4⟩
      obtain ⟨t1, t2⟩ := testBit_or ht
      rw [h3 t t2, actEnv_put _ _ _ hlt, updO_other t1]
    have op : ∀ e, evOp T P ext (some 0) o e (fun v w => evOps T P ext (some 0) ops.toList rest (updO e o.dst v) K w) w → e = actEnv a → o.wp P a w (wpList P ops Q rest) Q := by
      rintro e h rfl
      exact evOp_wp hT hX h step
    unfold wpList
    rw [evOps_cons] at h
    cases hg : o.guard with
    | none =>
      simp only [hg] at h
      have hw : Region.wanted o (yielded ops a.tmps) = true := by simp [Region.wanted, hg]
      rw [if_pos hw]
      exact .inl (op _ h rfl)
    | some jw =>
      obtain ⟨j, want⟩ := jw
      simp only [hg] at h
      split at h <;> try exact h.elim
      rename_i d hjd
      obtain ⟨c, hc, h1⟩ := asBool_out h
      rw [guard_wanted hg hjd hc]
      by_cases hcw : c = want
      · subst hcw
        have h2 := h1.t (by cases c <;> rfl)
        rw [upd_self hc] at h2
        rw [if_pos (by simp)]
        exact .inl (op _ h2 rfl)
      · have hcn : c = !want := by cases c <;> cases want <;> simp at hcw ⊢
        have h2 := h1.f (by subst hcn; cases want <;> rfl)
        rw [upd_self (by rw [hc, hcn])] at h2
        rw [if_neg (by simp [hcw])]
        exact step undef w h2

theorem DrawP.still (hT : TabOk T P) {ext : Nat → Bool} (hX : ExtOk P ext) (hm : P.follows .mixedOrders = true) {n id : Nat} {ops : Array Oper} {D : List Deferred} {e : Env} {Q : Post} {w : World}
    (hB : Region.lexB .any ops = true) (hok : okOps n ops.toList = true)
    (h : evStill T P ext ops.toList ops.toList e (fun e' => Q .normal D e' { w with drawn := w.drawn + 1 }) { w with drawn := w.drawn + 1 }) : DrawP P none n (.region id ops true) D e Q w := by
  refine ⟨rfl, ?_⟩
  rintro a hn rfl rfl
  refine wp_region_still hm hB (evStill_wp hT hX ops.toList a _ _ hok hn h ?_)
  rintro a' ⟨h1, h2, h3, h4⟩
  exact ⟨h1, h3, by rw [h2]; exact h4⟩

theorem DrawP.tail (hT : TabOk T P) {ext : Nat → Bool} (hX : ExtOk P ext) (hm : P.follows .mixedOrders = true) {n id : Nat} {ops : Array Oper} {D : List Deferred} {e : Env} {Q : Post} {w : World} (m : Nat)
    (hB : Region.lexTailB .any ops m = true) (hok : okOps n ops.toList = true)
    (h : evStill T P ext ops.toList (ops.toList.take m) e (fun e' => evOps T P ext (some 0) ops.toList (ops.toList.drop m) e' (fun e w => Q .normal D e w) { w with drawn := w.drawn + 1 }) { w with drawn := w.drawn + 1 }) : DrawP P none n (.region id ops true) D e Q w := by
  refine ⟨rfl, ?_⟩
  rintro a hn rfl rfl
  have hokT : okOps n (ops.toList.take m) = true ∧ okOps n (ops.toList.drop m) = true := by
    have key : ∀ (l : List Oper) (m : Nat), okOps n l = true → okOps n (l.take m) = true ∧ okOps n (l.drop m) = true := by
      intro l
      induction l with
      | nil => intro m _; simp [okOps]
      | cons o l ih =>
        intro m h
        cases m with
        | zero => exact ⟨rfl, h⟩
        | succ m =>
          simp only [okOps, Bool.and_eq_true] at h
          have := ih m h.2
          simp only [List.take_succ_cons, List.drop_succ_cons, okOps, Bool.and_eq_true]
          exact ⟨⟨h.1, this.1⟩, this.2⟩
    exact key _ _ hok
  have hasg : ∀ (l : List Oper) (m t : Nat), Nat.testBit (asgOps l) t = false → Nat.testBit (asgOps (l.take m)) t = false ∧ Nat.testBit (asgOps (l.drop m)) t = false := by
    intro l
    induction l with
    | nil => intro m t h; simp [asgOps]
    | cons o l ih =>
      intro m t h
      cases m with
      | zero => exact ⟨by simp [asgOps], h⟩
      | succ m =>
        obtain ⟨h1, h2⟩ := testBit_or h
        have := ih m t h2
        refine ⟨?_, this.2⟩
        show Nat.testBit (_ ||| asgOps (l.take m)) t = false
        rw [Nat.testBit_or, h1, this.1]; rfl
  have ha : ops = ops.toList.toArray := (Array.toArray_toList).symm
  have main := wp_region_still_tail (P := P) (id := id) (Q := Fr (asg (.region id ops true)) a Q) (a := a) (w := w) (l := ops.toList) m hm (by rw [← ha]; exact hB) ?_
  · rw [← ha] at main; exact main
  · rw [← ha]
    refine evStill_wp hT hX (ops.toList.take m) a _ _ hokT.1 hn h ?_
    rintro a1 ⟨h1, h2, h3, h4⟩
    refine evOps_wpList hT hX (ops.toList.drop m) a1 _ _ hokT.2 (h1.trans hn) h4 ?_
    rintro a2 w2 ⟨k1, k2, k3, k4⟩
    refine ⟨k1.trans h1, fun t ht => ?_, by rw [k2, h2]; exact k4⟩
    obtain ⟨t1, t2⟩ := hasg ops.toList m t ht
    rw [k3 t t2, h3 t t1]
end
end Go.Ev
