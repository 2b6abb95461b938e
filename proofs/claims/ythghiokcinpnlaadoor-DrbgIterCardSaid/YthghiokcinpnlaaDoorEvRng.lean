/- The walk by evaluation, part 7: ranges over functions. -/
import Derived.Test.YthghiokcinpnlaaDoorEvMem
import Derived.RangeFuncLeaves
set_option linter.unusedSimpArgs false
set_option linter.unusedVariables false
namespace Go.Ev
open Go Go.RowKit

section
variable {P : Program} {T : Tab}

/-- a loop's record. -/
def rcd (fn : FuncId) (tmps : Array Value) (ps : Array Tmp) (assign body : Code) (d : Nat) (st : LoopState) (pe : Option Code) : Loop := { state := st, pending := pe, fn, tmps, params := ps, assign, body, defers := d }
def parE (e : Env) (l : List (Nat × Value)) : Env := l.foldl (fun e p => upd e p.1 p.2) e

theorem parE_act (l : List (Nat × Value)) : ∀ (tmps : Array Value), (∀ p ∈ l, p.1 < tmps.size) → actEnv { tmps := l.foldl (fun t p => t.setIfInBounds p.1 p.2) tmps, defers := [] } = parE (fun t => tmps.getD t undef) l ∧ (l.foldl (fun t p => t.setIfInBounds p.1 p.2) tmps).size = tmps.size := by
  induction l with
  | nil => intro tmps _; exact ⟨rfl, rfl⟩
  | cons p l ih =>
    intro tmps h
    have := ih (tmps.setIfInBounds p.1 p.2) (fun q hq => by simpa using h q (by simp [hq]))
    refine ⟨?_, by simpa using this.2⟩
    simp only [List.foldl_cons, parE]
    rw [this.1]
    simp only [parE]
    congr 1
    have := actEnv_put { tmps := tmps, defers := [] } (some p.1) p.2 (fun t ht => by cases ht; exact h p (by simp))
    exact this

def RoundP (l : Nat) (rc : LoopState → Option Code → Loop) (k : Value → World → Prop) : Post := fun x D e W => match x with
  | .normal => W.heap[l]? = some (.loop (rc .busy none)) ∧ k (.bool true) (W.putObj l (.loop (rc .ready none)))
  | .ret => W.heap[l]? = some (.loop (rc .busy none)) ∧ k (.bool false) (W.putObj l (.loop (rc .done (some .ret))))
  | .exit id => W.heap[l]? = some (.loop (rc .busy none)) ∧ k (.bool false) (W.putObj l (.loop (rc .done (some (.exit id)))))
  | _ => False
def AssignP (T : Tab) (P : Program) (ext : Nat → Bool) (n l : Nat) (rc : LoopState → Option Code → Loop) (body : Code) (k : Value → World → Prop) : Post := fun x D e W => match x with
  | .normal => W.heap[l]? = some (.loop (rc .ready none)) ∧ evC T P ext (some l) n body D e (RoundP l rc k) (W.putObj l (.loop (rc .busy none)))
  | _ => False

theorem YieldP.round (hT : TabOk T P) {ext : Nat → Bool} (hX : ExtOk P ext) {fn : FuncId} {n : Nat} {tmps : Array Value} {ps : Array Tmp} {assign body : Code} {d l : Nat} {args : List Value} {W : World} {k : Value → World → Prop}
    (hl : W.heap[l]? = some (.loop (rcd fn tmps ps assign body d .ready none))) (hn : tmps.size = n) (hargs : args.length = ps.size) (hps : ps.toList.all (fun t => Nat.blt t n) = true) (hokA : okC n assign = true) (hokB : okC n body = true)
    (h : evC T P ext (some l) n assign [] (parE (fun t => tmps.getD t undef) (ps.toList.zip args)) (AssignP T P ext n l (rcd fn tmps ps assign body d) body k) W) : YieldP P none l args.toArray k W := by
  refine ⟨rfl, fn, (ps.zip args.toArray).foldl (fun tmps (t, a) => tmps.setIfInBounds t a) tmps, assign, body, ?_, ?_⟩
  · exact run_yield hl (by simpa [rcd] using hargs)
  · have hz : (ps.zip args.toArray).foldl (fun tmps (t, a) => tmps.setIfInBounds t a) tmps = (ps.toList.zip args).foldl (fun t p => t.setIfInBounds p.1 p.2) tmps := by
      rw [← Array.foldl_toList]; simp
    have hp : ∀ p ∈ ps.toList.zip args, p.1 < tmps.size := by
      intro p hp
      rw [List.all_eq_true] at hps
      have := hps p.1 (List.of_mem_zip hp).1
      rw [hn]; simpa [Nat.blt_eq] using this
    obtain ⟨h1, h2⟩ := parE_act (ps.toList.zip args) tmps hp
    rw [hz]
    refine roundIn_of_wpIn trivial ?_
    have hwA := evC_wpIn hT hX (some l) n assign _ (AssignP T P ext n l (rcd fn tmps ps assign body d) body k) { tmps := (ps.toList.zip args).foldl (fun t p => t.setIfInBounds p.1 p.2) tmps, defers := [] } W hokA (h2.trans hn) h1 h
    refine wpIn_mono hwA ?_
    rintro x a1 W1 ⟨g1, g2, g3⟩
    cases x with
    | normal =>
      obtain ⟨g3, g4⟩ := g3
      refine ⟨_, run_beginRound g3 rfl, ?_⟩
      have hwB := evC_wpIn hT hX (some l) n body _ (RoundP l (rcd fn tmps ps assign body d) k) a1 _ hokB (g1.trans (h2.trans hn)) rfl g4
      refine wpIn_mono hwB ?_
      rintro x a2 W2 ⟨_, _, k3⟩
      cases x with
      | normal => exact ⟨_, _, run_endRound none k3.1, _, rfl, k3.2⟩
      | ret => exact ⟨_, _, run_endRound (some .ret) k3.1, _, rfl, k3.2⟩
      | exit id => exact ⟨_, _, run_endRound (some (.exit id)) k3.1, _, rfl, k3.2⟩
      | goto l => exact k3.elim
      | panic ch => exact k3.elim
      | outgrown => exact k3.elim
    | exit id => exact g3.elim
    | goto l => exact g3.elim
    | ret => exact g3.elim
    | panic ch => exact g3.elim
    | outgrown => exact g3.elim

theorem YieldP.mono {r : Option Nat} {l : Nat} {args : Array Value} {k k' : Value → World → Prop} {w : World} (h : YieldP P r l args k w) (hk : ∀ v w', k v w' → k' v w') : YieldP P r l args k' w := by
  obtain ⟨hr, fn, tmps, assign, body, h1, h2⟩ := h.out
  exact ⟨⟨hr, fn, tmps, assign, body, h1, h2.mono fun e w' ⟨v, h3, h4⟩ => ⟨v, h3, hk v w' h4⟩⟩⟩

theorem Chg.put {B : Nat} {s : Nat → Prop} {a w : World} (h : Chg B s a w) (l : Nat) (o : Obj) (hp : l < B → s l) : Chg B s a (w.putObj l o) :=
  h.trans ⟨rfl, rfl, rfl, Nat.le_of_eq World.putObj_size.symm, fun k hk hn => World.putObj_heap_other (fun e => hn (by rw [e]; exact hp (by omega)))⟩
theorem Blk.put {w : World} {b : Nat} {cs : List Value} {T : TypeId} (h : Blk w b cs T) (l : Nat) (o : Obj) (hp : b ≠ l) : Blk (w.putObj l o) b cs T := (World.putObj_heap_other hp).trans h
theorem put_same {w : World} {l : Nat} {o : Obj} (h : l < w.heap.size) : (w.putObj l o).heap[l]? = some o := World.putObj_heap_same h
theorem heap_lt {w : World} {l : Nat} {o : Obj} (h : w.heap[l]? = some o) : l < w.heap.size := (Array.getElem?_eq_some_iff.1 h).1

def markOf (d : Nat) : Deferred := { target := .collected d, args := #[] }
/-- behind the function that was ranged over. -/
def RangeEnd (T : Tab) (P : Program) (ext : Nat → Bool) (n l : Nat) (rc : LoopState → Option Code → Loop) (D : List Deferred) (e : Env) (Q : Post) (W : World) : Prop :=
  (W.heap[l]? = some (.loop (rc .ready none)) ∧ Q .normal D e (W.putObj l (.loop (rc .exhausted none)))) ∨
  (∃ c, okC n c = true ∧ asg c = 0 ∧ W.heap[l]? = some (.loop (rc .done (some c))) ∧ evC T P ext none n c D e Q (W.putObj l (.loop (rc .exhausted (some c)))))

theorem DrawP.range (hT : TabOk T P) {ext : Nat → Bool} (hX : ExtOk P ext) {n : Nat} {g : Operand} {ps : Array Tmp} {assign body : Code} {D : List Deferred} {e : Env} {Q : Post} {w : World} {gf : Nat} {lb : Array Value}
    (hg : get e g = .func (.func gf) #[] lb) (hen : entersB P gf = true)
    (h : ∀ fn tmps, tmps.size = n → (fun t => tmps.getD t undef) = e → Calls P gf (#[.func (.yield (w.heap.size + 1)) #[] #[]] ++ lb) ((w.alloc (.deferred (some []))).alloc (.loop (rcd fn tmps ps assign body w.heap.size .ready none)))
      (fun x W => ∃ v, x = .returned v ∧ RangeEnd T P ext n (w.heap.size + 1) (rcd fn tmps ps assign body w.heap.size) (markOf w.heap.size :: D) e Q W)) : DrawP P none n (.rangeFunc g ps assign body) D e Q w := by
  refine ⟨rfl, ?_⟩
  rintro a hn rfl rfl
  refine (wpIn_wide (n := 1)).1 ?_
  refine wpIn_rangeFunc ?_
  intro fn _
  have hc := h fn a.tmps hn rfl
  have hg' : a.eval g = .func (.func gf) #[] lb := by rw [eval_get]; exact hg
  refine ⟨w.heap.size + 1, [markOf w.heap.size], (w.alloc (.deferred (some []))).alloc (.loop (rcd fn a.tmps ps assign body w.heap.size .ready none)), { target := .fn (.func gf) lb, args := #[.func (.yield (w.heap.size + 1)) #[] #[]] }, (w.alloc (.deferred (some []))).alloc (.loop (rcd fn a.tmps ps assign body w.heap.size .ready none)), gf, #[.func (.yield (w.heap.size + 1)) #[] #[]] ++ lb, (w.alloc (.deferred (some []))).alloc (.loop (rcd fn a.tmps ps assign body w.heap.size .ready none)), run_enterLoop_outer _ _ _ _ _, ?_, fun _ _ => trivial, ?_, fun _ => Nat.le_refl _, ?_⟩
  · simp only [resolve, hg', rangeCall]
    simp [Deferred.ofValue, Act.eval]
  · simp only [invoke]; exact run_enters hen _ _
  · refine callsIn_wide.2 (hc.mono ?_)
    rintro x W ⟨v, rfl, (⟨h1, h2⟩ | ⟨c, hok, hasg, h1, h2⟩)⟩
    · exact ⟨none, _, run_endLoop h1 (by simp [rcd]), rfl, fun _ _ => rfl, h2⟩
    · refine ⟨some c, _, run_endLoop h1 (by simp [rcd]), ?_⟩
      have := evC_wpIn hT hX none n c _ Q { a with defers := [markOf w.heap.size] ++ a.defers } _ hok hn rfl h2
      refine (wpIn_wide (n := 1)).2 (wp_mono (wpIn_wide.1 this) ?_)
      rintro x a' w' ⟨k1, k2, k3⟩
      exact ⟨k1, fun t ht => k2 t (by rw [hasg]; simp), k3⟩

/-- The same with the loop's record unnamed. -/
theorem DrawP.rangeA (hT : TabOk T P) {ext : Nat → Bool} (hX : ExtOk P ext) {n : Nat} {g : Operand} {ps : Array Tmp} {assign body : Code} {D : List Deferred} {e : Env} {Q : Post} {w : World} {gf : Nat} {lb : Array Value}
    (hg : get e g = .func (.func gf) #[] lb) (hen : entersB P gf = true) (hps : ps.toList.all (fun t => Nat.blt t n) = true) (hokA : okC n assign = true) (hokB : okC n body = true)
    (h : ∀ (rc : LoopState → Option Code → Loop) (d : Nat) (w6 : World), d = w.heap.size → w6.heap[d]? = some (.deferred (some [])) → w6.heap[d + 1]? = some (.loop (rc .ready none)) → Below w.heap.size w w6 → w6.heap.size = d + 2 →
      (∀ args W k, W.heap[d + 1]? = some (.loop (rc .ready none)) → args.length = ps.size → evC T P ext (some (d + 1)) n assign [] (parE e (ps.toList.zip args)) (AssignP T P ext n (d + 1) rc body k) W → YieldP P none (d + 1) args.toArray k W) →
      Calls P gf (#[.func (.yield (d + 1)) #[] #[]] ++ lb) w6 (fun x W => ∃ v, x = .returned v ∧ RangeEnd T P ext n (d + 1) rc (markOf d :: D) e Q W)) : DrawP P none n (.rangeFunc g ps assign body) D e Q w := by
  refine DrawP.range hT hX hg hen fun fn tmps h1 h2 => ?_
  have hb1 : Below w.heap.size w (w.alloc (.deferred (some []))) := (Below.refl _ _).alloc (Nat.le_refl _) _
  have e1 : (w.alloc (.deferred (some []))).heap.size = w.heap.size + 1 := by simp
  refine h (rcd fn tmps ps assign body w.heap.size) w.heap.size _ rfl ?_ ?_ (hb1.alloc hb1.size _) (by simp) ?_
  · rw [Below.heap_alloc _ _ _ (by simp)]; exact World.alloc_heap_new _ _
  · rw [← e1]; exact World.alloc_heap_new _ _
  · intro args W k g1 g2 g3
    refine YieldP.round hT hX g1 h1 g2 hps hokA hokB ?_
    rw [h2]; exact g3

/-- Behind the body of a function that ranges over functions: its results, once the block for the rounds' deferred calls is shut. -/
def FinM (T : Tab) (rs : List ResultVar) (R : Ending → World → Prop) : Post := fun x D e w => match x with
  | .normal => (D = [] ∧ evRes T e w rs fun vs => R (.returned (ret1 vs)) w) ∨ (∃ d, D = [markOf d] ∧ w.heap[d]? = some (.deferred (some [])) ∧ evRes T e (w.putObj d (.deferred none)) rs fun vs => R (.returned (ret1 vs)) (w.putObj d (.deferred none)))
  | .ret => (D = [] ∧ evRes T e w rs fun vs => R (.returned (ret1 vs)) w) ∨ (∃ d, D = [markOf d] ∧ w.heap[d]? = some (.deferred (some [])) ∧ evRes T e (w.putObj d (.deferred none)) rs fun vs => R (.returned (ret1 vs)) (w.putObj d (.deferred none)))
  | _ => False

theorem leaves_of_fin (hT : TabOk T P) {fn : Func} {a : Act} {w : World} {R : Ending → World → Prop}
    (h : (a.defers = [] ∧ evRes T (actEnv a) w fn.results.toList fun vs => R (.returned (ret1 vs)) w) ∨ (∃ d, a.defers = [markOf d] ∧ w.heap[d]? = some (.deferred (some [])) ∧ evRes T (actEnv a) (w.putObj d (.deferred none)) fn.results.toList fun vs => R (.returned (ret1 vs)) (w.putObj d (.deferred none)))) :
    LeavesInM Fence.wide 0 P fn a.tmps R a.defers .returning w := by
  rcases h with ⟨h1, h2⟩ | ⟨d, h1, h2, h3⟩
  · rw [h1]; exact results_run hT h2
  · rw [h1]
    exact ⟨by simp, .inl ⟨d, _, rfl, run_takeDeferred h2, results_run hT h3⟩⟩

theorem calls_of_evM (hT : TabOk T P) {ext : Nat → Bool} (hX : ExtOk P ext) {f : FuncId} {fn : Func} {c : Code} {args : Array Value} {w : World} {R : Ending → World → Prop}
    (hf : P.funcs[f]? = some fn) (hb : fn.body = some c) (hok : okC fn.ntmps c = true) (hle0 : Nat.ble args.size fn.ntmps = true)
    (h : evC T P ext none fn.ntmps c [] (argsEnv args.toList) (FinM T fn.results.toList R) w) : Calls P f args w R := by
  have hle : args.size ≤ fn.ntmps := by rwa [Nat.ble_eq] at hle0
  refine callsIn_wide.1 (callsIn_of_wp_marks (F := Fence.wide) (n := 0) hf hb trivial ?_ rfl)
  have hn : (args ++ Array.replicate (fn.ntmps - args.size) undef).size = fn.ntmps := by simp; omega
  have he : actEnv { tmps := args ++ Array.replicate (fn.ntmps - args.size) undef, defers := [] } = argsEnv args.toList := by
    funext t
    simp only [actEnv, argsEnv, Array.getD_eq_getD_getElem?, List.getD_eq_getElem?_getD, Array.getElem?_append, Array.getElem?_replicate, Array.getElem?_toList]
    by_cases h1 : t < args.size
    · rw [if_pos h1]
    · rw [if_neg h1, Array.getElem?_eq_none (by omega)]
      split <;> rfl
  have := evC_wpIn hT hX none fn.ntmps c _ (FinM T fn.results.toList R) { tmps := args ++ Array.replicate (fn.ntmps - args.size) undef, defers := [] } w hok hn he h
  refine wpIn_mono this ?_
  rintro x a' w' ⟨_, _, h3⟩
  cases x with
  | normal => exact leaves_of_fin hT h3
  | ret => exact leaves_of_fin hT h3
  | exit id => exact h3.elim
  | goto l => exact h3.elim
  | panic ch => exact h3.elim
  | outgrown => exact h3.elim
end
end Go.Ev
