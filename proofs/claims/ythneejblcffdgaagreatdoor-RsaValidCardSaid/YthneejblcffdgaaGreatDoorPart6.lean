/- Texts of this proof, one behind the other: EvRng EvOwn EvCard Kt Rot Sha. -/
import Derived.Test.YthneejblcffdgaaGreatDoorPart5
import Derived.RangeFuncLeaves
import Derived.ChangeSame
import Derived.ChangeVars
import Derived.JoinedOf
import Derived.RowKit
import Derived.LaidLaws
import Derived.OpenShut
import Derived.ProofKit
import Derived.ChangeSlices
import Derived.Carry
import Derived.Test.YthneejblcffdgaaGreatDoorTabD
import Derived.Test.YthneejblcffdgaaGreatDoorRows
import Derived.Test.YthneejblcffdgaaGreatDoorTie
import Derived.Test.YthneejblcffdgaaGreatDoorCards
import Derived.SevenTiedAt
/- The walk by evaluation, part 7: ranges over functions. -/
set_option linter.unusedSimpArgs false
set_option linter.unusedVariables false
namespace Go.Ev
open Go Go.RowKit

section
variable {P : Program} {T : Tab}

/-- a loop's record. -/
def rcd (fn : FuncId) (tmps : Array Value) (ps : Array Tmp) (assign body : Code) (d : Nat) (st : LoopState) (pe : Option Code) : Loop := { state := st, pending := pe, fn, tmps, params := ps, assign, body, defers := d }
def parE (e : Env) (l : List (Nat × Value)) : Env := l.foldl (fun e p => upd e p.1 p.2) e

theorem parE_act (l : List (Nat × Value)) : ∀ (tmps : Array Value), (∀ p ∈ l, p.1 < tmps.size) → actEnv { tmps := l.foldl (fun t p => t.setIfInBounds p.1 p.2) tmps, defers := [] } = parE (fun t => tmps.getD t undef) l ∧ (l.foldl (fun t p => t.setIfInBounds p.1 p.2) tmps).size = tmps.size := by
  induction l with
  | nil => intro tmps _; exact ⟨rfl, rfl⟩
  | cons p l ih =>
    intro tmps h
    have := ih (tmps.setIfInBounds p.1 p.2) (fun q hq => by simpa using h q (by simp [hq]))
    refine ⟨?_, by simpa using this.2⟩
    simp only [List.foldl_cons, parE]
    rw [this.1]
    simp only [parE]
    congr 1
    have := actEnv_put { tmps := tmps, defers := [] } (some p.1) p.2 (fun t ht => by cases ht; exact h p (by simp))
    exact this

def RoundP (l : Nat) (rc : LoopState → Option Code → Loop) (k : Value → World → Prop) : Post := fun x D e W => match x with
  | .normal => W.heap[l]? = some (.loop (rc .busy none)) ∧ k (.bool true) (W.putObj l (.loop (rc .ready none)))
  | .ret => W.heap[l]? = some (.loop (rc .busy none)) ∧ k (.bool false) (W.putObj l (.loop (rc .done (some .ret))))
  | .exit id => W.heap[l]? = some (.loop (rc .busy none)) ∧ k (.bool false) (W.putObj l (.loop (rc .done (some (.exit id)))))
  | _ => False
def AssignP (T : Tab) (P : Program) (ext : Nat → Bool) (n l : Nat) (rc : LoopState → Option Code → Loop) (body : Code) (k : Value → World → Prop) : Post := fun x D e W => match x with
  | .normal => W.heap[l]? = some (.loop (rc .ready none)) ∧ evC T P ext (some l) n body D e (RoundP l rc k) (W.putObj l (.loop (rc .busy none)))
  | _ => False

theorem YieldP.round (hT : TabOk T P) {ext : Nat → Bool} (hX : ExtOk P ext) {fn : FuncId} {n : Nat} {tmps : Array Value} {ps : Array Tmp} {assign body : Code} {d l : Nat} {args : List Value} {W : World} {k : Value → World → Prop}
    (hl : W.heap[l]? = some (.loop (rcd fn tmps ps assign body d .ready none))) (hn : tmps.size = n) (hargs : args.length = ps.size) (hps : ps.toList.all (fun t => Nat.blt t n) = true) (hokA : okC n assign = true) (hokB : okC n body = true)
    (h : evC T P ext (some l) n assign [] (parE (fun t => tmps.getD t undef) (ps.toList.zip args)) (AssignP T P ext n l (rcd fn tmps ps assign body d) body k) W) : YieldP P none l args.toArray k W := by
  refine ⟨rfl, fn, (ps.zip args.toArray).foldl (fun tmps (t, a) => tmps.setIfInBounds t a) tmps, assign, body, ?_, ?_⟩
  · exact run_yield hl (by simpa [rcd] using hargs)
  · have hz : (ps.zip args.toArray).foldl (fun tmps (t, a) => tmps.setIfInBounds t a) tmps = (ps.toList.zip args).foldl (fun t p => t.setIfInBounds p.1 p.2) tmps := by
      rw [← Array.foldl_toList]; simp
    have hp : ∀ p ∈ ps.toList.zip args, p.1 < tmps.size := by
      intro p hp
      rw [List.all_eq_true] at hps
      have := hps p.1 (List.of_mem_zip hp).1
      rw [hn]; simpa [Nat.blt_eq] using this
    obtain ⟨h1, h2⟩ := parE_act (ps.toList.zip args) tmps hp
    rw [hz]
    refine roundIn_of_wpIn trivial ?_
    have hwA := evC_wpIn hT hX (some l) n assign _ (AssignP T P ext n l (rcd fn tmps ps assign body d) body k) { tmps := (ps.toList.zip args).foldl (fun t p => t.setIfInBounds p.1 p.2) tmps, defers := [] } W hokA (h2.trans hn) h1 h
    refine wpIn_mono hwA ?_
    rintro x a1 W1 ⟨g1, g2, g3⟩
    cases x with
    | normal =>
      obtain ⟨g3, g4⟩ := g3
      refine ⟨_, run_beginRound g3 rfl, ?_⟩
      have hwB := evC_wpIn hT hX (some l) n body _ (RoundP l (rcd fn tmps ps assign body d) k) a1 _ hokB (g1.trans (h2.trans hn)) rfl g4
      refine wpIn_mono hwB ?_
      rintro x a2 W2 ⟨_, _, k3⟩
      cases x with
      | normal => exact ⟨_, _, run_endRound none k3.1, _, rfl, k3.2⟩
      | ret => exact ⟨_, _, run_endRound (some .ret) k3.1, _, rfl, k3.2⟩
      | exit id => exact ⟨_, _, run_endRound (some (.exit id)) k3.1, _, rfl, k3.2⟩
      | goto l => exact k3.elim
      | panic ch => exact k3.elim
      | outgrown => exact k3.elim
    | exit id => exact g3.elim
    | goto l => exact g3.elim
    | ret => exact g3.elim
    | panic ch => exact g3.elim
    | outgrown => exact g3.elim

theorem YieldP.mono {r : Option Nat} {l : Nat} {args : Array Value} {k k' : Value → World → Prop} {w : World} (h : YieldP P r l args k w) (hk : ∀ v w', k v w' → k' v w') : YieldP P r l args k' w := by
  obtain ⟨hr, fn, tmps, assign, body, h1, h2⟩ := h.out
  exact ⟨⟨hr, fn, tmps, assign, body, h1, h2.mono fun e w' ⟨v, h3, h4⟩ => ⟨v, h3, hk v w' h4⟩⟩⟩

theorem Chg.put {B : Nat} {s : Nat → Prop} {a w : World} (h : Chg B s a w) (l : Nat) (o : Obj) (hp : l < B → s l) : Chg B s a (w.putObj l o) :=
  h.trans ⟨rfl, rfl, rfl, Nat.le_of_eq World.putObj_size.symm, fun k hk hn => World.putObj_heap_other (fun e => hn (by rw [e]; exact hp (by omega)))⟩
theorem Blk.put {w : World} {b : Nat} {cs : List Value} {T : TypeId} (h : Blk w b cs T) (l : Nat) (o : Obj) (hp : b ≠ l) : Blk (w.putObj l o) b cs T := (World.putObj_heap_other hp).trans h
theorem put_same {w : World} {l : Nat} {o : Obj} (h : l < w.heap.size) : (w.putObj l o).heap[l]? = some o := World.putObj_heap_same h
theorem heap_lt {w : World} {l : Nat} {o : Obj} (h : w.heap[l]? = some o) : l < w.heap.size := (Array.getElem?_eq_some_iff.1 h).1

def markOf (d : Nat) : Deferred := { target := .collected d, args := #[] }
/-- behind the function that was ranged over. -/
def RangeEnd (T : Tab) (P : Program) (ext : Nat → Bool) (n l : Nat) (rc : LoopState → Option Code → Loop) (D : List Deferred) (e : Env) (Q : Post) (W : World) : Prop :=
  (W.heap[l]? = some (.loop (rc .ready none)) ∧ Q .normal D e (W.putObj l (.loop (rc .exhausted none)))) ∨
  (∃ c, okC n c = true ∧ asg c = 0 ∧ W.heap[l]? = some (.loop (rc .done (some c))) ∧ evC T P ext none n c D e Q (W.putObj l (.loop (rc .exhausted (some c)))))

theorem DrawP.range (hT : TabOk T P) {ext : Nat → Bool} (hX : ExtOk P ext) {n : Nat} {g : Operand} {ps : Array Tmp} {assign body : Code} {D : List Deferred} {e : Env} {Q : Post} {w : World} {gf : Nat} {lb : Array Value}
    (hg : get e g = .func (.func gf) #[] lb) (hen : entersB P gf = true)
    (h : ∀ fn tmps, tmps.size = n → (fun t => tmps.getD t undef) = e → Calls P gf (#[.func (.yield (w.heap.size + 1)) #[] #[]] ++ lb) ((w.alloc (.deferred (some []))).alloc (.loop (rcd fn tmps ps assign body w.heap.size .ready none)))
      (fun x W => ∃ v, x = .returned v ∧ RangeEnd T P ext n (w.heap.size + 1) (rcd fn tmps ps assign body w.heap.size) (markOf w.heap.size :: D) e Q W)) : DrawP P none n (.rangeFunc g ps assign body) D e Q w := by
  refine ⟨rfl, ?_⟩
  rintro a hn rfl rfl
  refine (wpIn_wide (n := 1)).1 ?_
  refine wpIn_rangeFunc ?_
  intro fn _
  have hc := h fn a.tmps hn rfl
  have hg' : a.eval g = .func (.func gf) #[] lb := by rw [eval_get]; exact hg
  refine ⟨w.heap.size + 1, [markOf w.heap.size], (w.alloc (.deferred (some []))).alloc (.loop (rcd fn a.tmps ps assign body w.heap.size .ready none)), { target := .fn (.func gf) lb, args := #[.func (.yield (w.heap.size + 1)) #[] #[]] }, (w.alloc (.deferred (some []))).alloc (.loop (rcd fn a.tmps ps assign body w.heap.size .ready none)), gf, #[.func (.yield (w.heap.size + 1)) #[] #[]] ++ lb, (w.alloc (.deferred (some []))).alloc (.loop (rcd fn a.tmps ps assign body w.heap.size .ready none)), run_enterLoop_outer _ _ _ _ _, ?_, fun _ _ => trivial, ?_, fun _ => Nat.le_refl _, ?_⟩
  · simp only [resolve, hg', rangeCall]
    simp [Deferred.ofValue, Act.eval]
  · simp only [invoke]; exact run_enters hen _ _
  · refine callsIn_wide.2 (hc.mono ?_)
    rintro x W ⟨v, rfl, (⟨h1, h2⟩ | ⟨c, hok, hasg, h1, h2⟩)⟩
    · exact ⟨none, _, run_endLoop h1 (by simp [rcd]), rfl, fun _ _ => rfl, h2⟩
    · refine ⟨some c, _, run_endLoop h1 (by simp [rcd]), ?_⟩
      have := evC_wpIn hT hX none n c _ Q { a with defers := [markOf w.heap.size] ++ a.defers } _ hok hn rfl h2
      refine (wpIn_wide (n := 1)).2 (wp_mono (wpIn_wide.1 this) ?_)
      rintro x a' w' ⟨k1, k2, k3⟩
      exact ⟨k1, fun t ht => k2 t (by rw [hasg]; simp), k3⟩

/-- The same with the loop's record unnamed. -/
theorem DrawP.rangeA (hT : TabOk T P) {ext : Nat → Bool} (hX : ExtOk P ext) {n : Nat} {g : Operand} {ps : Array Tmp} {assign body : Code} {D : List Deferred} {e : Env} {Q : Post} {w : World} {gf : Nat} {lb : Array Value}
    (hg : get e g = .func (.func gf) #[] lb) (hen : entersB P gf = true) (hps : ps.toList.all (fun t => Nat.blt t n) = true) (hokA : okC n assign = true) (hokB : okC n body = true)
    (h : ∀ (rc : LoopState → Option Code → Loop) (d : Nat) (w6 : World), d = w.heap.size → w6.heap[d]? = some (.deferred (some [])) → w6.heap[d + 1]? = some (.loop (rc .ready none)) → Below w.heap.size w w6 → w6.heap.size = d + 2 →
      (∀ args W k, W.heap[d + 1]? = some (.loop (rc .ready none)) → args.length = ps.size → evC T P ext (some (d + 1)) n assign [] (parE e (ps.toList.zip args)) (AssignP T P ext n (d + 1) rc body k) W → YieldP P none (d + 1) args.toArray k W) →
      Calls P gf (#[.func (.yield (d + 1)) #[] #[]] ++ lb) w6 (fun x W => ∃ v, x = .returned v ∧ RangeEnd T P ext n (d + 1) rc (markOf d :: D) e Q W)) : DrawP P none n (.rangeFunc g ps assign body) D e Q w := by
  refine DrawP.range hT hX hg hen fun fn tmps h1 h2 => ?_
  have hb1 : Below w.heap.size w (w.alloc (.deferred (some []))) := (Below.refl _ _).alloc (Nat.le_refl _) _
  have e1 : (w.alloc (.deferred (some []))).heap.size = w.heap.size + 1 := by simp
  refine h (rcd fn tmps ps assign body w.heap.size) w.heap.size _ rfl ?_ ?_ (hb1.alloc hb1.size _) (by simp) ?_
  · rw [Below.heap_alloc _ _ _ (by simp)]; exact World.alloc_heap_new _ _
  · rw [← e1]; exact World.alloc_heap_new _ _
  · intro args W k g1 g2 g3
    refine YieldP.round hT hX g1 h1 g2 hps hokA hokB ?_
    rw [h2]; exact g3

/-- Behind the body of a function that ranges over functions: its results, once the block for the rounds' deferred calls is shut. -/
def FinM (T : Tab) (rs : List ResultVar) (R : Ending → World → Prop) : Post := fun x D e w => match x with
  | .normal => (D = [] ∧ evRes T e w rs fun vs => R (.returned (ret1 vs)) w) ∨ (∃ d, D = [markOf d] ∧ w.heap[d]? = some (.deferred (some [])) ∧ evRes T e (w.putObj d (.deferred none)) rs fun vs => R (.returned (ret1 vs)) (w.putObj d (.deferred none)))
  | .ret => (D = [] ∧ evRes T e w rs fun vs => R (.returned (ret1 vs)) w) ∨ (∃ d, D = [markOf d] ∧ w.heap[d]? = some (.deferred (some [])) ∧ evRes T e (w.putObj d (.deferred none)) rs fun vs => R (.returned (ret1 vs)) (w.putObj d (.deferred none)))
  | _ => False

theorem leaves_of_fin (hT : TabOk T P) {fn : Func} {a : Act} {w : World} {R : Ending → World → Prop}
    (h : (a.defers = [] ∧ evRes T (actEnv a) w fn.results.toList fun vs => R (.returned (ret1 vs)) w) ∨ (∃ d, a.defers = [markOf d] ∧ w.heap[d]? = some (.deferred (some [])) ∧ evRes T (actEnv a) (w.putObj d (.deferred none)) fn.results.toList fun vs => R (.returned (ret1 vs)) (w.putObj d (.deferred none)))) :
    LeavesInM Fence.wide 0 P fn a.tmps R a.defers .returning w := by
  rcases h with ⟨h1, h2⟩ | ⟨d, h1, h2, h3⟩
  · rw [h1]; exact results_run hT h2
  · rw [h1]
    exact ⟨by simp, .inl ⟨d, _, rfl, run_takeDeferred h2, results_run hT h3⟩⟩

theorem calls_of_evM (hT : TabOk T P) {ext : Nat → Bool} (hX : ExtOk P ext) {f : FuncId} {fn : Func} {c : Code} {args : Array Value} {w : World} {R : Ending → World → Prop}
    (hf : P.funcs[f]? = some fn) (hb : fn.body = some c) (hok : okC fn.ntmps c = true) (hle0 : Nat.ble args.size fn.ntmps = true)
    (h : evC T P ext none fn.ntmps c [] (argsEnv args.toList) (FinM T fn.results.toList R) w) : Calls P f args w R := by
  have hle : args.size ≤ fn.ntmps := by rwa [Nat.ble_eq] at hle0
  refine callsIn_wide.1 (callsIn_of_wp_marks (F := Fence.wide) (n := 0) hf hb trivial ?_ rfl)
  have hn : (args ++ Array.replicate (fn.ntmps - args.size) undef).size = fn.ntmps := by simp; omega
  have he : actEnv { tmps := args ++ Array.replicate (fn.ntmps - args.size) undef, defers := [] } = argsEnv args.toList := by
    funext t
    simp only [actEnv, argsEnv, Array.getD_eq_getD_getElem?, List.getD_eq_getElem?_getD, Array.getElem?_append, Array.getElem?_replicate, Array.getElem?_toList]
    by_cases h1 : t < args.size
    · rw [if_pos h1]
    · rw [if_neg h1, Array.getElem?_eq_none (by omega)]
      split <;> rfl
  have := evC_wpIn hT hX none fn.ntmps c _ (FinM T fn.results.toList R) { tmps := args ++ Array.replicate (fn.ntmps - args.size) undef, defers := [] } w hok hn he h
  refine wpIn_mono this ?_
  rintro x a' w' ⟨_, _, h3⟩
  cases x with
  | normal => exact leaves_of_fin hT h3
  | ret => exact leaves_of_fin hT h3
  | exit id => exact h3.elim
  | goto l => exact h3.elim
  | panic ch => exact h3.elim
  | outgrown => exact h3.elim
end
end Go.Ev

/- The walk by evaluation, part 8: slices with blocks of their own, and append. -/
set_option linter.unusedSimpArgs false
set_option linter.unusedVariables false
namespace Go.Ev
open Go Go.RowKit

theorem nble {a b : Nat} (h : b < a) : Nat.ble a b = false := by
  cases hx : Nat.ble a b with
  | false => rfl
  | true => rw [Nat.ble_eq] at hx; omega
theorem yble {a b : Nat} (h : a ≤ b) : Nat.ble a b = true := by rw [Nat.ble_eq]; exact h
theorem Chg.thenB {B B' : Nat} {s : Nat → Prop} {a w w' : World} (h : Chg B s a w) (hb : Below B' w w') (hB : B ≤ B') : Chg B s a w' :=
  h.trans ((Chg.of_below (s := fun _ => False) hb).mono hB (fun _ _ h => h.elim))
theorem Chg.thenC {B B' : Nat} {s s' : Nat → Prop} {a w w' : World} (h : Chg B s a w) (hb : Chg B' s' w w') (hB : B ≤ B') (hs : ∀ k, k < B → s' k → s k) : Chg B s a w' :=
  h.trans (hb.mono hB hs)
/-- a row that is not empty lies in blocks that have not turned. -/
theorem Row.chg0 {w w' : World} {s : Nat → Prop} {a : Option Addr} {K : IntKind} {xs : List Int} (h : Row w a K xs) (hc : Chg w.heap.size s w w') (hs : 0 < xs.length → ∀ p, a = some p → ¬ s p.block) : Row w' a K xs := by
  rcases Nat.eq_zero_or_pos xs.length with h0 | h0
  · rw [List.eq_nil_of_length_eq_zero h0]; exact Row.nil _ _ _
  · exact h.chg hc (hs h0)
theorem Row.lt {w : World} {a : Option Addr} {K : IntKind} {xs : List Int} (h : Row w a K xs) (h0 : 0 < xs.length) : ∀ p, a = some p → p.block < w.heap.size := by
  obtain ⟨b, o, e1, e2⟩ := h 0 h0
  intro p hp
  rw [hp] at e1; cases e1
  exact cell_lt e2
/-- a cell of a block is stored; the world behind it is known by its facts alone. -/
theorem StP.to {w : World} {b : Nat} (i : Nat) {cs : List Value} {T : TypeId} {v : Value} {k : World → Prop} (h : Blk w b cs T) (h1 : Value.oneCell' v = true) (hi : i < cs.length)
    (hk : ∀ w', Blk w' b (cs.set i v) T → Chg w.heap.size (fun k => k = b) w w' → w'.heap.size = w.heap.size → k w') : StP ⟨b, i, none⟩ v k w :=
  StP.blk h h1 hi (hk _ (h.setCell i v) ((Chg.refl _ _ _).setCell _ _ (fun _ => rfl)) (size_setCell _ _ _))
theorem StsP.to {w : World} {b : Nat} {cs : List Value} {T : TypeId} {vs : List Value} {k : World → Prop} (h : Blk w b cs T) (h1 : ∀ v ∈ vs, Value.oneCell' v = true) (hi : vs.length = cs.length)
    (hk : ∀ w', Blk w' b vs T → Chg w.heap.size (fun k => k = b) w w' → w'.heap.size = w.heap.size → k w') : StsP ⟨b, 0, none⟩ vs k w :=
  StsP.blk (o := 0) h h1 (by omega) (hk _ (h.setAll hi) ((Chg.refl _ _ _).setCells _ _ _ (fun _ => rfl)) (size_setCells _ _ _ _))
theorem IdxP.stTo {w : World} {b l : Nat} {i : Int} {cs : List Value} {T : TypeId} {v : Value} {k : Addr → World → Prop} (n : Nat) (he : i = n) (h : Blk w b cs T) (hn : n < l) (hv : Value.oneCell' v = true) (hi : n < cs.length)
    (hk : ∀ w', Blk w' b (cs.set n v) T → Chg w.heap.size (fun k => k = b) w w' → w'.heap.size = w.heap.size → k ⟨b, n, none⟩ w') :
    IdxP (some ⟨b, 0, none⟩) l i 1 (fun p => StP p v (k p) w) :=
  .st0 n he h hn hv hi (hk _ (h.setCell n v) ((Chg.refl _ _ _).setCell _ _ (fun _ => rfl)) (size_setCell _ _ _))
/-- a block of numbers, and room behind them. -/
def Buf (K : IntKind) (T : TypeId) (w : World) (b : Nat) (xs : List Int) (c : Nat) : Prop := ∃ sp : List Int, Blk w b ((xs ++ sp).map (Value.int K)) T ∧ c = xs.length + sp.length
/-- a slice expression whose place is known. -/
theorem SlcP.exact {b o l c sz : Nat} {lo : Int} {hi : Option Int} {k : Option Addr → Nat → Nat → Prop} (n m : Nat) (hlo : lo = n) (hhi : hi.getD l = m) (hn : n ≤ m) (hm : m ≤ c) (hne : n < c ∨ n = 0)
    (hk : k (some ⟨b, o + n * sz, none⟩) (m - n) (c - n)) : SlcP (some ⟨b, o, none⟩) l c lo hi none sz k := by
  subst hlo
  refine ⟨⟨by omega, by omega, by omega, by simp; omega, by simp, by simp, ?_⟩⟩
  rw [hhi]
  simp only [Option.getD_none, Int.toNat_natCast]
  have : (if c = n then some (⟨b, o, none⟩ : Addr) else Option.map (fun x => x.add (n * sz)) (some (⟨b, o, none⟩ : Addr))) = some ⟨b, o + n * sz, none⟩ := by
    split
    · rcases hne with h | h
      · omega
      · subst h; simp
    · simp [add_none]
  rw [this]; exact hk
/-- the whole of a slice's first cells, the room cut off. -/
theorem SlcP.first {b o l c sz : Nat} {hi : Option Int} {mx : Option Int} {k : Option Addr → Nat → Nat → Prop} (m q : Nat) (hhi : hi.getD l = m) (hmx : mx.getD c = q) (hm : m ≤ q) (hq : q ≤ c)
    (hk : k (some ⟨b, o, none⟩) m q) : SlcP (some ⟨b, o, none⟩) l c 0 hi mx sz k := by
  refine ⟨⟨by omega, by omega, by omega, by omega, by omega, by omega, ?_⟩⟩
  rw [hhi, hmx]
  have : (if q = 0 then some (⟨b, o, none⟩ : Addr) else Option.map (fun x => x.add (0 * sz)) (some (⟨b, o, none⟩ : Addr))) = some ⟨b, o, none⟩ := by
    split
    · rfl
    · simp [add_none]
  simp only [Option.getD_none, Int.toNat_natCast, Int.toNat_zero, Nat.sub_zero]
  rw [this]; exact hk
section
variable {K : IntKind} {T : TypeId}
theorem Buf.row {w : World} {b : Nat} {xs : List Int} {c : Nat} (h : Buf K T w b xs c) : Row w (some ⟨b, 0, none⟩) K xs := by
  obtain ⟨sp, h, _⟩ := h
  refine Row.of_blk 0 h fun i hi => ?_
  rw [Nat.zero_add, List.getElem?_map, List.getElem?_append_left hi, List.getElem?_eq_getElem hi]; rfl
theorem Buf.le {w : World} {b : Nat} {xs : List Int} {c : Nat} (h : Buf K T w b xs c) : xs.length ≤ c := by obtain ⟨sp, _, h⟩ := h; omega
theorem Buf.lt {w : World} {b : Nat} {xs : List Int} {c : Nat} (h : Buf K T w b xs c) : b < w.heap.size := by obtain ⟨sp, h, _⟩ := h; exact h.lt
theorem Buf.chg {w w' : World} {B b : Nat} {s : Nat → Prop} {xs : List Int} {c : Nat} (h : Buf K T w b xs c) (hc : Chg B s w w') (hlt : b < B) (hs : ¬ s b) : Buf K T w' b xs c := by
  obtain ⟨sp, h, e⟩ := h; exact ⟨sp, h.chg hc hlt hs, e⟩
theorem Buf.below {w w' : World} {b : Nat} {xs : List Int} {c : Nat} (h : Buf K T w b xs c) (hc : Below w.heap.size w w') : Buf K T w' b xs c := by
  obtain ⟨sp, h, e⟩ := h; exact ⟨sp, h.belowS hc, e⟩
theorem Buf.drw {w : World} {b : Nat} {xs : List Int} {c : Nat} (h : Buf K T w b xs c) : Buf K T { w with drawn := w.drawn + 1 } b xs c := h
theorem Buf.take {w : World} {b : Nat} {xs : List Int} {c : Nat} (h : Buf K T w b xs c) (n : Nat) : Buf K T w b (xs.take n) c := by
  obtain ⟨sp, h, e⟩ := h
  refine ⟨xs.drop n ++ sp, by rw [← List.append_assoc, List.take_append_drop]; exact h, ?_⟩
  simp; omega
theorem Buf.of {w : World} {b : Nat} {xs : List Int} (h : Blk w b (xs.map (Value.int K)) T) : Buf K T w b xs xs.length := ⟨[], by simpa using h, by simp⟩
/-- an element is set. -/
theorem Buf.set {w : World} {b : Nat} {xs : List Int} {c : Nat} (h : Buf K T w b xs c) (i : Nat) (hi : i < xs.length) (v : Int) : Buf K T (w.setCell ⟨b, i, none⟩ (.int K v)) b (xs.set i v) c := by
  obtain ⟨sp, h, e⟩ := h
  refine ⟨sp, ?_, by simpa using e⟩
  have := h.setCell i (.int K v)
  rw [ints_set, List.set_append_left _ _ hi] at this
  exact this
theorem Buf.setCell_ne {w : World} {b : Nat} {xs : List Int} {c : Nat} (h : Buf K T w b xs c) (p : Addr) (v : Value) (hp : p.block ≠ b) : Buf K T (w.setCell p v) b xs c := by
  obtain ⟨sp, h, e⟩ := h; exact ⟨sp, h.setCell_ne p v hp, e⟩
theorem Buf.alloc {w : World} {b : Nat} {xs : List Int} {c : Nat} (h : Buf K T w b xs c) (o : Obj) : Buf K T (w.alloc o) b xs c := by
  obtain ⟨sp, h, e⟩ := h; exact ⟨sp, h.alloc o, e⟩
/-- an element of a buffer is stored. -/
theorem IdxP.stBuf {w : World} {b l c : Nat} {i : Int} {xs : List Int} {v : Int} {k : Addr → World → Prop} (n : Nat) (he : i = n) (h : Buf K T w b xs c) (hn : n < l) (hl : l = xs.length) (hk : k ⟨b, n, none⟩ (w.setCell ⟨b, n, none⟩ (.int K v))) :
    IdxP (some ⟨b, 0, none⟩) l i 1 (fun p => StP p (.int K v) (k p) w) := by
  obtain ⟨sp, h, e⟩ := h
  exact .st0 n he h hn rfl (by simp; omega) hk
theorem IdxP.toBuf {w : World} {b l c : Nat} {i : Int} {xs : List Int} {v : Int} {k : Addr → World → Prop} (n : Nat) (he : i = n) (h : Buf K T w b xs c) (hn : n < l) (hl : l = xs.length)
    (hk : ∀ w', Buf K T w' b (xs.set n v) c → Chg w.heap.size (fun k => k = b) w w' → w'.heap.size = w.heap.size → k ⟨b, n, none⟩ w') :
    IdxP (some ⟨b, 0, none⟩) l i 1 (fun p => StP p (.int K v) (k p) w) :=
  .stBuf n he h hn hl (hk _ (h.set n (by omega) v) ((Chg.refl _ _ _).setCell _ _ (fun _ => rfl)) (size_setCell _ _ _))
/-- cells of a buffer are stored in a row. -/
theorem StsP.buf {w : World} {b c : Nat} {xs ys : List Int} {k : World → Prop} (o : Nat) (h : Buf K T w b xs c) (hl : o + ys.length ≤ xs.length)
    (hk : ∀ w', Buf K T w' b (xs.take o ++ ys ++ xs.drop (o + ys.length)) c → Chg w.heap.size (fun k => k = b) w w' → w'.heap.size = w.heap.size → k w') :
    StsP ⟨b, o, none⟩ (ys.map (Value.int K)) k w := by
  obtain ⟨sp, hB, e⟩ := h
  refine StsP.blk (o := o) hB (by simp; intros; rfl) (by simp; omega) (hk _ ⟨sp, ?_, by simp; omega⟩ ((Chg.refl _ _ _).setCells _ _ _ (fun _ => rfl)) (size_setCells _ _ _ _))
  have := Blk.setCells o (ys.map (Value.int K)) 0 w _ hB (by simp; omega)
  refine (congrArg (fun l => Blk (Ev.setCells w ⟨b, _, none⟩ (ys.map (Value.int K)) 0) b l T) ?_).mp this
  rw [Nat.add_zero, ← List.map_take, ← List.map_drop, ← List.map_append, ← List.map_append]
  congr 1
  rw [List.take_append_of_le_length (by omega), List.length_map, List.drop_append_of_le_length (by omega), List.append_assoc, List.append_assoc, List.append_assoc]
theorem zeros_flat (n : Nat) : (List.replicate n (Value.cells (.int K 0)).toList).flatten = (List.replicate n (0 : Int)).map (Value.int K) := by simp [Value.cells]
theorem Buf.make (w : World) (l c : Nat) (h : l ≤ c) : Buf K T (w.alloc (.cells (List.replicate c (Value.cells (.int K 0)).toList).flatten.toArray T)) w.heap.size (List.replicate l 0) c := by
  refine ⟨List.replicate (c - l) 0, ?_, by simp; omega⟩
  have := Blk.new w ((List.replicate l (0 : Int) ++ List.replicate (c - l) 0).map (Value.int K)) T
  rw [List.replicate_append_replicate, show l + (c - l) = c by omega] at this ⊢
  rw [zeros_flat]
  exact this
theorem Mk.to {len cap : Int} {bytes : Nat} {k : Value → World → Prop} {w : World} (n c : Nat) (hl : len = n) (hc : cap = c) (hn : n ≤ c) (hs : c ≤ 1000000000) (hb : Nat.ble bytes 1000 = true)
    (hk : ∀ w', Buf K T w' w.heap.size (List.replicate n 0) c → Below w.heap.size w w' → w'.heap.size = w.heap.size + 1 → k (.slice (some ⟨w.heap.size, 0, none⟩) n c) w') : MakeK T bytes (.int K 0) len cap k w := by
  subst hl hc
  rw [Nat.ble_eq] at hb
  refine ⟨⟨⟨by omega, by omega, by omega, ?_, ?_⟩⟩⟩
  · have : bytes * c ≤ 1000 * 1000000000 := Nat.mul_le_mul hb hs
    omega
  · simp only [Int.toNat_natCast]
    exact hk _ (Buf.make w n c hn) ((Below.refl _ _).alloc (Nat.le_refl _) _) (size_alloc _ _)
theorem RdP.row' {w : World} {a : Option Addr} {xs : List Int} {n : Nat} {k : List Value → Prop} (hr : Row w a K xs) (hn : n = xs.length) (hk : k (xs.map (Value.int K))) : RdP a n k w := by
  subst hn
  refine ⟨⟨xs.map (Value.int K), by simp, fun i hi => ?_, hk⟩⟩
  obtain ⟨b, o, h1, h2⟩ := hr i hi
  exact ⟨_, h1, by rw [add_none, h2]; simp [hi]⟩

theorem growBy_le (n : Nat) : ∀ (r c : Nat), c ≤ 2 * n + 768 → Builtin.growBy n r c ≤ 2 * n + 768
  | 0, c, h => h
  | r + 1, c, h => by
    unfold Builtin.growBy
    split
    · exact h
    · exact growBy_le n r _ (by omega)
theorem slicecap_le {need old : Nat} (h : old < need) : Builtin.nextslicecap need old ≤ 2 * need + 768 := by
  unfold Builtin.nextslicecap
  split
  · omega
  · split
    · omega
    · exact growBy_le _ _ _ (by omega)
theorem i64max : IntKind.i64.max = 9223372036854775807 := by decide
theorem GrowP.go {need old el bytes : Nat} {k : Nat → World → Prop} {w : World} (hs : need ≤ 1000000000) (h : old < need) (hb : bytes ≤ 1000) (hk : ∀ c, need ≤ c → k c { w with drawn := w.drawn + 1 }) : GrowP need old el bytes k w := by
  refine ⟨?_, .inl (by rw [i64max]; omega), hk⟩
  have := slicecap_le h
  exact Nat.le_trans (Nat.mul_le_mul this hb) (by omega)

/-- a slice that owns its block, from the first cell; or nil. -/
def OwnS (K : IntKind) (T : TypeId) (w : World) (a : Option Addr) (l c : Nat) (xs : List Int) : Option Nat → Prop
  | none => a = none ∧ l = 0 ∧ c = 0 ∧ xs = []
  | some b => a = some ⟨b, 0, none⟩ ∧ l = xs.length ∧ Buf K T w b xs c
theorem OwnS.row {w : World} {a : Option Addr} {l c : Nat} {xs : List Int} {o : Option Nat} (h : OwnS K T w a l c xs o) : Row w a K xs := by
  cases o with
  | none => obtain ⟨_, _, _, rfl⟩ := h; exact Row.nil _ _ _
  | some b => obtain ⟨rfl, _, h⟩ := h; exact h.row
theorem OwnS.len {w : World} {a : Option Addr} {l c : Nat} {xs : List Int} {o : Option Nat} (h : OwnS K T w a l c xs o) : l = xs.length := by
  cases o with
  | none => obtain ⟨_, rfl, _, rfl⟩ := h; rfl
  | some b => exact h.2.1
theorem OwnS.le {w : World} {a : Option Addr} {l c : Nat} {xs : List Int} {o : Option Nat} (h : OwnS K T w a l c xs o) : l ≤ c := by
  cases o with
  | none => obtain ⟨_, rfl, rfl, rfl⟩ := h; exact Nat.le_refl _
  | some b => obtain ⟨_, rfl, h⟩ := h; exact h.le
theorem OwnS.lt {w : World} {a : Option Addr} {l c : Nat} {xs : List Int} {o : Option Nat} (h : OwnS K T w a l c xs o) : ∀ b, o = some b → b < w.heap.size := by
  rintro b rfl; exact h.2.2.lt
theorem OwnS.at {w : World} {a : Option Addr} {l c : Nat} {xs : List Int} {o : Option Nat} (h : OwnS K T w a l c xs o) : ∀ p, a = some p → o = some p.block := by
  rintro p rfl
  cases o with
  | none => cases h.1
  | some b => have := h.1; cases this; rfl
theorem OwnS.chg {w w' : World} {B : Nat} {s : Nat → Prop} {a : Option Addr} {l c : Nat} {xs : List Int} {o : Option Nat} (h : OwnS K T w a l c xs o) (hc : Chg B s w w') (hlt : ∀ b, o = some b → b < B) (hs : ∀ b, o = some b → ¬ s b) : OwnS K T w' a l c xs o := by
  cases o with
  | none => exact h
  | some b => exact ⟨h.1, h.2.1, h.2.2.chg hc (hlt b rfl) (hs b rfl)⟩
theorem OwnS.below {w w' : World} {a : Option Addr} {l c : Nat} {xs : List Int} {o : Option Nat} (h : OwnS K T w a l c xs o) (hc : Below w.heap.size w w') : OwnS K T w' a l c xs o := by
  cases o with
  | none => exact h
  | some b => exact ⟨h.1, h.2.1, h.2.2.below hc⟩
theorem OwnS.nil (w : World) : OwnS K T w none 0 0 [] none := ⟨rfl, rfl, rfl, rfl⟩

/-- append to a slice that may be nil, of any room. -/
theorem App.grow {bytes : Nat} {w : World} {a : Option Addr} {l c n : Nat} {xs ys : List Int} {k : Value → World → Prop} (hr : Row w a K xs) (hl : l = xs.length) (hn : n = ys.length) (hc : c < l + n) (hs : l + n ≤ 1000000000) (hb : bytes ≤ 1000)
    (hk : ∀ c' w', Buf K T w' w.heap.size (xs ++ ys) c' → l + n ≤ c' → Below w.heap.size w w' → w'.heap.size = w.heap.size + 1 → k (.slice (some ⟨w.heap.size, 0, none⟩) (l + n) c') w') :
    appK T 1 bytes (.int K 0) a l c n (ys.map (Value.int K)) k w := by
  unfold appK
  refine IfP.neg (nble hc) (RdP.row' hr (by rw [hl, Nat.mul_one]) (GrowP.go hs hc hb fun c' hc' => ?_))
  refine hk c' _ ⟨List.replicate (c' - (l + n)) 0, ?_, by simp; omega⟩ hc' (Below.alloc (Below.refl _ w).drew (Nat.le_refl _) _) (size_alloc _ _)
  rw [zeros_flat, ← List.map_append, ← List.map_append]
  exact Blk.new { w with drawn := w.drawn + 1 } _ T
theorem App.stay {bytes : Nat} {w : World} {b l c n : Nat} {xs ys : List Int} {k : Value → World → Prop} (h : Buf K T w b xs c) (hl : l = xs.length) (hn : n = ys.length) (hc : l + n ≤ c)
    (hk : ∀ w', Buf K T w' b (xs ++ ys) c → Chg w.heap.size (fun k => k = b) w w' → w'.heap.size = w.heap.size → k (.slice (some ⟨b, 0, none⟩) (l + n) c) w') :
    appK T 1 bytes (.int K 0) (some ⟨b, 0, none⟩) l c n (ys.map (Value.int K)) k w := by
  unfold appK
  obtain ⟨sp, hB, e⟩ := h
  refine IfP.pos (yble hc) ?_
  show StsP ((⟨b, 0, none⟩ : Addr).add (l * 1)) _ _ w
  rw [add_none, Nat.mul_one, Nat.zero_add]
  refine StsP.blk hB (by simp; intros; rfl) (by simp; omega) ?_
  refine hk _ ⟨sp.drop n, ?_, by simp; omega⟩ ((Chg.refl _ _ _).setCells _ _ _ (fun _ => rfl)) (size_setCells _ _ _ _)
  have := Blk.setCells l (ys.map (Value.int K)) 0 w _ hB (by simp; omega)
  refine (congrArg (fun l => Blk (Ev.setCells w ⟨b, _, none⟩ (ys.map (Value.int K)) 0) b l T) ?_).mp this
  rw [Nat.add_zero, ← List.map_take, ← List.map_drop, ← List.map_append, ← List.map_append]
  congr 1
  subst hl hn
  rw [List.take_left' rfl, List.append_assoc, List.append_assoc]
  congr 2
  simp [List.drop_append]
theorem App.own {bytes : Nat} {w : World} {a : Option Addr} {l c n : Nat} {xs ys : List Int} {o : Option Nat} {k : Value → World → Prop} (h : OwnS K T w a l c xs o) (hn : n = ys.length) (hs : l + n ≤ 1000000000) (hb : bytes ≤ 1000)
    (hk : ∀ a' c' o' w', OwnS K T w' a' (l + n) c' (xs ++ ys) o' → Chg w.heap.size (fun k => o = some k) w w' → (o' = o ∨ o' = some w.heap.size) → k (.slice a' (l + n) c') w') :
    appK T 1 bytes (.int K 0) a l c n (ys.map (Value.int K)) k w := by
  rcases Nat.lt_or_ge c (l + n) with hc | hc
  · refine App.grow h.row h.len hn hc hs hb fun c' w' h1 h2 h3 h4 => ?_
    exact hk _ c' (some w.heap.size) w' ⟨rfl, by rw [h.len, hn]; simp, h1⟩ (.of_below h3) (.inr rfl)
  · cases o with
    | none =>
      obtain ⟨rfl, rfl, rfl, rfl⟩ := h
      have hn0 : n = 0 := by omega
      have hy : ys = [] := List.eq_nil_of_length_eq_zero (by omega)
      subst hn0 hy
      unfold appK
      exact IfP.pos rfl (hk none 0 none w (OwnS.nil w) (Chg.refl _ _ _) (.inl rfl))
    | some b =>
      obtain ⟨rfl, hl, hB⟩ := h
      refine App.stay hB hl hn hc fun w' h1 h2 h3 => ?_
      exact hk _ c (some b) w' ⟨rfl, by rw [hl, hn]; simp, h1⟩ (h2.mono (Nat.le_refl _) (fun k _ hk => by rw [hk])) (.inl rfl)
end
end Go.Ev

/- The walk by evaluation, part 10: from a row's hypotheses to the walk's, and back. -/
set_option linter.unusedSimpArgs false
set_option linter.unusedVariables false
namespace Go.Ev
open Go Go.RowKit Go.ChangeShapes Go.WideShapes

section
variable {P : Program} {W W' : World} {H : Type} {enc : TypeId × Value → H}

/-- all arguments read behind the call as before. -/
theorem trodAll_below (hl : laidOutB P = true) (hb : Below W.heap.size W W') : ∀ (ts : List TypeId) (vs : List Value) (ds : List (DataW H)) (ps : List MemPlace),
    ts.all (fun t => P.readableRec t && decide (t < P.types.size)) = true → DataW.TrodAll enc P W 0 (fun _ => true) true ts vs ds ps → (∀ x ∈ ps, x.block < W.heap.size) →
    DataW.TrodAll enc P W' 0 (fun b => decide (b < W.heap.size)) true ts vs ds ps
  | [], [], [], ps, _, h, _ => h
  | t :: ts, v :: vs, d :: ds, ps, hr, h, hlt => by
    obtain ⟨v', vs', d', ds', p, q, e1, e2, rfl, h1, h2⟩ := trodAll_cons h
    obtain ⟨rfl, rfl⟩ : v = v' ∧ vs = vs' := by simpa using e1
    obtain ⟨rfl, rfl⟩ : d = d' ∧ ds = ds' := by simpa using e2
    simp only [List.all_cons, Bool.and_eq_true, decide_eq_true_eq] at hr
    refine ⟨p, q, Below.trod hl hr.1.1 hr.1.2 h1 hb (fun x hx => hlt x (List.mem_append_left _ hx)), ?_, rfl⟩
    exact trodAll_below hl hb ts vs ds q hr.2 h2 (fun x hx => hlt x (List.mem_append_right _ hx))
  | [], _ :: _, _, _, _, h, _ => by cases h
  | [], [], _ :: _, _, _, h, _ => by cases h
  | _ :: _, [], _, _, _, h, _ => by cases h
  | _ :: _, _ :: _, [], _, _, h, _ => by cases h

/-- the post of a law that returned true and turned nothing that was there. -/
theorem post_true {tb : TypeId} {f : Func} {s : ChangeSpec} {args : Array Value} {ds gs : List (DataW H)} {before : List MemPlace}
    (hl : laidOutB P = true) (hr : f.params.toList.all (fun t => P.readableRec t && decide (t < P.types.size)) = true) (hres : f.resultTypes = #[tb]) (htb : P.underlying tb = some .bool) (hv : s.vars = [])
    (hfn : s.fn H (ds ++ []) = { results := [.lit (.bool true)], args := ds })
    (hW : DataW.Whole enc P f.params.toList s.vars false W args.toList ds gs before) (hb : Below W.heap.size W W') :
    s.post enc P f false true false false W args (.bool true) W' := by
  have hW' := hW
  obtain ⟨p, q, hA, hV, rfl, hfz, hnd⟩ := hW
  have hlt : ∀ x ∈ p ++ q, x.block < W.heap.size := fun x hx => by simpa using hW'.lt x hx
  rw [hv] at hV
  obtain ⟨rfl, rfl⟩ : gs = [] ∧ q = [] := by
    cases gs with
    | nil => exact ⟨rfl, hV⟩
    | cons g r => exact absurd hV (by intro h; cases h)
  refine ⟨ds, [], _, [], p, [], hW', ?_, ?_, ?_, hb.frame _, fun h => by cases h⟩
  · rw [hfn, hres]; exact trodAll_mk1 (shut_bool htb true)
  · rw [hfn]; exact trodAll_below hl hb _ _ _ _ hr hA (fun x hx => hlt x (List.mem_append_left _ hx))
  · rw [hv, hfn]; rfl

/-- a slice of numbers that came in. -/
theorem open_row {t e : TypeId} {k : IntKind} {v : Value} {d : DataW H} {ps : List MemPlace} {r : Reach} {b0 : Nat} (ht : P.underlying t = some (.slice e)) (he : P.underlying e = some (.int k)) (hc : P.cellsOf e = 1)
    (hval : Value.okWide P W r b0 t v) (h : DataW.Trod enc P W 0 (fun _ => true) true t v d ps) : ∃ a l c zs, v = .slice a l c ∧ Row W a k zs ∧ l = zs.length ∧ l ≤ c ∧ c ≤ maxLen ∧ (∀ n ∈ zs, (Lit.int k n).wf = true) := by
  obtain ⟨a0, l0, c0, rfl⟩ := okWide_slice ht hval
  obtain ⟨fuel, h⟩ := h
  have hcs : (Value.slice a0 l0 c0).cells.toList = [.slice a0 l0 c0] := rfl
  rcases open_ints ht he hc h with ⟨h1, h2⟩ | ⟨a, len, cap, zs, h1, h2, h3, h4, h5, h6, h7, h8⟩
  · rw [hcs] at h1; simp only [List.cons.injEq, Value.slice.injEq, and_true] at h1
    obtain ⟨rfl, rfl, rfl⟩ := h1
    exact ⟨none, 0, 0, [], rfl, Row.nil _ _ _, rfl, Nat.le_refl _, by decide, by simp⟩
  · have h5 : zs.length = cap := by simpa using h5
    rw [hcs] at h1; simp only [List.cons.injEq, Value.slice.injEq, and_true] at h1
    obtain ⟨rfl, rfl, rfl⟩ := h1
    refine ⟨some a, l0, c0, zs.take l0, rfl, ?_, by simp; omega, h3, h4, fun n hn => h8 n (List.mem_of_mem_take hn)⟩
    intro i hi
    have hi' : i < l0 ∧ i < zs.length := by simp at hi; omega
    obtain ⟨b, o, rfl, hc⟩ := ints_at h7 (by omega)
    refine ⟨b, o, rfl, ?_⟩
    rw [hc i hi'.2]
    simp [List.getD_eq_getElem?_getD, hi'.2]

theorem int_of_trod {base : Nat} {sp : Nat → Bool} {held : Bool} {fuel : Nat} {t : TypeId} {k : IntKind} {c : Value} {y : DataW H × List MemPlace}
    (ht : P.underlying t = some (.int k)) (h : DataW.trod enc P W base sp held fuel t [c] = some y) : ∃ n, c = .int k n ∧ y = (.lit (.int k n), []) := by
  cases fuel with
  | zero => simp [DataW.trod] at h
  | succ fuel =>
    cases c <;> simp [DataW.trod, ht] at h
    rename_i k' n
    obtain ⟨⟨rfl, _⟩, rfl⟩ := h
    exact ⟨n, rfl, rfl⟩
/-- an array of numbers that reads as these: its cells. -/
theorem cells_of_ints {base : Nat} {sp : Nat → Bool} {held : Bool} {fuel n : Nat} {t e : TypeId} {k : IntKind} {cs : List Value} {ns : List Int} {q : List MemPlace}
    (ht : P.underlying t = some (.array n e)) (he : P.underlying e = some (.int k)) (hc : P.cellsOf e = 1) (hct : P.cellsOf t = n)
    (h : DataW.trod enc P W base sp held fuel t cs = some (.agg (ns.map fun x => .lit (.int k x)), q)) : cs = ns.map (Value.int k) := by
  obtain ⟨xs, m, rfl, hx, hl, hn, hi⟩ := DataW.trod_array ht h
  have hx1 : ns.map (fun x => (DataW.lit (.int k x) : DataW H)) = xs.map (·.1) := by
    have := congrArg Prod.fst hx
    simpa using this
  have hlen : ns.length = xs.length := by simpa using congrArg List.length hx1
  rw [hct] at hl
  apply List.ext_getElem
  · simp; omega
  · intro i h1 h2
    have hin : i < n := by omega
    have h3 := hi i hin
    rw [hc, Nat.mul_one] at h3
    have h4 : (cs.drop i).take 1 = [cs[i]] := by
      rw [List.drop_eq_getElem_cons h1]; rfl
    rw [h4, List.getElem?_eq_getElem (show i < xs.length by omega)] at h3
    obtain ⟨v, e1, e2⟩ := int_of_trod he h3
    have h5 : (ns.map (fun x => (DataW.lit (.int k x) : DataW H)))[i]? = (xs.map (·.1))[i]? := by rw [hx1]
    rw [List.getElem?_map, List.getElem?_map, List.getElem?_eq_getElem (show i < ns.length by omega), List.getElem?_eq_getElem (show i < xs.length by omega), e2] at h5
    simp only [Option.map_some, Option.some.injEq, DataW.lit.injEq, Lit.int.injEq, true_and] at h5
    rw [e1, List.getElem_map, h5]
end
end Go.Ev

namespace Go.Proofs.YthneejblcffdgaaGreatDoor
open Go Go.Ev Go.ChangeShapes Go.WideShapes Go.ChangeAt Go.RowKit
set_option linter.unusedVariables false

theorem Tryz.own : ownKnob Tryz.prog.godebug = none := by kernel_rfl
theorem Tryz.laidOut' : laidOutB Tryz.prog = true := by kernel_rfl
theorem Tryz.gK : Tryz.prog.globalNamed "bailey/hashes.k" = some 3 := by kernel_rfl
theorem Tryz.gKType : (Tryz.prog.globals[3]?).map (·.type) = some 150 := by kernel_rfl
theorem Tryz.cellsU64 : Tryz.prog.cellsOf 34 = 1 := by kernel_rfl
theorem Tryz.cellsU8 : Tryz.prog.cellsOf 5 = 1 := by kernel_rfl

theorem laid_k_eq {H : Type} : (Rows.laid_bailey_hashes_k : DataW H) = .agg (ktab.map fun x => .lit (.int .u64 x)) := rfl
theorem row_of_laid {W : World} (h : laidMet Tryz.prog [("bailey/hashes.k", Rows.laid_bailey_hashes_k)] W) : Row W (some ⟨3, 0, none⟩) .u64 ktab := by
  obtain ⟨ps, ⟨g, t, cs, fuel, p, q, hg, ht, hvar, hd, _, _⟩, _⟩ := h
  obtain rfl := Option.some.inj (Tryz.gK.symm.trans hg)
  obtain rfl := Option.some.inj (Tryz.gKType.symm.trans ht)
  rw [laid_k_eq] at hd
  have hcs := cells_of_ints (n := 80) (by kernel_rfl) Tryz.underlying34 Tryz.cellsU64 (by kernel_rfl) hd
  intro i hi
  refine ⟨3, 0, rfl, ?_⟩
  have h1 := World.var?_cell hg hvar i
  rw [Nat.zero_add]
  rw [h1, ← Array.getElem?_toList, hcs, List.getElem?_map, List.getElem?_eq_getElem hi]; rfl
/-- a world in which the table reads as listed. -/
noncomputable def laidWorld (os : Os) : World :=
  let w0 := World.holding Tryz.prog os ⟨#[], #[], []⟩
  { w0 with heap := w0.heap.modify 3 fun
      | .cells _ t frozen => .cells (ktab.map (Value.int .u64)).toArray t frozen
      | o => o }
theorem laidWorld_met (os : Os) (args : Array Value) : laidMet Tryz.prog [("bailey/hashes.k", Rows.laid_bailey_hashes_k)] ((laidWorld os).forCall (fun _ _ => 0) ⟨#[], args, []⟩).memory :=
  laidMet_of_run (ps := (List.range 80).map fun i => .cell 3 i) 8 (by kernel_rfl) (by kernel_rfl) (by kernel_rfl)
end Go.Proofs.YthneejblcffdgaaGreatDoor

namespace Go.Proofs.YthneejblcffdgaaGreatDoor
open Go Go.Ev Go.RowKit
set_option maxRecDepth 20000

theorem wrap_u64_nonneg (n : Int) : 0 ≤ IntKind.u64.wrap n := by rw [IntKind.wrap_u64]; omega
theorem wrap_u32_nonneg (n : Int) : 0 ≤ IntKind.u32.wrap n := by rw [IntKind.wrap_u32]; omega
theorem bits_u64_nonneg (op : BinOp) (a b : Int) : 0 ≤ Go.bits op .u64 a b := wrap_u64_nonneg _
theorem mixed : Tryz.prog.follows .mixedOrders = true := by kernel_rfl

def rotl32 (x k : Int) : Int :=
  Go.bits .or .u32 (IntKind.u32.wrap (x * 2 ^ (min (Go.bits .and .u64 (IntKind.u64.wrap k) 31).toNat 32))) (x.fdiv (2 ^ (min (IntKind.u64.wrap (32 - Go.bits .and .u64 (IntKind.u64.wrap k) 31)).toNat 32)))
theorem rotl32_spec (x k : Int) (w : World) : Calls Tryz.prog 114 #[.int .u32 x, .int .i64 k] w fun e w' => e = .returned (.int .u32 (rotl32 x k)) ∧ w' = w := by
  refine calls_of_ev tysOk extsOk Tryz.func114 rfl rfl rfl ?_
  refine ChkP.go (bits_u64_nonneg _ _ _) ?_
  refine ChkP.go (wrap_u64_nonneg _) ?_
  exact ⟨rfl, rfl, rfl⟩
end Go.Proofs.YthneejblcffdgaaGreatDoor

namespace Go.Proofs.YthneejblcffdgaaGreatDoor
open Go Go.Ev Go.RowKit
set_option maxRecDepth 20000

/-- four bytes as a number. -/
def get32 (a b c d : Int) : Int :=
  Go.bits .or .u32 (Go.bits .or .u32 (Go.bits .or .u32 (IntKind.u32.wrap (IntKind.u32.wrap a * 2 ^ (min (24 : Int).toNat 32))) (IntKind.u32.wrap (IntKind.u32.wrap b * 2 ^ (min (16 : Int).toNat 32)))) (IntKind.u32.wrap (IntKind.u32.wrap c * 2 ^ (min (8 : Int).toNat 32)))) (IntKind.u32.wrap d)
theorem get32_spec (a : Option Addr) (l c : Nat) (xs : List Int) (w : World) (hr : Row w a .u8 xs) (hl : l = xs.length) (h4 : 4 ≤ l) :
    Calls Tryz.prog 113 #[.slice a l c] w fun e w' => e = .returned (.int .u32 (get32 (xs.getD 0 0) (xs.getD 1 0) (xs.getD 2 0) (xs.getD 3 0))) ∧ w' = { w with drawn := w.drawn + 1 } := by
  refine calls_of_ev tysOk extsOk Tryz.func113 rfl rfl rfl ?_
  have hr' := hr.drw
  refine DrawP.still tysOk extsOk mixed (by kernel_rfl) rfl ?_
  refine IdxP.ld 0 rfl hr' hl (by omega) (fun _ _ _ => ?_)
  refine ChkP.go (by omega) ?_
  refine IdxP.ld 1 rfl hr' hl (by omega) (fun _ _ _ => ?_)
  refine ChkP.go (by omega) ?_
  refine IdxP.ld 2 rfl hr' hl (by omega) (fun _ _ _ => ?_)
  refine ChkP.go (by omega) ?_
  refine IdxP.ld 3 rfl hr' hl (by omega) (fun _ _ _ => ?_)
  exact ⟨rfl, rfl, rfl⟩
end Go.Proofs.YthneejblcffdgaaGreatDoor
