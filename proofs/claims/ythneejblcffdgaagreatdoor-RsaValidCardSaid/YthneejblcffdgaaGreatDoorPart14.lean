/- Texts of this proof, one behind the other: EvHeld Nm2. -/
import Derived.Test.YthneejblcffdgaaGreatDoorPart8
import Derived.OrdersHeld
import Derived.Test.YthneejblcffdgaaGreatDoorPart13
import Derived.Lib.Mul64
import Derived.Laws.Externs
import Derived.Laws.BitsAllLaws
/- The walk by evaluation, part 9b: regions that draw their order: what only reads is taken first wherever a condition on the world holds; only what turns the world is looked at in each order. -/
set_option linter.unusedSimpArgs false
set_option linter.unusedVariables false
namespace Go.Ev
open Go Go.RowKit

section
variable {P : Program} {ops : Array Oper} {Q : Exit → Act → World → Prop} {md : Region.Mode} {S : World → Prop} {late : List Nat}

/-- Whatever order is picked; S holds behind every operation but the late ones. -/
def wpAnyL (P : Program) (md : Region.Mode) (ops : Array Oper) (Q : Exit → Act → World → Prop) (S : World → Prop) (late : List Nat) : Nat → Array Bool → Act → World → Prop
  | 0, listed, a, w => Region.ready md ops listed = [] ∧ Q .normal a w
  | fuel + 1, listed, a, w =>
    (Region.ready md ops listed = [] → Q .normal a w) ∧
    ∀ i ∈ Region.ready md ops listed, wpOp P ops Q i (fun a' w' => (late.contains i = false → S w') ∧ wpAnyL P md ops Q S late fuel (listed.setIfInBounds i true) a' w') a w

theorem wpAny_of_late : ∀ (fuel : Nat) (listed : Array Bool) (a : Act) (w : World), wpAnyL P md ops Q S late fuel listed a w → wpAny P md ops Q fuel listed a w
  | 0, _, _, _, h => h
  | fuel + 1, _, _, _, h => ⟨h.1, fun i hi => wpOp_mono (fun a' w' h' => wpAny_of_late fuel _ a' w' h'.2) (h.2 i hi)⟩

theorem getD_false {L : Array Bool} {k : Nat} (h : L.getD k false = true) : L.getD k true = true := by
  rcases Nat.lt_or_ge k L.size with h' | h'
  · simp [h'] at h ⊢; exact h
  · simp [Array.getElem?_eq_none h'] at h

/-- C: what may come up while number i is still to come. -/
theorem wpAnyL_first {i : Nat} {oi : Oper} {v : Value} (hi : ops[i]? = some oi) (hsel : ∀ (j : Nat) (o : Oper) cs b, ops[j]? = some o → o.op ≠ .select cs b)
    (hQ : ∀ c a w, Q (.panic c) (a.put oi.dst v) w → Q (.panic c) a w) (C : Nat → Prop)
    (hC : ∀ j oj, ops[j]? = some oj → j ≠ i → (∀ e ∈ oj.after, Region.binds md e = true → C e.on) → C j ∧ late.contains j = false) :
    ∀ (fuel : Nat) (listed : Array Bool) (a : Act) (w : World),
      (∀ j oj, ops[j]? = some oj → j ≠ i → listed.getD j true = false → (∀ e ∈ oj.after, Region.binds md e = true → e.on ≠ i) → oi.apart ops oj = true) →
      (∀ k, listed.getD k false = true → C k) →
      i ∈ Region.ready md ops listed → YieldsIf P ops S oi v a → S w →
      wpAnyL P md ops Q S late fuel (listed.setIfInBounds i true) (a.put oi.dst v) w → wpAnyL P md ops Q S late (fuel + 1) listed a w := by
  intro fuel
  induction fuel with
  | zero =>
    intro listed a w _ _ hr hy hS H
    refine ⟨fun h => (by rw [h] at hr; cases hr), fun j hj => ?_⟩
    by_cases hji : j = i
    · subst hji; exact hy.wpOp hi hS ⟨fun _ => hS, H⟩
    · have := ready_mono hj hji
      rw [H.1] at this
      cases this
  | succ fuel ih =>
    intro listed a w hfree hL hr hy hS H
    refine ⟨fun h => (by rw [h] at hr; cases hr), fun j hj => ?_⟩
    by_cases hji : j = i
    · subst hji; exact hy.wpOp hi hS ⟨fun _ => hS, H⟩
    · have h1 := H.2 j (ready_mono hj hji)
      obtain ⟨hjun, oj, hoj, hall⟩ := mem_ready.1 hj
      obtain ⟨hCj, hlj⟩ := hC j oj hoj hji fun e he hb => hL _ (hall e he hb)
      have hnot : ∀ e ∈ oj.after, Region.binds md e = true → e.on ≠ i := fun e he hb heq => by
        have h1 := getD_false (hall e he hb)
        have h0 := (mem_ready.1 hr).1
        rw [heq, h0] at h1
        cases h1
      have h2 := wpOp_putIf hoj (hfree j oj hoj hji hjun hnot) (fun cs b => hsel i oi cs b hi) (fun cs b => hsel j oj cs b hoj) hQ hy h1
      have hfree' : ∀ k ok, ops[k]? = some ok → k ≠ i → (listed.setIfInBounds j true).getD k true = false →
          (∀ e ∈ ok.after, Region.binds md e = true → e.on ≠ i) → oi.apart ops ok = true := fun k ok hk hki hun hno => by
        refine hfree k ok hk hki ?_ hno
        by_cases hjk : j = k
        · subst hjk; exact hjun
        · rw [getD_set_ne true hjk] at hun; exact hun
      have hL' : ∀ k, (listed.setIfInBounds j true).getD k false = true → C k := fun k hk => by
        by_cases hjk : j = k
        · subst hjk; exact hCj
        · rw [getD_set_ne false hjk] at hk; exact hL k hk
      refine wpOp_mono (fun a' w' h3 => ⟨fun _ => h3.2.1 hlj, ih (listed.setIfInBounds j true) a' w' hfree' hL' (ready_mono hr (Ne.symm hji)) h3.1 (h3.2.1 hlj) ?_⟩) h2
      rw [Array.setIfInBounds_comm _ _ hji]
      exact h3.2.2

def cloGo (md : Region.Mode) (ops : Array Oper) (i : Nat) (L : Array Bool) : Array Bool :=
  (List.range ops.size).foldl (fun C j => bif Nat.beq j i then C else match ops[j]? with
    | some oj => bif oj.after.all (fun e => !Region.binds md e || C.getD e.on false) then C.setIfInBounds j true else C
    | none => C) L
/-- what may come up while number i is still to come holds no late operation. -/
def cloB (md : Region.Mode) (ops : Array Oper) (late : List Nat) (i : Nat) (L C : Array Bool) : Bool :=
  late.isEmpty || (((List.range L.size).all fun k => !L.getD k false || C.getD k false) &&
  (List.range ops.size).all fun j => (j == i) || (match ops[j]? with
    | some oj => !(oj.after.all fun e => !Region.binds md e || C.getD e.on false) || (C.getD j false && !late.contains j)
    | none => true))

theorem wpAnyL_take {i : Nat} {oi : Oper} {v : Value} {fuel : Nat} {listed : Array Bool} {a : Act} {w : World} (hi : ops[i]? = some oi)
    (hs : Region.noSelect ops = true) (hf : Region.free md ops listed i = true) (hr : (Region.ready md ops listed).contains i = true)
    (hc : cloB md ops late i listed (cloGo md ops i listed) = true)
    (hQ : ∀ c a w, Q (.panic c) (a.put oi.dst v) w → Q (.panic c) a w) (hy : YieldsIf P ops S oi v a) (hS : S w)
    (h : wpAnyL P md ops Q S late fuel (listed.setIfInBounds i true) (a.put oi.dst v) w) : wpAnyL P md ops Q S late (fuel + 1) listed a w := by
  generalize cloGo md ops i listed = C at hc
  rcases late with _ | ⟨x, late⟩
  · exact wpAnyL_first hi (Region.noSelect_spec hs) hQ (fun _ => True) (fun _ _ _ _ _ => ⟨trivial, rfl⟩) fuel listed a w (Region.free_spec hi hf) (fun _ _ => trivial) (by simpa using hr) hy hS h
  unfold cloB at hc
  simp only [List.isEmpty_cons, Bool.false_or, Bool.and_eq_true, List.all_eq_true, List.mem_range] at hc
  refine wpAnyL_first hi (Region.noSelect_spec hs) hQ (fun k => C.getD k false = true) ?_ fuel listed a w (Region.free_spec hi hf) ?_ (by simpa using hr) hy hS h
  · intro j oj hj hji hall
    have h1 := hc.2 j (Array.getElem?_eq_some_iff.1 hj).1
    simp only [hj, Bool.or_eq_true, beq_iff_eq, hji, false_or, Bool.and_eq_true, Bool.not_eq_true'] at h1
    rcases h1 with h1 | h1
    · exfalso
      have : (oj.after.all fun e => !Region.binds md e || C.getD e.on false) = true := by
        rw [Array.all_eq_true_iff_forall_mem]
        intro e he
        cases hb : Region.binds md e with
        | false => rfl
        | true => simp only [Bool.not_true, Bool.false_or]; exact hall e he hb
      rw [this] at h1; cases h1
    · exact h1
  · intro k hk
    rcases Nat.lt_or_ge k listed.size with h' | h'
    · have := hc.1 k h'
      rw [hk] at this; simpa using this
    · simp [Array.getElem?_eq_none h'] at hk

theorem wpAnyL_all {rs : List Nat} {fuel : Nat} {listed : Array Bool} {a : Act} {w : World} (hr : Region.ready md ops listed = rs) (hne : rs ≠ [])
    (h : ∀ i ∈ rs, wpOp P ops Q i (fun a' w' => (late.contains i = false → S w') ∧ wpAnyL P md ops Q S late fuel (listed.setIfInBounds i true) a' w') a w) : wpAnyL P md ops Q S late (fuel + 1) listed a w :=
  ⟨fun h0 => absurd (hr ▸ h0) hne, hr ▸ h⟩
theorem wpAnyL_done {listed : Array Bool} {a : Act} {w : World} (hr : Region.ready md ops listed = []) (h : Q .normal a w) :
    ∀ fuel, wpAnyL P md ops Q S late fuel listed a w
  | 0 => ⟨hr, h⟩
  | _ + 1 => ⟨fun _ => h, by rw [hr]; simp⟩
end

/-- the tree of a region's orders. take: touches no memory. held: only reads, wherever S holds. alt: may come next, S holds behind it; fin: may come next, nothing that reads is left behind it. -/
inductive Tr where
  | done
  | nil
  | take (i : Nat) (r : Tr)
  | held (i : Nat) (r : Tr)
  | alt (i : Nat) (r l : Tr)
  | fin (i : Nat) (r l : Tr)
/-- one operation, with its guard. -/
def stepG (ops : List Oper) (i : Nat) (e : Env) (A : Oper → Env → (Value → World → Prop) → World → Prop) (next : Env → World → Prop) (w : World) : Prop := match ops[i]? with
  | none => False
  | some o => match o.guard with
    | none => A o e (fun v w => next (updO e o.dst v) w) w
    | some (j, want) => match (ops[j]?).bind (·.dst) with
      | none => False
      | some g => asG (e g) (fun c => IfP (bif want then c else !c) (A o (upd e g (.bool want)) (fun v w => next (updO (upd e g (.bool want)) o.dst v) w) w) (next (updO (upd e g (.bool !want)) o.dst undef) w)) (next (updO e o.dst undef) w)
structure HeldP (S : World → Prop) (A : (Value → Prop) → World → Prop) (k : Value → Prop) : Prop where
  out : ∃ v, (∀ w, S w → A (fun u => u = v) w) ∧ k v
theorem HeldP.go {S : World → Prop} {A : (Value → Prop) → World → Prop} {k : Value → Prop} {v : Value} (h : ∀ w, S w → A (fun u => u = v) w) (hk : k v) : HeldP S A k := ⟨⟨v, h, hk⟩⟩
def evTr (T : Tab) (P : Program) (ext : Nat → Bool) (ops : List Oper) (S : World → Prop) : Tr → Env → (Env → World → Prop) → World → Prop :=
  @Tr.rec (fun _ => Env → (Env → World → Prop) → World → Prop)
    (fun e K w => K e w)
    (fun _ _ _ => True)
    (fun i _ next e K w => stepG ops i e (fun o e k w => evS T o e (fun v => k v w) w) (fun e w => next e K w) w)
    (fun i _ next e K w => stepG ops i e (fun o e k w => HeldP S (evS T o e) (fun v => k v w)) (fun e w => next e K w) w)
    (fun i _ _ next other e K w => stepG ops i e (evOp T P ext (some 0)) (fun e w => S w ∧ next e K w) w ∧ other e K w)
    (fun i _ _ next other e K w => stepG ops i e (evOp T P ext (some 0)) (fun e w => next e K w) w ∧ other e K w)
def Tr.heads : Tr → List Nat
  | .alt i _ l => i :: heads l
  | .fin i _ l => i :: heads l
  | _ => []
def Tr.depth : Tr → Nat
  | .done => 0
  | .nil => 0
  | .take _ r => r.depth + 1
  | .held _ r => r.depth + 1
  | .alt _ r l => max (r.depth + 1) l.depth
  | .fin _ r l => max (r.depth + 1) l.depth
def quietT : Tr → Bool
  | .done => true
  | .nil => true
  | .fin _ r l => quietT r && quietT l
  | _ => false
def okTr (ops : Array Oper) (late : List Nat) : Tr → Bool → Array Bool → Bool
  | .done, top, L => top && (Region.ready .any ops L).isEmpty
  | .nil, top, _ => !top
  | .take i r, top, L => top && (Region.ready .any ops L).contains i && Region.free .any ops L i && takeB ops i && cloB .any ops late i L (cloGo .any ops i L) && okTr ops late r true (L.setIfInBounds i true)
  | .held i r, top, L => top && (Region.ready .any ops L).contains i && Region.free .any ops L i && cloB .any ops late i L (cloGo .any ops i L) && okTr ops late r true (L.setIfInBounds i true)
  | .alt i r l, top, L => (!top || (Region.ready .any ops L).all fun j => (Tr.alt i r l).heads.contains j) && !(Region.ready .any ops L).isEmpty && okTr ops late r true (L.setIfInBounds i true) && okTr ops late l false L
  | .fin i r l, top, L => (!top || (Region.ready .any ops L).all fun j => (Tr.fin i r l).heads.contains j) && !(Region.ready .any ops L).isEmpty && late.contains i && quietT r && okTr ops late r true (L.setIfInBounds i true) && okTr ops late l false L

section
variable {P : Program} {T : Tab} {S : World → Prop} {late : List Nat}

/-- a value that an operation yields in all worlds of S. -/
theorem held_yields (hT : TabOk T P) {o : Oper} {a : Act} {v : Value} (h : ∀ w, S w → evS T o (actEnv a) (fun u => u = v) w) : ∀ w, S w → (execOp a.eval o).run P w = .ok (.value v) w := fun w hS => by
  obtain ⟨u, h1, rfl⟩ := evS_run hT (h w hS)
  rw [eval_get]; exact h1

theorem stepG_cases {ops : Array Oper} {i : Nat} {a : Act} {A : Oper → Env → (Value → World → Prop) → World → Prop} {next : Env → World → Prop} {w : World} (h : stepG ops.toList i (actEnv a) A next w) :
    ∃ o, ops[i]? = some o ∧ ((Region.wanted o (yielded ops a.tmps) = true ∧ A o (actEnv a) (fun v w => next (updO (actEnv a) o.dst v) w) w) ∨ (Region.wanted o (yielded ops a.tmps) = false ∧ next (updO (actEnv a) o.dst undef) w)) := by
  unfold stepG at h
  split at h <;> try exact h.elim
  rename_i o ho
  refine ⟨o, by simpa using ho, ?_⟩
  cases hg : o.guard with
  | none => simp only [hg] at h; exact .inl ⟨by simp [Region.wanted, hg], h⟩
  | some jw =>
    obtain ⟨j, want⟩ := jw
    simp only [hg] at h
    split at h <;> try exact h.elim
    rename_i g hjd
    rcases asG_out h with ⟨c, hc, h5⟩ | ⟨hnb, h5⟩
    rotate_left
    · exact .inr ⟨guard_unwanted hg hjd hnb, h5⟩
    rw [guard_wanted hg hjd hc]
    by_cases hcw : c = want
    · subst hcw
      have h6 := h5.t (by cases c <;> rfl)
      rw [upd_self hc] at h6
      exact .inl ⟨by simp, h6⟩
    · have hcn : c = !want := by cases c <;> cases want <;> simp at hcw ⊢
      have h6 := h5.f (by subst hcn; cases want <;> rfl)
      have hself : upd (actEnv a) g (.bool !want) = actEnv a := upd_self (by rw [hc, hcn])
      rw [hself] at h6
      exact .inr ⟨by simpa using hcw, h6⟩

theorem stepG_op (hT : TabOk T P) {ext : Nat → Bool} (hX : ExtOk P ext) {ops : Array Oper} {Q : Exit → Act → World → Prop} {i : Nat} {a : Act} {next : Env → World → Prop} {K : Act → World → Prop} {w : World} (h : stepG ops.toList i (actEnv a) (evOp T P ext (some 0)) next w)
    (hk : ∀ o v w', ops[i]? = some o → next (updO (actEnv a) o.dst v) w' → K (a.put o.dst v) w') : wpOp P ops Q i K a w := by
  obtain ⟨o, ho, (⟨h1, h2⟩ | ⟨h1, h2⟩)⟩ := stepG_cases h
  · unfold wpOp
    simp only [ho, h1, if_true]
    exact .inl (evOp_wp hT hX h2 fun v w' h => hk o v w' ho h)
  · unfold wpOp
    simp only [ho, h1]
    exact hk o _ w ho h2

theorem evTr_any (hT : TabOk T P) {ext : Nat → Bool} (hX : ExtOk P ext) {ops : Array Oper} {a0 : Act} {K : Env → World → Prop} (hpl : plainB ops a0.tmps.size = true) (hs : Region.noSelect ops = true) :
    ∀ (s : Tr), (∀ (L : Array Bool) (a : Act) (w : World) (fuel : Nat), okTr ops late s true L = true → s.depth ≤ fuel → OnWay ops a0 a → (S w ∨ quietT s = true) → evTr T P ext ops.toList S s (actEnv a) K w → wpAnyL P .any ops (QAny ops a0 K) S late fuel L a w) ∧
      (∀ (top : Bool) (L : Array Bool) (a : Act) (w : World) (fuel : Nat), okTr ops late s top L = true → s.depth ≤ fuel + 1 → OnWay ops a0 a → evTr T P ext ops.toList S s (actEnv a) K w → ∀ i ∈ s.heads, wpOp P ops (QAny ops a0 K) i (fun a' w' => (late.contains i = false → S w') ∧ wpAnyL P .any ops (QAny ops a0 K) S late fuel (L.setIfInBounds i true) a' w') a w)
  | .done => by
    refine ⟨fun L a w fuel hok _ hon _ h => ?_, fun _ _ _ _ _ _ _ _ _ i hi => by cases hi⟩
    simp only [okTr, Bool.true_and, List.isEmpty_iff] at hok
    exact wpAnyL_done hok ⟨hon, h⟩ fuel
  | .nil => by
    refine ⟨fun L a w fuel hok _ _ _ _ => ?_, fun _ _ _ _ _ _ _ _ _ i hi => by cases hi⟩
    simp [okTr] at hok
  | .take i r => by
    refine ⟨fun L a w fuel hok hd hon hS h => ?_, fun _ _ _ _ _ _ _ _ _ i hi => by cases hi⟩
    simp only [okTr, Bool.and_eq_true, Bool.true_and] at hok
    obtain ⟨⟨⟨⟨h1, h2⟩, h3⟩, h3c⟩, h4⟩ := hok
    have hS : S w := hS.resolve_right (by simp [quietT])
    obtain ⟨fuel, rfl⟩ : ∃ f, fuel = f + 1 := ⟨fuel - 1, by simp only [Tr.depth] at hd; omega⟩
    simp only [Tr.depth, Nat.add_le_add_iff_right] at hd
    have h : stepG ops.toList i (actEnv a) (fun o e k w => evS T o e (fun v => k v w) w) (fun e w => evTr T P ext ops.toList S r e K w) w := h
    obtain ⟨o, ho, hc⟩ := stepG_cases h
    unfold takeB at h3
    rw [ho] at h3
    have hy : ∃ v, YieldsIf P ops S o v a ∧ evTr T P ext ops.toList S r (updO (actEnv a) o.dst v) K w := by
      rcases hc with ⟨hw, hc⟩ | ⟨hw, hc⟩
      · obtain ⟨v, hk, hrun⟩ := evS_take hT h3 hc
        exact ⟨v, .inl ⟨hw, fun w' _ => by rw [eval_get]; exact hrun w'⟩, hk⟩
      · exact ⟨undef, .inr ⟨hw, rfl⟩, hc⟩
    obtain ⟨v, hy, hk⟩ := hy
    obtain ⟨g1, g2⟩ := hon.put ho hpl v
    refine wpAnyL_take ho hs h2 h1 h3c (fun c a w h => h.elim) hy hS ?_
    refine (evTr_any hT hX hpl hs r).1 _ _ _ _ h4 hd g1 (.inl hS) ?_
    rw [g2]; exact hk
  | .held i r => by
    refine ⟨fun L a w fuel hok hd hon hS h => ?_, fun _ _ _ _ _ _ _ _ _ i hi => by cases hi⟩
    simp only [okTr, Bool.and_eq_true, Bool.true_and] at hok
    obtain ⟨⟨⟨h1, h2⟩, h3c⟩, h4⟩ := hok
    have hS : S w := hS.resolve_right (by simp [quietT])
    obtain ⟨fuel, rfl⟩ : ∃ f, fuel = f + 1 := ⟨fuel - 1, by simp only [Tr.depth] at hd; omega⟩
    simp only [Tr.depth, Nat.add_le_add_iff_right] at hd
    have h : stepG ops.toList i (actEnv a) (fun o e k w => HeldP S (evS T o e) (fun v => k v w)) (fun e w => evTr T P ext ops.toList S r e K w) w := h
    obtain ⟨o, ho, hc⟩ := stepG_cases h
    have hy : ∃ v, YieldsIf P ops S o v a ∧ evTr T P ext ops.toList S r (updO (actEnv a) o.dst v) K w := by
      rcases hc with ⟨hw, hc⟩ | ⟨hw, hc⟩
      · obtain ⟨v, hv, hk⟩ := hc.out
        exact ⟨v, .inl ⟨hw, held_yields hT hv⟩, hk⟩
      · exact ⟨undef, .inr ⟨hw, rfl⟩, hc⟩
    obtain ⟨v, hy, hk⟩ := hy
    obtain ⟨g1, g2⟩ := hon.put ho hpl v
    refine wpAnyL_take ho hs h2 h1 h3c (fun c a w h => h.elim) hy hS ?_
    refine (evTr_any hT hX hpl hs r).1 _ _ _ _ h4 hd g1 (.inl hS) ?_
    rw [g2]; exact hk
  | .alt i r l => by
    have key : ∀ (top : Bool) (L : Array Bool) (a : Act) (w : World) (fuel : Nat), okTr ops late (.alt i r l) top L = true → (Tr.alt i r l).depth ≤ fuel + 1 → OnWay ops a0 a → evTr T P ext ops.toList S (.alt i r l) (actEnv a) K w → ∀ j ∈ (Tr.alt i r l).heads, wpOp P ops (QAny ops a0 K) j (fun a' w' => (late.contains j = false → S w') ∧ wpAnyL P .any ops (QAny ops a0 K) S late fuel (L.setIfInBounds j true) a' w') a w := by
      intro top L a w fuel hok hd hon h j hj
      unfold okTr at hok
      simp only [Bool.and_eq_true] at hok
      obtain ⟨⟨⟨h1, h2⟩, h3⟩, h4⟩ := hok
      have hd1 : r.depth + 1 ≤ fuel + 1 := Nat.le_trans (Nat.le_max_left _ _) hd
      have hd2 : l.depth ≤ fuel + 1 := Nat.le_trans (Nat.le_max_right _ _) hd
      have h : stepG ops.toList i (actEnv a) (evOp T P ext (some 0)) (fun e w => S w ∧ evTr T P ext ops.toList S r e K w) w ∧ evTr T P ext ops.toList S l (actEnv a) K w := h
      rcases List.mem_cons.1 hj with rfl | hj
      · refine stepG_op hT hX h.1 fun o v w' ho hn => ?_
        obtain ⟨g1, g2⟩ := hon.put ho hpl v
        refine ⟨fun _ => hn.1, (evTr_any hT hX hpl hs r).1 _ _ _ _ h3 (by omega) g1 (.inl hn.1) ?_⟩
        rw [g2]; exact hn.2
      · exact (evTr_any hT hX hpl hs l).2 false L a w fuel h4 hd2 hon h.2 j hj
    refine ⟨fun L a w fuel hok hd hon _ h => ?_, key⟩
    have hok' := hok
    unfold okTr at hok'
    simp only [Bool.and_eq_true] at hok'
    obtain ⟨⟨⟨h1, h2⟩, h3⟩, h4⟩ := hok'
    have hd1 : r.depth + 1 ≤ fuel := Nat.le_trans (Nat.le_max_left _ _) hd
    obtain ⟨fuel, rfl⟩ : ∃ f, fuel = f + 1 := ⟨fuel - 1, by omega⟩
    refine wpAnyL_all rfl ?_ fun j hj => key true L a w fuel hok hd hon h j ?_
    · intro e; rw [e] at h2; simp at h2
    · simp only [Bool.not_true, Bool.false_or, List.all_eq_true] at h1
      simpa using h1 j hj
  | .fin i r l => by
    have key : ∀ (top : Bool) (L : Array Bool) (a : Act) (w : World) (fuel : Nat), okTr ops late (.fin i r l) top L = true → (Tr.fin i r l).depth ≤ fuel + 1 → OnWay ops a0 a → evTr T P ext ops.toList S (.fin i r l) (actEnv a) K w → ∀ j ∈ (Tr.fin i r l).heads, wpOp P ops (QAny ops a0 K) j (fun a' w' => (late.contains j = false → S w') ∧ wpAnyL P .any ops (QAny ops a0 K) S late fuel (L.setIfInBounds j true) a' w') a w := by
      intro top L a w fuel hok hd hon h j hj
      unfold okTr at hok
      simp only [Bool.and_eq_true] at hok
      obtain ⟨⟨⟨⟨⟨h1, h2⟩, hl⟩, hq⟩, h3⟩, h4⟩ := hok
      have hd1 : r.depth + 1 ≤ fuel + 1 := Nat.le_trans (Nat.le_max_left _ _) hd
      have hd2 : l.depth ≤ fuel + 1 := Nat.le_trans (Nat.le_max_right _ _) hd
      have h : stepG ops.toList i (actEnv a) (evOp T P ext (some 0)) (fun e w => evTr T P ext ops.toList S r e K w) w ∧ evTr T P ext ops.toList S l (actEnv a) K w := h
      rcases List.mem_cons.1 hj with rfl | hj
      · refine stepG_op hT hX h.1 fun o v w' ho hn => ?_
        obtain ⟨g1, g2⟩ := hon.put ho hpl v
        refine ⟨fun hf => (by rw [hl] at hf; cases hf), (evTr_any hT hX hpl hs r).1 _ _ _ _ h3 (by omega) g1 (.inr hq) ?_⟩
        rw [g2]; exact hn
      · exact (evTr_any hT hX hpl hs l).2 false L a w fuel h4 hd2 hon h.2 j hj
    refine ⟨fun L a w fuel hok hd hon _ h => ?_, key⟩
    have hok' := hok
    unfold okTr at hok'
    simp only [Bool.and_eq_true] at hok'
    obtain ⟨⟨⟨⟨⟨h1, h2⟩, hl⟩, hq⟩, h3⟩, h4⟩ := hok'
    have hd1 : r.depth + 1 ≤ fuel := Nat.le_trans (Nat.le_max_left _ _) hd
    obtain ⟨fuel, rfl⟩ : ∃ f, fuel = f + 1 := ⟨fuel - 1, by omega⟩
    refine wpAnyL_all rfl ?_ fun j hj => key true L a w fuel hok hd hon h j ?_
    · intro e; rw [e] at h2; simp at h2
    · simp only [Bool.not_true, Bool.false_or, List.all_eq_true] at h1
      simpa using h1 j hj

/-- **A region that draws its order**, along a tree of its orders (printed by tools/tr.py). S: what all that reads leans on. -/
theorem DrawP.tree {X : Type} (hT : TabOk T P) {ext : Nat → Bool} (hX : ExtOk P ext) (hm : P.follows .mixedOrders = true) {n id : Nat} {ops : Array Oper} {D : List Deferred} {e : Env} {Q : Post} {w : World} (late : List Nat) (s : Tr) (m : Nat) (hmask : asgOps ops.toList = m)
    (hchk : (okTr ops late s true (Array.replicate ops.size false) && Nat.ble s.depth ops.size && plainB ops n && Region.noSelect ops) = true)
    (S : World → Prop) (V : X → List (Nat × Value)) (I : X → World → Prop)
    (h : ∀ w0, (∀ p, w0.cell? p = w.cell? p) → Below w.heap.size w w0 → w0.heap.size = w.heap.size → (S w0 ∧ evTr T P ext ops.toList S s e (fun e' w' => ∃ s, Slots e' (V s) ∧ I s w') w0))
    (hk : ∀ s j w', I s w' → Q .normal D (upds (over e m j) (V s)) w') : DrawP P none n (.region id ops true) D e Q w := by
  refine ⟨rfl, ?_⟩
  rintro a hn rfl rfl
  subst hmask
  simp only [Bool.and_eq_true] at hchk
  obtain ⟨⟨⟨hok, hd⟩, hpl⟩, hs⟩ := hchk
  obtain ⟨hS, h⟩ := h { w with drawn := w.drawn + 1 } (fun _ => rfl) (Below.refl _ w).drew rfl
  refine wp_mono (wp_region_any hm (wpAny_of_late (S := S) (late := late) _ _ _ _ ((evTr_any (a0 := a) hT hX (by rw [hn]; exact hpl) hs s).1 _ a _ _ hok (by rwa [Nat.ble_eq] at hd) ⟨rfl, rfl, fun _ _ => rfl⟩ (.inl hS) h))) ?_
  rintro x a' w' hq
  cases x with
  | normal =>
    obtain ⟨⟨h1, h2, h3⟩, s, h4, h5⟩ := hq
    refine ⟨h1, h3, ?_⟩
    have he : actEnv a' = upds (over (actEnv a) (asgOps ops.toList) (actEnv a')) (V s) := by
      have : over (actEnv a) (asgOps ops.toList) (actEnv a') = actEnv a' := by
        funext t
        unfold over
        cases hb : Nat.testBit (asgOps ops.toList) t with
        | true => rfl
        | false => exact (h3 t hb).symm
      rw [this, upds_self h4]
    rw [h2, he]
    exact hk s (actEnv a') w' h5
  | _ => exact hq.elim
end
end Go.Ev

namespace Go.Proofs.YthneejblcffdgaaGreatDoor
open Go Go.Ev Go.RowKit
set_option maxRecDepth 20000
set_option linter.unusedVariables false
set_option linter.unusedSimpArgs false

/-! ### steps on rows of limbs -/
theorem add64_run (x y c : Nat) (hc : c ≤ 1) (w : World) : (callFunc 43 #[.int .u64 x, .int .u64 y, .int .u64 c]).run Tryz.prog w =
    .ok (.value (.tuple #[.int .u64 (((x + y + c) % B64 : Nat) : Int), .int .u64 (((x + y + c) / B64 : Nat) : Int)])) w := by
  rcases (by omega : c = 0 ∨ c = 1) with rfl | rfl <;> kernel_rfl
theorem sub64_run (x y c : Nat) (hc : c ≤ 1) (w : World) : (callFunc 78 #[.int .u64 x, .int .u64 y, .int .u64 c]).run Tryz.prog w =
    .ok (.value (.tuple #[.int .u64 (((x + B64 - y - c) % B64 : Nat) : Int), .int .u64 ((if x < y + c then 1 else 0 : Nat) : Int)])) w := by
  rcases (by omega : c = 0 ∨ c = 1) with rfl | rfl <;> kernel_rfl
theorem add64_go {x y c : Nat} (hc : c ≤ 1) {k : Value → World → Prop} {w : World} (hk : k (.tuple #[.int .u64 (((x + y + c) % B64 : Nat) : Int), .int .u64 (((x + y + c) / B64 : Nat) : Int)]) w) :
    ExtP Tryz.prog 43 #[.int .u64 x, .int .u64 y, .int .u64 c] k w := ⟨⟨_, w, add64_run x y c hc w, hk⟩⟩
theorem add64_go0 {x y : Nat} {k : Value → World → Prop} {w : World} (hk : k (.tuple #[.int .u64 (((x + y) % B64 : Nat) : Int), .int .u64 (((x + y) / B64 : Nat) : Int)]) w) :
    ExtP Tryz.prog 43 #[.int .u64 x, .int .u64 y, .int .u64 0] k w := ⟨⟨_, w, add64_run x y 0 (Nat.zero_le _) w, hk⟩⟩
theorem sub64_go {x y c : Nat} (hc : c ≤ 1) {k : Value → World → Prop} {w : World} (hk : k (.tuple #[.int .u64 (((x + B64 - y - c) % B64 : Nat) : Int), .int .u64 ((if x < y + c then 1 else 0 : Nat) : Int)]) w) :
    ExtP Tryz.prog 78 #[.int .u64 x, .int .u64 y, .int .u64 c] k w := ⟨⟨_, w, sub64_run x y c hc w, hk⟩⟩
theorem and_lo {x : Nat} (hx : x < 18446744073709551616) : Go.bits .and .u64 (x : Int) 4294967295 = ((x % 4294967296 : Nat) : Int) := by
  rw [show (4294967295 : Int) = ((4294967295 : Nat) : Int) by rfl, u64_and_nat x 4294967295 hx (by decide), show (4294967295 : Nat) = 2 ^ 32 - 1 by decide, Nat.and_two_pow_sub_one_eq_mod]
theorem mul64_spec (x y : Nat) (hx : x < 18446744073709551616) (hy : y < 18446744073709551616) (w : World) :
    Calls Tryz.prog 42 #[.int .u64 x, .int .u64 y] w fun e w' => e = .returned (.tuple #[.int .u64 ((x * y / B64 : Nat) : Int), .int .u64 ((x * y % B64 : Nat) : Int)]) ∧ w' = w := by
  refine calls_of_ev tysOk extsOk Tryz.func42 rfl rfl rfl ?_
  refine ChkP.go (by decide) ?_
  refine ChkP.go (by decide) ?_
  refine ChkP.go (by decide) ?_
  refine ChkP.go (by decide) ?_
  refine ChkP.go (by decide) ?_
  obtain ⟨m1, m2, m3, m4⟩ := Lib.mul64_hi x y hx hy
  have s32 : ∀ n : Nat, (n : Int).fdiv (2 ^ (min (32 : Int).toNat IntKind.u64.bits)) = ((n / 4294967296 : Nat) : Int) := fun n => fdiv_pow n 32
  have wm : ∀ a b : Nat, a * b < 18446744073709551616 → IntKind.u64.wrap ((a : Int) * (b : Int)) = ((a * b : Nat) : Int) := fun a b h => by rw [← Int.natCast_mul]; exact u64_of _ h
  have wa : ∀ a b : Nat, a + b < 18446744073709551616 → IntKind.u64.wrap ((a : Int) + (b : Int)) = ((a + b : Nat) : Int) := fun a b h => by rw [← Int.natCast_add]; exact u64_of _ h
  have hxy : x * y < 18446744073709551616 * 18446744073709551616 := Nat.mul_lt_mul_of_lt_of_lt hx hy
  have hhi : x * y / 18446744073709551616 < 18446744073709551616 := (Nat.div_lt_iff_lt_mul (by decide)).2 hxy
  have e10 := wm _ _ m1
  have e27 : IntKind.u64.wrap (((x / 4294967296 : Nat) : Int) * ((y % 4294967296 : Nat) : Int)) = ((x / 4294967296 * (y % 4294967296) : Nat) : Int) := wm _ _ (by omega)
  have e38 : IntKind.u64.wrap (((x % 4294967296 : Nat) : Int) * ((y / 4294967296 : Nat) : Int)) = ((x % 4294967296 * (y / 4294967296) : Nat) : Int) := wm _ _ (by omega)
  have e42 : IntKind.u64.wrap (((x / 4294967296 : Nat) : Int) * ((y / 4294967296 : Nat) : Int)) = ((x / 4294967296 * (y / 4294967296) : Nat) : Int) := wm _ _ (by omega)
  have e50 : IntKind.u64.wrap ((x : Int) * (y : Int)) = ((x * y % B64 : Nat) : Int) := by rw [← Int.natCast_mul, IntKind.wrap_u64]; show _ = ((x * y % 18446744073709551616 : Nat) : Int); omega
  refine ⟨rfl, ?_, rfl⟩
  show Ending.returned (.tuple #[.int .u64 (IntKind.u64.wrap (IntKind.u64.wrap (IntKind.u64.wrap ((x : Int).fdiv (2 ^ (min (32 : Int).toNat IntKind.u64.bits)) * (y : Int).fdiv (2 ^ (min (32 : Int).toNat IntKind.u64.bits))) + (IntKind.u64.wrap (IntKind.u64.wrap ((x : Int).fdiv (2 ^ (min (32 : Int).toNat IntKind.u64.bits)) * Go.bits .and .u64 (y : Int) 4294967295) + (IntKind.u64.wrap (Go.bits .and .u64 (x : Int) 4294967295 * Go.bits .and .u64 (y : Int) 4294967295)).fdiv (2 ^ (min (32 : Int).toNat IntKind.u64.bits)))).fdiv (2 ^ (min (32 : Int).toNat IntKind.u64.bits)))
    + (IntKind.u64.wrap (Go.bits .and .u64 (IntKind.u64.wrap (IntKind.u64.wrap ((x : Int).fdiv (2 ^ (min (32 : Int).toNat IntKind.u64.bits)) * Go.bits .and .u64 (y : Int) 4294967295) + (IntKind.u64.wrap (Go.bits .and .u64 (x : Int) 4294967295 * Go.bits .and .u64 (y : Int) 4294967295)).fdiv (2 ^ (min (32 : Int).toNat IntKind.u64.bits)))) 4294967295 + IntKind.u64.wrap (Go.bits .and .u64 (x : Int) 4294967295 * (y : Int).fdiv (2 ^ (min (32 : Int).toNat IntKind.u64.bits))))).fdiv (2 ^ (min (32 : Int).toNat IntKind.u64.bits)))), .int .u64 (IntKind.u64.wrap ((x : Int) * (y : Int)))]) = _
  rw [and_lo hx, and_lo hy, s32, s32, e10, s32, e27, e38, e42, e50, wa _ _ m2, s32, and_lo m2, wa _ _ m3, s32, wa _ _ (by omega), wa _ _ (by omega), m4]

/-- a buffer of limbs. -/
abbrev NBuf (w : World) (b : Nat) (xs : List Nat) (c : Nat) : Prop := Buf .u64 34 w b (ints xs) c
theorem NBuf.nrow {w : World} {b c : Nat} {xs : List Nat} (h : NBuf w b xs c) : NRow w (some ⟨b, 0, none⟩) xs := Buf.row h
theorem IdxP.toN {w : World} {b l c : Nat} {i : Int} {xs : List Nat} {v : Nat} {k : Addr → World → Prop} (n : Nat) (he : i = n) (h : NBuf w b xs c) (hn : n < l) (hl : l = xs.length)
    (hk : ∀ w', NBuf w' b (xs.set n v) c → Chg w.heap.size (fun k => k = b) w w' → w'.heap.size = w.heap.size → k ⟨b, n, none⟩ w') :
    IdxP (some ⟨b, 0, none⟩) l i 1 (fun p => StP p (.int .u64 (v : Int)) (k p) w) :=
  IdxP.toBuf n he h hn (by rw [ints_length]; exact hl) fun w' h1 h2 h3 => hk w' (by rw [ints_set_nat] at h1; exact h1) h2 h3
theorem IdxP.toE {w : World} {b l c : Nat} {i x : Int} {xs : List Nat} {k : Addr → World → Prop} (n v : Nat) (hv : x = (v : Int)) (he : i = n) (h : NBuf w b xs c) (hn : n < l) (hl : l = xs.length)
    (hk : ∀ w', NBuf w' b (xs.set n v) c → Chg w.heap.size (fun k => k = b) w w' → w'.heap.size = w.heap.size → k ⟨b, n, none⟩ w') :
    IdxP (some ⟨b, 0, none⟩) l i 1 (fun p => StP p (.int .u64 x) (k p) w) := by subst hv; exact IdxP.toN n he h hn hl hk
theorem IdxP.ldN {w : World} {a : Option Addr} {xs : List Nat} {l : Nat} {i : Int} {k : Addr → Int → Prop} (n : Nat) (he : i = n) (hr : NRow w a xs) (hl : l = xs.length) (hn : n < l)
    (hk : ∀ b o, a = some ⟨b, o, none⟩ → k ⟨b, o + n, none⟩ ((xs.getD n 0 : Nat) : Int)) : IdxP a l i 1 (fun p => LdI .u64 p (k p) w) :=
  IdxP.ld n he hr (by rw [ints_length]; exact hl) hn fun b o h => by rw [ints_getD]; exact hk b o h
theorem Mk.toN {len cap : Int} {k : Value → World → Prop} {w : World} (n : Nat) (hl : len = n) (hc : cap = n) (hs : n ≤ 1000000000)
    (hk : ∀ w', NBuf w' w.heap.size (List.replicate n 0) n → Below w.heap.size w w' → w'.heap.size = w.heap.size + 1 → k (.slice (some ⟨w.heap.size, 0, none⟩) n n) w') : MakeK 34 8 (.int .u64 0) len cap k w :=
  Mk.to n n hl hc (Nat.le_refl _) hs rfl fun w' h1 h2 h3 => hk w' (by unfold NBuf; rw [ints_zeros]; exact h1) h2 h3
theorem val_take_succ' (xs : List Nat) (i : Nat) : val (xs.take (i + 1)) = val (xs.take i) + B64 ^ i * xs.getD i 0 := by
  rcases Nat.lt_or_ge i xs.length with h | h
  · exact val_take_succ xs i h
  · rw [List.take_of_length_le (by omega), List.take_of_length_le h, List.getD_eq_getElem?_getD, List.getElem?_eq_none h]; simp
theorem set_zeros (d : List Nat) (n v : Nat) (h : d.length < n) : (d ++ List.replicate (n - d.length) 0).set d.length v = d ++ [v] ++ List.replicate (n - (d.length + 1)) 0 := by
  rw [show n - d.length = (n - (d.length + 1)) + 1 by omega, List.replicate_succ]
  have := set_split d 0 v (List.replicate (n - (d.length + 1)) 0)
  rw [this]; simp
theorem val_snoc (d : List Nat) (v : Nat) : val (d ++ [v]) = val d + B64 ^ d.length * v := by rw [val_append]; simp [val]
theorem Limbs.snoc {d : List Nat} (h : Limbs d) {v : Nat} (hv : v < B64) : Limbs (d ++ [v]) := fun x hx => by
  rcases List.mem_append.1 hx with hx | hx
  · exact h x hx
  · simp at hx; rw [hx]; exact hv
theorem next_i64 {i n : Nat} (h : i < n) (hn : n ≤ 1000000000) : IntKind.i64.wrap ((i : Int) + 1) = ((i + 1 : Nat) : Int) := by
  rw [show (i : Int) + 1 = ((i + 1 : Nat) : Int) by omega]; exact i64_of _ (by omega)
/-- what is trimmed off a buffer is the number's normal form. -/
theorem trimB_spec {b : Nat} {xs : List Nat} {w : World} (h : NRow w (some ⟨b, 0, none⟩) xs) (hL : Limbs xs) (hs : xs.length ≤ 250) (c : Nat) (hc : xs.length ≤ c) (l : Nat) (hl : l = xs.length) :
    Calls Tryz.prog 40 #[.slice (some ⟨b, 0, none⟩) l c] w fun e w' => ∃ a' l', e = .returned (.slice a' l' c) ∧ NumN w' a' l' c (val xs) ∧ (∀ p, a' = some p → p.block = b) ∧ w' = w := by
  subst hl
  refine (trimN_spec (n := val xs) ⟨xs, h, hL, rfl, hc, hs, rfl⟩).mono ?_
  rintro e w' ⟨a', rfl, t1, t2, t3⟩
  exact ⟨a', _, rfl, t1, fun p hp => by obtain ⟨q, e1, e2⟩ := t2 p hp; cases e1; exact e2.symm, t3⟩

/-! ### Add -/
theorem add_step {P s x y c Sv X Y : Nat} (h : Sv + P * c = X + Y) : Sv + P * ((x + y + c) % B64) + P * B64 * ((x + y + c) / B64) = (X + P * x) + (Y + P * y) := by
  have := Nat.mod_add_div (x + y + c) B64
  have e : P * ((x + y + c) % B64) + P * B64 * ((x + y + c) / B64) = P * (x + y + c) := by rw [Nat.mul_assoc, ← Nat.mul_add, this]
  rw [Nat.add_assoc, e, Nat.mul_add, Nat.mul_add]; omega
set_option maxHeartbeats 2000000 in
theorem add_spec {a b : Option Addr} {l c l2 c2 n m : Nat} {w : World} (ha : NumS w a l c n) (hb : NumS w b l2 c2 m) (hl : l ≤ 200) (hl2 : l2 ≤ 200) :
    Calls Tryz.prog 60 #[.slice a l c, .slice b l2 c2] w fun e w' => ∃ a' l' c', e = .returned (.slice a' l' c') ∧ NumN w' a' l' c' (n + m) ∧ (∀ p, a' = some p → w.heap.size ≤ p.block) ∧ Below w.heap.size w w' := by
  refine calls_of_ev tysOk extsOk Tryz.func60 rfl rfl rfl ?_
  have hn := limbs_len_le (Nat.lt_of_lt_of_le ha.lt (Nat.pow_le_pow_right (by decide) hl))
  have hm := limbs_len_le (Nat.lt_of_lt_of_le hb.lt (Nat.pow_le_pow_right (by decide) hl2))
  refine CallP.intro (trimN_spec ha) ?_
  rintro e w1 ⟨a1, rfl, t1, _, hw⟩
  have hw := hw.symm
  subst hw
  refine ⟨_, rfl, ?_⟩
  refine CallP.intro (trimN_spec hb) ?_
  rintro e w1 ⟨b1, rfl, t2, _, hw⟩
  have hw := hw.symm
  subst hw
  refine ⟨_, rfl, ?_⟩
  refine IfP.dec (fun hlt => ?_) (fun hge => ?_)
  · have hle : (limbs n).length ≤ (limbs m).length := by have := t2.2.1; have := t1.2.1; omega
    have hXl : (limbs m).length ≤ 200 := by omega
    have e1 : IntKind.i64.wrap (((limbs m).length : Int) + 1) = (((limbs m).length + 1 : Nat) : Int) := next_i64 (Nat.lt_succ_self _) (by omega)
    refine Mk.toN ((limbs m).length + 1) e1 e1 (by omega) fun w2 m2 b2 s2 => ?_
    have hX := Row.below t2.1 b2
    have hY := Row.below t1.1 b2
    refine LoopP.go (S := Nat × Nat) 2251799746576832 (by kernel_rfl) (fun s => [(26, .int .i64 s.1), (6, .int .u64 s.2)])
      (fun s W => s.1 ≤ (limbs m).length ∧ s.2 ≤ 1 ∧ Chg w2.heap.size (fun k => k = w.heap.size) w2 W ∧ ∃ d, d.length = s.1 ∧ Limbs d ∧ NBuf W w.heap.size (d ++ List.replicate ((limbs m).length + 1 - d.length) 0) ((limbs m).length + 1) ∧ val d + B64 ^ s.1 * s.2 = val ((limbs m).take s.1) + val ((limbs n).take s.1))
      (fun s => (limbs m).length - s.1) (0, 0) ⟨rfl, rfl, trivial⟩ ⟨Nat.zero_le _, Nat.zero_le _, Chg.refl _ _ _, [], rfl, (fun x hx => by cases hx), m2, by simp [val]⟩ ?_
    rintro ⟨i, cy⟩ j W ⟨h1, h2, h3, d, h4, h5, h6, h7⟩
    simp only at h1 h2 h4 h7
    have hXW : NRow W _ (limbs m) := hX.chg0 h3 (fun h0 p hp e => by have := Row.lt t2.1 h0 p hp; omega)
    have hYW : NRow W _ (limbs n) := hY.chg0 h3 (fun h0 p hp e => by have := Row.lt t1.1 h0 p hp; omega)
    refine IfP.dec (fun hlt2 => ?_) (fun hge2 => ?_)
    · have hi : i < (limbs m).length := by omega
      have hx := (limbs_limbs m).getD i
      have hy := (limbs_limbs n).getD i
      have fin : ∀ (y : Nat), y = (limbs n).getD i 0 → ∀ w', NBuf w' w.heap.size ((d ++ List.replicate ((limbs m).length + 1 - d.length) 0).set i (((limbs m).getD i 0 + y + cy) % B64)) ((limbs m).length + 1) → Chg W.heap.size (fun k => k = w.heap.size) W w' →
          (i + 1 ≤ (limbs m).length ∧ ((limbs m).getD i 0 + y + cy) / B64 ≤ 1 ∧ Chg w2.heap.size (fun k => k = w.heap.size) w2 w' ∧ ∃ d, d.length = i + 1 ∧ Limbs d ∧ NBuf w' w.heap.size (d ++ List.replicate ((limbs m).length + 1 - d.length) 0) ((limbs m).length + 1) ∧ val d + B64 ^ (i + 1) * (((limbs m).getD i 0 + y + cy) / B64) = val ((limbs m).take (i + 1)) + val ((limbs n).take (i + 1))) := by
        rintro y rfl w' g1 g2
        refine ⟨hi, ?_, h3.thenC g2 h3.size (fun _ _ h => h), d ++ [((limbs m).getD i 0 + (limbs n).getD i 0 + cy) % B64], by simp [h4], h5.snoc (Nat.mod_lt _ (by decide)), ?_, ?_⟩
        · show _ / 18446744073709551616 ≤ 1; omega
        · rw [← h4, set_zeros d _ _ (by omega)] at g1
          rw [List.length_append, List.length_singleton]
          rw [← h4]; exact g1
        · rw [val_snoc, val_take_succ', val_take_succ', h4, Nat.pow_succ]
          exact add_step (s := 0) h7
      have e26 := next_i64 hi (by omega)
      refine IfP.dec (fun hy1 => ?_) (fun hy1 => ?_)
      · have hiy : i < (limbs n).length := by omega
        refine IdxP.ldN i rfl hYW rfl hiy fun _ _ _ => ?_
        refine IdxP.ldN i rfl hXW rfl hi fun _ _ _ => ?_
        refine add64_go h2 ?_
        refine IdxP.toN i rfl h6 (by omega) (by simp; omega) fun w' g1 g2 g3 => ?_
        exact ⟨rfl, (i + 1, _), ⟨⟨congrArg (Value.int .i64) e26, rfl, trivial⟩, fin _ rfl w' g1 g2⟩, by show (limbs m).length - (i + 1) < (limbs m).length - i; omega⟩
      · have hiy : (limbs n).length ≤ i := by omega
        have e0 : 0 = (limbs n).getD i 0 := by rw [List.getD_eq_getElem?_getD, List.getElem?_eq_none hiy]; rfl
        refine IdxP.ldN i rfl hXW rfl hi fun _ _ _ => ?_
        refine add64_go (y := 0) h2 ?_
        refine IdxP.toN i rfl h6 (by omega) (by simp; omega) fun w' g1 g2 g3 => ?_
        exact ⟨rfl, (i + 1, _), ⟨⟨congrArg (Value.int .i64) e26, rfl, trivial⟩, fin 0 e0 w' g1 g2⟩, by show (limbs m).length - (i + 1) < (limbs m).length - i; omega⟩
    · have hi : i = (limbs m).length := by omega
      rw [List.take_of_length_le (by omega), List.take_of_length_le (by omega), val_limbs, val_limbs] at h7
      refine IdxP.toN i (by omega) h6 (by omega) (by simp; omega) fun w4 g1 g2 g3 => ?_
      rw [← h4, set_zeros d _ _ (by omega), show (limbs m).length + 1 - (d.length + 1) = 0 by omega, List.replicate_zero, List.append_nil] at g1
      have hC := (Chg.of_below (s := fun _ => False) b2).thenC (h3.thenC g2 h3.size (fun _ _ h => h)) b2.size (fun k hk e => by omega)
      refine CallP.intro (trimB_spec g1.nrow (h5.snoc (by show _ < 18446744073709551616; omega)) (by simp; omega) ((limbs m).length + 1) (by simp; omega) ((limbs m).length + 1) (by simp; omega)) ?_
      rintro e w5 ⟨a', l', rfl, u1, u2, hw⟩
      subst hw
      refine ⟨_, rfl, rfl, a', l', _, rfl, ?_, fun p hp => by rw [u2 p hp]; exact Nat.le_refl _, Chg.below hC⟩
      rw [val_snoc, h4, h7] at u1
      rw [Nat.add_comm n m]
      exact u1
  · have hle : (limbs m).length ≤ (limbs n).length := by have := t1.2.1; have := t2.2.1; omega
    have hXl : (limbs n).length ≤ 200 := by omega
    have e1 : IntKind.i64.wrap (((limbs n).length : Int) + 1) = (((limbs n).length + 1 : Nat) : Int) := next_i64 (Nat.lt_succ_self _) (by omega)
    refine Mk.toN ((limbs n).length + 1) e1 e1 (by omega) fun w2 m2 b2 s2 => ?_
    have hX := Row.below t1.1 b2
    have hY := Row.below t2.1 b2
    refine LoopP.go (S := Nat × Nat) 2251799746576832 (by kernel_rfl) (fun s => [(26, .int .i64 s.1), (6, .int .u64 s.2)])
      (fun s W => s.1 ≤ (limbs n).length ∧ s.2 ≤ 1 ∧ Chg w2.heap.size (fun k => k = w.heap.size) w2 W ∧ ∃ d, d.length = s.1 ∧ Limbs d ∧ NBuf W w.heap.size (d ++ List.replicate ((limbs n).length + 1 - d.length) 0) ((limbs n).length + 1) ∧ val d + B64 ^ s.1 * s.2 = val ((limbs n).take s.1) + val ((limbs m).take s.1))
      (fun s => (limbs n).length - s.1) (0, 0) ⟨rfl, rfl, trivial⟩ ⟨Nat.zero_le _, Nat.zero_le _, Chg.refl _ _ _, [], rfl, (fun x hx => by cases hx), m2, by simp [val]⟩ ?_
    rintro ⟨i, cy⟩ j W ⟨h1, h2, h3, d, h4, h5, h6, h7⟩
    simp only at h1 h2 h4 h7
    have hXW : NRow W _ (limbs n) := hX.chg0 h3 (fun h0 p hp e => by have := Row.lt t1.1 h0 p hp; omega)
    have hYW : NRow W _ (limbs m) := hY.chg0 h3 (fun h0 p hp e => by have := Row.lt t2.1 h0 p hp; omega)
    refine IfP.dec (fun hlt2 => ?_) (fun hge2 => ?_)
    · have hi : i < (limbs n).length := by omega
      have hx := (limbs_limbs n).getD i
      have hy := (limbs_limbs m).getD i
      have fin : ∀ (y : Nat), y = (limbs m).getD i 0 → ∀ w', NBuf w' w.heap.size ((d ++ List.replicate ((limbs n).length + 1 - d.length) 0).set i (((limbs n).getD i 0 + y + cy) % B64)) ((limbs n).length + 1) → Chg W.heap.size (fun k => k = w.heap.size) W w' →
          (i + 1 ≤ (limbs n).length ∧ ((limbs n).getD i 0 + y + cy) / B64 ≤ 1 ∧ Chg w2.heap.size (fun k => k = w.heap.size) w2 w' ∧ ∃ d, d.length = i + 1 ∧ Limbs d ∧ NBuf w' w.heap.size (d ++ List.replicate ((limbs n).length + 1 - d.length) 0) ((limbs n).length + 1) ∧ val d + B64 ^ (i + 1) * (((limbs n).getD i 0 + y + cy) / B64) = val ((limbs n).take (i + 1)) + val ((limbs m).take (i + 1))) := by
        rintro y rfl w' g1 g2
        refine ⟨hi, ?_, h3.thenC g2 h3.size (fun _ _ h => h), d ++ [((limbs n).getD i 0 + (limbs m).getD i 0 + cy) % B64], by simp [h4], h5.snoc (Nat.mod_lt _ (by decide)), ?_, ?_⟩
        · show _ / 18446744073709551616 ≤ 1; omega
        · rw [← h4, set_zeros d _ _ (by omega)] at g1
          rw [List.length_append, List.length_singleton]
          rw [← h4]; exact g1
        · rw [val_snoc, val_take_succ', val_take_succ', h4, Nat.pow_succ]
          exact add_step (s := 0) h7
      have e26 := next_i64 hi (by omega)
      refine IfP.dec (fun hy1 => ?_) (fun hy1 => ?_)
      · have hiy : i < (limbs m).length := by omega
        refine IdxP.ldN i rfl hYW rfl hiy fun _ _ _ => ?_
        refine IdxP.ldN i rfl hXW rfl hi fun _ _ _ => ?_
        refine add64_go h2 ?_
        refine IdxP.toN i rfl h6 (by omega) (by simp; omega) fun w' g1 g2 g3 => ?_
        exact ⟨rfl, (i + 1, _), ⟨⟨congrArg (Value.int .i64) e26, rfl, trivial⟩, fin _ rfl w' g1 g2⟩, by show (limbs n).length - (i + 1) < (limbs n).length - i; omega⟩
      · have hiy : (limbs m).length ≤ i := by omega
        have e0 : 0 = (limbs m).getD i 0 := by rw [List.getD_eq_getElem?_getD, List.getElem?_eq_none hiy]; rfl
        refine IdxP.ldN i rfl hXW rfl hi fun _ _ _ => ?_
        refine add64_go (y := 0) h2 ?_
        refine IdxP.toN i rfl h6 (by omega) (by simp; omega) fun w' g1 g2 g3 => ?_
        exact ⟨rfl, (i + 1, _), ⟨⟨congrArg (Value.int .i64) e26, rfl, trivial⟩, fin 0 e0 w' g1 g2⟩, by show (limbs n).length - (i + 1) < (limbs n).length - i; omega⟩
    · have hi : i = (limbs n).length := by omega
      rw [List.take_of_length_le (by omega), List.take_of_length_le (by omega), val_limbs, val_limbs] at h7
      refine IdxP.toN i (by omega) h6 (by omega) (by simp; omega) fun w4 g1 g2 g3 => ?_
      rw [← h4, set_zeros d _ _ (by omega), show (limbs n).length + 1 - (d.length + 1) = 0 by omega, List.replicate_zero, List.append_nil] at g1
      have hC := (Chg.of_below (s := fun _ => False) b2).thenC (h3.thenC g2 h3.size (fun _ _ h => h)) b2.size (fun k hk e => by omega)
      refine CallP.intro (trimB_spec g1.nrow (h5.snoc (by show _ < 18446744073709551616; omega)) (by simp; omega) ((limbs n).length + 1) (by simp; omega) ((limbs n).length + 1) (by simp; omega)) ?_
      rintro e w5 ⟨a', l', rfl, u1, u2, hw⟩
      subst hw
      refine ⟨_, rfl, rfl, a', l', _, rfl, ?_, fun p hp => by rw [u2 p hp]; exact Nat.le_refl _, Chg.below hC⟩
      rw [val_snoc, h4, h7] at u1
      skip
      exact u1
end Go.Proofs.YthneejblcffdgaaGreatDoor
