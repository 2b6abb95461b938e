/- The walk by evaluation, part 9b: regions that draw their order: what only reads is taken first wherever a condition on the world holds; only what turns the world is looked at in each order. -/
import Derived.Test.YthghiokcinpnlaaDoorEvAny
import Derived.OrdersHeld
set_option linter.unusedSimpArgs false
set_option linter.unusedVariables false
namespace Go.Ev
open Go Go.RowKit

section
variable {P : Program} {ops : Array Oper} {Q : Exit → Act → World → Prop} {md : Region.Mode} {S : World → Prop} {late : List Nat}

/-- Whatever order is picked; S holds behind every operation but the late ones. -/
def wpAnyL (P : Program) (md : Region.Mode) (ops : Array Oper) (Q : Exit → Act → World → Prop) (S : World → Prop) (late : List Nat) : Nat → Array Bool → Act → World → Prop
  | 0, listed, a, w => Region.ready md ops listed = [] ∧ Q .normal a w
  | fuel + 1, listed, a, w =>
    (Region.ready md ops listed = [] → Q .normal a w) ∧
    ∀ i ∈ Region.ready md ops listed, wpOp P ops Q i (fun a' w' => (late.contains i = false → S w') ∧ wpAnyL P md ops Q S late fuel (listed.setIfInBounds i true) a' w') a w

theorem wpAny_of_late : ∀ (fuel : Nat) (listed : Array Bool) (a : Act) (w : World), wpAnyL P md ops Q S late fuel listed a w → wpAny P md ops Q fuel listed a w
  | 0, _, _, _, h => h
  | fuel + 1, _, _, _, h => ⟨h.1, fun i hi => wpOp_mono (fun a' w' h' => wpAny_of_late fuel _ a' w' h'.2) (h.2 i hi)⟩

theorem getD_false {L : Array Bool} {k : Nat} (h : L.getD k false = true) : L.getD k true = true := by
  rcases Nat.lt_or_ge k L.size with h' | h'
  · simp [h'] at h ⊢; exact h
  · simp [Array.getElem?_eq_none h'] at h

/-- C: what may come up while number i is still to come. -/
theorem wpAnyL_first {i : Nat} {oi : Oper} {v : Value} (hi : ops[i]? = some oi) (hsel : ∀ (j : Nat) (o : Oper) cs b, ops[j]? = some o → o.op ≠ .select cs b)
    (hQ : ∀ c a w, Q (.panic c) (a.put oi.dst v) w → Q (.panic c) a w) (C : Nat → Prop)
    (hC : ∀ j oj, ops[j]? = some oj → j ≠ i → (∀ e ∈ oj.after, Region.binds md e = true → C e.on) → C j ∧ late.contains j = false) :
    ∀ (fuel : Nat) (listed : Array Bool) (a : Act) (w : World),
      (∀ j oj, ops[j]? = some oj → j ≠ i → listed.getD j true = false → (∀ e ∈ oj.after, Region.binds md e = true → e.on ≠ i) → oi.apart ops oj = true) →
      (∀ k, listed.getD k false = true → C k) →
      i ∈ Region.ready md ops listed → YieldsIf P ops S oi v a → S w →
      wpAnyL P md ops Q S late fuel (listed.setIfInBounds i true) (a.put oi.dst v) w → wpAnyL P md ops Q S late (fuel + 1) listed a w := by
  intro fuel
  induction fuel with
  | zero =>
    intro listed a w _ _ hr hy hS H
    refine ⟨fun h => (by rw [h] at hr; cases hr), fun j hj => ?_⟩
    by_cases hji : j = i
    · subst hji; exact hy.wpOp hi hS ⟨fun _ => hS, H⟩
    · have := ready_mono hj hji
      rw [H.1] at this
      cases this
  | succ fuel ih =>
    intro listed a w hfree hL hr hy hS H
    refine ⟨fun h => (by rw [h] at hr; cases hr), fun j hj => ?_⟩
    by_cases hji : j = i
    · subst hji; exact hy.wpOp hi hS ⟨fun _ => hS, H⟩
    · have h1 := H.2 j (ready_mono hj hji)
      obtain ⟨hjun, oj, hoj, hall⟩ := mem_ready.1 hj
      obtain ⟨hCj, hlj⟩ := hC j oj hoj hji fun e he hb => hL _ (hall e he hb)
      have hnot : ∀ e ∈ oj.after, Region.binds md e = true → e.on ≠ i := fun e he hb heq => by
        have h1 := getD_false (hall e he hb)
        have h0 := (mem_ready.1 hr).1
        rw [heq, h0] at h1
        cases h1
      have h2 := wpOp_putIf hoj (hfree j oj hoj hji hjun hnot) (fun cs b => hsel i oi cs b hi) (fun cs b => hsel j oj cs b hoj) hQ hy h1
      have hfree' : ∀ k ok, ops[k]? = some ok → k ≠ i → (listed.setIfInBounds j true).getD k true = false →
          (∀ e ∈ ok.after, Region.binds md e = true → e.on ≠ i) → oi.apart ops ok = true := fun k ok hk hki hun hno => by
        refine hfree k ok hk hki ?_ hno
        by_cases hjk : j = k
        · subst hjk; exact hjun
        · rw [getD_set_ne true hjk] at hun; exact hun
      have hL' : ∀ k, (listed.setIfInBounds j true).getD k false = true → C k := fun k hk => by
        by_cases hjk : j = k
        · subst hjk; exact hCj
        · rw [getD_set_ne false hjk] at hk; exact hL k hk
      refine wpOp_mono (fun a' w' h3 => ⟨fun _ => h3.2.1 hlj, ih (listed.setIfInBounds j true) a' w' hfree' hL' (ready_mono hr (Ne.symm hji)) h3.1 (h3.2.1 hlj) ?_⟩) h2
      rw [Array.setIfInBounds_comm _ _ hji]
      exact h3.2.2

def cloGo (md : Region.Mode) (ops : Array Oper) (i : Nat) (L : Array Bool) : Array Bool :=
  (List.range ops.size).foldl (fun C j => bif Nat.beq j i then C else match ops[j]? with
    | some oj => bif oj.after.all (fun e => !Region.binds md e || C.getD e.on false) then C.setIfInBounds j true else C
    | none => C) L
/-- what may come up while number i is still to come holds no late operation. -/
def cloB (md : Region.Mode) (ops : Array Oper) (late : List Nat) (i : Nat) (L C : Array Bool) : Bool :=
  late.isEmpty || (((List.range L.size).all fun k => !L.getD k false || C.getD k false) &&
  (List.range ops.size).all fun j => (j == i) || (match ops[j]? with
    | some oj => !(oj.after.all fun e => !Region.binds md e || C.getD e.on false) || (C.getD j false && !late.contains j)
    | none => true))

theorem wpAnyL_take {i : Nat} {oi : Oper} {v : Value} {fuel : Nat} {listed : Array Bool} {a : Act} {w : World} (hi : ops[i]? = some oi)
    (hs : Region.noSelect ops = true) (hf : Region.free md ops listed i = true) (hr : (Region.ready md ops listed).contains i = true)
    (hc : cloB md ops late i listed (cloGo md ops i listed) = true)
    (hQ : ∀ c a w, Q (.panic c) (a.put oi.dst v) w → Q (.panic c) a w) (hy : YieldsIf P ops S oi v a) (hS : S w)
    (h : wpAnyL P md ops Q S late fuel (listed.setIfInBounds i true) (a.put oi.dst v) w) : wpAnyL P md ops Q S late (fuel + 1) listed a w := by
  generalize cloGo md ops i listed = C at hc
  rcases late with _ | ⟨x, late⟩
  · exact wpAnyL_first hi (Region.noSelect_spec hs) hQ (fun _ => True) (fun _ _ _ _ _ => ⟨trivial, rfl⟩) fuel listed a w (Region.free_spec hi hf) (fun _ _ => trivial) (by simpa using hr) hy hS h
  unfold cloB at hc
  simp only [List.isEmpty_cons, Bool.false_or, Bool.and_eq_true, List.all_eq_true, List.mem_range] at hc
  refine wpAnyL_first hi (Region.noSelect_spec hs) hQ (fun k => C.getD k false = true) ?_ fuel listed a w (Region.free_spec hi hf) ?_ (by simpa using hr) hy hS h
  · intro j oj hj hji hall
    have h1 := hc.2 j (Array.getElem?_eq_some_iff.1 hj).1
    simp only [hj, Bool.or_eq_true, beq_iff_eq, hji, false_or, Bool.and_eq_true, Bool.not_eq_true'] at h1
    rcases h1 with h1 | h1
    · exfalso
      have : (oj.after.all fun e => !Region.binds md e || C.getD e.on false) = true := by
        rw [Array.all_eq_true_iff_forall_mem]
        intro e he
        cases hb : Region.binds md e with
        | false => rfl
        | true => simp only [Bool.not_true, Bool.false_or]; exact hall e he hb
      rw [this] at h1; cases h1
    · exact h1
  · intro k hk
    rcases Nat.lt_or_ge k listed.size with h' | h'
    · have := hc.1 k h'
      rw [hk] at this; simpa using this
    · simp [Array.getElem?_eq_none h'] at hk

theorem wpAnyL_all {rs : List Nat} {fuel : Nat} {listed : Array Bool} {a : Act} {w : World} (hr : Region.ready md ops listed = rs) (hne : rs ≠ [])
    (h : ∀ i ∈ rs, wpOp P ops Q i (fun a' w' => (late.contains i = false → S w') ∧ wpAnyL P md ops Q S late fuel (listed.setIfInBounds i true) a' w') a w) : wpAnyL P md ops Q S late (fuel + 1) listed a w :=
  ⟨fun h0 => absurd (hr ▸ h0) hne, hr ▸ h⟩
theorem wpAnyL_done {listed : Array Bool} {a : Act} {w : World} (hr : Region.ready md ops listed = []) (h : Q .normal a w) :
    ∀ fuel, wpAnyL P md ops Q S late fuel listed a w
  | 0 => ⟨hr, h⟩
  | _ + 1 => ⟨fun _ => h, by rw [hr]; simp⟩
end

/-- the tree of a region's orders. take: touches no memory. held: only reads, wherever S holds. alt: may come next, S holds behind it; fin: may come next, nothing that reads is left behind it. -/
inductive Tr where
  | done
  | nil
  | take (i : Nat) (r : Tr)
  | held (i : Nat) (r : Tr)
  | alt (i : Nat) (r l : Tr)
  | fin (i : Nat) (r l : Tr)
/-- one operation, with its guard. -/
def stepG (ops : List Oper) (i : Nat) (e : Env) (A : Oper → Env → (Value → World → Prop) → World → Prop) (next : Env → World → Prop) (w : World) : Prop := match ops[i]? with
  | none => False
  | some o => match o.guard with
    | none => A o e (fun v w => next (updO e o.dst v) w) w
    | some (j, want) => match (ops[j]?).bind (·.dst) with
      | none => False
      | some g => asBool (e g) fun c => IfP (bif want then c else !c) (A o (upd e g (.bool want)) (fun v w => next (updO (upd e g (.bool want)) o.dst v) w) w) (next (updO (upd e g (.bool !want)) o.dst undef) w)
structure HeldP (S : World → Prop) (A : (Value → Prop) → World → Prop) (k : Value → Prop) : Prop where
  out : ∃ v, (∀ w, S w → A (fun u => u = v) w) ∧ k v
theorem HeldP.go {S : World → Prop} {A : (Value → Prop) → World → Prop} {k : Value → Prop} {v : Value} (h : ∀ w, S w → A (fun u => u = v) w) (hk : k v) : HeldP S A k := ⟨⟨v, h, hk⟩⟩
def evTr (T : Tab) (P : Program) (ext : Nat → Bool) (ops : List Oper) (S : World → Prop) : Tr → Env → (Env → World → Prop) → World → Prop :=
  @Tr.rec (fun _ => Env → (Env → World → Prop) → World → Prop)
    (fun e K w => K e w)
    (fun _ _ _ => True)
    (fun i _ next e K w => stepG ops i e (fun o e k w => evS T o e (fun v => k v w) w) (fun e w => next e K w) w)
    (fun i _ next e K w => stepG ops i e (fun o e k w => HeldP S (evS T o e) (fun v => k v w)) (fun e w => next e K w) w)
    (fun i _ _ next other e K w => stepG ops i e (evOp T P ext (some 0)) (fun e w => S w ∧ next e K w) w ∧ other e K w)
    (fun i _ _ next other e K w => stepG ops i e (evOp T P ext (some 0)) (fun e w => next e K w) w ∧ other e K w)
def Tr.heads : Tr → List Nat
  | .alt i _ l => i :: heads l
  | .fin i _ l => i :: heads l
  | _ => []
def Tr.depth : Tr → Nat
  | .done => 0
  | .nil => 0
  | .take _ r => r.depth + 1
  | .held _ r => r.depth + 1
  | .alt _ r l => max (r.depth + 1) l.depth
  | .fin _ r l => max (r.depth + 1) l.depth
def quietT : Tr → Bool
  | .done => true
  | .nil => true
  | .fin _ r l => quietT r && quietT l
  | _ => false
def okTr (ops : Array Oper) (late : List Nat) : Tr → Bool → Array Bool → Bool
  | .done, top, L => top && (Region.ready .any ops L).isEmpty
  | .nil, top, _ => !top
  | .take i r, top, L => top && (Region.ready .any ops L).contains i && Region.free .any ops L i && takeB ops i && cloB .any ops late i L (cloGo .any ops i L) && okTr ops late r true (L.setIfInBounds i true)
  | .held i r, top, L => top && (Region.ready .any ops L).contains i && Region.free .any ops L i && cloB .any ops late i L (cloGo .any ops i L) && okTr ops late r true (L.setIfInBounds i true)
  | .alt i r l, top, L => (!top || (Region.ready .any ops L).all fun j => (Tr.alt i r l).heads.contains j) && !(Region.ready .any ops L).isEmpty && okTr ops late r true (L.setIfInBounds i true) && okTr ops late l false L
  | .fin i r l, top, L => (!top || (Region.ready .any ops L).all fun j => (Tr.fin i r l).heads.contains j) && !(Region.ready .any ops L).isEmpty && late.contains i && quietT r && okTr ops late r true (L.setIfInBounds i true) && okTr ops late l false L

section
variable {P : Program} {T : Tab} {S : World → Prop} {late : List Nat}

/-- a value that an operation yields in all worlds of S. -/
theorem held_yields (hT : TabOk T P) {o : Oper} {a : Act} {v : Value} (h : ∀ w, S w → evS T o (actEnv a) (fun u => u = v) w) : ∀ w, S w → (execOp a.eval o).run P w = .ok (.value v) w := fun w hS => by
  obtain ⟨u, h1, rfl⟩ := evS_run hT (h w hS)
  rw [eval_get]; exact h1

theorem stepG_cases {ops : Array Oper} {i : Nat} {a : Act} {A : Oper → Env → (Value → World → Prop) → World → Prop} {next : Env → World → Prop} {w : World} (h : stepG ops.toList i (actEnv a) A next w) :
    ∃ o, ops[i]? = some o ∧ ((Region.wanted o (yielded ops a.tmps) = true ∧ A o (actEnv a) (fun v w => next (updO (actEnv a) o.dst v) w) w) ∨ (Region.wanted o (yielded ops a.tmps) = false ∧ next (updO (actEnv a) o.dst undef) w)) := by
  unfold stepG at h
  split at h <;> try exact h.elim
  rename_i o ho
  refine ⟨o, by simpa using ho, ?_⟩
  cases hg : o.guard with
  | none => simp only [hg] at h; exact .inl ⟨by simp [Region.wanted, hg], h⟩
  | some jw =>
    obtain ⟨j, want⟩ := jw
    simp only [hg] at h
    split at h <;> try exact h.elim
    rename_i g hjd
    obtain ⟨c, hc, h5⟩ := asBool_out h
    rw [guard_wanted hg hjd hc]
    by_cases hcw : c = want
    · subst hcw
      have h6 := h5.t (by cases c <;> rfl)
      rw [upd_self hc] at h6
      exact .inl ⟨by simp, h6⟩
    · have hcn : c = !want := by cases c <;> cases want <;> simp at hcw ⊢
      have h6 := h5.f (by subst hcn; cases want <;> rfl)
      have hself : upd (actEnv a) g (.bool !want) = actEnv a := upd_self (by rw [hc, hcn])
      rw [hself] at h6
      exact .inr ⟨by simpa using hcw, h6⟩

theorem stepG_op (hT : TabOk T P) {ext : Nat → Bool} (hX : ExtOk P ext) {ops : Array Oper} {Q : Exit → Act → World → Prop} {i : Nat} {a : Act} {next : Env → World → Prop} {K : Act → World → Prop} {w : World} (h : stepG ops.toList i (actEnv a) (evOp T P ext (some 0)) next w)
    (hk : ∀ o v w', ops[i]? = some o → next (updO (actEnv a) o.dst v) w' → K (a.put o.dst v) w') : wpOp P ops Q i K a w := by
  obtain ⟨o, ho, (⟨h1, h2⟩ | ⟨h1, h2⟩)⟩ := stepG_cases h
  · unfold wpOp
    simp only [ho, h1, if_true]
    exact .inl (evOp_wp hT hX h2 fun v w' h => hk o v w' ho h)
  · unfold wpOp
    simp only [ho, h1]
    exact hk o _ w ho h2

theorem evTr_any (hT : TabOk T P) {ext : Nat → Bool} (hX : ExtOk P ext) {ops : Array Oper} {a0 : Act} {K : Env → World → Prop} (hpl : plainB ops a0.tmps.size = true) (hs : Region.noSelect ops = true) :
    ∀ (s : Tr), (∀ (L : Array Bool) (a : Act) (w : World) (fuel : Nat), okTr ops late s true L = true → s.depth ≤ fuel → OnWay ops a0 a → (S w ∨ quietT s = true) → evTr T P ext ops.toList S s (actEnv a) K w → wpAnyL P .any ops (QAny ops a0 K) S late fuel L a w) ∧
      (∀ (top : Bool) (L : Array Bool) (a : Act) (w : World) (fuel : Nat), okTr ops late s top L = true → s.depth ≤ fuel + 1 → OnWay ops a0 a → evTr T P ext ops.toList S s (actEnv a) K w → ∀ i ∈ s.heads, wpOp P ops (QAny ops a0 K) i (fun a' w' => (late.contains i = false → S w') ∧ wpAnyL P .any ops (QAny ops a0 K) S late fuel (L.setIfInBounds i true) a' w') a w)
  | .done => by
    refine ⟨fun L a w fuel hok _ hon _ h => ?_, fun _ _ _ _ _ _ _ _ _ i hi => by cases hi⟩
    simp only [okTr, Bool.true_and, List.isEmpty_iff] at hok
    exact wpAnyL_done hok ⟨hon, h⟩ fuel
  | .nil => by
    refine ⟨fun L a w fuel hok _ _ _ _ => ?_, fun _ _ _ _ _ _ _ _ _ i hi => by cases hi⟩
    simp [okTr] at hok
  | .take i r => by
    refine ⟨fun L a w fuel hok hd hon hS h => ?_, fun _ _ _ _ _ _ _ _ _ i hi => by cases hi⟩
    simp only [okTr, Bool.and_eq_true, Bool.true_and] at hok
    obtain ⟨⟨⟨⟨h1, h2⟩, h3⟩, h3c⟩, h4⟩ := hok
    have hS : S w := hS.resolve_right (by simp [quietT])
    obtain ⟨fuel, rfl⟩ : ∃ f, fuel = f + 1 := ⟨fuel - 1, by simp only [Tr.depth] at hd; omega⟩
    simp only [Tr.depth, Nat.add_le_add_iff_right] at hd
    have h : stepG ops.toList i (actEnv a) (fun o e k w => evS T o e (fun v => k v w) w) (fun e w => evTr T P ext ops.toList S r e K w) w := h
    obtain ⟨o, ho, hc⟩ := stepG_cases h
    unfold takeB at h3
    rw [ho] at h3
    have hy : ∃ v, YieldsIf P ops S o v a ∧ evTr T P ext ops.toList S r (updO (actEnv a) o.dst v) K w := by
      rcases hc with ⟨hw, hc⟩ | ⟨hw, hc⟩
      · obtain ⟨v, hk, hrun⟩ := evS_take hT h3 hc
        exact ⟨v, .inl ⟨hw, fun w' _ => by rw [eval_get]; exact hrun w'⟩, hk⟩
      · exact ⟨undef, .inr ⟨hw, rfl⟩, hc⟩
    obtain ⟨v, hy, hk⟩ := hy
    obtain ⟨g1, g2⟩ := hon.put ho hpl v
    refine wpAnyL_take ho hs h2 h1 h3c (fun c a w h => h.elim) hy hS ?_
    refine (evTr_any hT hX hpl hs r).1 _ _ _ _ h4 hd g1 (.inl hS) ?_
    rw [g2]; exact hk
  | .held i r => by
    refine ⟨fun L a w fuel hok hd hon hS h => ?_, fun _ _ _ _ _ _ _ _ _ i hi => by cases hi⟩
    simp only [okTr, Bool.and_eq_true, Bool.true_and] at hok
    obtain ⟨⟨⟨h1, h2⟩, h3c⟩, h4⟩ := hok
    have hS : S w := hS.resolve_right (by simp [quietT])
    obtain ⟨fuel, rfl⟩ : ∃ f, fuel = f + 1 := ⟨fuel - 1, by simp only [Tr.depth] at hd; omega⟩
    simp only [Tr.depth, Nat.add_le_add_iff_right] at hd
    have h : stepG ops.toList i (actEnv a) (fun o e k w => HeldP S (evS T o e) (fun v => k v w)) (fun e w => evTr T P ext ops.toList S r e K w) w := h
    obtain ⟨o, ho, hc⟩ := stepG_cases h
    have hy : ∃ v, YieldsIf P ops S o v a ∧ evTr T P ext ops.toList S r (updO (actEnv a) o.dst v) K w := by
      rcases hc with ⟨hw, hc⟩ | ⟨hw, hc⟩
      · obtain ⟨v, hv, hk⟩ := hc.out
        exact ⟨v, .inl ⟨hw, held_yields hT hv⟩, hk⟩
      · exact ⟨undef, .inr ⟨hw, rfl⟩, hc⟩
    obtain ⟨v, hy, hk⟩ := hy
    obtain ⟨g1, g2⟩ := hon.put ho hpl v
    refine wpAnyL_take ho hs h2 h1 h3c (fun c a w h => h.elim) hy hS ?_
    refine (evTr_any hT hX hpl hs r).1 _ _ _ _ h4 hd g1 (.inl hS) ?_
    rw [g2]; exact hk
  | .alt i r l => by
    have key : ∀ (top : Bool) (L : Array Bool) (a : Act) (w : World) (fuel : Nat), okTr ops late (.alt i r l) top L = true → (Tr.alt i r l).depth ≤ fuel + 1 → OnWay ops a0 a → evTr T P ext ops.toList S (.alt i r l) (actEnv a) K w → ∀ j ∈ (Tr.alt i r l).heads, wpOp P ops (QAny ops a0 K) j (fun a' w' => (late.contains j = false → S w') ∧ wpAnyL P .any ops (QAny ops a0 K) S late fuel (L.setIfInBounds j true) a' w') a w := by
      intro top L a w fuel hok hd hon h j hj
      unfold okTr at hok
      simp only [Bool.and_eq_true] at hok
      obtain ⟨⟨⟨h1, h2⟩, h3⟩, h4⟩ := hok
      have hd1 : r.depth + 1 ≤ fuel + 1 := Nat.le_trans (Nat.le_max_left _ _) hd
      have hd2 : l.depth ≤ fuel + 1 := Nat.le_trans (Nat.le_max_right _ _) hd
      have h : stepG ops.toList i (actEnv a) (evOp T P ext (some 0)) (fun e w => S w ∧ evTr T P ext ops.toList S r e K w) w ∧ evTr T P ext ops.toList S l (actEnv a) K w := h
      rcases List.mem_cons.1 hj with rfl | hj
      · refine stepG_op hT hX h.1 fun o v w' ho hn => ?_
        obtain ⟨g1, g2⟩ := hon.put ho hpl v
        refine ⟨fun _ => hn.1, (evTr_any hT hX hpl hs r).1 _ _ _ _ h3 (by omega) g1 (.inl hn.1) ?_⟩
        rw [g2]; exact hn.2
      · exact (evTr_any hT hX hpl hs l).2 false L a w fuel h4 hd2 hon h.2 j hj
    refine ⟨fun L a w fuel hok hd hon _ h => ?_, key⟩
    have hok' := hok
    unfold okTr at hok'
    simp only [Bool.and_eq_true] at hok'
    obtain ⟨⟨⟨h1, h2⟩, h3⟩, h4⟩ := hok'
    have hd1 : r.depth + 1 ≤ fuel := Nat.le_trans (Nat.le_max_left _ _) hd
    obtain ⟨fuel, rfl⟩ : ∃ f, fuel = f + 1 := ⟨fuel - 1, by omega⟩
    refine wpAnyL_all rfl ?_ fun j hj => key true L a w fuel hok hd hon h j ?_
    · intro e; rw [e] at h2; simp at h2
    · simp only [Bool.not_true, Bool.false_or, List.all_eq_true] at h1
      simpa using h1 j hj
  | .fin i r l => by
    have key : ∀ (top : Bool) (L : Array Bool) (a : Act) (w : World) (fuel : Nat), okTr ops late (.fin i r l) top L = true → (Tr.fin i r l).depth ≤ fuel + 1 → OnWay ops a0 a → evTr T P ext ops.toList S (.fin i r l) (actEnv a) K w → ∀ j ∈ (Tr.fin i r l).heads, wpOp P ops (QAny ops a0 K) j (fun a' w' => (late.contains j = false → S w') ∧ wpAnyL P .any ops (QAny ops a0 K) S late fuel (L.setIfInBounds j true) a' w') a w := by
      intro top L a w fuel hok hd hon h j hj
      unfold okTr at hok
      simp only [Bool.and_eq_true] at hok
      obtain ⟨⟨⟨⟨⟨h1, h2⟩, hl⟩, hq⟩, h3⟩, h4⟩ := hok
      have hd1 : r.depth + 1 ≤ fuel + 1 := Nat.le_trans (Nat.le_max_left _ _) hd
      have hd2 : l.depth ≤ fuel + 1 := Nat.le_trans (Nat.le_max_right _ _) hd
      have h : stepG ops.toList i (actEnv a) (evOp T P ext (some 0)) (fun e w => evTr T P ext ops.toList S r e K w) w ∧ evTr T P ext ops.toList S l (actEnv a) K w := h
      rcases List.mem_cons.1 hj with rfl | hj
      · refine stepG_op hT hX h.1 fun o v w' ho hn => ?_
        obtain ⟨g1, g2⟩ := hon.put ho hpl v
        refine ⟨fun hf => (by rw [hl] at hf; cases hf), (evTr_any hT hX hpl hs r).1 _ _ _ _ h3 (by omega) g1 (.inr hq) ?_⟩
        rw [g2]; exact hn
      · exact (evTr_any hT hX hpl hs l).2 false L a w fuel h4 hd2 hon h.2 j hj
    refine ⟨fun L a w fuel hok hd hon _ h => ?_, key⟩
    have hok' := hok
    unfold okTr at hok'
    simp only [Bool.and_eq_true] at hok'
    obtain ⟨⟨⟨⟨⟨h1, h2⟩, hl⟩, hq⟩, h3⟩, h4⟩ := hok'
    have hd1 : r.depth + 1 ≤ fuel := Nat.le_trans (Nat.le_max_left _ _) hd
    obtain ⟨fuel, rfl⟩ : ∃ f, fuel = f + 1 := ⟨fuel - 1, by omega⟩
    refine wpAnyL_all rfl ?_ fun j hj => key true L a w fuel hok hd hon h j ?_
    · intro e; rw [e] at h2; simp at h2
    · simp only [Bool.not_true, Bool.false_or, List.all_eq_true] at h1
      simpa using h1 j hj

/-- **A region that draws its order**, along a tree of its orders (printed by tools/tr.py). S: what all that reads leans on. -/
theorem DrawP.tree {X : Type} (hT : TabOk T P) {ext : Nat → Bool} (hX : ExtOk P ext) (hm : P.follows .mixedOrders = true) {n id : Nat} {ops : Array Oper} {D : List Deferred} {e : Env} {Q : Post} {w : World} (late : List Nat) (s : Tr) (m : Nat) (hmask : asgOps ops.toList = m)
    (hchk : (okTr ops late s true (Array.replicate ops.size false) && Nat.ble s.depth ops.size && plainB ops n && Region.noSelect ops) = true)
    (S : World → Prop) (V : X → List (Nat × Value)) (I : X → World → Prop)
    (h : ∀ w0, (∀ p, w0.cell? p = w.cell? p) → Below w.heap.size w w0 → w0.heap.size = w.heap.size → (S w0 ∧ evTr T P ext ops.toList S s e (fun e' w' => ∃ s, Slots e' (V s) ∧ I s w') w0))
    (hk : ∀ s j w', I s w' → Q .normal D (upds (over e m j) (V s)) w') : DrawP P none n (.region id ops true) D e Q w := by
  refine ⟨rfl, ?_⟩
  rintro a hn rfl rfl
  subst hmask
  simp only [Bool.and_eq_true] at hchk
  obtain ⟨⟨⟨hok, hd⟩, hpl⟩, hs⟩ := hchk
  obtain ⟨hS, h⟩ := h { w with drawn := w.drawn + 1 } (fun _ => rfl) (Below.refl _ w).drew rfl
  refine wp_mono (wp_region_any hm (wpAny_of_late (S := S) (late := late) _ _ _ _ ((evTr_any (a0 := a) hT hX (by rw [hn]; exact hpl) hs s).1 _ a _ _ hok (by rwa [Nat.ble_eq] at hd) ⟨rfl, rfl, fun _ _ => rfl⟩ (.inl hS) h))) ?_
  rintro x a' w' hq
  cases x with
  | normal =>
    obtain ⟨⟨h1, h2, h3⟩, s, h4, h5⟩ := hq
    refine ⟨h1, h3, ?_⟩
    have he : actEnv a' = upds (over (actEnv a) (asgOps ops.toList) (actEnv a')) (V s) := by
      have : over (actEnv a) (asgOps ops.toList) (actEnv a') = actEnv a' := by
        funext t
        unfold over
        cases hb : Nat.testBit (asgOps ops.toList) t with
        | true => rfl
        | false => exact (h3 t hb).symm
      rw [this, upds_self h4]
    rw [h2, he]
    exact hk s (actEnv a') w' h5
  | _ => exact hq.elim
end
end Go.Ev
