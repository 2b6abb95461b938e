/- The walk by evaluation, part 9: regions that draw their order, all orders looked at. -/
import Derived.Test.YthghiokcinpnlaaDoorEvOwn
import Derived.Orders
set_option linter.unusedSimpArgs false
set_option linter.unusedVariables false
namespace Go.Ev
open Go Go.RowKit

/-- the orders of a region: an operation that touches no memory is taken first; else each that may come next is looked at. -/
inductive Sch where
  | done
  | take (i : Nat) (r : Sch)
  | alt (i : Nat) (r : Sch) (l : Sch)
def evSch (T : Tab) (P : Program) (ext : Nat → Bool) (ops : List Oper) : Sch → Env → (Env → World → Prop) → World → Prop
  | .done, e, K, w => K e w
  | .take i r, e, K, w => match ops[i]? with
    | some o => match o.dst with
      | some d => match o.guard with
        | none => evS T o e (fun v => evSch T P ext ops r (upd e d v) K w) w
        | some (j, want) => match (ops[j]?).bind (·.dst) with
          | some g => asBool (e g) fun c => IfP (bif want then c else !c) (evS T o (upd e g (.bool want)) (fun v => evSch T P ext ops r (upd (upd e g (.bool want)) d v) K w) w)
              (evSch T P ext ops r (upd (upd e g (.bool !want)) d undef) K w)
          | none => False
      | none => False
    | none => False
  | .alt i r l, e, K, w => (match ops[i]? with
    | some o => match o.guard with
      | none => match o.dst with
        | some d => evOp T P ext (some 0) o e (fun v w => evSch T P ext ops r (upd e d v) K w) w
        | none => evOp T P ext (some 0) o e (fun v w => evSch T P ext ops r e K w) w
      | some (j, want) => match (ops[j]?).bind (·.dst) with
        | some g => asBool (e g) fun c => match o.dst with
          | some d => IfP (bif want then c else !c) (evOp T P ext (some 0) o (upd e g (.bool want)) (fun v w => evSch T P ext ops r (upd (upd e g (.bool want)) d v) K w) w)
              (evSch T P ext ops r (upd (upd e g (.bool !want)) d undef) K w)
          | none => IfP (bif want then c else !c) (evOp T P ext (some 0) o (upd e g (.bool want)) (fun v w => evSch T P ext ops r (upd e g (.bool want)) K w) w)
              (evSch T P ext ops r (upd e g (.bool !want)) K w)
        | none => False
    | none => False) ∧ (match l with | .alt i' r' l' => evSch T P ext ops (.alt i' r' l') e K w | _ => True)
def Sch.heads : Sch → List Nat
  | .alt i _ l => i :: heads l
  | _ => []
def Sch.depth : Sch → Nat
  | .done => 0
  | .take _ r => r.depth + 1
  | .alt _ r l => max (r.depth + 1) l.depth
def takeB (ops : Array Oper) (i : Nat) : Bool := match ops[i]? with
  | some o => match o.op with
    | .move _ => true
    | .assign _ => true
    | .nilCheck _ => true
    | .fieldAddr _ _ _ => true
    | _ => false
  | none => false
def okSch (ops : Array Oper) : Sch → Bool → Array Bool → Bool
  | .done, _, L => (Region.ready .any ops L).isEmpty
  | .take i r, _, L => (Region.ready .any ops L).contains i && Region.free .any ops L i && takeB ops i && okSch ops r true (L.setIfInBounds i true)
  | .alt i r l, top, L => (!top || (Region.ready .any ops L).all fun j => (Sch.alt i r l).heads.contains j) && !(Region.ready .any ops L).isEmpty && okSch ops r true (L.setIfInBounds i true) &&
      (match l with | .alt i' r' l' => okSch ops (.alt i' r' l') false L | _ => true)
def plainB (ops : Array Oper) (n : Nat) : Bool := ops.all fun o => (match o.dst with | some d => Nat.blt d n | none => true) && (match o.op with | .defer _ => false | _ => true)

section
variable {P : Program} {T : Tab}
theorem evS_take (hT : TabOk T P) {o : Oper} {e : Env} {k : Value → Prop} {w : World} (hop : (match o.op with | .move _ => true | .assign _ => true | .nilCheck _ => true | .fieldAddr _ _ _ => true | _ => false) = true) (h : evS T o e k w) :
    ∃ v, k v ∧ ∀ w', (execOp (get e) o).run P w' = .ok (.value v) w' := by
  cases ho : o.op <;> rw [ho] at hop <;> try exact Bool.noConfusion hop
  case move x => unfold evS at h; simp only [ho] at h; rw [force_eq] at h; exact ⟨_, h, fun w' => by unfold execOp; simp [ho]⟩
  case assign x => unfold evS at h; simp only [ho] at h; rw [force_eq] at h; exact ⟨_, h, fun w' => by unfold execOp; simp [ho]⟩
  case nilCheck x =>
    unfold evS at h; simp only [ho] at h
    split at h <;> try exact h.elim
    · rename_i a hx
      obtain ⟨b, rfl, hk⟩ := h.out
      exact ⟨_, hk, fun w' => by unfold execOp; simp [ho, hx]⟩
    · rename_i hx; exact ⟨_, h, fun w' => by unfold execOp; simp [ho, hx]⟩
    · rename_i hx; exact ⟨_, h, fun w' => by unfold execOp; simp [ho, hx]⟩
    · rename_i hx; exact ⟨_, h, fun w' => by unfold execOp; simp [ho, hx]⟩
  case fieldAddr s x f =>
    unfold evS at h; simp only [ho] at h
    unfold fieldOf at h
    split at h <;> try exact h.elim
    rename_i fs n b z hi
    obtain ⟨F, hu, hF⟩ := (hT _ _ hi).ty
    split at h <;> try exact h.elim
    rename_i off u hf
    split at h <;> try exact h.elim
    rename_i i hu'
    cases hz : Nat.beq i.size 0 with
    | true => rw [hz] at h; exact h.elim
    | false =>
      rw [hz] at h
      obtain ⟨p, hp, h1⟩ := asAddr_out h
      have hF' : ∃ g : Field, F[f]? = some g ∧ g.offset = off ∧ g.type = u := by
        rw [← hF] at hf
        simp only [List.getElem?_map, Option.map_eq_some_iff, Prod.mk.injEq] at hf
        obtain ⟨g, h1, h2, h3⟩ := hf
        exact ⟨g, by simpa using h1, h2, h3⟩
      obtain ⟨g, hg, rfl, rfl⟩ := hF'
      have hne : ¬ i.size = 0 := by intro h; rw [h] at hz; cases hz
      refine ⟨_, h1, fun w' => ?_⟩
      unfold execOp
      simp [ho, Instr.fieldAt, underlying, hu, hg, Instr.sureAddr, hp, fieldPlace, (hT _ _ hu').run_size, hne]

theorem asgOps_mem {ops : List Oper} {o : Oper} {d t : Nat} (ho : o ∈ ops) (hd : o.dst = some d) (h : Nat.testBit (asgOps ops) t = false) : t ≠ d := by
  induction ops with
  | nil => cases ho
  | cons x r ih =>
    obtain ⟨h1, h2⟩ := testBit_or h
    rcases List.mem_cons.1 ho with rfl | ho
    · rw [hd] at h1; exact testBit_one_shl h1
    · exact ih ho h2

/-- what holds of the temporaries on the way through a region. -/
def OnWay (ops : Array Oper) (a0 a : Act) : Prop := a.tmps.size = a0.tmps.size ∧ a.defers = a0.defers ∧ ∀ t, Nat.testBit (asgOps ops.toList) t = false → actEnv a t = actEnv a0 t
def QAny (ops : Array Oper) (a0 : Act) (K : Env → World → Prop) : Exit → Act → World → Prop := fun x a w => match x with
  | .normal => OnWay ops a0 a ∧ K (actEnv a) w
  | _ => False

theorem OnWay.put {ops : Array Oper} {a0 a : Act} {i : Nat} {o : Oper} (h : OnWay ops a0 a) (hi : ops[i]? = some o) (hpl : plainB ops a0.tmps.size = true) (v : Value) : OnWay ops a0 (a.put o.dst v) ∧ actEnv (a.put o.dst v) = updO (actEnv a) o.dst v := by
  obtain ⟨h1, h2, h3⟩ := h
  have hmem : o ∈ ops.toList := by
    have := Array.getElem?_eq_some_iff.1 hi
    obtain ⟨hlt, rfl⟩ := this
    exact Array.getElem_mem_toList hlt
  have hp : ((match o.dst with | some d => Nat.blt d a0.tmps.size | none => true) && (match o.op with | .defer _ => false | _ => true)) = true := by
    unfold plainB at hpl
    rw [Array.all_eq_true_iff_forall_mem] at hpl
    exact hpl o (by simpa using hmem)
  simp only [Bool.and_eq_true] at hp
  have hlt : ∀ t, o.dst = some t → t < a.tmps.size := by
    intro t ht; have := hp.1; rw [ht] at this; rw [h1]; simpa [Nat.blt_eq] using this
  have he := actEnv_put a o.dst v hlt
  refine ⟨⟨(put_size _ _ _).trans h1, (put_defers _ _ _).trans h2, fun t ht => ?_⟩, he⟩
  rw [he]
  cases hd : o.dst with
  | none => exact h3 t ht
  | some d =>
    have hne := asgOps_mem hmem hd ht
    show (bif Nat.beq t d then v else actEnv a t) = _
    have : Nat.beq t d = false := by
      cases hb : Nat.beq t d with
      | false => rfl
      | true => exact absurd (Nat.eq_of_beq_eq_true hb) hne
    rw [this]
    exact h3 t ht

theorem evSch_any (hT : TabOk T P) {ext : Nat → Bool} (hX : ExtOk P ext) {ops : Array Oper} {a0 : Act} {K : Env → World → Prop} (hpl : plainB ops a0.tmps.size = true) (hs : Region.noSelect ops = true) :
    ∀ (s : Sch), (∀ (L : Array Bool) (a : Act) (w : World) (fuel : Nat), okSch ops s true L = true → s.depth ≤ fuel → OnWay ops a0 a → evSch T P ext ops.toList s (actEnv a) K w → wpAny P .any ops (QAny ops a0 K) fuel L a w) ∧
      (∀ (top : Bool) (L : Array Bool) (a : Act) (w : World) (fuel : Nat), okSch ops s top L = true → s.depth ≤ fuel + 1 → OnWay ops a0 a → evSch T P ext ops.toList s (actEnv a) K w → ∀ i ∈ s.heads, wpOp P ops (QAny ops a0 K) i (wpAny P .any ops (QAny ops a0 K) fuel (L.setIfInBounds i true)) a w)
  | .done => by
    refine ⟨fun L a w fuel hok _ hon h => ?_, fun _ _ _ _ _ _ _ _ _ i hi => by cases hi⟩
    simp only [okSch, List.isEmpty_iff] at hok
    exact wpAny_done hok ⟨hon, h⟩ fuel
  | .take i r => by
    refine ⟨fun L a w fuel hok hd hon h => ?_, fun _ _ _ _ _ _ _ _ _ i hi => by cases hi⟩
    simp only [okSch, Bool.and_eq_true] at hok
    obtain ⟨⟨⟨h1, h2⟩, h3⟩, h4⟩ := hok
    obtain ⟨fuel, rfl⟩ : ∃ f, fuel = f + 1 := ⟨fuel - 1, by simp only [Sch.depth] at hd; omega⟩
    simp only [Sch.depth, Nat.add_le_add_iff_right] at hd
    unfold evSch at h
    split at h <;> try exact h.elim
    rename_i o ho
    split at h <;> try exact h.elim
    rename_i d hdst
    have ho' : ops[i]? = some o := by simpa using ho
    unfold takeB at h3
    rw [ho'] at h3
    have hy : ∃ v, Yields P ops o v a ∧ evSch T P ext ops.toList r (upd (actEnv a) d v) K w := by
      cases hg : o.guard with
      | none =>
        simp only [hg] at h
        obtain ⟨v, hk, hrun⟩ := evS_take hT h3 h
        exact ⟨v, .inl ⟨by simp [Region.wanted, hg], fun w' => by rw [eval_get]; exact hrun w'⟩, hk⟩
      | some jw =>
        obtain ⟨j, want⟩ := jw
        simp only [hg] at h
        split at h <;> try exact h.elim
        rename_i g hjd
        obtain ⟨c, hc, h5⟩ := asBool_out h
        have hw := guard_wanted hg hjd hc
        by_cases hcw : c = want
        · subst hcw
          have h6 := h5.t (by cases c <;> rfl)
          rw [upd_self hc] at h6
          obtain ⟨v, hk, hrun⟩ := evS_take hT h3 h6
          exact ⟨v, .inl ⟨by rw [hw]; simp, fun w' => by rw [eval_get]; exact hrun w'⟩, hk⟩
        · have hcn : c = !want := by cases c <;> cases want <;> simp at hcw ⊢
          have h6 := h5.f (by subst hcn; cases want <;> rfl)
          have hself : upd (actEnv a) g (.bool !want) = actEnv a := upd_self (by rw [hc, hcn])
          rw [hself] at h6
          exact ⟨undef, .inr ⟨by rw [hw]; simpa using hcw, rfl⟩, h6⟩
    obtain ⟨v, hy, hk⟩ := hy
    obtain ⟨g1, g2⟩ := hon.put ho' hpl v
    refine wpAny_take ho' hs h2 h1 (fun c a w h => h.elim) (v := v) hy ?_
    refine (evSch_any hT hX hpl hs r).1 _ _ _ _ h4 hd g1 ?_
    rw [g2, hdst]; exact hk
  | .alt i r l => by
    have key : ∀ (top : Bool) (L : Array Bool) (a : Act) (w : World) (fuel : Nat), okSch ops (.alt i r l) top L = true → (Sch.alt i r l).depth ≤ fuel + 1 → OnWay ops a0 a → evSch T P ext ops.toList (.alt i r l) (actEnv a) K w → ∀ j ∈ (Sch.alt i r l).heads, wpOp P ops (QAny ops a0 K) j (wpAny P .any ops (QAny ops a0 K) fuel (L.setIfInBounds j true)) a w := by
      intro top L a w fuel hok hd hon h j hj
      unfold okSch at hok
      simp only [Bool.and_eq_true] at hok
      obtain ⟨⟨⟨h1, h2⟩, h3⟩, h4⟩ := hok
      have hd1 : r.depth + 1 ≤ fuel + 1 := Nat.le_trans (Nat.le_max_left _ _) hd
      have hd2 : l.depth ≤ fuel + 1 := Nat.le_trans (Nat.le_max_right _ _) hd
      unfold evSch at h
      obtain ⟨hA, hB⟩ := h
      rcases List.mem_cons.1 hj with rfl | hj
      · split at hA <;> try exact hA.elim
        rename_i o ho
        have ho' : ops[j]? = some o := by simpa using ho
        have next : ∀ v w', evSch T P ext ops.toList r (updO (actEnv a) o.dst v) K w' → wpAny P .any ops (QAny ops a0 K) fuel (L.setIfInBounds j true) (a.put o.dst v) w' := by
          intro v w' hk
          obtain ⟨g1, g2⟩ := hon.put ho' hpl v
          refine (evSch_any hT hX hpl hs r).1 _ _ _ _ h3 (by omega) g1 ?_
          rw [g2]; exact hk
        unfold wpOp
        simp only [ho']
        cases hg : o.guard with
        | none =>
          simp only [hg] at hA
          have hA' : evOp T P ext (some 0) o (actEnv a) (fun v w => evSch T P ext ops.toList r (updO (actEnv a) o.dst v) K w) w := by
            cases hdst : o.dst with
            | none => rw [hdst] at hA; exact hA
            | some d => rw [hdst] at hA; exact hA
          rw [if_pos (by simp [Region.wanted, hg])]
          exact .inl (evOp_wp hT hX hA' next)
        | some jw =>
          obtain ⟨jg, want⟩ := jw
          simp only [hg] at hA
          split at hA <;> try exact hA.elim
          rename_i g hjd
          obtain ⟨c, hc, h5⟩ := asBool_out hA
          rw [guard_wanted hg hjd hc]
          have h5' : IfP (bif want then c else !c) (evOp T P ext (some 0) o (upd (actEnv a) g (.bool want)) (fun v w => evSch T P ext ops.toList r (updO (upd (actEnv a) g (.bool want)) o.dst v) K w) w)
              (evSch T P ext ops.toList r (updO (upd (actEnv a) g (.bool !want)) o.dst undef) K w) := by
            cases hdst : o.dst with
            | none => rw [hdst] at h5; exact h5
            | some d => rw [hdst] at h5; exact h5
          by_cases hcw : c = want
          · subst hcw
            have h6 := h5'.t (by cases c <;> rfl)
            rw [upd_self hc] at h6
            rw [if_pos (by simp)]
            exact .inl (evOp_wp hT hX h6 next)
          · have hcn : c = !want := by cases c <;> cases want <;> simp at hcw ⊢
            have h6 := h5'.f (by subst hcn; cases want <;> rfl)
            have hself : upd (actEnv a) g (.bool !want) = actEnv a := upd_self (by rw [hc, hcn])
            rw [hself] at h6
            rw [if_neg (by simp [hcw])]
            exact next undef w h6
      · cases l with
        | done => cases hj
        | take i' r' => cases hj
        | alt i' r' l' => exact (evSch_any hT hX hpl hs (.alt i' r' l')).2 false L a w fuel h4 (by omega) hon hB j hj
    refine ⟨fun L a w fuel hok hd hon h => ?_, key⟩
    have hok' := hok
    unfold okSch at hok'
    simp only [Bool.and_eq_true] at hok'
    obtain ⟨⟨⟨h1, h2⟩, h3⟩, h4⟩ := hok'
    have hd1 : r.depth + 1 ≤ fuel := Nat.le_trans (Nat.le_max_left _ _) hd
    obtain ⟨fuel, rfl⟩ : ∃ f, fuel = f + 1 := ⟨fuel - 1, by omega⟩
    refine wpAny_all rfl ?_ fun j hj => key true L a w fuel hok hd hon h j ?_
    · intro e; rw [e] at h2; simp at h2
    · simp only [Bool.not_true, Bool.false_or, List.all_eq_true] at h1
      simpa using h1 j hj

theorem DrawP.any {S : Type} (hT : TabOk T P) {ext : Nat → Bool} (hX : ExtOk P ext) (hm : P.follows .mixedOrders = true) {n id : Nat} {ops : Array Oper} {D : List Deferred} {e : Env} {Q : Post} {w : World} (s : Sch) (m : Nat) (hmask : asgOps ops.toList = m)
    (hchk : (okSch ops s true (Array.replicate ops.size false) && Nat.ble s.depth ops.size && plainB ops n && Region.noSelect ops) = true)
    (V : S → List (Nat × Value)) (I : S → World → Prop)
    (h : evSch T P ext ops.toList s e (fun e' w' => ∃ s, Slots e' (V s) ∧ I s w') { w with drawn := w.drawn + 1 })
    (hk : ∀ s j w', I s w' → Q .normal D (upds (over e m j) (V s)) w') : DrawP P none n (.region id ops true) D e Q w := by
  refine ⟨rfl, ?_⟩
  rintro a hn rfl rfl
  subst hmask
  simp only [Bool.and_eq_true] at hchk
  obtain ⟨⟨⟨hok, hd⟩, hpl⟩, hs⟩ := hchk
  refine wp_mono (wp_region_any hm ((evSch_any (a0 := a) hT hX (by rw [hn]; exact hpl) hs s).1 _ a _ _ hok (by rwa [Nat.ble_eq] at hd) ⟨rfl, rfl, fun _ _ => rfl⟩ h)) ?_
  rintro x a' w' hq
  cases x with
  | normal =>
    obtain ⟨⟨h1, h2, h3⟩, s, h4, h5⟩ := hq
    refine ⟨h1, h3, ?_⟩
    have he : actEnv a' = upds (over (actEnv a) (asgOps ops.toList) (actEnv a')) (V s) := by
      have : over (actEnv a) (asgOps ops.toList) (actEnv a') = actEnv a' := by
        funext t
        unfold over
        cases hb : Nat.testBit (asgOps ops.toList) t with
        | true => rfl
        | false => exact (h3 t hb).symm
      rw [this, upds_self h4]
    rw [h2, he]
    exact hk s (actEnv a') w' h5
  | _ => exact hq.elim
end
end Go.Ev
