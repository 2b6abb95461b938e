/- Texts of this proof, one behind the other: Kta EvKit EvMem. -/
import Derived.Test.YthneejblcffdgaaGreatDoorTabD
import Derived.Test.YthneejblcffdgaaGreatDoorEvSoundC
namespace Go.Proofs.YthneejblcffdgaaGreatDoor
open Go Go.Ev
/-! ### the table of the hashes -/
def ktab : List Int := [4794697086780616226, 8158064640168781261, 13096744586834688815, 16840607885511220156, 4131703408338449720, 6480981068601479193, 10538285296894168987, 12329834152419229976, 15566598209576043074, 1334009975649890238, 2608012711638119052, 6128411473006802146, 8268148722764581231, 9286055187155687089, 11230858885718282805, 13951009754708518548, 16472876342353939154, 17275323862435702243, 1135362057144423861, 2597628984639134821, 3308224258029322869, 5365058923640841347, 6679025012923562964, 8573033837759648693, 10970295158949994411, 12119686244451234320, 12683024718118986047, 13788192230050041572, 14330467153632333762, 15395433587784984357, 489312712824947311, 1452737877330783856, 2861767655752347644, 3322285676063803686, 5560940570517711597, 5996557281743188959, 7280758554555802590, 8532644243296465576, 9350256976987008742, 10552545826968843579, 11727347734174303076, 12113106623233404929, 14000437183269869457, 14369950271660146224, 15101387698204529176, 15463397548674623760, 17586052441742319658, 1182934255886127544, 1847814050463011016, 2177327727835720531, 2830643537854262169, 3796741975233480872, 4115178125766777443, 5681478168544905931, 6601373596472566643, 7507060721942968483, 8399075790359081724, 8693463985226723168, 9568029438360202098, 10144078919501101548, 10430055236837252648, 11840083180663258601, 13761210420658862357, 14299343276471374635, 14566680578165727644, 15097957966210449927, 16922976911328602910, 17689382322260857208, 500013540394364858, 748580250866718886, 1242879168328830382, 1977374033974150939, 2944078676154940804, 3659926193048069267, 4368137639120453308, 4836135668995329356, 5532061633213252278, 6448918945643986474, 6902733635092675308, 7801388544844847127]
theorem ktab_len : ktab.length = 80 := rfl
end Go.Proofs.YthneejblcffdgaaGreatDoor

/- The walk by evaluation, part 5: laws for use: tests, loads, stores, calls, loops, regions that draw; rows and blocks of memory. -/
set_option linter.unusedSimpArgs false
set_option linter.unusedVariables false
namespace Go.Ev
open Go

section
variable {P : Program} {T : Tab}

/-! ### tests -/
theorem IfP.dec {p : Prop} [Decidable p] {A B : Prop} (h1 : p → A) (h2 : ¬ p → B) : IfP (decide p) A B := ⟨fun h => h1 (of_decide_eq_true h), fun h => h2 (of_decide_eq_false h)⟩
theorem IfP.beq {a b : Int} {A B : Prop} (h1 : a = b → A) (h2 : a ≠ b → B) : IfP (a == b) A B := ⟨fun h => h1 (by simpa using h), fun h => h2 (by simpa using h)⟩
theorem IfP.bne {a b : Int} {A B : Prop} (h1 : a ≠ b → A) (h2 : a = b → B) : IfP (a != b) A B := ⟨fun h => h1 (by simpa using h), fun h => h2 (by simpa using h)⟩
theorem IfP.pos {c : Bool} {A B : Prop} (h : c = true) (h1 : A) : IfP c A B := IfP.mk (fun _ => h1) (fun h' => by rw [h] at h'; cases h')
theorem IfP.neg {c : Bool} {A B : Prop} (h : c = false) (h1 : B) : IfP c A B := IfP.mk (fun h' => by rw [h] at h'; cases h') (fun _ => h1)
theorem IfP.dpos {p : Prop} [Decidable p] {A B : Prop} (h : p) (h1 : A) : IfP (decide p) A B := .pos (decide_eq_true h) h1
theorem IfP.dneg {p : Prop} [Decidable p] {A B : Prop} (h : ¬ p) (h1 : B) : IfP (decide p) A B := .neg (decide_eq_false h) h1
theorem IfP.yes {A B : Prop} (h1 : A) : IfP true A B := .pos rfl h1
theorem IfP.no {A B : Prop} (h1 : B) : IfP false A B := .neg rfl h1
theorem IfP.both {c : Bool} {A B : Prop} (h1 : A) (h2 : B) : IfP c A B := IfP.mk (fun _ => h1) (fun _ => h2)

/-! ### calls -/
theorem CallP.intro {f : FuncId} {args : Array Value} {k : Value → World → Prop} {w : World} {R : Ending → World → Prop} (h : Calls P f args w R) (hk : ∀ e w', R e w' → ∃ v, e = .returned v ∧ k v w') : CallP P f args k w := ⟨h.mono hk⟩
theorem CallP.same {f : FuncId} {args : Array Value} {k : Value → World → Prop} {w : World} {v : Value} (h : Calls P f args w fun e w' => e = .returned v ∧ w' = w) (hk : k v w) : CallP P f args k w :=
  ⟨h.mono fun e w' ⟨h1, h2⟩ => ⟨v, h1, by rw [h2]; exact hk⟩⟩

/-! ### loops -/
def Slots (e : Env) : List (Nat × Value) → Prop
  | [] => True
  | (t, v) :: r => e t = v ∧ Slots e r
def upds (e : Env) : List (Nat × Value) → Env
  | [] => e
  | (t, v) :: r => upd (upds e r) t v
theorem upds_self {e : Env} : ∀ {l : List (Nat × Value)}, Slots e l → upds e l = e
  | [], _ => rfl
  | (t, v) :: r, h => by
    show upd (upds e r) t v = e
    rw [upds_self h.2]; exact upd_self h.1

theorem LoopP.go {S : Type} {asg : Nat} {body : Env → Post → World → Prop} {D : List Deferred} {e : Env} {Q : Post} {w : World} (m : Nat) (hm : asg = m) (V : S → List (Nat × Value)) (I : S → World → Prop) (μ : S → Nat) (s0 : S) (h0 : Slots e (V s0)) (hI : I s0 w)
    (round : ∀ s j w', I s w' → body (upds (over e m j) (V s)) (fun x D' e'' w'' => match x with
      | .normal => D' = D ∧ ∃ s', (Slots e'' (V s') ∧ I s' w'') ∧ μ s' < μ s
      | x => Q x D' e'' w'') w') : LoopP asg body D e Q w := by
  subst hm
  refine ⟨⟨S, fun s e w => Slots e (V s) ∧ I s w, μ, ⟨s0, h0, hI⟩, ?_⟩⟩
  rintro s j w' ⟨hs, hi⟩
  have := round s j w' hi
  rw [upds_self hs] at this
  exact this

/-! ### regions that draw their order -/
/-- An operation that hands back the very world that it got: also a call under such a contract. -/
def evSC (T : Tab) (P : Program) (ext : Nat → Bool) (o : Oper) (e : Env) (k : Value → Prop) (w : World) : Prop :=
  match o.op with
  | .call c => match c.callee with
    | .value f => match get e f with
      | .func (.func g) a cc => bif ext g then ExtP P g (a.toList ++ c.args.toList.map (get e) ++ cc.toList).toArray (fun v w' => w' = w ∧ k v) w
        else ∃ v, Calls P g (a.toList ++ c.args.toList.map (get e) ++ cc.toList).toArray w (fun e w' => e = .returned v ∧ w' = w) ∧ k v
      | _ => False
    | _ => evS T o e k w
  | _ => evS T o e k w
def evStill (T : Tab) (P : Program) (ext : Nat → Bool) (all : List Oper) : List Oper → Env → (Env → Prop) → World → Prop
  | [], e, K, _ => K e
  | o :: rest, e, K, w => match o.guard with
    | none => match o.dst with
      | some d => evSC T P ext o e (fun v => evStill T P ext all rest (upd e d v) K w) w
      | none => evSC T P ext o e (fun _ => evStill T P ext all rest e K w) w
    | some (j, want) => match (all[j]?).bind (·.dst) with
      | some g => asG (e g) (fun c => match o.dst with
        | some d => IfP (bif want then c else !c) (evSC T P ext o (upd e g (.bool want)) (fun v => evStill T P ext all rest (upd (upd e g (.bool want)) d v) K w) w)
          (evStill T P ext all rest (upd (upd e g (.bool !want)) d undef) K w)
        | none => IfP (bif want then c else !c) (evSC T P ext o (upd e g (.bool want)) (fun _ => evStill T P ext all rest (upd e g (.bool want)) K w) w)
          (evStill T P ext all rest (upd e g (.bool !want)) K w)) (match o.dst with
        | some d => evStill T P ext all rest (upd e d undef) K w
        | none => evStill T P ext all rest e K w)
      | none => False
theorem evStill_cons {T : Tab} {P : Program} {ext : Nat → Bool} {all : List Oper} {o : Oper} {rest : List Oper} {e : Env} {K : Env → Prop} {w : World} :
    evStill T P ext all (o :: rest) e K w = match o.guard with
    | none => evSC T P ext o e (fun v => evStill T P ext all rest (updO e o.dst v) K w) w
    | some (j, want) => match (all[j]?).bind (·.dst) with
      | some d => asG (e d) (fun c =>
        IfP (bif want then c else !c) (evSC T P ext o (upd e d (.bool want)) (fun v => evStill T P ext all rest (updO (upd e d (.bool want)) o.dst v) K w) w)
          (evStill T P ext all rest (updO (upd e d (.bool !want)) o.dst undef) K w)) (evStill T P ext all rest (updO e o.dst undef) K w)
      | none => False := by
  conv => lhs; unfold evStill
  cases o.guard with
  | none => cases o.dst <;> rfl
  | some jw =>
    obtain ⟨j, want⟩ := jw
    simp only
    cases (all[j]?).bind (·.dst) with
    | none => rfl
    | some g => cases o.dst <;> rfl
end
section
variable {P : Program} {T : Tab}

theorem evSC_still (hT : TabOk T P) {ext : Nat → Bool} (hX : ExtOk P ext) {o : Oper} {a : Act} {w : World} {k : Value → Prop} {next : Act → Prop} (h : evSC T P ext o (actEnv a) k w) (hk : ∀ v, k v → next (a.put o.dst v)) : o.still P a w next := by
  have hS : evS T o (actEnv a) k w → o.still P a w next := fun h => by
    obtain ⟨v, hv, h1⟩ := evS_run hT h
    unfold Oper.still
    rw [eval_get, hv]
    exact ⟨rfl, hk _ h1⟩
  unfold evSC at h
  split at h
  · rename_i c ho
    split at h
    · rename_i f hf
      split at h <;> try exact h.elim
      rename_i g f0 c0 hv
      have hargs : c.args.map (get (actEnv a)) = (c.args.toList.map (get (actEnv a))).toArray := by rw [← List.map_toArray]
      have he : (execOp (get (actEnv a)) o) = (do let d ← resolve (get (actEnv a)) c o.type; invoke d.target d.args) := by unfold execOp; simp only [ho]
      have hres : (do let d ← resolve (get (actEnv a)) c o.type; invoke d.target d.args : Sem Next).run P w = (callFunc g (f0.toList ++ c.args.toList.map (get (actEnv a)) ++ c0.toList).toArray).run P w := by
        simp only [resolve, hf, hv, Deferred.ofValue, hargs, Sem.run_bind, Sem.run_pure, Result.andThen_ok, invoke]
        congr 2
        simp
      unfold Oper.still
      rw [eval_get, he, hres]
      cases hx : ext g with
      | true =>
        rw [hx] at h
        obtain ⟨v, w', h1, rfl, h2⟩ := h.out
        rw [h1]
        exact ⟨rfl, hk _ h2⟩
      | false =>
        rw [hx] at h
        obtain ⟨v, h1, h2⟩ := h
        rw [run_enters (hX g hx)]
        exact ⟨rfl, v, h1, hk _ h2⟩
    · exact hS h
  · exact hS h

/-- the guard of an operation, at the machine's own state. -/
theorem guard_wanted {ops : Array Oper} {o : Oper} {a : Act} {j d : Nat} {want c : Bool} (hg : o.guard = some (j, want)) (hjd : (ops.toList[j]?).bind (·.dst) = some d) (hc : actEnv a d = .bool c) :
    Region.wanted o (yielded ops a.tmps) = (c == want) := by
  have hjd' : (ops[j]?).bind (·.dst) = some d := by simpa using hjd
  have hdl : a.tmps[d]? = some (.bool c) := by
    have hc' : a.tmps.getD d undef = .bool c := hc
    rw [Array.getD_eq_getD_getElem?] at hc'
    cases hx : a.tmps[d]? with
    | none => rw [hx] at hc'; cases hc'
    | some v => rw [hx] at hc'; simpa using hc'
  have hy : yielded ops a.tmps j = some c := by simp [yielded, hjd', hdl]
  simp [Region.wanted, hg, hy]

theorem evStill_wp (hT : TabOk T P) {ext : Nat → Bool} (hX : ExtOk P ext) {ops : Array Oper} {n : Nat} {w : World} :
    ∀ (rest : List Oper) (a : Act) (K : Env → Prop) (K' : Act → Prop), okOps n rest = true → a.tmps.size = n →
      evStill T P ext ops.toList rest (actEnv a) K w → (∀ a', FrO (asgOps rest) a (fun e _ => K e) a' w → K' a') → wpStill P ops w K' rest a
  | [], a, K, K', _, _, h, hq => hq a ⟨rfl, rfl, fun _ _ => rfl, h⟩
  | o :: rest, a, K, K', hok, hn, h, hq => by
    simp only [okOps, Bool.and_eq_true] at hok
    obtain ⟨⟨hdst, hdef⟩, hok'⟩ := hok
    have hlt : ∀ t, o.dst = some t → t < a.tmps.size := by
      intro t ht; rw [ht] at hdst; rw [hn]; simpa [Nat.blt_eq] using hdst
    have step : ∀ v, evStill T P ext ops.toList rest (updO (actEnv a) o.dst v) K w → wpStill P ops w K' rest (a.put o.dst v) := by
      intro v h'
      refine evStill_wp hT hX rest _ K K' hok' (by rw [put_size, hn]) (by rw [actEnv_put _ _ _ hlt]; exact h') ?_
      rintro a' ⟨h1, h2, h3, h4⟩
      refine hq a' ⟨h1.trans (put_size _ _ _), h2.trans (put_defers _ _ _), fun t ht => ?_, h4⟩
      obtain ⟨t1, t2⟩ := testBit_or ht
      rw [h3 t t2, actEnv_put _ _ _ hlt, updO_other t1]
    unfold wpStill
    rw [evStill_cons] at h
    cases hg : o.guard with
    | none =>
      simp only [hg] at h
      have hw : Region.wanted o (yielded ops a.tmps) = true := by simp [Region.wanted, hg]
      rw [if_pos hw]
      exact evSC_still hT hX h step
    | some jw =>
      obtain ⟨j, want⟩ := jw
      simp only [hg] at h
      split at h <;> try exact h.elim
      rename_i d hjd
      rcases asG_out h with ⟨c, hc, h1⟩ | ⟨hnb, h1⟩
      rotate_left
      · rw [guard_unwanted hg hjd hnb, if_neg (by simp)]
        exact step undef h1
      rw [guard_wanted hg hjd hc]
      by_cases hcw : c = want
      · subst hcw
        have h2 := h1.t (by cases c <;> rfl)
        rw [upd_self hc] at h2
        rw [if_pos (by simp)]
        exact evSC_still hT hX h2 step
      · have hcn : c = !want := by cases c <;> cases want <;> simp at hcw ⊢
        have h2 := h1.f (by subst hcn; cases want <;> rfl)
        rw [upd_self (by rw [hc, hcn])] at h2
        rw [if_neg (by simp [hcw])]
        exact step undef h2

theorem evOp_wp (hT : TabOk T P) {ext : Nat → Bool} (hX : ExtOk P ext) {o : Oper} {a : Act} {w : World} {k : Value → World → Prop} {next : Act → World → Prop} {Q : Exit → Act → World → Prop}
    (h : evOp T P ext (some 0) o (actEnv a) k w) (hk : ∀ v w', k v w' → next (a.put o.dst v) w') : o.wp P a w next Q := by
  unfold Oper.wp
  rw [eval_get]
  by_cases hc : ∀ c f, o.op = .call c → c.callee ≠ .value f
  · obtain ⟨nx, v, w', h1, h2, h3⟩ := evOp_run hT hc h
    rw [h1]
    rcases h2 with rfl | ⟨rfl, rfl⟩
    · exact hk _ _ h3
    · exact hk _ _ h3
  · have : ∃ c f, o.op = .call c ∧ c.callee = .value f := by
      apply Classical.byContradiction
      intro hn
      exact hc fun c f h1 h2 => hn ⟨c, f, h1, h2⟩
    obtain ⟨c, f, ho, hf⟩ := this
    unfold evOp at h
    simp only [ho, hf] at h
    have he : (execOp (get (actEnv a)) o) = (do let d ← resolve (get (actEnv a)) c o.type; invoke d.target d.args) := by unfold execOp; simp only [ho]
    rw [he]
    have hargs : c.args.map (get (actEnv a)) = (c.args.toList.map (get (actEnv a))).toArray := by rw [← List.map_toArray]
    unfold evCall at h
    split at h <;> try exact h.elim
    · rename_i g f0 c0 hv
      have hres : (do let d ← resolve (get (actEnv a)) c o.type; invoke d.target d.args : Sem Next).run P w = (callFunc g (f0.toList ++ c.args.toList.map (get (actEnv a)) ++ c0.toList).toArray).run P w := by
        simp only [resolve, hf, hv, Deferred.ofValue, hargs, Sem.run_bind, Sem.run_pure, Result.andThen_ok, invoke]
        congr 2
        simp
      rw [hres]
      cases hx : ext g with
      | true =>
        rw [hx] at h
        obtain ⟨v, w', h1, h2⟩ := h.out
        rw [h1]
        exact hk _ _ h2
      | false =>
        rw [hx] at h
        rw [run_enters (hX g hx)]
        refine h.out.mono ?_
        rintro e w' ⟨v, rfl, hkv⟩
        exact hk _ _ hkv
    · exact absurd h.out.1 (by simp)

theorem evOps_wpList (hT : TabOk T P) {ext : Nat → Bool} (hX : ExtOk P ext) {ops : Array Oper} {Q : Exit → Act → World → Prop} {n : Nat} :
    ∀ (rest : List Oper) (a : Act) (w : World) (K : Env → World → Prop), okOps n rest = true → a.tmps.size = n →
      evOps T P ext (some 0) ops.toList rest (actEnv a) K w → (∀ a' w', FrO (asgOps rest) a K a' w' → Q .normal a' w') → wpList P ops Q rest a w
  | [], a, w, K, _, _, h, hq => hq a w ⟨rfl, rfl, fun _ _ => rfl, h⟩
  | o :: rest, a, w, K, hok, hn, h, hq => by
    simp only [okOps, Bool.and_eq_true] at hok
    obtain ⟨⟨hdst, hdef⟩, hok'⟩ := hok
    have hlt : ∀ t, o.dst = some t → t < a.tmps.size := by
      intro t ht; rw [ht] at hdst; rw [hn]; simpa [Nat.blt_eq] using hdst
    have hdefer : ∀ c, o.op ≠ .defer c := by
      intro c hc; rw [hc] at hdef; cases hdef
    have step : ∀ v w', evOps T P ext (some 0) ops.toList rest (updO (actEnv a) o.dst v) K w' → wpList P ops Q rest (a.put o.dst v) w' := by
      intro v w' h'
      refine evOps_wpList hT hX rest _ w' K hok' (by rw [put_size, hn]) (by rw [actEnv_put _ _ _ hlt]; exact h') ?_
      rintro a' w'' ⟨h1, h2, h3, h4⟩
      refine hq a' w'' ⟨h1.trans (put_size _ _ _), h2.trans (put_defers _ _ _), fun t ht => ?_, h4⟩
      obtain ⟨t1, t2⟩ := testBit_or ht
      rw [h3 t t2, actEnv_put _ _ _ hlt, updO_other t1]
    have op : ∀ e, evOp T P ext (some 0) o e (fun v w => evOps T P ext (some 0) ops.toList rest (updO e o.dst v) K w) w → e = actEnv a → o.wp P a w (wpList P ops Q rest) Q := by
      rintro e h rfl
      exact evOp_wp hT hX h step
    unfold wpList
    rw [evOps_cons] at h
    cases hg : o.guard with
    | none =>
      simp only [hg] at h
      have hw : Region.wanted o (yielded ops a.tmps) = true := by simp [Region.wanted, hg]
      rw [if_pos hw]
      exact .inl (op _ h rfl)
    | some jw =>
      obtain ⟨j, want⟩ := jw
      simp only [hg] at h
      split at h <;> try exact h.elim
      rename_i d hjd
      rcases asG_out h with ⟨c, hc, h1⟩ | ⟨hnb, h1⟩
      rotate_left
      · rw [guard_unwanted hg hjd hnb, if_neg (by simp)]
        exact step undef w h1
      rw [guard_wanted hg hjd hc]
      by_cases hcw : c = want
      · subst hcw
        have h2 := h1.t (by cases c <;> rfl)
        rw [upd_self hc] at h2
        rw [if_pos (by simp)]
        exact .inl (op _ h2 rfl)
      · have hcn : c = !want := by cases c <;> cases want <;> simp at hcw ⊢
        have h2 := h1.f (by subst hcn; cases want <;> rfl)
        rw [upd_self (by rw [hc, hcn])] at h2
        rw [if_neg (by simp [hcw])]
        exact step undef w h2

theorem DrawP.still (hT : TabOk T P) {ext : Nat → Bool} (hX : ExtOk P ext) (hm : P.follows .mixedOrders = true) {n id : Nat} {ops : Array Oper} {D : List Deferred} {e : Env} {Q : Post} {w : World}
    (hB : Region.lexB .any ops = true) (hok : okOps n ops.toList = true)
    (h : evStill T P ext ops.toList ops.toList e (fun e' => Q .normal D e' { w with drawn := w.drawn + 1 }) { w with drawn := w.drawn + 1 }) : DrawP P none n (.region id ops true) D e Q w := by
  refine ⟨rfl, ?_⟩
  rintro a hn rfl rfl
  refine wp_region_still hm hB (evStill_wp hT hX ops.toList a _ _ hok hn h ?_)
  rintro a' ⟨h1, h2, h3, h4⟩
  exact ⟨h1, h3, by rw [h2]; exact h4⟩

theorem DrawP.tail (hT : TabOk T P) {ext : Nat → Bool} (hX : ExtOk P ext) (hm : P.follows .mixedOrders = true) {n id : Nat} {ops : Array Oper} {D : List Deferred} {e : Env} {Q : Post} {w : World} (m : Nat)
    (hB : Region.lexTailB .any ops m = true) (hok : okOps n ops.toList = true)
    (h : evStill T P ext ops.toList (ops.toList.take m) e (fun e' => evOps T P ext (some 0) ops.toList (ops.toList.drop m) e' (fun e w => Q .normal D e w) { w with drawn := w.drawn + 1 }) { w with drawn := w.drawn + 1 }) : DrawP P none n (.region id ops true) D e Q w := by
  refine ⟨rfl, ?_⟩
  rintro a hn rfl rfl
  have hokT : okOps n (ops.toList.take m) = true ∧ okOps n (ops.toList.drop m) = true := by
    have key : ∀ (l : List Oper) (m : Nat), okOps n l = true → okOps n (l.take m) = true ∧ okOps n (l.drop m) = true := by
      intro l
      induction l with
      | nil => intro m _; simp [okOps]
      | cons o l ih =>
        intro m h
        cases m with
        | zero => exact ⟨rfl, h⟩
        | succ m =>
          simp only [okOps, Bool.and_eq_true] at h
          have := ih m h.2
          simp only [List.take_succ_cons, List.drop_succ_cons, okOps, Bool.and_eq_true]
          exact ⟨⟨h.1, this.1⟩, this.2⟩
    exact key _ _ hok
  have hasg : ∀ (l : List Oper) (m t : Nat), Nat.testBit (asgOps l) t = false → Nat.testBit (asgOps (l.take m)) t = false ∧ Nat.testBit (asgOps (l.drop m)) t = false := by
    intro l
    induction l with
    | nil => intro m t h; simp [asgOps]
    | cons o l ih =>
      intro m t h
      cases m with
      | zero => exact ⟨by simp [asgOps], h⟩
      | succ m =>
        obtain ⟨h1, h2⟩ := testBit_or h
        have := ih m t h2
        refine ⟨?_, this.2⟩
        show Nat.testBit (_ ||| asgOps (l.take m)) t = false
        rw [Nat.testBit_or, h1, this.1]; rfl
  have ha : ops = ops.toList.toArray := (Array.toArray_toList).symm
  have main := wp_region_still_tail (P := P) (id := id) (Q := Fr (asg (.region id ops true)) a Q) (a := a) (w := w) (l := ops.toList) m hm (by rw [← ha]; exact hB) ?_
  · rw [← ha] at main; exact main
  · rw [← ha]
    refine evStill_wp hT hX (ops.toList.take m) a _ _ hokT.1 hn h ?_
    rintro a1 ⟨h1, h2, h3, h4⟩
    refine evOps_wpList hT hX (ops.toList.drop m) a1 _ _ hokT.2 (h1.trans hn) h4 ?_
    rintro a2 w2 ⟨k1, k2, k3, k4⟩
    refine ⟨k1.trans h1, fun t ht => ?_, by rw [k2, h2]; exact k4⟩
    obtain ⟨t1, t2⟩ := hasg ops.toList m t ht
    rw [k3 t t2, h3 t t1]
end
end Go.Ev

/- The walk by evaluation, part 6: rows and blocks of memory. -/
set_option linter.unusedSimpArgs false
set_option linter.unusedVariables false
namespace Go.Ev
open Go Go.RowKit

theorem add_none (b o n : Nat) : (⟨b, o, none⟩ : Addr).add n = ⟨b, o + n, none⟩ := by
  unfold Addr.add; split
  · rename_i h; subst h; rfl
  · rfl
abbrev World.drw (w : World) : World := { w with drawn := w.drawn + 1 }

/-- A slice reads as numbers of one kind. -/
def Row (w : World) (a : Option Addr) (K : IntKind) (xs : List Int) : Prop :=
  ∀ i (h : i < xs.length), ∃ b o, a = some ⟨b, o, none⟩ ∧ w.cell? ⟨b, o + i, none⟩ = some (.int K xs[i])
/-- A block known whole. -/
def Blk (w : World) (b : Nat) (cs : List Value) (T : TypeId) : Prop := w.heap[b]? = some (.cells cs.toArray T (0, 0))

theorem cell_lt {w : World} {p : Addr} {v : Value} (h : w.cell? p = some v) : p.block < w.heap.size := by
  rcases Nat.lt_or_ge p.block w.heap.size with h1 | h1
  · exact h1
  · simp [World.cell?, h1] at h
theorem Blk.lt {w : World} {b : Nat} {cs : List Value} {T : TypeId} (h : Blk w b cs T) : b < w.heap.size := (Array.getElem?_eq_some_iff.1 h).1
theorem Blk.cell {w : World} {b : Nat} {cs : List Value} {T : TypeId} (h : Blk w b cs T) (i : Nat) : w.cell? ⟨b, i, none⟩ = cs[i]? := by
  unfold Blk at h; simp [World.cell?, h]
theorem Blk.cellA {w : World} {b : Nat} {cs : List Value} {T : TypeId} (h : Blk w b cs T) (o i : Nat) : w.cell? ((⟨b, o, none⟩ : Addr).add i) = cs[o + i]? := by rw [add_none]; exact h.cell _
theorem Blk.frozen {w : World} {b : Nat} {cs : List Value} {T : TypeId} (h : Blk w b cs T) (p : Addr) (hp : p.block = b) : w.frozen? p = false := by
  unfold Blk at h; simp [World.frozen?, hp, h]
theorem Blk.new (w : World) (cs : List Value) (T : TypeId) : Blk (w.alloc (.cells cs.toArray T)) w.heap.size cs T := by
  unfold Blk; exact World.alloc_heap_new w _
theorem Blk.newA (w : World) (cs : Array Value) (T : TypeId) : Blk (w.alloc (.cells cs T)) w.heap.size cs.toList T := by
  unfold Blk; rw [Array.toArray_toList]; exact World.alloc_heap_new w _
theorem Blk.alloc {w : World} {b : Nat} {cs : List Value} {T : TypeId} (h : Blk w b cs T) (o : Obj) : Blk (w.alloc o) b cs T := (Below.heap_alloc w o b h.lt).trans h
theorem Blk.drw {w : World} {b : Nat} {cs : List Value} {T : TypeId} (h : Blk w b cs T) : Blk { w with drawn := w.drawn + 1 } b cs T := h
theorem Blk.below {w w' : World} {B b : Nat} {cs : List Value} {T : TypeId} (h : Blk w b cs T) (hb : Below B w w') (hlt : b < B) : Blk w' b cs T := (hb.block b hlt).trans h
theorem Blk.belowS {w w' : World} {b : Nat} {cs : List Value} {T : TypeId} (h : Blk w b cs T) (hb : Below w.heap.size w w') : Blk w' b cs T := h.below hb h.lt
theorem Blk.setCell_ne {w : World} {b : Nat} {cs : List Value} {T : TypeId} (h : Blk w b cs T) (p : Addr) (v : Value) (hp : p.block ≠ b) : Blk (w.setCell p v) b cs T := (Below.heap_setCell w p v b (fun e => hp e.symm)).trans h
theorem Blk.setCell {w : World} {b : Nat} {cs : List Value} {T : TypeId} (h : Blk w b cs T) (i : Nat) (v : Value) : Blk (w.setCell ⟨b, i, none⟩ v) b (cs.set i v) T := by
  unfold Blk at h ⊢
  simp [World.setCell, Array.getElem?_modify, h]
theorem Blk.setCellA {w : World} {b : Nat} {cs : List Value} {T : TypeId} (h : Blk w b cs T) (o i : Nat) (v : Value) : Blk (w.setCell ((⟨b, o, none⟩ : Addr).add i) v) b (cs.set (o + i) v) T := by rw [add_none]; exact h.setCell _ _
theorem size_setCell (w : World) (p : Addr) (v : Value) : (w.setCell p v).heap.size = w.heap.size := by simp [World.setCell]
theorem size_alloc (w : World) (o : Obj) : (w.alloc o).heap.size = w.heap.size + 1 := by simp
theorem Blk.setCells {b : Nat} {T : TypeId} (o : Nat) : ∀ (vs : List Value) (i : Nat) (w : World) (cs : List Value), Blk w b cs T → o + i + vs.length ≤ cs.length →
    Blk (setCells w ⟨b, o, none⟩ vs i) b (cs.take (o + i) ++ vs ++ cs.drop (o + i + vs.length)) T
  | [], i, w, cs, h, _ => by simpa [Ev.setCells] using h
  | v :: r, i, w, cs, h, hl => by
    simp only [List.length_cons] at hl
    have := Blk.setCells o r (i + 1) _ _ (h.setCellA o i v) (by simp; omega)
    refine (congrArg (fun l => Blk (Ev.setCells w ⟨b, o, none⟩ (v :: r) i) b l T) ?_).mp this
    apply List.ext_getElem?
    intro n
    simp only [List.getElem?_append, List.getElem?_take, List.getElem?_drop, List.length_append, List.length_take, List.length_set, List.getElem?_set, List.length_cons]
    rcases Nat.lt_trichotomy n (o + i) with hn | hn | hn
    · simp only [show n < o + (i + 1) by omega, show n < o + i by omega, show ¬ o + i = n by omega, show n < min (o + i) cs.length by omega, show n < min (o + (i + 1)) cs.length by omega, show n < min (o + (i + 1)) cs.length + r.length by omega, show n < min (o + i) cs.length + (r.length + 1) by omega, if_true, if_false]
    · subst hn
      simp only [show o + i < o + (i + 1) by omega, show ¬ o + i < min (o + i) cs.length by omega, show o + i < min (o + (i + 1)) cs.length by omega, show o + i < min (o + (i + 1)) cs.length + r.length by omega, show o + i < min (o + i) cs.length + (r.length + 1) by omega, show o + i < cs.length by omega, if_true, if_false]
      simp [show min (o + i) cs.length = o + i by omega]
    · by_cases h3 : n < o + i + (r.length + 1)
      · simp only [show ¬ n < min (o + (i + 1)) cs.length by omega, show ¬ n < min (o + i) cs.length by omega, show n < min (o + (i + 1)) cs.length + r.length by omega, show n < min (o + i) cs.length + (r.length + 1) by omega, if_true, if_false]
        obtain ⟨m, rfl⟩ : ∃ m, n = o + i + 1 + m := ⟨n - (o + i + 1), by omega⟩
        rw [show o + i + 1 + m - min (o + (i + 1)) cs.length = m by omega, show o + i + 1 + m - min (o + i) cs.length = m + 1 by omega, List.getElem?_cons_succ]
      · simp only [show ¬ n < min (o + (i + 1)) cs.length by omega, show ¬ n < min (o + i) cs.length by omega, show ¬ n < min (o + (i + 1)) cs.length + r.length by omega, show ¬ n < min (o + i) cs.length + (r.length + 1) by omega, if_false]
        rw [show o + (i + 1) + r.length + (n - (min (o + (i + 1)) cs.length + r.length)) = n by omega, show o + i + (r.length + 1) + (n - (min (o + i) cs.length + (r.length + 1))) = n by omega, if_neg (by omega)]
theorem Blk.setAll {w : World} {b : Nat} {cs vs : List Value} {T : TypeId} (h : Blk w b cs T) (hl : vs.length = cs.length) : Blk (Ev.setCells w ⟨b, 0, none⟩ vs 0) b vs T := by
  have := Blk.setCells 0 vs 0 w cs h (by omega)
  rw [show (0 + 0 + vs.length) = cs.length by omega, List.drop_length, List.append_nil] at this
  simpa using this
theorem setCells_block (a : Addr) : ∀ (vs : List Value) (i : Nat) (w : World) (k : Nat), k ≠ a.block → (setCells w a vs i).heap[k]? = w.heap[k]?
  | [], _, _, _, _ => rfl
  | v :: r, i, w, k, h => by
    rw [setCells, setCells_block a r (i + 1) _ k h]
    exact Below.heap_setCell w _ v k (fun e => h (by rw [e]; unfold Addr.add; split <;> rfl))
theorem Blk.setCells_ne {w : World} {b : Nat} {cs : List Value} {T : TypeId} (h : Blk w b cs T) (p : Addr) (vs : List Value) (i : Nat) (hp : p.block ≠ b) : Blk (Ev.setCells w p vs i) b cs T := (setCells_block p vs i w b (fun e => hp e.symm)).trans h
theorem size_setCells (a : Addr) : ∀ (vs : List Value) (i : Nat) (w : World), (setCells w a vs i).heap.size = w.heap.size
  | [], _, _ => rfl
  | v :: r, i, w => by rw [setCells, size_setCells a r]; exact size_setCell _ _ _
theorem below_setCells {B : Nat} {a : World} (p : Addr) (hp : B ≤ p.block) : ∀ (vs : List Value) (i : Nat) (w : World), Below B a w → Below B a (setCells w p vs i)
  | [], _, _, h => h
  | v :: r, i, w, h => below_setCells p hp r (i + 1) _ (h.setCell (p := p.add i) (by unfold Addr.add; split <;> exact hp) v)
theorem Below.drw {B : Nat} {a w : World} (h : Below B a w) : Below B a { w with drawn := w.drawn + 1 } := h.drew

theorem Row.nil (w : World) (a : Option Addr) (K : IntKind) : Row w a K [] := fun i h => absurd h (by simp)
theorem Row.cells {w w' : World} {a : Option Addr} {K : IntKind} {xs : List Int} (h : Row w a K xs) (hw : ∀ p v, w.cell? p = some v → w'.cell? p = some v) : Row w' a K xs := fun i hi => by
  obtain ⟨b, o, h1, h2⟩ := h i hi; exact ⟨b, o, h1, hw _ _ h2⟩
theorem Row.below {w w' : World} {a : Option Addr} {K : IntKind} {xs : List Int} (h : Row w a K xs) (hb : Below w.heap.size w w') : Row w' a K xs :=
  h.cells fun p v hv => (hb.cell (cell_lt hv)).trans hv
theorem Row.alloc {w : World} {a : Option Addr} {K : IntKind} {xs : List Int} (h : Row w a K xs) (o : Obj) : Row (w.alloc o) a K xs :=
  h.below ((Below.refl _ w).alloc (Nat.le_refl _) o)
theorem Row.drw {w : World} {a : Option Addr} {K : IntKind} {xs : List Int} (h : Row w a K xs) : Row { w with drawn := w.drawn + 1 } a K xs := h
theorem Row.belowLt {w w' : World} {B : Nat} {a : Option Addr} {K : IntKind} {xs : List Int} (h : Row w a K xs) (hb : Below B w w') (ha : ∀ p, a = some p → p.block < B) : Row w' a K xs := fun i hi => by
  obtain ⟨b, o, h1, h2⟩ := h i hi
  exact ⟨b, o, h1, (hb.cell (p := ⟨b, o + i, none⟩) (show b < B from ha ⟨b, o, none⟩ h1)).trans h2⟩
/-- the blocks in which a row lies are not block b. -/
def Row.Off (a : Option Addr) (b : Nat) : Prop := ∀ p, a = some p → p.block ≠ b
theorem Row.setCell {w : World} {a : Option Addr} {K : IntKind} {xs : List Int} (h : Row w a K xs) (p : Addr) (v : Value) (ho : Row.Off a p.block) : Row (w.setCell p v) a K xs := fun i hi => by
  obtain ⟨b, o, h1, h2⟩ := h i hi
  refine ⟨b, o, h1, ?_⟩
  rw [World.cell?_of_block (w := w) (Below.heap_setCell w p v b (fun e => ho _ h1 e))]; exact h2
theorem Row.setCells {w : World} {a : Option Addr} {K : IntKind} {xs : List Int} (h : Row w a K xs) (p : Addr) (vs : List Value) (i : Nat) (ho : Row.Off a p.block) : Row (Ev.setCells w p vs i) a K xs := fun j hj => by
  obtain ⟨b, o, h1, h2⟩ := h j hj
  refine ⟨b, o, h1, ?_⟩
  rw [World.cell?_of_block (w := w) (setCells_block p vs i w b (fun e => ho _ h1 e))]; exact h2
/-- A row of memory that is older than block B does not lie in it. -/
theorem Row.off {w : World} {a : Option Addr} {K : IntKind} {xs : List Int} (h : Row w a K xs) (hx : 0 < xs.length) {b : Nat} (hb : w.heap.size ≤ b) : Row.Off a b := by
  obtain ⟨b', o, h1, h2⟩ := h 0 hx
  intro p hp
  rw [h1] at hp; cases hp
  have := cell_lt h2; simp only at this ⊢; omega
theorem Row.of_blk {w : World} {b : Nat} {K : IntKind} {xs : List Int} {cs : List Value} {T : TypeId} (o : Nat) (h : Blk w b cs T) (hx : ∀ i (hi : i < xs.length), cs[o + i]? = some (.int K xs[i])) : Row w (some ⟨b, o, none⟩) K xs := fun i hi =>
  ⟨b, o, rfl, (h.cell _).trans (hx i hi)⟩
theorem Row.take {w : World} {a : Option Addr} {K : IntKind} {xs : List Int} (h : Row w a K xs) (n : Nat) : Row w a K (xs.take n) := fun i hi => by
  obtain ⟨b, o, h1, h2⟩ := h i (by simp at hi; omega)
  exact ⟨b, o, h1, by rw [h2]; simp⟩
theorem Row.drop {w : World} {a : Option Addr} {K : IntKind} {xs : List Int} (h : Row w a K xs) (n : Nat) : Row w (a.map (·.add n)) K (xs.drop n) := fun i hi => by
  obtain ⟨b, o, h1, h2⟩ := h (n + i) (by simp at hi; omega)
  refine ⟨b, o + n, by rw [h1]; simp [add_none], by rw [Nat.add_assoc, h2]; simp⟩
theorem Row.append_left {w : World} {a : Option Addr} {K : IntKind} {xs ys : List Int} (h : Row w a K (xs ++ ys)) : Row w a K xs := by
  have := h.take xs.length; simpa using this

/-! ### the steps -/
theorem LdI.go {w : World} {a : Addr} {K : IntKind} {n : Int} {k : Int → Prop} (h : w.cell? a = some (.int K n)) (hk : k n) : LdI K a k w := ⟨⟨n, h, hk⟩⟩
theorem LdB.go {w : World} {a : Addr} {n : Bool} {k : Bool → Prop} (h : w.cell? a = some (.bool n)) (hk : k n) : LdB a k w := ⟨⟨n, h, hk⟩⟩
theorem LdSl.go {w : World} {a : Addr} {b : Option Addr} {l c : Nat} {k : Option Addr → Nat → Nat → Prop} (h : w.cell? a = some (.slice b l c)) (hk : k b l c) : LdSl a k w := ⟨⟨b, l, c, h, hk⟩⟩
theorem LdPt.go {w : World} {a : Addr} {b : Option Addr} {k : Option Addr → Prop} (h : w.cell? a = some (.pointer b)) (hk : k b) : LdPt a k w := ⟨⟨b, h, hk⟩⟩
theorem LdV.go {w : World} {a : Addr} {b : Value} {k : Value → Prop} (h : w.cell? a = some b) (hk : k b) : LdV a k w := ⟨⟨b, h, hk⟩⟩
theorem LdAgg.go {w : World} {b o n : Nat} {cs : List Value} {T : TypeId} {k : Array Value → Prop} (h : Blk w b cs T) (hn : o + n ≤ cs.length) (hk : k ((cs.drop o).take n).toArray) : LdAgg ⟨b, o, none⟩ n k w :=
  ⟨⟨_, by simp; omega, fun i hi => by rw [h.cellA]; simp [hi], hk⟩⟩
theorem StP.go {w : World} {a : Addr} {v u : Value} {k : World → Prop} (h1 : Value.oneCell' v = true) (h : w.cell? a = some u) (hf : w.frozen? a = false) (hk : k (w.setCell a v)) : StP a v k w := ⟨h1, by rw [h]; rfl, hf, hk⟩
theorem StP.blk {w : World} {b i : Nat} {cs : List Value} {T : TypeId} {v : Value} {k : World → Prop} (h : Blk w b cs T) (h1 : Value.oneCell' v = true) (hi : i < cs.length) (hk : k (w.setCell ⟨b, i, none⟩ v)) : StP ⟨b, i, none⟩ v k w :=
  ⟨h1, by rw [h.cell]; simp [hi], h.frozen _ rfl, hk⟩
theorem StsP.blk {w : World} {b o : Nat} {cs : List Value} {T : TypeId} {vs : List Value} {k : World → Prop} (h : Blk w b cs T) (h1 : ∀ v ∈ vs, Value.oneCell' v = true) (hi : o + vs.length ≤ cs.length) (hk : k (setCells w ⟨b, o, none⟩ vs 0)) : StsP ⟨b, o, none⟩ vs k w :=
  ⟨h1, fun i hlt => by rw [h.cellA, List.getElem?_eq_getElem (by omega)]; rfl, fun i _ => h.frozen _ (by rw [add_none]), hk⟩
/-- an element of a row is read. -/
theorem IdxP.ld {w : World} {a : Option Addr} {K : IntKind} {xs : List Int} {l : Nat} {i : Int} {k : Addr → Int → Prop} (n : Nat) (he : i = n) (hr : Row w a K xs) (hl : l = xs.length) (hn : n < l)
    (hk : ∀ b o, a = some ⟨b, o, none⟩ → k ⟨b, o + n, none⟩ (xs.getD n 0)) : IdxP a l i 1 (fun p => LdI K p (k p) w) := by
  subst hl he
  obtain ⟨b, o, rfl, hc⟩ := hr n hn
  refine ⟨⟨_, rfl, by omega, by omega, ?_⟩⟩
  rw [Nat.mul_one, add_none, Int.toNat_natCast]
  refine .go hc ?_
  have := hk b o rfl
  rwa [List.getD_eq_getElem?_getD, List.getElem?_eq_getElem hn] at this
/-- an element's address in a block of one's own. -/
theorem IdxP.at {b o l : Nat} {i : Int} {sz : Nat} {k : Addr → Prop} (n : Nat) (he : i = n) (hn : n < l) (hk : k ⟨b, o + n * sz, none⟩) : IdxP (some ⟨b, o, none⟩) l i sz k := by
  subst he
  exact ⟨⟨_, rfl, by omega, by omega, by rw [add_none, Int.toNat_natCast]; exact hk⟩⟩
theorem RdP.row {w : World} {a : Option Addr} {K : IntKind} {xs : List Int} {n : Nat} {k : List Value → Prop} (hr : Row w a K xs) (hn : n = xs.length) (hk : k (xs.map (Value.int K))) : RdP a n k w := by
  subst hn
  refine ⟨⟨_, by simp, fun i hi => ?_, hk⟩⟩
  obtain ⟨b, o, h1, h2⟩ := hr i hi
  exact ⟨_, h1, by rw [add_none, h2]; simp [hi]⟩
theorem NilP.go {b : Addr} {k : Addr → Prop} (hk : k b) : NilP (some b) k := ⟨⟨b, rfl, hk⟩⟩
theorem PtI.at {K : IntKind} {cs : List Value} {off : Nat} {n : Int} {k : Int → Prop} (m : Nat) (ho : off = m) (h : cs[m]? = some (.int K n)) (hk : k n) : PtI K cs.toArray off k := by subst ho; exact ⟨⟨n, h, hk⟩⟩
theorem PtI.go {K : IntKind} {cs : List Value} {off : Nat} {n : Int} {k : Int → Prop} (h : cs[off]? = some (.int K n)) (hk : k n) : PtI K cs.toArray off k := ⟨⟨n, h, hk⟩⟩
theorem PtV.go {cs : List Value} {off : Nat} {n : Value} {k : Value → Prop} (h : cs[off]? = some n) (hk : k n) : PtV cs.toArray off k := ⟨⟨n, h, hk⟩⟩
theorem ChkP.go {c A : Prop} (h : c) (hk : A) : ChkP c A := ⟨h, hk⟩
theorem IdxP.ldB {w : World} {b o l : Nat} {i : Int} {cs : List Value} {T : TypeId} {K : IntKind} {x : Int} {k : Addr → Int → Prop} (n : Nat) (he : i = n) (h : Blk w b cs T) (hn : n < l) (hc : cs[o + n]? = some (.int K x)) (hk : k ⟨b, o + n, none⟩ x) :
    IdxP (some ⟨b, o, none⟩) l i 1 (fun p => LdI K p (k p) w) :=
  .at n he hn (by rw [Nat.mul_one]; exact .go ((h.cell _).trans hc) hk)
theorem IdxP.stB {w : World} {b o l : Nat} {i : Int} {cs : List Value} {T : TypeId} {v : Value} {k : Addr → World → Prop} (n : Nat) (he : i = n) (h : Blk w b cs T) (hn : n < l) (hv : Value.oneCell' v = true) (hi : o + n < cs.length) (hk : k ⟨b, o + n, none⟩ (w.setCell ⟨b, o + n, none⟩ v)) :
    IdxP (some ⟨b, o, none⟩) l i 1 (fun p => StP p v (k p) w) :=
  .at n he hn (by rw [Nat.mul_one]; exact .blk h hv hi hk)
theorem IdxP.ld0 {w : World} {b l : Nat} {i : Int} {cs : List Value} {T : TypeId} {K : IntKind} {x : Int} {k : Addr → Int → Prop} (n : Nat) (he : i = n) (h : Blk w b cs T) (hn : n < l) (hc : cs[n]? = some (.int K x)) (hk : k ⟨b, n, none⟩ x) :
    IdxP (some ⟨b, 0, none⟩) l i 1 (fun p => LdI K p (k p) w) :=
  .ldB n he h hn (by rw [Nat.zero_add]; exact hc) (by rw [Nat.zero_add]; exact hk)
theorem IdxP.st0 {w : World} {b l : Nat} {i : Int} {cs : List Value} {T : TypeId} {v : Value} {k : Addr → World → Prop} (n : Nat) (he : i = n) (h : Blk w b cs T) (hn : n < l) (hv : Value.oneCell' v = true) (hi : n < cs.length) (hk : k ⟨b, n, none⟩ (w.setCell ⟨b, n, none⟩ v)) :
    IdxP (some ⟨b, 0, none⟩) l i 1 (fun p => StP p v (k p) w) :=
  .stB n he h hn hv (by omega) (by rw [Nat.zero_add]; exact hk)
/-- a slice expression over a row: from n, and to m. -/
theorem SlcP.row {w : World} {a : Option Addr} {K : IntKind} {xs : List Int} {l c : Nat} {lo : Int} {hi : Option Int} {k : Option Addr → Nat → Nat → Prop} (n m : Nat) (hlo : lo = n) (hhi : hi.getD l = m) (hr : Row w a K xs) (hl : l = xs.length) (hc : l ≤ c) (hn : n ≤ m) (hm : m ≤ l)
    (hk : ∀ a', Row w a' K ((xs.take m).drop n) → (∀ p, a' = some p → ∃ q, a = some q ∧ q.block = p.block) → k a' (m - n) (c - n)) : SlcP a l c lo hi none 1 k := by
  subst hlo
  refine ⟨⟨by omega, by omega, by omega, by simp; omega, by simp, by simp, ?_⟩⟩
  rw [hhi]
  simp only [Option.getD_none, Int.toNat_natCast, Nat.mul_one]
  by_cases hcn : c = n
  · rw [if_pos hcn]
    have : (xs.take m).drop n = [] := by apply List.drop_eq_nil_of_le; simp; omega
    exact hk a (by rw [this]; exact Row.nil _ _ _) (fun p hp => ⟨p, hp, rfl⟩)
  · rw [if_neg hcn]
    refine hk _ ((hr.take m).drop n) ?_
    intro p hp
    cases a with
    | none => cases hp
    | some q => simp only [Option.map_some, Option.some.injEq] at hp; exact ⟨q, rfl, by rw [← hp]; unfold Addr.add; split <;> rfl⟩

/-- Below block B only the blocks told by s have turned. -/
structure Chg (B : Nat) (s : Nat → Prop) (w w' : World) : Prop where
  os : w'.os = w.os
  tape : w'.tape = w.tape
  output : w'.output = w.output
  size : w.heap.size ≤ w'.heap.size
  block : ∀ k, k < B → ¬ s k → w'.heap[k]? = w.heap[k]?
theorem Chg.refl (B : Nat) (s : Nat → Prop) (w : World) : Chg B s w w := ⟨rfl, rfl, rfl, Nat.le_refl _, fun _ _ _ => rfl⟩
theorem Chg.of_below {B : Nat} {s : Nat → Prop} {w w' : World} (h : Below B w w') : Chg B s w w' := ⟨h.os, h.tape, h.output, h.size, fun k hk _ => h.block k hk⟩
theorem Chg.below {B : Nat} {w w' : World} (h : Chg B (fun _ => False) w w') : Below B w w' := ⟨h.os, h.tape, h.output, h.size, fun k hk => h.block k hk id⟩
theorem Chg.trans {B : Nat} {s : Nat → Prop} {a b c : World} (h : Chg B s a b) (k : Chg B s b c) : Chg B s a c :=
  ⟨k.os.trans h.os, k.tape.trans h.tape, k.output.trans h.output, Nat.le_trans h.size k.size, fun i hi hs => (k.block i hi hs).trans (h.block i hi hs)⟩
theorem Chg.mono {B B' : Nat} {s s' : Nat → Prop} {a b : World} (h : Chg B s a b) (hB : B' ≤ B) (hs : ∀ k, k < B' → s k → s' k) : Chg B' s' a b :=
  ⟨h.os, h.tape, h.output, h.size, fun k hk hn => h.block k (by omega) (fun hk' => hn (hs k hk hk'))⟩
theorem Chg.alloc {B : Nat} {s : Nat → Prop} {a w : World} (h : Chg B s a w) (hB : B ≤ w.heap.size) (o : Obj) : Chg B s a (w.alloc o) := h.trans (.of_below ((Below.refl _ _).alloc hB o))
theorem Chg.drw {B : Nat} {s : Nat → Prop} {a w : World} (h : Chg B s a w) : Chg B s a { w with drawn := w.drawn + 1 } := h.trans (.of_below (Below.refl _ w).drew)
theorem Chg.setCell {B : Nat} {s : Nat → Prop} {a w : World} (h : Chg B s a w) (p : Addr) (v : Value) (hp : p.block < B → s p.block) : Chg B s a (w.setCell p v) :=
  h.trans ⟨rfl, rfl, rfl, Nat.le_of_eq (size_setCell w p v).symm, fun k hk hn => Below.heap_setCell w p v k (fun e => hn (by rw [e]; exact hp (by omega)))⟩
theorem Chg.setCells {B : Nat} {s : Nat → Prop} {a w : World} (h : Chg B s a w) (p : Addr) (vs : List Value) (i : Nat) (hp : p.block < B → s p.block) : Chg B s a (Ev.setCells w p vs i) := by
  induction vs generalizing i w with
  | nil => exact h
  | cons v r ih => exact ih (h.setCell (p.add i) v (by unfold Addr.add; split <;> exact hp)) (i + 1)
theorem Blk.chg {w w' : World} {B b : Nat} {s : Nat → Prop} {cs : List Value} {T : TypeId} (h : Blk w b cs T) (hc : Chg B s w w') (hlt : b < B) (hs : ¬ s b) : Blk w' b cs T := (hc.block b hlt hs).trans h
theorem Row.chg {w w' : World} {s : Nat → Prop} {a : Option Addr} {K : IntKind} {xs : List Int} (h : Row w a K xs) (hc : Chg w.heap.size s w w') (hs : ∀ p, a = some p → ¬ s p.block) : Row w' a K xs := fun i hi => by
  obtain ⟨b, o, h1, h2⟩ := h i hi
  refine ⟨b, o, h1, ?_⟩
  rw [World.cell?_of_block (w := w) (hc.block b (cell_lt h2) (hs _ h1))]; exact h2
theorem set_split {α : Type} (l : List α) (z v : α) (r : List α) : (l ++ z :: r).set l.length v = l ++ v :: r := by simp
theorem ints_set (K : IntKind) (l : List Int) (i : Nat) (v : Int) : (l.map (Value.int K)).set i (.int K v) = (l.set i v).map (Value.int K) := by simp
end Go.Ev
