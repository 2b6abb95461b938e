/- The walk by evaluation, part 4: the laws that carry an evaluation over to the machine's own run. -/
import Derived.Test.YthneejblcffdgaaGreatDoorEvSoundO
set_option linter.unusedSimpArgs false
set_option linter.unusedVariables false
namespace Go.Ev
open Go

section
variable {P : Program} {T : Tab}

def fence : Option Nat → Fence
  | none => Fence.wide
  | some l => Fence.wide.inRound l
theorem fence_fn (r : Option Nat) (f : FuncId) : (fence r).fn f := by cases r <;> exact trivial
theorem fence_depth (r : Option Nat) : (fence r).depth.isSome = true → 1 ≤ 0 := by cases r <;> simp [fence, Fence.wide, Fence.inRound]
theorem fence_round (r : Option Nat) : (fence r).round = r := by cases r <;> rfl
theorem callsIn_fence {r : Option Nat} {f : FuncId} {args : Array Value} {w : World} {R : Ending → World → Prop} {n : Nat} (h : Calls P f args w R) : CallsIn (fence r) n P f args w R := by
  cases r with
  | none => exact callsIn_wide.2 h
  | some l => exact CallsIn.inRound l (callsIn_wide.2 h)

theorem eval_get (a : Act) : a.eval = get (actEnv a) := by
  funext x; cases x <;> rfl
theorem actEnv_put (a : Act) (d : Option Tmp) (v : Value) (h : ∀ t, d = some t → t < a.tmps.size) : actEnv (a.put d v) = updO (actEnv a) d v := by
  cases d with
  | none => rfl
  | some t =>
    have ht := h t rfl
    funext s
    simp only [actEnv, Act.put, updO, upd]
    by_cases hs : s = t
    · subst hs; simp [ht]
    · have : Nat.beq s t = false := by cases hb : Nat.beq s t with | false => rfl | true => exact absurd (Nat.beq_eq ▸ hb) hs
      simp only [this, cond_false, Array.getD_eq_getD_getElem?]
      rw [Array.getElem?_setIfInBounds_ne (fun e => hs e.symm)]
theorem put_size (a : Act) (d : Option Tmp) (v : Value) : (a.put d v).tmps.size = a.tmps.size := by cases d <;> simp [Act.put]
theorem put_defers (a : Act) (d : Option Tmp) (v : Value) : (a.put d v).defers = a.defers := by cases d <;> rfl

theorem upd_self {e : Env} {d : Nat} {v : Value} (h : e d = v) : upd e d v = e := by
  funext t; unfold upd
  cases hb : Nat.beq t d with
  | false => rfl
  | true => rw [Nat.beq_eq.mp hb, h]; rfl

/-- a function of the program that has a body. -/
def entersB (P : Program) (g : Nat) : Bool := match P.funcs[g]? with
  | some fn => fn.body.isSome && !(fn.name == "runtime.NumGoroutine")
  | none => false
def ExtOk (P : Program) (ext : Nat → Bool) : Prop := ∀ g, ext g = false → entersB P g = true
theorem run_enters {g : Nat} (h : entersB P g = true) (args : Array Value) (w : World) : (callFunc g args).run P w = .ok (.enter g args) w := by
  unfold entersB at h
  split at h
  · rename_i fn hf
    simp only [Bool.and_eq_true, Bool.not_eq_true'] at h
    have hb : fn.body.isNone = false := by cases hb : fn.body with | none => rw [hb] at h; cases h.1 | some _ => rfl
    simp only [callFunc, Sem.run_bind, run_program, Result.andThen_ok, hf, h.2, hb, Bool.false_eq_true, if_false, Sem.run_pure]
  · cases h

theorem evOp_wpIn (hT : TabOk T P) {ext : Nat → Bool} (hX : ExtOk P ext) {r : Option Nat} {o : Oper} {a : Act} {w : World} {k : Value → World → Prop} {next : Act → World → Prop} {Q : Exit → Act → World → Prop}
    (hd : ∀ c, o.op ≠ .defer c) (h : evOp T P ext r o (actEnv a) k w) (hk : ∀ v w', k v w' → next (a.put o.dst v) w') : o.wpIn (fence r) 0 P a w next Q := by
  refine ⟨fun f _ => fence_fn r f, ?_⟩
  rw [Oper.semAt_eq _ _ _ hd, eval_get]
  by_cases hc : ∀ c f, o.op = .call c → c.callee ≠ .value f
  · obtain ⟨nx, v, w', h1, h2, h3⟩ := evOp_run hT hc h
    rw [h1]
    rcases h2 with rfl | ⟨rfl, rfl⟩
    · exact hk _ _ h3
    · exact hk _ _ h3
  · have : ∃ c f, o.op = .call c ∧ c.callee = .value f := by
      apply Classical.byContradiction
      intro hn
      exact hc fun c f h1 h2 => hn ⟨c, f, h1, h2⟩
    obtain ⟨c, f, ho, hf⟩ := this
    unfold evOp at h
    simp only [ho, hf] at h
    have he : (execOp (get (actEnv a)) o) = (do let d ← resolve (get (actEnv a)) c o.type; invoke d.target d.args) := by unfold execOp; simp only [ho]
    rw [he]
    have hargs : c.args.map (get (actEnv a)) = (c.args.toList.map (get (actEnv a))).toArray := by
      rw [← List.map_toArray]
    unfold evCall at h
    split at h <;> try exact h.elim
    · rename_i g f0 c0 hv
      have hres : (do let d ← resolve (get (actEnv a)) c o.type; invoke d.target d.args : Sem Next).run P w = (callFunc g (f0.toList ++ c.args.toList.map (get (actEnv a)) ++ c0.toList).toArray).run P w := by
        simp only [resolve, hf, hv, Deferred.ofValue, hargs, Sem.run_bind, Sem.run_pure, Result.andThen_ok, invoke]
        congr 2
        simp
      rw [hres]
      cases hx : ext g with
      | true =>
        rw [hx] at h
        obtain ⟨v, w', h1, h2⟩ := h.out
        rw [h1]
        exact hk _ _ h2
      | false =>
        rw [hx] at h
        rw [run_enters (hX g hx)]
        refine ⟨fence_depth r, ?_⟩
        refine (callsIn_fence h.out).mono ?_
        rintro e w' ⟨v, rfl, hkv⟩
        exact hk _ _ hkv
    · rename_i l f0 c0 hv
      obtain ⟨rfl, fn, tmps, assign, body, hy, hR⟩ := h.out
      have hres : (do let d ← resolve (get (actEnv a)) c o.type; invoke d.target d.args : Sem Next).run P w = .ok (.round l fn tmps assign body) w := by
        simp only [resolve, hf, hv, Deferred.ofValue, hargs, Sem.run_bind, Sem.run_pure, Result.andThen_ok, invoke]
        rw [show f0 ++ (c.args.toList.map (get (actEnv a))).toArray = (f0.toList ++ c.args.toList.map (get (actEnv a))).toArray by simp]
        exact hy
      rw [hres]
      refine ⟨fence_depth none, hR.mono ?_⟩
      rintro e w' ⟨v, rfl, hkv⟩
      exact hk _ _ hkv

/-- What a walk of operations hands on. -/
def FrO (m : Nat) (a : Act) (K : Env → World → Prop) (a' : Act) (w' : World) : Prop :=
  a'.tmps.size = a.tmps.size ∧ a'.defers = a.defers ∧ (∀ t, Nat.testBit m t = false → actEnv a' t = actEnv a t) ∧ K (actEnv a') w'

theorem testBit_or {m n t : Nat} (h : Nat.testBit (m ||| n) t = false) : Nat.testBit m t = false ∧ Nat.testBit n t = false := by
  simpa [Nat.testBit_or] using h
theorem testBit_one_shl {d t : Nat} (h : Nat.testBit (1 <<< d) t = false) : t ≠ d := by
  intro e; subst e; simp [Nat.one_shiftLeft, Nat.testBit_two_pow_self] at h
theorem updO_other {e : Env} {d : Option Nat} {v : Value} {t : Nat} (h : Nat.testBit (match d with | some d => 1 <<< d | none => 0) t = false) : updO e d v t = e t := by
  cases d with
  | none => rfl
  | some d =>
    have := testBit_one_shl h
    show (bif Nat.beq t d then v else e t) = e t
    cases hb : Nat.beq t d with
    | false => rfl
    | true => exact absurd (Nat.beq_eq.mp hb) this

theorem asG_out {v : Value} {k : Bool → Prop} {out : Prop} (h : asG v k out) : (∃ b, v = .bool b ∧ k b) ∨ ((∀ b, v ≠ .bool b) ∧ out) := by
  unfold asG at h
  split at h
  · exact .inl ⟨_, rfl, h⟩
  · rename_i hn; exact .inr ⟨fun b e => hn b e, h⟩
theorem guard_unwanted {ops : Array Oper} {o : Oper} {a : Act} {j d : Nat} {want : Bool} (hg : o.guard = some (j, want)) (hjd : (ops.toList[j]?).bind (·.dst) = some d) (hc : ∀ b, actEnv a d ≠ .bool b) :
    Region.wanted o (yielded ops a.tmps) = false := by
  have hjd' : (ops[j]?).bind (·.dst) = some d := by simpa using hjd
  have hy : yielded ops a.tmps j = none := by
    unfold yielded
    rw [hjd']
    simp only [Option.bind_some]
    split
    · rename_i b hb
      exact absurd (show actEnv a d = .bool b by unfold actEnv; rw [Array.getD_eq_getD_getElem?, hb]; rfl) (hc b)
    · rfl
  simp [Region.wanted, hg, hy]

theorem evOps_wpIn (hT : TabOk T P) {ext : Nat → Bool} (hX : ExtOk P ext) {r : Option Nat} {ops : Array Oper} {Q : Exit → Act → World → Prop} {n : Nat} :
    ∀ (rest : List Oper) (i : Nat) (a : Act) (w : World) (K : Env → World → Prop), ops.toList.drop i = rest → okOps n rest = true → a.tmps.size = n →
      evOps T P ext r ops.toList rest (actEnv a) K w → (∀ a' w', FrO (asgOps rest) a K a' w' → Q .normal a' w') → wpOpsIn (fence r) 0 P ops Q (List.range' i rest.length) a w
  | [], i, a, w, K, _, _, _, h, hq => hq a w ⟨rfl, rfl, fun _ _ => rfl, h⟩
  | o :: rest, i, a, w, K, hd, hok, hn, h, hq => by
    simp only [okOps, Bool.and_eq_true] at hok
    obtain ⟨⟨hdst, hdef⟩, hok'⟩ := hok
    have hi : ops[i]? = some o := by
      have : (ops.toList.drop i)[0]? = some o := by rw [hd]; rfl
      simpa using this
    have hd' : ops.toList.drop (i + 1) = rest := by
      rw [← List.drop_drop, hd]; rfl
    have hlt : ∀ t, o.dst = some t → t < a.tmps.size := by
      intro t ht; rw [ht] at hdst; rw [hn]; simpa [Nat.blt_eq] using hdst
    have hdefer : ∀ c, o.op ≠ .defer c := by
      intro c hc; rw [hc] at hdef; cases hdef
    have step : ∀ v w', evOps T P ext r ops.toList rest (updO (actEnv a) o.dst v) K w' → wpOpsIn (fence r) 0 P ops Q (List.range' (i + 1) rest.length) (a.put o.dst v) w' := by
      intro v w' h'
      refine evOps_wpIn hT hX rest (i + 1) _ w' K hd' hok' (by rw [put_size, hn]) (by rw [actEnv_put _ _ _ hlt]; exact h') ?_
      rintro a' w'' ⟨h1, h2, h3, h4⟩
      refine hq a' w'' ⟨h1.trans (put_size _ _ _), h2.trans (put_defers _ _ _), fun t ht => ?_, h4⟩
      obtain ⟨t1, t2⟩ := testBit_or ht
      rw [h3 t t2, actEnv_put _ _ _ hlt, updO_other t1]
    simp only [List.length_cons, List.range'_succ, wpOpsIn, hi]
    rw [evOps_cons] at h
    cases hg : o.guard with
    | none =>
      simp only [hg] at h
      have hw : Region.wanted o (yielded ops a.tmps) = true := by simp [Region.wanted, hg]
      rw [if_pos hw]
      exact evOp_wpIn hT hX hdefer h (fun v w' hv => step v w' hv)
    | some jw =>
      obtain ⟨j, want⟩ := jw
      simp only [hg] at h
      split at h <;> try exact h.elim
      rename_i d hjd
      rcases asG_out h with ⟨c, hc, h1⟩ | ⟨hnb, h1⟩
      rotate_left
      · rw [if_neg (by rw [guard_unwanted hg hjd hnb]; simp)]
        exact ⟨fun f _ => fence_fn r f, step undef w h1⟩
      have hjd' : (ops[j]?).bind (·.dst) = some d := by simpa using hjd
      have hdl : a.tmps[d]? = some (.bool c) := by
        have hc' : a.tmps.getD d undef = .bool c := hc
        rw [Array.getD_eq_getD_getElem?] at hc'
        cases hx : a.tmps[d]? with
        | none => rw [hx] at hc'; cases hc'
        | some v => rw [hx] at hc'; simpa using hc'
      have hy : yielded ops a.tmps j = some c := by simp [yielded, hjd', hdl]
      by_cases hcw : c = want
      · subst hcw
        have h2 := h1.t (by cases c <;> rfl)
        rw [upd_self hc] at h2
        have hw : Region.wanted o (yielded ops a.tmps) = true := by simp [Region.wanted, hg, hy]
        rw [if_pos hw]
        exact evOp_wpIn hT hX hdefer h2 (fun v w' hv => step v w' hv)
      · have hcn : c = !want := by cases c <;> cases want <;> simp at hcw ⊢
        have h2 := h1.f (by subst hcn; cases want <;> rfl)
        rw [upd_self (by rw [hc, hcn])] at h2
        have hw : Region.wanted o (yielded ops a.tmps) = false := by
          simp [Region.wanted, hg, hy, hcw]
        rw [if_neg (by rw [hw]; simp)]
        exact ⟨fun f _ => fence_fn r f, step undef w h2⟩

theorem over_eq {e e' : Env} {m : Nat} (h : ∀ t, Nat.testBit m t = false → e' t = e t) : over e m e' = e' := by
  funext t; unfold over
  cases hb : Nat.testBit m t with
  | true => rfl
  | false => exact (h t hb).symm

theorem Fr.weaken {m m' : Nat} {a : Act} {Q : Post} {x : Exit} {a' : Act} {w' : World} (h : Fr m a Q x a' w') (hm : ∀ t, Nat.testBit m' t = false → Nat.testBit m t = false) : Fr m' a Q x a' w' :=
  ⟨h.1, fun t ht => h.2.1 t (hm t ht), h.2.2⟩
theorem Fr.trans {m : Nat} {a b : Act} {Q : Post} {x : Exit} {a' : Act} {w' : World} (h : Fr m b Q x a' w') (hs : b.tmps.size = a.tmps.size) (he : ∀ t, Nat.testBit m t = false → actEnv b t = actEnv a t) : Fr m a Q x a' w' :=
  ⟨h.1.trans hs, fun t ht => (h.2.1 t ht).trans (he t ht), h.2.2⟩

theorem evC_wpIn (hT : TabOk T P) {ext : Nat → Bool} (hX : ExtOk P ext) (r : Option Nat) (n : Nat) : ∀ (c : Code) (e : Env) (Q : Post) (a : Act) (w : World), okC n c = true → a.tmps.size = n → actEnv a = e →
    evC T P ext r n c a.defers e Q w → c.wpIn (fence r) 0 P (Fr (asg c) a Q) a w := by
  intro c
  induction c with
  | skip => rintro e Q a w _ _ rfl h; exact wpIn_skip ⟨rfl, fun _ _ => rfl, h⟩
  | label l => rintro e Q a w _ _ rfl h; exact wpIn_label ⟨rfl, fun _ _ => rfl, h⟩
  | exit id => rintro e Q a w _ _ rfl h; exact wpIn_exit ⟨rfl, fun _ _ => rfl, h⟩
  | goto l => rintro e Q a w _ _ rfl h; exact h.elim
  | refuse l => rintro e Q a w _ _ rfl h; exact h.elim
  | ret => rintro e Q a w _ _ rfl h; exact wpIn_ret ⟨rfl, fun _ _ => rfl, h⟩
  | region id ops dr =>
    rintro e Q a w hok hn rfl h
    cases dr with
    | true =>
      have h : DrawP P r n (.region id ops true) a.defers (actEnv a) Q w := h
      obtain ⟨rfl, h1⟩ := h.out
      exact wpIn_wide.2 (h1 a hn rfl rfl)
    | false =>
      refine wpIn_region ?_
      have := evOps_wpIn hT hX (Q := Fr (asg (.region id ops false)) a Q) ops.toList 0 a w (fun e w => Q .normal a.defers e w) (by simp) (by simpa [okC, hn] using hok) hn h (by
        rintro a' w' ⟨h1, h2, h3, h4⟩
        exact ⟨h1, h3, by rw [h2]; exact h4⟩)
      simpa [List.range_eq_range'] using this
  | seq x y ihx ihy =>
    rintro e Q a w hok hn rfl h
    simp only [okC, Bool.and_eq_true] at hok
    refine wpIn_seq (wpIn_mono (ihx _ _ a w hok.1 hn rfl h) ?_)
    rintro ex a1 w1 ⟨h1, h2, h3⟩
    have hm : ∀ t, Nat.testBit (asg (.seq x y)) t = false → actEnv a1 t = actEnv a t := fun t ht => h2 t (testBit_or ht).1
    cases ex with
    | normal =>
      refine wpIn_mono (ihy _ _ a1 w1 hok.2 (h1.trans hn) rfl h3) fun x a' w' hf => ?_
      exact (hf.weaken fun t ht => (testBit_or ht).2).trans h1 hm
    | exit id => exact ⟨h1, hm, h3⟩
    | goto l => exact ⟨h1, hm, h3⟩
    | ret => exact ⟨h1, hm, h3⟩
    | panic ch => exact ⟨h1, hm, h3⟩
    | outgrown => exact ⟨h1, hm, h3⟩
  | cond c x y ihx ihy =>
    rintro e Q a w hok hn rfl h
    simp only [okC, Bool.and_eq_true] at hok
    obtain ⟨t, ht, h1⟩ := asBool_out h
    have hc : a.eval c = .bool t := by rw [eval_get]; exact ht
    cases t with
    | true => exact wpIn_cond_true hc (wpIn_mono (ihx _ _ a w hok.1 hn rfl (h1.t rfl)) fun x a' w' hf => hf.weaken fun t ht => (testBit_or ht).1)
    | false => exact wpIn_cond_false hc (wpIn_mono (ihy _ _ a w hok.2 hn rfl (h1.f rfl)) fun x a' w' hf => hf.weaken fun t ht => (testBit_or ht).2)
  | block id c ih =>
    rintro e Q a w hok hn rfl h
    refine wpIn_block (wpIn_mono (ih _ _ a w hok hn rfl h) ?_)
    rintro ex a1 w1 ⟨h1, h2, h3⟩
    cases ex with
    | exit id' =>
      simp only [Exit.inBlock]
      by_cases hid : id' = id
      · subst hid
        rw [if_pos rfl]
        have : Nat.beq id' id' = true := Nat.beq_eq.mpr rfl
        simp only [this, cond_true] at h3
        exact ⟨h1, h2, h3⟩
      · rw [if_neg hid]
        have : Nat.beq id' id = false := by cases hb : Nat.beq id' id with | false => rfl | true => exact absurd (Nat.beq_eq.mp hb) hid
        simp only [this, cond_false] at h3
        exact ⟨h1, h2, h3⟩
    | normal => exact ⟨h1, h2, h3⟩
    | goto l => exact ⟨h1, h2, h3⟩
    | ret => exact ⟨h1, h2, h3⟩
    | panic ch => exact ⟨h1, h2, h3⟩
    | outgrown => exact ⟨h1, h2, h3⟩
  | loop c ih =>
    rintro e Q a w hok hn rfl h
    obtain ⟨S, I0, μ0, ⟨s0, hs0⟩, hr⟩ := h.out
    let I : Nat → Env → World → Prop := fun n e w => ∃ s, μ0 s = n ∧ I0 s e w
    have h0 : ∃ n, I n (actEnv a) w := ⟨_, s0, rfl, hs0⟩
    have least : ∀ (p : Nat → Prop), (∃ n, p n) → ∃ n, p n ∧ ∀ k, p k → n ≤ k := by
      rintro p ⟨n, hp⟩
      induction n using Nat.strongRecOn with
      | _ n ih =>
        by_cases hk : ∃ k, k < n ∧ p k
        · obtain ⟨k, h1, h2⟩ := hk; exact ih k h1 h2
        · exact ⟨n, hp, fun k h1 => Nat.le_of_not_lt fun h2 => hk ⟨k, h2, h1⟩⟩
    let μ : Act → World → Nat := fun a w => @dite Nat (∃ n, I n (actEnv a) w) (Classical.propDecidable _) (fun h => Classical.choose (least _ h)) (fun _ => 0)
    have hμ : ∀ a w, (∃ n, I n (actEnv a) w) → I (μ a w) (actEnv a) w ∧ ∀ k, I k (actEnv a) w → μ a w ≤ k := by
      intro a w h
      have := Classical.choose_spec (least _ h)
      simp only [μ, dif_pos h]
      exact this
    refine wpIn_loop (fun a' w' => a'.tmps.size = n ∧ a'.defers = a.defers ∧ (∀ t, Nat.testBit (asg c) t = false → actEnv a' t = actEnv a t) ∧ ∃ n, I n (actEnv a') w') μ ⟨hn, rfl, fun _ _ => rfl, h0⟩ ?_
    rintro a1 w1 ⟨g1, g2, g3, g4⟩
    have hov := over_eq g3
    obtain ⟨s, hs, hi⟩ := (hμ _ _ g4).1
    have h5 := hr s (actEnv a1) w1 (by rw [hov]; exact hi)
    rw [hov] at h5
    rw [← g2] at h5
    refine wpIn_mono (ih _ _ a1 w1 hok g1 rfl h5) ?_
    rintro ex a2 w2 ⟨k1, k2, k3⟩
    have hm : ∀ t, Nat.testBit (asg c) t = false → actEnv a2 t = actEnv a t := fun t ht => (k2 t ht).trans (g3 t ht)
    cases ex with
    | normal =>
      obtain ⟨k3, s', k4, k5⟩ := k3
      have k6 : I (μ0 s') (actEnv a2) w2 := ⟨s', rfl, k4⟩
      exact ⟨⟨k1.trans g1, k3.trans g2, hm, _, k6⟩, Nat.lt_of_le_of_lt ((hμ _ _ ⟨_, k6⟩).2 _ k6) (by rw [← hs]; exact k5)⟩
    | exit id => exact ⟨k1.trans (g1.trans hn.symm), hm, k3⟩
    | goto l => exact ⟨k1.trans (g1.trans hn.symm), hm, k3⟩
    | ret => exact ⟨k1.trans (g1.trans hn.symm), hm, k3⟩
    | panic ch => exact ⟨k1.trans (g1.trans hn.symm), hm, k3⟩
    | outgrown => exact ⟨k1.trans (g1.trans hn.symm), hm, k3⟩
  | rangeFunc f ps x y ihx ihy =>
    rintro e Q a w hok hn rfl h
    obtain ⟨rfl, h1⟩ := h.out
    exact wpIn_wide.2 (h1 a hn rfl rfl)
  | scope c ih =>
    rintro e Q a w hok hn rfl h
    cases r with
    | some l => exact h.elim
    | none =>
      refine wpIn_wide.2 (wp_scope_straight ?_)
      refine wp_mono (wpIn_wide.1 (ih _ _ a w hok hn rfl h)) ?_
      rintro ex a1 w1 ⟨h1, h2, h3⟩
      cases ex with
      | goto l => exact h3.elim
      | exit id => exact ⟨h1, h2, h3⟩
      | normal => exact ⟨h1, h2, h3⟩
      | ret => exact ⟨h1, h2, h3⟩
      | panic ch => exact ⟨h1, h2, h3⟩
      | outgrown => exact ⟨h1, h2, h3⟩

def resF (tmps : Array Value) : ResultVar → Sem Value
  | .tmp t => pure (tmps.getD t undef)
  | .cell c t => do loadVar t (← Go.asAddr (tmps.getD c undef))
theorem evRes_run (hT : TabOk T P) {a : Act} {w : World} : ∀ (l : List ResultVar) (k : List Value → Prop), evRes T (actEnv a) w l k → ∃ vs, (l.mapM (resF a.tmps)).run P w = .ok vs w ∧ k vs
  | [], k, h => ⟨[], by simp, h⟩
  | rv :: l, k, h => by
    have key : ∃ v, (resF a.tmps rv).run P w = .ok v w ∧ evRes T (actEnv a) w l fun vs => k (v :: vs) := by
      cases rv with
      | tmp t => exact ⟨_, rfl, h⟩
      | cell c t =>
        obtain ⟨p, hp, h1⟩ := asAddr_out h
        obtain ⟨v, hv, h2⟩ := ld_run hT h1
        have hp' : a.tmps.getD c undef = .pointer (some p) := hp
        exact ⟨v, by simp only [resF, hp', Go.asAddr, Sem.run_bind, Sem.run_pure, Result.andThen_ok, hv], h2⟩
    obtain ⟨v, hv, h1⟩ := key
    obtain ⟨vs, hvs, h2⟩ := evRes_run hT l _ h1
    refine ⟨v :: vs, ?_, h2⟩
    rw [List.mapM_cons]
    simp only [Sem.run_bind, hv, hvs, Result.andThen_ok, Sem.run_pure]

theorem results_eq (fn : Func) (tmps : Array Value) : results fn tmps = (do let vs ← fn.results.mapM (resF tmps); pure (if h : vs.size = 1 then vs[0] else .tuple vs)) := by
  unfold results
  congr 2

theorem results_run (hT : TabOk T P) {fn : Func} {a : Act} {w : World} {R : Ending → World → Prop} (h : evRes T (actEnv a) w fn.results.toList fun vs => R (.returned (ret1 vs)) w) :
    ∃ v, (results fn a.tmps).run P w = .ok v w ∧ R (.returned v) w := by
  obtain ⟨vs, hvs, h1⟩ := evRes_run hT _ _ h
  refine ⟨_, ?_, h1⟩
  rw [results_eq, ← Array.toArray_toList (xs := fn.results), List.mapM_toArray]
  simp only [Sem.run_bind, Sem.run_map, hvs, Result.andThen_ok, Sem.run_pure]
  congr 1
  match vs with
  | [] => rfl
  | [v] => rfl
  | a :: b :: l => simp [ret1]

/-- Behind a function's body: its results, nothing deferred. -/
def FinP (T : Tab) (rs : List ResultVar) (R : Ending → World → Prop) : Post := fun x D e w => match x with
  | .normal => D = [] ∧ evRes T e w rs fun vs => R (.returned (ret1 vs)) w
  | .ret => D = [] ∧ evRes T e w rs fun vs => R (.returned (ret1 vs)) w
  | _ => False

theorem calls_of_ev (hT : TabOk T P) {ext : Nat → Bool} (hX : ExtOk P ext) {f : FuncId} {fn : Func} {c : Code} {args : Array Value} {w : World} {R : Ending → World → Prop}
    (hf : P.funcs[f]? = some fn) (hb : fn.body = some c) (hok : okC fn.ntmps c = true) (hle0 : Nat.ble args.size fn.ntmps = true)
    (h : evC T P ext none fn.ntmps c [] (argsEnv args.toList) (FinP T fn.results.toList R) w) : Calls P f args w R := by
  have hle : args.size ≤ fn.ntmps := by rwa [Nat.ble_eq] at hle0
  refine calls_of_wp hf hb ?_
  have hn : (args ++ Array.replicate (fn.ntmps - args.size) undef).size = fn.ntmps := by simp; omega
  have he : actEnv { tmps := args ++ Array.replicate (fn.ntmps - args.size) undef, defers := [] } = argsEnv args.toList := by
    funext t
    simp only [actEnv, argsEnv, Array.getD_eq_getD_getElem?, List.getD_eq_getElem?_getD, Array.getElem?_append, Array.getElem?_replicate, Array.getElem?_toList]
    by_cases h1 : t < args.size
    · rw [if_pos h1]
    · rw [if_neg h1, Array.getElem?_eq_none (by omega)]
      split <;> rfl
  have := evC_wpIn hT hX none fn.ntmps c _ (FinP T fn.results.toList R) { tmps := args ++ Array.replicate (fn.ntmps - args.size) undef, defers := [] } w hok hn he h
  refine wp_mono (wpIn_wide.1 this) ?_
  rintro x a' w' ⟨_, _, h3⟩
  cases x with
  | normal => exact ⟨h3.1, results_run hT h3.2⟩
  | ret => exact ⟨h3.1, results_run hT h3.2⟩
  | exit id => exact h3.elim
  | goto l => exact h3.elim
  | panic ch => exact h3.elim
  | outgrown => exact h3.elim
end
end Go.Ev
