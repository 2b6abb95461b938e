/- The walk by evaluation, part 10: from a row's hypotheses to the walk's, and back. -/
import Derived.Test.YthghiokcinpnlaaDoorEvOwn
import Derived.ChangeSame
import Derived.ChangeVars
import Derived.JoinedOf
import Derived.RowKit
import Derived.LaidLaws
import Derived.OpenShut
import Derived.ProofKit
import Derived.ChangeSlices
import Derived.Carry
set_option linter.unusedSimpArgs false
set_option linter.unusedVariables false
namespace Go.Ev
open Go Go.RowKit Go.ChangeShapes Go.WideShapes

section
variable {P : Program} {W W' : World} {H : Type} {enc : TypeId × Value → H}

/-- all arguments read behind the call as before. -/
theorem trodAll_below (hl : laidOutB P = true) (hb : Below W.heap.size W W') : ∀ (ts : List TypeId) (vs : List Value) (ds : List (DataW H)) (ps : List MemPlace),
    ts.all (fun t => P.readableRec t && decide (t < P.types.size)) = true → DataW.TrodAll enc P W 0 (fun _ => true) true ts vs ds ps → (∀ x ∈ ps, x.block < W.heap.size) →
    DataW.TrodAll enc P W' 0 (fun b => decide (b < W.heap.size)) true ts vs ds ps
  | [], [], [], ps, _, h, _ => h
  | t :: ts, v :: vs, d :: ds, ps, hr, h, hlt => by
    obtain ⟨v', vs', d', ds', p, q, e1, e2, rfl, h1, h2⟩ := trodAll_cons h
    obtain ⟨rfl, rfl⟩ : v = v' ∧ vs = vs' := by simpa using e1
    obtain ⟨rfl, rfl⟩ : d = d' ∧ ds = ds' := by simpa using e2
    simp only [List.all_cons, Bool.and_eq_true, decide_eq_true_eq] at hr
    refine ⟨p, q, Below.trod hl hr.1.1 hr.1.2 h1 hb (fun x hx => hlt x (List.mem_append_left _ hx)), ?_, rfl⟩
    exact trodAll_below hl hb ts vs ds q hr.2 h2 (fun x hx => hlt x (List.mem_append_right _ hx))
  | [], _ :: _, _, _, _, h, _ => by cases h
  | [], [], _ :: _, _, _, h, _ => by cases h
  | _ :: _, [], _, _, _, h, _ => by cases h
  | _ :: _, _ :: _, [], _, _, h, _ => by cases h

/-- the post of a law that returned true and turned nothing that was there. -/
theorem post_true {tb : TypeId} {f : Func} {s : ChangeSpec} {args : Array Value} {ds gs : List (DataW H)} {before : List MemPlace}
    (hl : laidOutB P = true) (hr : f.params.toList.all (fun t => P.readableRec t && decide (t < P.types.size)) = true) (hres : f.resultTypes = #[tb]) (htb : P.underlying tb = some .bool) (hv : s.vars = [])
    (hfn : s.fn H (ds ++ []) = { results := [.lit (.bool true)], args := ds })
    (hW : DataW.Whole enc P f.params.toList s.vars false W args.toList ds gs before) (hb : Below W.heap.size W W') :
    s.post enc P f false true false false W args (.bool true) W' := by
  have hW' := hW
  obtain ⟨p, q, hA, hV, rfl, hfz, hnd⟩ := hW
  have hlt : ∀ x ∈ p ++ q, x.block < W.heap.size := fun x hx => by simpa using hW'.lt x hx
  rw [hv] at hV
  obtain ⟨rfl, rfl⟩ : gs = [] ∧ q = [] := by
    cases gs with
    | nil => exact ⟨rfl, hV⟩
    | cons g r => exact absurd hV (by intro h; cases h)
  refine ⟨ds, [], _, [], p, [], hW', ?_, ?_, ?_, hb.frame _, fun h => by cases h⟩
  · rw [hfn, hres]; exact trodAll_mk1 (shut_bool htb true)
  · rw [hfn]; exact trodAll_below hl hb _ _ _ _ hr hA (fun x hx => hlt x (List.mem_append_left _ hx))
  · rw [hv, hfn]; rfl

/-- a slice of numbers that came in. -/
theorem open_row {t e : TypeId} {k : IntKind} {v : Value} {d : DataW H} {ps : List MemPlace} {r : Reach} {b0 : Nat} (ht : P.underlying t = some (.slice e)) (he : P.underlying e = some (.int k)) (hc : P.cellsOf e = 1)
    (hval : Value.okWide P W r b0 t v) (h : DataW.Trod enc P W 0 (fun _ => true) true t v d ps) : ∃ a l c zs, v = .slice a l c ∧ Row W a k zs ∧ l = zs.length ∧ l ≤ c ∧ c ≤ maxLen ∧ (∀ n ∈ zs, (Lit.int k n).wf = true) := by
  obtain ⟨a0, l0, c0, rfl⟩ := okWide_slice ht hval
  obtain ⟨fuel, h⟩ := h
  have hcs : (Value.slice a0 l0 c0).cells.toList = [.slice a0 l0 c0] := rfl
  rcases open_ints ht he hc h with ⟨h1, h2⟩ | ⟨a, len, cap, zs, h1, h2, h3, h4, h5, h6, h7, h8⟩
  · rw [hcs] at h1; simp only [List.cons.injEq, Value.slice.injEq, and_true] at h1
    obtain ⟨rfl, rfl, rfl⟩ := h1
    exact ⟨none, 0, 0, [], rfl, Row.nil _ _ _, rfl, Nat.le_refl _, by decide, by simp⟩
  · have h5 : zs.length = cap := by simpa using h5
    rw [hcs] at h1; simp only [List.cons.injEq, Value.slice.injEq, and_true] at h1
    obtain ⟨rfl, rfl, rfl⟩ := h1
    refine ⟨some a, l0, c0, zs.take l0, rfl, ?_, by simp; omega, h3, h4, fun n hn => h8 n (List.mem_of_mem_take hn)⟩
    intro i hi
    have hi' : i < l0 ∧ i < zs.length := by simp at hi; omega
    obtain ⟨b, o, rfl, hc⟩ := ints_at h7 (by omega)
    refine ⟨b, o, rfl, ?_⟩
    rw [hc i hi'.2]
    simp [List.getD_eq_getElem?_getD, hi'.2]

theorem int_of_trod {base : Nat} {sp : Nat → Bool} {held : Bool} {fuel : Nat} {t : TypeId} {k : IntKind} {c : Value} {y : DataW H × List MemPlace}
    (ht : P.underlying t = some (.int k)) (h : DataW.trod enc P W base sp held fuel t [c] = some y) : ∃ n, c = .int k n ∧ y = (.lit (.int k n), []) := by
  cases fuel with
  | zero => simp [DataW.trod] at h
  | succ fuel =>
    cases c <;> simp [DataW.trod, ht] at h
    rename_i k' n
    obtain ⟨⟨rfl, _⟩, rfl⟩ := h
    exact ⟨n, rfl, rfl⟩
/-- an array of numbers that reads as these: its cells. -/
theorem cells_of_ints {base : Nat} {sp : Nat → Bool} {held : Bool} {fuel n : Nat} {t e : TypeId} {k : IntKind} {cs : List Value} {ns : List Int} {q : List MemPlace}
    (ht : P.underlying t = some (.array n e)) (he : P.underlying e = some (.int k)) (hc : P.cellsOf e = 1) (hct : P.cellsOf t = n)
    (h : DataW.trod enc P W base sp held fuel t cs = some (.agg (ns.map fun x => .lit (.int k x)), q)) : cs = ns.map (Value.int k) := by
  obtain ⟨xs, m, rfl, hx, hl, hn, hi⟩ := DataW.trod_array ht h
  have hx1 : ns.map (fun x => (DataW.lit (.int k x) : DataW H)) = xs.map (·.1) := by
    have := congrArg Prod.fst hx
    simpa using this
  have hlen : ns.length = xs.length := by simpa using congrArg List.length hx1
  rw [hct] at hl
  apply List.ext_getElem
  · simp; omega
  · intro i h1 h2
    have hin : i < n := by omega
    have h3 := hi i hin
    rw [hc, Nat.mul_one] at h3
    have h4 : (cs.drop i).take 1 = [cs[i]] := by
      rw [List.drop_eq_getElem_cons h1]; rfl
    rw [h4, List.getElem?_eq_getElem (show i < xs.length by omega)] at h3
    obtain ⟨v, e1, e2⟩ := int_of_trod he h3
    have h5 : (ns.map (fun x => (DataW.lit (.int k x) : DataW H)))[i]? = (xs.map (·.1))[i]? := by rw [hx1]
    rw [List.getElem?_map, List.getElem?_map, List.getElem?_eq_getElem (show i < ns.length by omega), List.getElem?_eq_getElem (show i < xs.length by omega), e2] at h5
    simp only [Option.map_some, Option.some.injEq, DataW.lit.injEq, Lit.int.injEq, true_and] at h5
    rw [e1, List.getElem_map, h5]
end
end Go.Ev
