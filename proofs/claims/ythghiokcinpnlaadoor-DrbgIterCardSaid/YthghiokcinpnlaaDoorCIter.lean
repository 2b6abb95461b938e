/-
  The law DrbgIter holds of the given program, for every entropy and every number: the bytes that the range over the generator yields one by one are those of the document's generator asked for one byte at a time, as far as one likes, and both go on alike. The call returns true and leaves all memory that was there as it was.
  Conditions: the row's own alone (the table of SHA-256's and SHA-512's constants reads as the program's text lays it: the card ties that). The whole chain of the program and of the reference is walked (SHA-256, HMAC, HMAC-DRBG, each twice), and both are shown equal in plain Lean.
-/
import Derived.Test.YthghiokcinpnlaaDoorIt2
import Derived.Test.YthghiokcinpnlaaDoorKt
namespace Go.Proofs.YthghiokcinpnlaaDoor
open Go Go.Ev Go.ChangeShapes Go.WideShapes Go.ChangeAt Go.RowKit
set_option linter.unusedVariables false

set_option maxRecDepth 100000 in
theorem drbgIter_lifted (os : Os) (started : os.Started) (H : Type) (enc : TypeId × Value → H) :
    ReturnsInHanded {} Tryd.checked os 3 .any (fun w args => (Rows.drbgIterSpec.pre enc Tryd.prog Tryd.f3 [] false w args ∧ laidMet Tryd.prog [("bailey/hashes.k", Rows.laid_bailey_hashes_k)] w) ∧ sizedMet enc Tryd.prog Tryd.f3 (OpenSpec.ofChange Rows.drbgIterSpec) false w args)
      (Rows.drbgIterSpec.post enc Tryd.prog Tryd.f3 false true false false) := by
  refine returnsInHanded_of_change_and (C := Tryd.checked) (X := fun w _ => laidMet Tryd.prog [("bailey/hashes.k", Rows.laid_bailey_hashes_k)] w) (fun _ _ _ hh h => h.of_heap hh) Tryd.own started (by kernel_rfl) Tryd.func3
    (ChangeSpec.witness_at (enc := enc) (C := Tryd.checked) (os := os) (X := fun w _ => laidMet Tryd.prog [("bailey/hashes.k", Rows.laid_bailey_hashes_k)] w) false (laidWorld os) #[.slice none 0 0, .int .i64 0] 8 rfl (by kernel_rfl) (by kernel_rfl) (by kernel_rfl) (by kernel_rfl) (by kernel_rfl) (laidWorld_met os _)) ?_
  intro W base args ds gs before hval hW _ _ hL _
  have hW' := hW
  obtain ⟨p, q, hA0, hV0, rfl, hfz, hnd⟩ := hW
  have hA : DataW.TrodAll enc Tryd.prog W 0 (fun _ => true) true [22, 3] args.toList ds p := by
    rw [← show Tryd.f3.params.toList = [22, 3] by kernel_rfl]; exact hA0
  obtain ⟨v0, v1, d0, d1, p0, p1, rfl, rfl, rfl, h0, h1⟩ := trodAll_two hA
  obtain ⟨a, l, c, zs, rfl, hr, hl, hc, _, _⟩ := open_row Tryd.underlying22 Tryd.underlying5 Tryd.cellsU8 (hval 0 22 v0 (by kernel_rfl) rfl) h0
  obtain ⟨n, rfl, rfl, rfl, hwn⟩ := open_int Tryd.underlying3 (hval 1 3 v1 (by kernel_rfl) rfl) h1
  refine (drbgIter_spec hr hl hc (row_of_laid hL) rfl (by unfold KtOk; decide)).mono ?_
  rintro e W' ⟨rfl, hb⟩
  exact ⟨_, rfl, post_true Tryd.laidOut' (by kernel_rfl) (by kernel_rfl) (Tryd.underlying4) rfl rfl hW' hb⟩

theorem drbgIter_holds : Rows.DrbgIterSaid :=
  OpenClaim.holds_of_wide 3 Tryd.f3 rfl rfl rfl rfl rfl rfl rfl ⟨rfl, rfl, rfl, rfl, rfl⟩ rfl rfl rfl rfl rfl (by kernel_rfl) Tryd.func3 (by kernel_rfl)
    (of_decide_eq_true (by kernel_rfl)) (by unfold Func.isWrapper; rw [if_neg (of_decide_eq_false (by kernel_rfl))]; exact ⟨rfl, rfl⟩)
    (fun os started H enc _ => drbgIter_lifted os started H enc)

theorem drbgIter_card : Rows.DrbgIterCardSaid :=
  Claim7.holds_tied_plain_at .later [] [.data] true Rows.drbgIterCard.stood.harness false
    drbgIter_holds (fun _ h => by cases h) (by kernel_rfl) (fun _ h => by cases h) drbgIter_row_tie rfl ⟨rfl, rfl⟩ (by kernel_rfl) rfl
    (fun f fn hf hfn => by
      obtain rfl : f = 3 := Option.some.inj ((show Tryd.prog.funcNamed "bailey/baileylaw4.DrbgIter" = some 3 by kernel_rfl).symm.trans hf) |>.symm
      obtain rfl : fn = Tryd.f3 := (Option.some.inj (Tryd.func3.symm.trans hfn)).symm
      exact ⟨by kernel_rfl, fun j t ht => by
        have hm : t ∈ Tryd.f3.params.toList := by simpa using Array.mem_of_getElem? ht
        have hall : (Tryd.f3.params.toList.all fun u => !Tryd.prog.wantsStandIn u) = true := by kernel_rfl
        exact (show Tryd.prog.wantsStandIn t = false by simpa using List.all_eq_true.1 hall t hm)⟩)
    (by kernel_rfl)
end Go.Proofs.YthghiokcinpnlaaDoor
