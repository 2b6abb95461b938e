/-
  The law DrbgNone holds of the given program: a nil generator gives nothing (no bytes, no number, no count, an empty range), and a generator that is asked for too many bytes gives none and counts nothing. The call returns true and leaves all memory that was there as it was.
  Conditions: the row's own alone (the table of SHA-256's and SHA-512's constants reads as the program's text lays it: the card ties that).
-/
import Derived.Test.YthghiokcinpnlaaDoorNone
import Derived.Test.YthghiokcinpnlaaDoorKt
namespace Go.Proofs.YthghiokcinpnlaaDoor
open Go Go.Ev Go.ChangeShapes Go.WideShapes Go.ChangeAt Go.RowKit
set_option linter.unusedVariables false

set_option maxRecDepth 100000 in
theorem drbgNone_lifted (os : Os) (started : os.Started) (H : Type) (enc : TypeId × Value → H) :
    ReturnsInHanded {} Tryd.checked os 5 .any (fun w args => (Rows.drbgNoneSpec.pre enc Tryd.prog Tryd.f5 [] false w args ∧ laidMet Tryd.prog [("bailey/hashes.k", Rows.laid_bailey_hashes_k)] w) ∧ sizedMet enc Tryd.prog Tryd.f5 (OpenSpec.ofChange Rows.drbgNoneSpec) false w args)
      (Rows.drbgNoneSpec.post enc Tryd.prog Tryd.f5 false true false false) := by
  refine returnsInHanded_of_change_and (C := Tryd.checked) (X := fun w _ => laidMet Tryd.prog [("bailey/hashes.k", Rows.laid_bailey_hashes_k)] w) (fun _ _ _ hh h => h.of_heap hh) Tryd.own started (by kernel_rfl) Tryd.func5
    (ChangeSpec.witness_at (enc := enc) (C := Tryd.checked) (os := os) (X := fun w _ => laidMet Tryd.prog [("bailey/hashes.k", Rows.laid_bailey_hashes_k)] w) false (laidWorld os) #[] 8 rfl (by kernel_rfl) (by kernel_rfl) (by kernel_rfl) (by kernel_rfl) (by kernel_rfl) (laidWorld_met os _)) ?_
  intro W base args ds gs before hval hW _ _ hL _
  have hW' := hW
  obtain ⟨p, q, hA0, hV0, rfl, hfz, hnd⟩ := hW
  have hA : DataW.TrodAll enc Tryd.prog W 0 (fun _ => true) true [] args.toList ds p := by
    rw [← show Tryd.f5.params.toList = [] by kernel_rfl]; exact hA0
  obtain ⟨rfl, rfl, rfl⟩ := trodAll_none hA
  refine (drbgNone_spec (row_of_laid hL) rfl).mono ?_
  rintro e W' ⟨rfl, hb⟩
  exact ⟨_, rfl, post_true Tryd.laidOut' (by kernel_rfl) (by kernel_rfl) (Tryd.underlying4) rfl rfl hW' hb⟩

theorem drbgNone_holds : Rows.DrbgNoneSaid :=
  OpenClaim.holds_of_wide 5 Tryd.f5 rfl rfl rfl rfl rfl rfl rfl ⟨rfl, rfl, rfl, rfl, rfl⟩ rfl rfl rfl rfl rfl (by kernel_rfl) Tryd.func5 (by kernel_rfl)
    (of_decide_eq_true (by kernel_rfl)) (by unfold Func.isWrapper; rw [if_neg (of_decide_eq_false (by kernel_rfl))]; exact ⟨rfl, rfl⟩)
    (fun os started H enc _ => drbgNone_lifted os started H enc)

theorem drbgNone_card : Rows.DrbgNoneCardSaid :=
  Claim7.holds_tied_plain_at .later [] [.data] true Rows.drbgNoneCard.stood.harness false
    drbgNone_holds (fun _ h => by cases h) (by kernel_rfl) (fun _ h => by cases h) drbgNone_row_tie rfl ⟨rfl, rfl⟩ (by kernel_rfl) rfl
    (fun f fn hf hfn => by
      obtain rfl : f = 5 := Option.some.inj ((show Tryd.prog.funcNamed "bailey/baileylaw4.DrbgNone" = some 5 by kernel_rfl).symm.trans hf) |>.symm
      obtain rfl : fn = Tryd.f5 := (Option.some.inj (Tryd.func5.symm.trans hfn)).symm
      exact ⟨by kernel_rfl, fun j t ht => by
        have hm : t ∈ Tryd.f5.params.toList := by simpa using Array.mem_of_getElem? ht
        have hall : (Tryd.f5.params.toList.all fun u => !Tryd.prog.wantsStandIn u) = true := by kernel_rfl
        exact (show Tryd.prog.wantsStandIn t = false by simpa using List.all_eq_true.1 hall t hm)⟩)
    (by kernel_rfl)
end Go.Proofs.YthghiokcinpnlaaDoor
