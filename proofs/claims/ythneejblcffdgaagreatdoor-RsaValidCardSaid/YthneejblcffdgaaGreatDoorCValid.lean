/-
  The law RsaValid of the RSA keys holds of the given program, for every key: the program tells a key to be valid just if the reference does (each number cut to nine limbs, as the law says). The call returns true and leaves all memory that was there as it was.
  Conditions: the row's own alone (the table of SHA-256's and SHA-512's constants reads as the program's text lays it: the card ties that). Walked whole: limb by value (long division, Montgomery's powers), the test of Miller and Rabin, the reference's numbers to the base 2^32; begun's prime off the empty tape is reckoned by the kernel.
-/
import Derived.Test.YthneejblcffdgaaGreatDoorPart26

namespace Go.Proofs.YthneejblcffdgaaGreatDoor
open Go Go.Ev Go.ChangeShapes Go.WideShapes Go.ChangeAt Go.RowKit
set_option linter.unusedVariables false

set_option maxRecDepth 100000 in
theorem rsaValid_lifted (os : Os) (started : os.Started) (H : Type) (enc : TypeId × Value → H) :
    ReturnsInHanded {} Tryz.checked os 3 .any (fun w args => (Rows.rsaValidSpec.pre enc Tryz.prog Tryz.f3 [] false w args ∧ laidMet Tryz.prog [("bailey/hashes.k", Rows.laid_bailey_hashes_k)] w) ∧ sizedMet enc Tryz.prog Tryz.f3 (OpenSpec.ofChange Rows.rsaValidSpec) false w args)
      (Rows.rsaValidSpec.post enc Tryz.prog Tryz.f3 false true false false) := by
  refine returnsInHanded_of_change_and (C := Tryz.checked) (X := fun w _ => laidMet Tryz.prog [("bailey/hashes.k", Rows.laid_bailey_hashes_k)] w) (fun _ _ _ hh h => h.of_heap hh) Tryz.own started (by kernel_rfl) Tryz.func3
    (ChangeSpec.witness_at (enc := enc) (C := Tryz.checked) (os := os) (X := fun w _ => laidMet Tryz.prog [("bailey/hashes.k", Rows.laid_bailey_hashes_k)] w) false (laidWorld os) #[.agg #[.slice none 0 0, .slice none 0 0, .slice none 0 0, .slice none 0 0, .slice none 0 0]] 8 rfl (by kernel_rfl) (by kernel_rfl) (by kernel_rfl) (by kernel_rfl) (by kernel_rfl) (laidWorld_met os _)) ?_
  intro W base args ds gs before hval hW _ _ hL _
  have hW' := hW
  obtain ⟨p, q, hA0, hV0, rfl, hfz, hnd⟩ := hW
  have hA : DataW.TrodAll enc Tryz.prog W 0 (fun _ => true) true [25] args.toList ds p := by
    rw [← show Tryz.f3.params.toList = [25] by kernel_rfl]; exact hA0
  obtain ⟨v0, d0, rfl, rfl, h0⟩ := trodAll_one hA
  obtain ⟨s1, s2, s3, s4, s5, x1, x2, x3, x4, x5, rfl, hK⟩ := key_of_trod (hval 0 25 v0 (by kernel_rfl) rfl) h0
  refine (rsaValid_spec hK (row_of_laid hL)).mono ?_
  rintro e W' ⟨rfl, hb⟩
  exact ⟨_, rfl, post_true Tryz.laidOut' (by kernel_rfl) (by kernel_rfl) (Tryz.underlying4) rfl rfl hW' hb⟩

theorem rsaValid_holds : Rows.RsaValidSaid :=
  OpenClaim.holds_of_wide 3 Tryz.f3 rfl rfl rfl rfl rfl rfl rfl ⟨rfl, rfl, rfl, rfl, rfl⟩ rfl rfl rfl rfl rfl (by kernel_rfl) Tryz.func3 (by kernel_rfl)
    (of_decide_eq_true (by kernel_rfl)) (by unfold Func.isWrapper; rw [if_neg (of_decide_eq_false (by kernel_rfl))]; exact ⟨rfl, rfl⟩)
    (fun os started H enc _ => rsaValid_lifted os started H enc)

theorem rsaValid_card : Rows.RsaValidCardSaid :=
  Claim7.holds_tied_plain_at .later [] [.data] true Rows.rsaValidCard.stood.harness false
    rsaValid_holds (fun _ h => by cases h) (by kernel_rfl) (fun _ h => by cases h) rsaValid_row_tie rfl ⟨rfl, rfl⟩ (by kernel_rfl) rfl
    (fun f fn hf hfn => by
      obtain rfl : f = 3 := Option.some.inj ((show Tryz.prog.funcNamed "bailey/baileylaw7.RsaValid" = some 3 by kernel_rfl).symm.trans hf) |>.symm
      obtain rfl : fn = Tryz.f3 := (Option.some.inj (Tryz.func3.symm.trans hfn)).symm
      exact ⟨by kernel_rfl, fun j t ht => by
        have hm : t ∈ Tryz.f3.params.toList := by simpa using Array.mem_of_getElem? ht
        have hall : (Tryz.f3.params.toList.all fun u => !Tryz.prog.wantsStandIn u) = true := by kernel_rfl
        exact (show Tryz.prog.wantsStandIn t = false by simpa using List.all_eq_true.1 hall t hm)⟩)
    (by kernel_rfl)
end Go.Proofs.YthneejblcffdgaaGreatDoor
