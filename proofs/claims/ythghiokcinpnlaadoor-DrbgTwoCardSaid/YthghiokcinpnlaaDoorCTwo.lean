/-
  The law DrbgTwo of the generator over a tape holds of the given program, for every entropy and every number: two generators over one tape tell the same bytes, and asking one does not move another. The call returns true and leaves all memory that was there as it was.
  Conditions: the row's own alone (the table of SHA-256's and SHA-512's constants reads as the program's text lays it: the card ties that). The whole chain is walked: SHA-256's block function, hash, HMAC, HMAC-DRBG, and of limb what 'begun' calls.
-/
import Derived.Test.YthghiokcinpnlaaDoorTwo
import Derived.Test.YthghiokcinpnlaaDoorKt
namespace Go.Proofs.YthghiokcinpnlaaDoor
open Go Go.Ev Go.ChangeShapes Go.WideShapes Go.ChangeAt Go.RowKit
set_option linter.unusedVariables false

set_option maxRecDepth 100000 in
theorem two_lifted (os : Os) (started : os.Started) (H : Type) (enc : TypeId × Value → H) :
    ReturnsInHanded {} Tryd.checked os 4 .any (fun w args => (Rows.drbgTwoSpec.pre enc Tryd.prog Tryd.f4 [] false w args ∧ laidMet Tryd.prog [("bailey/hashes.k", Rows.laid_bailey_hashes_k)] w) ∧ sizedMet enc Tryd.prog Tryd.f4 (OpenSpec.ofChange Rows.drbgTwoSpec) false w args)
      (Rows.drbgTwoSpec.post enc Tryd.prog Tryd.f4 false true false false) := by
  refine returnsInHanded_of_change_and (C := Tryd.checked) (X := fun w _ => laidMet Tryd.prog [("bailey/hashes.k", Rows.laid_bailey_hashes_k)] w) (fun _ _ _ hh h => h.of_heap hh) Tryd.own started (by kernel_rfl) Tryd.func4
    (ChangeSpec.witness_at (enc := enc) (C := Tryd.checked) (os := os) (X := fun w _ => laidMet Tryd.prog [("bailey/hashes.k", Rows.laid_bailey_hashes_k)] w) false (laidWorld os) #[.slice none 0 0, .int .i64 0] 8 rfl (by kernel_rfl) (by kernel_rfl) (by kernel_rfl) (by kernel_rfl) (by kernel_rfl) (laidWorld_met os _)) ?_
  intro W base args ds gs before hval hW _ _ hL _
  have hW' := hW
  obtain ⟨p, q, hA0, hV0, rfl, hfz, hnd⟩ := hW
  have hA : DataW.TrodAll enc Tryd.prog W 0 (fun _ => true) true [22, 3] args.toList ds p := by
    rw [← show Tryd.f4.params.toList = [22, 3] by kernel_rfl]; exact hA0
  obtain ⟨v0, v1, d0, d1, p0, p1, rfl, rfl, rfl, h0, h1⟩ := trodAll_two hA
  obtain ⟨a, l, c, zs, rfl, hr, hl, hc, _, _⟩ := open_row Tryd.underlying22 Tryd.underlying5 Tryd.cellsU8 (hval 0 22 v0 (by kernel_rfl) rfl) h0
  obtain ⟨n, rfl, rfl, rfl, hwn⟩ := open_int Tryd.underlying3 (hval 1 3 v1 (by kernel_rfl) rfl) h1
  refine (drbgTwo_spec hr hl hc (row_of_laid hL) rfl).mono ?_
  rintro e W' ⟨rfl, hb⟩
  exact ⟨_, rfl, post_true Tryd.laidOut' (by kernel_rfl) (by kernel_rfl) (Tryd.underlying4) rfl rfl hW' hb⟩

theorem two_holds : Rows.DrbgTwoSaid :=
  OpenClaim.holds_of_wide 4 Tryd.f4 rfl rfl rfl rfl rfl rfl rfl ⟨rfl, rfl, rfl, rfl, rfl⟩ rfl rfl rfl rfl rfl (by kernel_rfl) Tryd.func4 (by kernel_rfl)
    (of_decide_eq_true (by kernel_rfl)) (by unfold Func.isWrapper; rw [if_neg (of_decide_eq_false (by kernel_rfl))]; exact ⟨rfl, rfl⟩)
    (fun os started H enc _ => two_lifted os started H enc)

theorem two_card : Rows.DrbgTwoCardSaid :=
  Claim7.holds_tied_plain_at .later [] [.data] true Rows.drbgTwoCard.stood.harness false
    two_holds (fun _ h => by cases h) (by kernel_rfl) (fun _ h => by cases h) drbgTwo_row_tie rfl ⟨rfl, rfl⟩ (by kernel_rfl) rfl
    (fun f fn hf hfn => by
      obtain rfl : f = 4 := Option.some.inj ((show Tryd.prog.funcNamed "bailey/baileylaw4.DrbgTwo" = some 4 by kernel_rfl).symm.trans hf) |>.symm
      obtain rfl : fn = Tryd.f4 := (Option.some.inj (Tryd.func4.symm.trans hfn)).symm
      exact ⟨by kernel_rfl, fun j t ht => by
        have hm : t ∈ [22, 3] := by
          have := Array.mem_of_getElem? ht
          rw [← show Tryd.f4.params.toList = [22, 3] by kernel_rfl]; simpa using this
        have hall : ([22, 3].all fun u => !Tryd.prog.wantsStandIn u) = true := by kernel_rfl
        exact (show Tryd.prog.wantsStandIn t = false by simpa using List.all_eq_true.1 hall t hm)⟩)
    (by kernel_rfl)
end Go.Proofs.YthghiokcinpnlaaDoor
