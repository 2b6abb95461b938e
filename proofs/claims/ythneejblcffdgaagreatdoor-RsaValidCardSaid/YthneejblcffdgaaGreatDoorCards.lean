/-
  DERIVED. GIVEN WITH THE SEED: THE CARDS: each row of YthneejblcffdgaaGreatDoorRows.lean that lists a variable, with what it lists TIED to the program's text (the seventh form; the later family's looks); each row that meets fmt, with fmt's text TOLD by the authors' own Lean function (tested against real Go, not proved from fmt's source: count such statements apart). THE CARD IS WHAT COUNTS. Prove the row's statement (the work); the ties are given (YthneejblcffdgaaGreatDoorTie.lean); close each card by the builder's one call (the guide's Derived/Test/ToyasCard.lean, 'card_holds'). Laid BY PROGRAM, IN A SANDBOX (cutbox-door.mjs). By AI agents, Wed Nov 11 2026. No macro, syntax, notation, axiom, sorry.
-/
import Derived.Test.YthneejblcffdgaaGreatDoorRows
import GoSem.ClaimSeven
namespace Go.Proofs.YthneejblcffdgaaGreatDoor
namespace Rows

/-- THE TIED CARD OF 'baileylaw7.RsaValid'. -/
def rsaValidCard : Claim7 := { stood := { row := rsaValidRow, standIns := [], harness := (true, "ba4f6c0e6c7f75220ab02a00ac545afebe0b65d07ebcf575dfa8bafd3b9f5b52"), looks := false }, kinds := [], alts := [], laidByText := true, laidKinds := [.data], laidTests := true, laidLooks := .later }
def RsaValidCardSaid : Prop := Claim7.holds Tryz.pinned (.plain (OpenSpec.ofChange rsaValidSpec)) rsaValidCard

/-- THE SECOND FORM's CARD OF 'baileylaw7.RsaValid'. -/
def rsaValidUptoCard : Claim7 := { stood := { row := rsaValidUptoRow, standIns := [], harness := (true, "ba4f6c0e6c7f75220ab02a00ac545afebe0b65d07ebcf575dfa8bafd3b9f5b52"), looks := false }, kinds := [], alts := [], laidByText := true, laidKinds := [.data], laidTests := true, laidLooks := .later }
def RsaValidUptoCardSaid : Prop := Claim7.holds Tryz.pinned (.plain (OpenSpec.upto rsaValidSpec)) rsaValidUptoCard
end Rows
end Go.Proofs.YthneejblcffdgaaGreatDoor
