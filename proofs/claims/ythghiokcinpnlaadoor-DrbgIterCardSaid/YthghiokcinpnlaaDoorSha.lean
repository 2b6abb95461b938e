import Derived.Test.YthghiokcinpnlaaDoorRot
namespace Go.Proofs.YthghiokcinpnlaaDoor
open Go Go.Ev Go.RowKit
set_option maxRecDepth 20000

/-- four bytes as a number. -/
def get32 (a b c d : Int) : Int :=
  Go.bits .or .u32 (Go.bits .or .u32 (Go.bits .or .u32 (IntKind.u32.wrap (IntKind.u32.wrap a * 2 ^ (min (24 : Int).toNat 32))) (IntKind.u32.wrap (IntKind.u32.wrap b * 2 ^ (min (16 : Int).toNat 32)))) (IntKind.u32.wrap (IntKind.u32.wrap c * 2 ^ (min (8 : Int).toNat 32)))) (IntKind.u32.wrap d)
theorem get32_spec (a : Option Addr) (l c : Nat) (xs : List Int) (w : World) (hr : Row w a .u8 xs) (hl : l = xs.length) (h4 : 4 ≤ l) :
    Calls Tryd.prog 80 #[.slice a l c] w fun e w' => e = .returned (.int .u32 (get32 (xs.getD 0 0) (xs.getD 1 0) (xs.getD 2 0) (xs.getD 3 0))) ∧ w' = { w with drawn := w.drawn + 1 } := by
  refine calls_of_ev tysOk extsOk Tryd.func80 rfl rfl rfl ?_
  have hr' := hr.drw
  refine DrawP.still tysOk extsOk mixed (by kernel_rfl) rfl ?_
  refine IdxP.ld 0 rfl hr' hl (by omega) (fun _ _ _ => ?_)
  refine ChkP.go (by omega) ?_
  refine IdxP.ld 1 rfl hr' hl (by omega) (fun _ _ _ => ?_)
  refine ChkP.go (by omega) ?_
  refine IdxP.ld 2 rfl hr' hl (by omega) (fun _ _ _ => ?_)
  refine ChkP.go (by omega) ?_
  refine IdxP.ld 3 rfl hr' hl (by omega) (fun _ _ _ => ?_)
  exact ⟨rfl, rfl, rfl⟩
end Go.Proofs.YthghiokcinpnlaaDoor
