import Derived.Test.YthghiokcinpnlaaDoorTabD
import Derived.Test.YthghiokcinpnlaaDoorEvMem
namespace Go.Proofs.YthghiokcinpnlaaDoor
open Go Go.Ev Go.RowKit
set_option maxRecDepth 20000

theorem wrap_u64_nonneg (n : Int) : 0 ≤ IntKind.u64.wrap n := by rw [IntKind.wrap_u64]; omega
theorem wrap_u32_nonneg (n : Int) : 0 ≤ IntKind.u32.wrap n := by rw [IntKind.wrap_u32]; omega
theorem bits_u64_nonneg (op : BinOp) (a b : Int) : 0 ≤ Go.bits op .u64 a b := wrap_u64_nonneg _
theorem mixed : Tryd.prog.follows .mixedOrders = true := by kernel_rfl

def rotl32 (x k : Int) : Int :=
  Go.bits .or .u32 (IntKind.u32.wrap (x * 2 ^ (min (Go.bits .and .u64 (IntKind.u64.wrap k) 31).toNat 32))) (x.fdiv (2 ^ (min (IntKind.u64.wrap (32 - Go.bits .and .u64 (IntKind.u64.wrap k) 31)).toNat 32)))
theorem rotl32_spec (x k : Int) (w : World) : Calls Tryd.prog 81 #[.int .u32 x, .int .i64 k] w fun e w' => e = .returned (.int .u32 (rotl32 x k)) ∧ w' = w := by
  refine calls_of_ev tysOk extsOk Tryd.func81 rfl rfl rfl ?_
  refine ChkP.go (bits_u64_nonneg _ _ _) ?_
  refine ChkP.go (wrap_u64_nonneg _) ?_
  exact ⟨rfl, rfl, rfl⟩
end Go.Proofs.YthghiokcinpnlaaDoor
