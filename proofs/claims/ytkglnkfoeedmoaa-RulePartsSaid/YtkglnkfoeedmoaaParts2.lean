/- RuleParts where the mode is 2. -/
import Derived.Test.YtkglnkfoeedmoaaParts
namespace Go.Proofs.Ytkglnkfoeedmoaa.Parts
open Go.Proofs.YtkglnkfoeedmoaaSx
theorem tried2_0 (W : World) : okTM (tm 2 0) (nam bnd) (run W 2 0) (asm1 2 0) = true := by kernel_rfl
theorem tried2_1 (W : World) : okTM (tm 2 1) (nam bnd) (run W 2 1) (asm1 2 1) = true := by kernel_rfl
theorem tried2_2 (W : World) : okTM (tm 2 2) (nam bnd) (run W 2 2) (asm1 2 2) = true := by kernel_rfl
theorem tried2_3 (W : World) : okTM (tm 2 3) (nam bnd) (run W 2 3) (asm1 2 3) = true := by kernel_rfl
theorem tried2_4 (W : World) : okTM (tm 2 4) (nam bnd) (run W 2 4) (asm1 2 4) = true := by kernel_rfl
end Go.Proofs.Ytkglnkfoeedmoaa.Parts
