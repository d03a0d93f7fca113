/- RuleParts where the mode is 0. -/
import Derived.Test.YtkglnkfoeedmoaaParts
namespace Go.Proofs.Ytkglnkfoeedmoaa.Parts
open Go.Proofs.YtkglnkfoeedmoaaSx
theorem tried0_0 (W : World) : okTM (tm 0 0) (nam bnd) (run W 0 0) (asm1 0 0) = true := by kernel_rfl
theorem tried0_1 (W : World) : okTM (tm 0 1) (nam bnd) (run W 0 1) (asm1 0 1) = true := by kernel_rfl
theorem tried0_2 (W : World) : okTM (tm 0 2) (nam bnd) (run W 0 2) (asm1 0 2) = true := by kernel_rfl
theorem tried0_3 (W : World) : okTM (tm 0 3) (nam bnd) (run W 0 3) (asm1 0 3) = true := by kernel_rfl
theorem tried0_4 (W : World) : okTM (tm 0 4) (nam bnd) (run W 0 4) (asm1 0 4) = true := by kernel_rfl
end Go.Proofs.Ytkglnkfoeedmoaa.Parts
