/- RuleParts where the mode is 4. -/
import Derived.Test.YtkglnkfoeedmoaaParts
namespace Go.Proofs.Ytkglnkfoeedmoaa.Parts
open Go.Proofs.YtkglnkfoeedmoaaSx
theorem tried4_0 (W : World) : okTM (tm 4 0) (nam bnd) (run W 4 0) (asm1 4 0) = true := by kernel_rfl
theorem tried4_1 (W : World) : okTM (tm 4 1) (nam bnd) (run W 4 1) (asm1 4 1) = true := by kernel_rfl
theorem tried4_2 (W : World) : okTM (tm 4 2) (nam bnd) (run W 4 2) (asm1 4 2) = true := by kernel_rfl
theorem tried4_3 (W : World) : okTM (tm 4 3) (nam bnd) (run W 4 3) (asm1 4 3) = true := by kernel_rfl
theorem tried4_4 (W : World) : okTM (tm 4 4) (nam bnd) (run W 4 4) (asm1 4 4) = true := by kernel_rfl
end Go.Proofs.Ytkglnkfoeedmoaa.Parts
