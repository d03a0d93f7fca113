/- RuleParts where the mode is 3. -/
import Derived.Test.YtkglnkfoeedmoaaParts
namespace Go.Proofs.Ytkglnkfoeedmoaa.Parts
open Go.Proofs.YtkglnkfoeedmoaaSx
theorem tried3_0 (W : World) : okTM (tm 3 0) (nam bnd) (run W 3 0) (asm1 3 0) = true := by kernel_rfl
theorem tried3_1 (W : World) : okTM (tm 3 1) (nam bnd) (run W 3 1) (asm1 3 1) = true := by kernel_rfl
theorem tried3_2 (W : World) : okTM (tm 3 2) (nam bnd) (run W 3 2) (asm1 3 2) = true := by kernel_rfl
theorem tried3_3 (W : World) : okTM (tm 3 3) (nam bnd) (run W 3 3) (asm1 3 3) = true := by kernel_rfl
theorem tried3_4 (W : World) : okTM (tm 3 4) (nam bnd) (run W 3 4) (asm1 3 4) = true := by kernel_rfl
end Go.Proofs.Ytkglnkfoeedmoaa.Parts
