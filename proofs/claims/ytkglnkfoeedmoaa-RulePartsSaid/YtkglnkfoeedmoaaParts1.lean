/- RuleParts where the mode is 1. -/
import Derived.Test.YtkglnkfoeedmoaaParts
namespace Go.Proofs.Ytkglnkfoeedmoaa.Parts
open Go.Proofs.YtkglnkfoeedmoaaSx
theorem tried1_0 (W : World) : okTM (tm 1 0) (nam bnd) (run W 1 0) (asm1 1 0) = true := by kernel_rfl
theorem tried1_1 (W : World) : okTM (tm 1 1) (nam bnd) (run W 1 1) (asm1 1 1) = true := by kernel_rfl
theorem tried1_2 (W : World) : okTM (tm 1 2) (nam bnd) (run W 1 2) (asm1 1 2) = true := by kernel_rfl
theorem tried1_3 (W : World) : okTM (tm 1 3) (nam bnd) (run W 1 3) (asm1 1 3) = true := by kernel_rfl
theorem tried1_4 (W : World) : okTM (tm 1 4) (nam bnd) (run W 1 4) (asm1 1 4) = true := by kernel_rfl
end Go.Proofs.Ytkglnkfoeedmoaa.Parts
