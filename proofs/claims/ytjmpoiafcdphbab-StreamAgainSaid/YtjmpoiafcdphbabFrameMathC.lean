/- What a frame is. -/
import Derived.Test.YtjmpoiafcdphbabFrameMathB
namespace Go.Proofs.Ytjmpoiafcdphbab.Frame
open Go Go.RowKit Go.Proofs.Ytjmpoiafcdphbab.Crc
/-- A frame, and what is told of it. -/
def putL (l : List Int) : List Int × Int :=
  if (l.length : Int) > 32 then ([], 1) else ([165, 1, (l.length : Int)] ++ l ++ [sumI (1 :: (l.length : Int) :: l) / 256, sumI (1 :: (l.length : Int) :: l) % 256], 0)
end Go.Proofs.Ytjmpoiafcdphbab.Frame
