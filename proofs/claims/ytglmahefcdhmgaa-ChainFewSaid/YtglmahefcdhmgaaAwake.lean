
import Derived.Test.YtglmahefcdhmgaaNum
import Derived.Test.YtglmahefcdhmgaaAbsZJ
import Derived.Test.YtglmahefcdhmgaaAbsZH
namespace Go.Proofs.Ytglmahefcdhmgaa.Abs
open Go Go.Proofs
noncomputable section
theorem awake_run : endsT (callN T0 X0 noSums 100000 100 6 [] (startH Try.prog)) = true := by kernel_rfl
end
end Go.Proofs.Ytglmahefcdhmgaa.Abs
