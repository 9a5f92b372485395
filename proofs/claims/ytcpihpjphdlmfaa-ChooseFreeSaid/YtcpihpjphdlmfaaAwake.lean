import Derived.Test.YtcpihpjphdlmfaaNum
import Derived.Test.YtcpihpjphdlmfaaAbsZJ
import Derived.Test.YtcpihpjphdlmfaaAbsZH
namespace Go.Proofs.Ytcpihpjphdlmfaa.Abs
open Go Go.Proofs
noncomputable section
theorem awake_run : endsT (callN T0 X0 noSums 100000 100 11 [] (startH Try.prog)) = true := by kernel_rfl
end
end Go.Proofs.Ytcpihpjphdlmfaa.Abs
