
import Derived.Test.YthpfgiabdpeiaaaNum
import Derived.Test.YthpfgiabdpeiaaaAbsZJ
import Derived.Test.YthpfgiabdpeiaaaAbsZH
namespace Go.Proofs.Ythpfgiabdpeiaaa.Abs
open Go Go.Proofs
noncomputable section
theorem awake_run : endsT (callN T0 X0 noSums 100000 100 6 [] (startH Try.prog)) = true := by kernel_rfl
end
end Go.Proofs.Ythpfgiabdpeiaaa.Abs
