/- The simplest facts of the image hold: awake returns true, for every memory, whatever order is drawn. -/
import Derived.Test.YtaemnhhebhepeaaGreatEnc
namespace Go.Proofs.YtaemnhhebhepeaaGreat.Abs
open Go Go.Proofs
theorem awake_run : endsT (callN T0 X0 encS 100000 100 9 [] (startH Tryz.prog)) = true := by kernel_rfl
end Go.Proofs.YtaemnhhebhepeaaGreat.Abs
