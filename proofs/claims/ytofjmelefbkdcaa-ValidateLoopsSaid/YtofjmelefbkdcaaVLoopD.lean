/-
  The law warmpathlaw41.ValidateLoops: some of its paths, carried out by the kernel.
-/
import Derived.Test.YtofjmelefbkdcaaVLoopA
namespace Go.Proofs.Ytofjmelefbkdcaa.Ev
open Go
set_option maxRecDepth 100000
theorem loop5_1 : okRun Try.prog 60 3 (loopArgs [(197, 5), (2097666, 1), (2097696, 0)]) = true := by kernel_rfl
theorem loop5_2 : okRun Try.prog 60 3 (loopArgs [(197, 5), (2097666, 1), (2097696, 1), (2094624, 0)]) = true := by kernel_rfl
end Go.Proofs.Ytofjmelefbkdcaa.Ev
