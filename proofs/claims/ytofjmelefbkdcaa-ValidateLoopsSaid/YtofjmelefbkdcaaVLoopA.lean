/-
  The law warmpathlaw41.ValidateLoops: some of its paths, carried out by the kernel.
-/
import Derived.Test.YtofjmelefbkdcaaEvTop
namespace Go.Proofs.Ytofjmelefbkdcaa.Ev
open Go

def loopArgs (l : List (Nat × Nat)) : List Value := [sym 0 (enc l), sym 1 (enc l), sym 2 (enc l)]
set_option maxRecDepth 100000
theorem loop0_0 : okRun Try.prog 60 3 (loopArgs [(197, 0)]) = true := by kernel_rfl
theorem loop1_0 : okRun Try.prog 60 3 (loopArgs [(197, 1), (2097666, 0)]) = true := by kernel_rfl
theorem loop1_1 : okRun Try.prog 60 3 (loopArgs [(197, 1), (2097666, 1), (2096672, 0)]) = true := by kernel_rfl
theorem loop2_0 : okRun Try.prog 60 3 (loopArgs [(197, 2), (2097666, 0)]) = true := by kernel_rfl
theorem loop2_1 : okRun Try.prog 60 3 (loopArgs [(197, 2), (2097666, 1), (2097696, 0)]) = true := by kernel_rfl
theorem loop2_2 : okRun Try.prog 60 3 (loopArgs [(197, 2), (2097666, 1), (2097696, 1)]) = true := by kernel_rfl
end Go.Proofs.Ytofjmelefbkdcaa.Ev
