/-
  The law warmpathlaw41.ValidateGuards: six of its paths, carried out by the kernel. Written by gen-guards.py.
-/
import Derived.Test.YtmokmdmabenfgaaGreatDoorVGMemo
namespace Go.Proofs.YtmokmdmabenfgaaGreatDoor.Ev
open Go

set_option maxRecDepth 100000
theorem guard20_false : okRunO Tryz.prog gOv2 [] 60 5 (guardArgs 2 0 false) = true := by kernel_rfl
theorem guard20_true : okRunO Tryz.prog gOv2 [] 60 5 (guardArgs 2 0 true) = true := by kernel_rfl
theorem guard21_false : okRunO Tryz.prog gOv2 [] 60 5 (guardArgs 2 1 false) = true := by kernel_rfl
theorem guard21_true : okRunO Tryz.prog gOv2 [] 60 5 (guardArgs 2 1 true) = true := by kernel_rfl
theorem guard22_false : okRunO Tryz.prog gOv2 [] 60 5 (guardArgs 2 2 false) = true := by kernel_rfl
theorem guard22_true : okRunO Tryz.prog gOv2 [] 60 5 (guardArgs 2 2 true) = true := by kernel_rfl
end Go.Proofs.YtmokmdmabenfgaaGreatDoor.Ev
