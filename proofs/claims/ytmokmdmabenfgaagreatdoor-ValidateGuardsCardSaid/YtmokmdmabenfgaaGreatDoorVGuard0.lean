/-
  The law warmpathlaw41.ValidateGuards: six of its paths, carried out by the kernel. Written by gen-guards.py.
-/
import Derived.Test.YtmokmdmabenfgaaGreatDoorVGMemo
namespace Go.Proofs.YtmokmdmabenfgaaGreatDoor.Ev
open Go

set_option maxRecDepth 100000
theorem guard00_false : okRunO Tryz.prog gOv0 [] 60 5 (guardArgs 0 0 false) = true := by kernel_rfl
theorem guard00_true : okRunO Tryz.prog gOv0 [] 60 5 (guardArgs 0 0 true) = true := by kernel_rfl
theorem guard01_false : okRunO Tryz.prog gOv0 [] 60 5 (guardArgs 0 1 false) = true := by kernel_rfl
theorem guard01_true : okRunO Tryz.prog gOv0 [] 60 5 (guardArgs 0 1 true) = true := by kernel_rfl
theorem guard02_false : okRunO Tryz.prog gOv0 [] 60 5 (guardArgs 0 2 false) = true := by kernel_rfl
theorem guard02_true : okRunO Tryz.prog gOv0 [] 60 5 (guardArgs 0 2 true) = true := by kernel_rfl
end Go.Proofs.YtmokmdmabenfgaaGreatDoor.Ev
