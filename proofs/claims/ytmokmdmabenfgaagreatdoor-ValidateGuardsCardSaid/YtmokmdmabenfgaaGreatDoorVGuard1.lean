/-
  The law warmpathlaw41.ValidateGuards: six of its paths, carried out by the kernel. Written by gen-guards.py.
-/
import Derived.Test.YtmokmdmabenfgaaGreatDoorVGMemo
namespace Go.Proofs.YtmokmdmabenfgaaGreatDoor.Ev
open Go

set_option maxRecDepth 100000
theorem guard10_false : okRunO Tryz.prog gOv1 [] 60 5 (guardArgs 1 0 false) = true := by kernel_rfl
theorem guard10_true : okRunO Tryz.prog gOv1 [] 60 5 (guardArgs 1 0 true) = true := by kernel_rfl
theorem guard11_false : okRunO Tryz.prog gOv1 [] 60 5 (guardArgs 1 1 false) = true := by kernel_rfl
theorem guard11_true : okRunO Tryz.prog gOv1 [] 60 5 (guardArgs 1 1 true) = true := by kernel_rfl
theorem guard12_false : okRunO Tryz.prog gOv1 [] 60 5 (guardArgs 1 2 false) = true := by kernel_rfl
theorem guard12_true : okRunO Tryz.prog gOv1 [] 60 5 (guardArgs 1 2 true) = true := by kernel_rfl
end Go.Proofs.YtmokmdmabenfgaaGreatDoor.Ev
