/-
  Chapter 35: SplitDepth, carried out by the kernel. Written by gen-depth.py.
-/
import Derived.Test.YtgkbjdphkmmmhaaDoorSdOv
namespace Go.Proofs.YtgkbjdphkmmmhaaDoor.Ev
open Go
set_option maxRecDepth 100000
theorem sd_run9 : okRunO Tryd.prog eOv [] 60 3 (depthArgs 9) = true := by kernel_rfl
theorem sd_run10 : okRunO Tryd.prog eOv [] 60 3 (depthArgs 10) = true := by kernel_rfl
theorem sd_run11 : okRunO Tryd.prog eOv [] 60 3 (depthArgs 11) = true := by kernel_rfl
theorem sd_run12 : okRunO Tryd.prog eOv [] 60 3 (depthArgs 12) = true := by kernel_rfl
theorem sd_run13 : okRunO Tryd.prog eOv [] 60 3 (depthArgs 13) = true := by kernel_rfl
end Go.Proofs.YtgkbjdphkmmmhaaDoor.Ev
