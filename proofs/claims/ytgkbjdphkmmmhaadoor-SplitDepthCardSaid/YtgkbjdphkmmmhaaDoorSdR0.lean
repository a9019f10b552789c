/-
  Chapter 35: SplitDepth, carried out by the kernel. Written by gen-depth.py.
-/
import Derived.Test.YtgkbjdphkmmmhaaDoorSdOv
namespace Go.Proofs.YtgkbjdphkmmmhaaDoor.Ev
open Go
set_option maxRecDepth 100000
theorem sd_run0 : okRunO Tryd.prog eOv [] 60 3 (depthArgs 0) = true := by kernel_rfl
theorem sd_run1 : okRunO Tryd.prog eOv [] 60 3 (depthArgs 1) = true := by kernel_rfl
theorem sd_run2 : okRunO Tryd.prog eOv [] 60 3 (depthArgs 2) = true := by kernel_rfl
theorem sd_run3 : okRunO Tryd.prog eOv [] 60 3 (depthArgs 3) = true := by kernel_rfl
theorem sd_run4 : okRunO Tryd.prog eOv [] 60 3 (depthArgs 4) = true := by kernel_rfl
theorem sd_run5 : okRunO Tryd.prog eOv [] 60 3 (depthArgs 5) = true := by kernel_rfl
theorem sd_run6 : okRunO Tryd.prog eOv [] 60 3 (depthArgs 6) = true := by kernel_rfl
theorem sd_run7 : okRunO Tryd.prog eOv [] 60 3 (depthArgs 7) = true := by kernel_rfl
theorem sd_run8 : okRunO Tryd.prog eOv [] 60 3 (depthArgs 8) = true := by kernel_rfl
end Go.Proofs.YtgkbjdphkmmmhaaDoor.Ev
