/-
  Chapter 35: SplitDepth, carried out by the kernel. Written by gen-depth.py.
-/
import Derived.Test.YtgkbjdphkmmmhaaDoorSdOv
namespace Go.Proofs.YtgkbjdphkmmmhaaDoor.Ev
open Go
set_option maxRecDepth 100000
theorem sd_run14 : okRunO Tryd.prog eOv [] 60 3 (depthArgs 14) = true := by kernel_rfl
theorem sd_run15 : okRunO Tryd.prog eOv [] 60 3 (depthArgs 15) = true := by kernel_rfl
theorem sd_run16 : okRunO Tryd.prog eOv [] 60 3 (depthArgs 16) = true := by kernel_rfl
theorem sd_run17 : okRunO Tryd.prog eOv [] 60 3 (depthArgs 17) = true := by kernel_rfl
end Go.Proofs.YtgkbjdphkmmmhaaDoor.Ev
