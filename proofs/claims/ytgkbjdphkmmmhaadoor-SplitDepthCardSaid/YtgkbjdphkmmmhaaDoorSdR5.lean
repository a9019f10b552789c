/-
  Chapter 35: SplitDepth, carried out by the kernel. Written by gen-depth.py.
-/
import Derived.Test.YtgkbjdphkmmmhaaDoorSdOv
namespace Go.Proofs.YtgkbjdphkmmmhaaDoor.Ev
open Go
set_option maxRecDepth 100000
theorem sd_run24 : okRunO Tryd.prog eOv [] 60 3 (depthArgs 24) = true := by kernel_rfl
theorem sd_run25 : okRunO Tryd.prog eOv [] 60 3 (depthArgs 25) = true := by kernel_rfl
theorem sd_run26 : okRunO Tryd.prog eOv [] 60 3 (depthArgs 26) = true := by kernel_rfl
end Go.Proofs.YtgkbjdphkmmmhaaDoor.Ev
