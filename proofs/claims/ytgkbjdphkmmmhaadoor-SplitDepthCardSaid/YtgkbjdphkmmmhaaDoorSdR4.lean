/-
  Chapter 35: SplitDepth, carried out by the kernel. Written by gen-depth.py.
-/
import Derived.Test.YtgkbjdphkmmmhaaDoorSdOv
namespace Go.Proofs.YtgkbjdphkmmmhaaDoor.Ev
open Go
set_option maxRecDepth 100000
theorem sd_run21 : okRunO Tryd.prog eOv [] 60 3 (depthArgs 21) = true := by kernel_rfl
theorem sd_run22 : okRunO Tryd.prog eOv [] 60 3 (depthArgs 22) = true := by kernel_rfl
theorem sd_run23 : okRunO Tryd.prog eOv [] 60 3 (depthArgs 23) = true := by kernel_rfl
end Go.Proofs.YtgkbjdphkmmmhaaDoor.Ev
