/-
  Chapter 35: SplitDepth, carried out by the kernel. Written by gen-depth.py.
-/
import Derived.Test.YtgkbjdphkmmmhaaDoorSdOv
namespace Go.Proofs.YtgkbjdphkmmmhaaDoor.Ev
open Go
set_option maxRecDepth 100000
theorem sd_run18 : okRunO Tryd.prog eOv [] 60 3 (depthArgs 18) = true := by kernel_rfl
theorem sd_run19 : okRunO Tryd.prog eOv [] 60 3 (depthArgs 19) = true := by kernel_rfl
theorem sd_run20 : okRunO Tryd.prog eOv [] 60 3 (depthArgs 20) = true := by kernel_rfl
end Go.Proofs.YtgkbjdphkmmmhaaDoor.Ev
