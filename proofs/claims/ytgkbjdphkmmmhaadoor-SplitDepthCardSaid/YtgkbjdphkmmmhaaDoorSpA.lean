/-
  Chapter 35: split.Split at the program of the law, carried out by the kernel (five numbers of registers). Written by gen-split.py.
-/
import Derived.Test.YtgkbjdphkmmmhaaDoorSpMemo
namespace Go.Proofs.YtgkbjdphkmmmhaaDoor.Ev
open Go
set_option maxRecDepth 100000
theorem sp_run2 : (spM.at (spI 2)).run Tryd.prog vOv 60 = true := by kernel_rfl
theorem sp_run3 : (spM.at (spI 3)).run Tryd.prog vOv 60 = true := by kernel_rfl
theorem sp_run4 : (spM.at (spI 4)).run Tryd.prog vOv 60 = true := by kernel_rfl
theorem sp_run5 : (spM.at (spI 5)).run Tryd.prog vOv 60 = true := by kernel_rfl
theorem sp_run6 : (spM.at (spI 6)).run Tryd.prog vOv 60 = true := by kernel_rfl
end Go.Proofs.YtgkbjdphkmmmhaaDoor.Ev
