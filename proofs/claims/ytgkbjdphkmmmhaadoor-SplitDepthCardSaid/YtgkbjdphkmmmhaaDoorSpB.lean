/-
  Chapter 35: split.Split at the program of the law, carried out by the kernel (five numbers of registers). Written by gen-split.py.
-/
import Derived.Test.YtgkbjdphkmmmhaaDoorSpMemo
namespace Go.Proofs.YtgkbjdphkmmmhaaDoor.Ev
open Go
set_option maxRecDepth 100000
theorem sp_run7 : (spM.at (spI 7)).run Tryd.prog vOv 60 = true := by kernel_rfl
theorem sp_run8 : (spM.at (spI 8)).run Tryd.prog vOv 60 = true := by kernel_rfl
theorem sp_run9 : (spM.at (spI 9)).run Tryd.prog vOv 60 = true := by kernel_rfl
theorem sp_run10 : (spM.at (spI 10)).run Tryd.prog vOv 60 = true := by kernel_rfl
theorem sp_run11 : (spM.at (spI 11)).run Tryd.prog vOv 60 = true := by kernel_rfl
end Go.Proofs.YtgkbjdphkmmmhaaDoor.Ev
