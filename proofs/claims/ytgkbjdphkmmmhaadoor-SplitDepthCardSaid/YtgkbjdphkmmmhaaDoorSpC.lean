/-
  Chapter 35: split.Split at the program of the law, carried out by the kernel (five numbers of registers). Written by gen-split.py.
-/
import Derived.Test.YtgkbjdphkmmmhaaDoorSpMemo
namespace Go.Proofs.YtgkbjdphkmmmhaaDoor.Ev
open Go
set_option maxRecDepth 100000
theorem sp_run12 : (spM.at (spI 12)).run Tryd.prog vOv 60 = true := by kernel_rfl
theorem sp_run13 : (spM.at (spI 13)).run Tryd.prog vOv 60 = true := by kernel_rfl
theorem sp_run14 : (spM.at (spI 14)).run Tryd.prog vOv 60 = true := by kernel_rfl
theorem sp_run15 : (spM.at (spI 15)).run Tryd.prog vOv 60 = true := by kernel_rfl
theorem sp_run16 : (spM.at (spI 16)).run Tryd.prog vOv 60 = true := by kernel_rfl
end Go.Proofs.YtgkbjdphkmmmhaaDoor.Ev
