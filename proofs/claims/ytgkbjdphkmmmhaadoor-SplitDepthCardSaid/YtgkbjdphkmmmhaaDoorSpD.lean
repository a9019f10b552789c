/-
  Chapter 35: split.Split at the program of the law, carried out by the kernel (five numbers of registers). Written by gen-split.py.
-/
import Derived.Test.YtgkbjdphkmmmhaaDoorSpMemo
namespace Go.Proofs.YtgkbjdphkmmmhaaDoor.Ev
open Go
set_option maxRecDepth 100000
theorem sp_run17 : (spM.at (spI 17)).run Tryd.prog vOv 60 = true := by kernel_rfl
theorem sp_run18 : (spM.at (spI 18)).run Tryd.prog vOv 60 = true := by kernel_rfl
theorem sp_run19 : (spM.at (spI 19)).run Tryd.prog vOv 60 = true := by kernel_rfl
theorem sp_run20 : (spM.at (spI 20)).run Tryd.prog vOv 60 = true := by kernel_rfl
theorem sp_run21 : (spM.at (spI 21)).run Tryd.prog vOv 60 = true := by kernel_rfl
end Go.Proofs.YtgkbjdphkmmmhaaDoor.Ev
