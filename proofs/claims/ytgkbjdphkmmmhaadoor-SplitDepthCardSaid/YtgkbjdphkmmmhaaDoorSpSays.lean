/-
  Chapter 35: split.Split at the program of the law: one answer for all numbers of registers. Written by gen-split.py.
-/
import Derived.Test.YtgkbjdphkmmmhaaDoorSpA
import Derived.Test.YtgkbjdphkmmmhaaDoorSpB
import Derived.Test.YtgkbjdphkmmmhaaDoorSpC
import Derived.Test.YtgkbjdphkmmmhaaDoorSpD
namespace Go.Proofs.YtgkbjdphkmmmhaaDoor.Ev
open Go
theorem sp_says : Says1 Tryd.prog spM.g spM.args (spM.rest ++ [(spM.B, spM.cs, spM.e)]) spM.next spM.v spM.res spM.next' := by
  have one : ∀ {r : Nat}, (spM.at (spI r)).run Tryd.prog vOv 60 = true → Says1 Tryd.prog spM.g spM.args (spM.at (spI r)).small spM.next spM.v (spI r).res (spI r).next' := fun h => memo_says pgood pnames pmixed vOv_ok h
  refine gmemo_says spM_fits (fun r h1 h2 => ?_) (by decide)
  have h1 : 2 ≤ r := h1
  have h2 : r ≤ 21 := h2
  refine ⟨spI r, rfl, ?_, ?_⟩
  · have := spM_has (r - 2) (by omega)
    rw [show 2 + (r - 2) = r by omega] at this
    exact this
  · obtain rfl | rfl | rfl | rfl | rfl | rfl | rfl | rfl | rfl | rfl | rfl | rfl | rfl | rfl | rfl | rfl | rfl | rfl | rfl | rfl : r = 2 ∨ r = 3 ∨ r = 4 ∨ r = 5 ∨ r = 6 ∨ r = 7 ∨ r = 8 ∨ r = 9 ∨ r = 10 ∨ r = 11 ∨ r = 12 ∨ r = 13 ∨ r = 14 ∨ r = 15 ∨ r = 16 ∨ r = 17 ∨ r = 18 ∨ r = 19 ∨ r = 20 ∨ r = 21 := by omega
    · exact one sp_run2
    · exact one sp_run3
    · exact one sp_run4
    · exact one sp_run5
    · exact one sp_run6
    · exact one sp_run7
    · exact one sp_run8
    · exact one sp_run9
    · exact one sp_run10
    · exact one sp_run11
    · exact one sp_run12
    · exact one sp_run13
    · exact one sp_run14
    · exact one sp_run15
    · exact one sp_run16
    · exact one sp_run17
    · exact one sp_run18
    · exact one sp_run19
    · exact one sp_run20
    · exact one sp_run21

def dOv : Ov := gmemoOv vOv spM
theorem dOv_ok : OvOk Tryd.prog dOv := gmemoOv_ok vOv_ok sp_says
end Go.Proofs.YtgkbjdphkmmmhaaDoor.Ev
