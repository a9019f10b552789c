/-
  Chapter 41: ValidateConstants, carried out by the kernel (three runs of twelve).
-/
import Derived.Test.YtpjamkiepfmfbaaGreatDoorVOv
namespace Go.Proofs.YtpjamkiepfmfbaaGreatDoor.Ev
open Go
set_option maxRecDepth 100000
theorem con_1t : okRunO Tryz.prog vOv [] 60 3 [.chan (some 786496), .chan (some 524289), .bool true] = true := by kernel_rfl
theorem con_1f : okRunO Tryz.prog vOv [] 60 3 [.chan (some 786496), .chan (some 524289), .bool false] = true := by kernel_rfl
theorem con_2t : okRunO Tryz.prog vOv [] 60 3 [.chan (some 655360), .chan (some 524289), .bool true] = true := by kernel_rfl
end Go.Proofs.YtpjamkiepfmfbaaGreatDoor.Ev
