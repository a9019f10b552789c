/-
  Chapter 41: ValidateConstants, carried out by the kernel (three runs of twelve).
-/
import Derived.Test.YtpjamkiepfmfbaaGreatDoorVOv
namespace Go.Proofs.YtpjamkiepfmfbaaGreatDoor.Ev
open Go
set_option maxRecDepth 100000
theorem con_2f : okRunO Tryz.prog vOv [] 60 3 [.chan (some 655360), .chan (some 524289), .bool false] = true := by kernel_rfl
theorem con_3t : okRunO Tryz.prog vOv [] 60 3 [.int .i64 0, .chan (some 524289), .bool true] = true := by kernel_rfl
theorem con_3f : okRunO Tryz.prog vOv [] 60 3 [.int .i64 0, .chan (some 524289), .bool false] = true := by kernel_rfl
end Go.Proofs.YtpjamkiepfmfbaaGreatDoor.Ev
