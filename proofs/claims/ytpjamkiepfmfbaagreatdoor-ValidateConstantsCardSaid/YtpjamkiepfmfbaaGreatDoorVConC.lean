/-
  Chapter 41: ValidateConstants, carried out by the kernel (three runs of twelve).
-/
import Derived.Test.YtpjamkiepfmfbaaGreatDoorVOv
namespace Go.Proofs.YtpjamkiepfmfbaaGreatDoor.Ev
open Go
set_option maxRecDepth 100000
theorem con_4t : okRunO Tryz.prog vOv [] 60 3 [.chan (some 852032), .int .i64 0, .bool true] = true := by kernel_rfl
theorem con_4f : okRunO Tryz.prog vOv [] 60 3 [.chan (some 852032), .int .i64 0, .bool false] = true := by kernel_rfl
theorem con_5t : okRunO Tryz.prog vOv [] 60 3 [.int .i64 (-1), .int .i64 0, .bool true] = true := by kernel_rfl
end Go.Proofs.YtpjamkiepfmfbaaGreatDoor.Ev
