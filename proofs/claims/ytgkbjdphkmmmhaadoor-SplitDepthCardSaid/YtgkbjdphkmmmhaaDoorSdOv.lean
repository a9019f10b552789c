/-
  Chapter 35: SplitDepth: what stands for the calls that every run has. Written by gen-depth.py.
-/
import Derived.Test.YtgkbjdphkmmmhaaDoorSpSays
namespace Go.Proofs.YtgkbjdphkmmmhaaDoor.Ev
open Go
set_option maxRecDepth 100000
def awM : Memo := ⟨4, [], [], 64, .bool true, [], 126⟩
def enM : Memo := ⟨6, [.agg ⟨[.string ⟨⟨[102]⟩⟩, .int .i64 (.ofNat 1), .float .f32 1376258, .slice (some ⟨129, 0, .none⟩) 3 3]⟩],
  [(126, [.int .i64 (.ofNat 0)], 3),
  (127, [.int .i64 (.ofNat 1), .int .i64 (.ofNat 0), .int .i64 (.ofNat 1), .int .i64 (.ofNat 0), .int .i64 (.ofNat 0), .int .i64 (.ofNat 1), .slice .none 0 0, .int .i64 (.ofNat 4), .int .i64 (.ofNat 4), .int .i64 (.ofNat 0), .int .i64 (.ofNat 0), .int .i64 (.ofNat 1), .int .i64 (.ofNat 0), .slice .none 0 0, .int .i64 (.ofNat 11), .int .i64 (.ofNat 0), .int .i64 (.ofNat 1), .int .i64 (.ofNat 0), .int .i64 (.ofNat 0), .int .i64 (.ofNat 1), .slice (some ⟨126, 0, .none⟩) 1 1, .int .i64 (.ofNat 10), .int .i64 (.ofNat 0), .int .i64 (.ofNat 0), .int .i64 (.ofNat 1), .int .i64 (.ofNat 0), .int .i64 (.ofNat 0), .slice .none 0 0], 32),
  (128, [.int .i64 (.ofNat 1), .int .i64 (.ofNat 0), .int .i64 (.ofNat 0), .int .i64 (.ofNat 0), .int .i64 (.ofNat 0), .int .i64 (.ofNat 7), .slice .none 0 0], 32),
  (129, [.slice .none 0 0, .int .i64 (.ofNat 2), .int .i64 (.ofNat 0), .int .i64 (.ofNat 1), .int .i64 (.ofNat 2), .int .i64 (.ofNat 0), .int .i64 (.ofNat 0), .int .i64 (.ofNat 0), .slice (some ⟨127, 0, .none⟩) 4 4, .int .i64 (.ofNat 3), .int .i64 (.ofNat 1), .int .i64 (.ofNat 0), .int .i64 (.ofNat 0), .int .i64 (.ofNat 0), .int .i64 (.ofNat 0), .int .i64 (.ofNat 0), .slice (some ⟨128, 0, .none⟩) 1 1, .int .i64 (.ofNat 3), .int .i64 (.ofNat 0), .int .i64 (.ofNat 0), .int .i64 (.ofNat 0), .int .i64 (.ofNat 0), .int .i64 (.ofNat 0), .int .i64 (.ofNat 0)], 29)], 137, .slice (some ⟨195, 0, .none⟩) 2 18446744073709551618, [(195, [.int .i64 (.ofNat 1), .int .i64 (.ofNat 2)], 3)], 196⟩
theorem awM_run : awM.run Tryd.prog vOv 60 = true := by kernel_rfl
theorem enM_run : enM.run Tryd.prog vOv 60 = true := by kernel_rfl
def eOv : Ov := memoOv (memoOv dOv awM) enM
theorem eOv_ok : OvOk Tryd.prog eOv := memoOv_ok pgood pnames pmixed vOv_ok (memoOv_ok pgood pnames pmixed vOv_ok dOv_ok awM_run) enM_run
def depthArgs (n : Nat) : List Value := [sym 0 (enc [(1281, n)]), itvU8 0 255]
end Go.Proofs.YtgkbjdphkmmmhaaDoor.Ev
