/-
  Chapter 30: the sanity check of its laws, carried out by the kernel.
-/
import Derived.Test.YtcdophocpheadaaGreatDoorEvIns
namespace Go.Proofs.YtcdophocpheadaaGreatDoor.Ev
open Go

def sdOv : Ov := fun g => match Nat.beq g 120 with
  | true => some (insOv 60)
  | false => .none
theorem sdOv_ok : OvOk Tryz.prog sdOv := by
  intro g h hov
  unfold sdOv at hov
  split at hov
  · rename_i hg
    cases hov
    obtain rfl := Nat.eq_of_beq_eq_true hg
    exact fun args S v S' he hS => insOv_ok args S v S' he hS
  · cases hov

def rowBytes : List (List UInt8) := [[], [100, 56], [100, 97], [111, 100, 97], [111, 100, 97, 98], [100, 49], [97, 49], [100, 97, 49], [97, 98, 49], [100], [97], [100, 52, 110], [100, 97, 110], [106], [97, 106], [97, 106], [97], [50], [100, 49]]
def rowVals : List Value := rowBytes.map fun l => .string ⟨⟨l⟩⟩
def remNums : List Int := [0, 498536548, 997073096, 651767980, 1994146192, 1802195444, 1303535960, 1342533948, 3988292384, 4027552580, 3604390888, 3412177804, 2607071920, 2262029012, 2685067896, 3183342108]
def remVals : List Value := remNums.map (Value.int .u32)
def sdGls : Gls := [(0, rowVals, 212), (1, remVals, 288)]
theorem sdGls_ok : glsOk sdGls = true := by kernel_rfl

set_option maxRecDepth 100000
theorem awake_run : okRunO Tryz.prog sdOv sdGls 60 5 [] = true := by kernel_rfl

theorem awake_calls (w : World) (hw : GlsAt sdGls w) : Calls Tryz.prog 5 #[] w fun e w' => e = .returned (.bool true) ∧ RowKit.Below w.heap.size w w' :=
  okRunO_calls pgood pnames pmixed sdOv_ok sdGls_ok awake_run (m0 := fun _ => .none) (fun _ _ => rfl) .nil w hw
end Go.Proofs.YtcdophocpheadaaGreatDoor.Ev
