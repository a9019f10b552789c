/-
  Chapter 41: ValidateStubs, carried out by the kernel (four runs).
-/
import Derived.Test.YtmokmdmabenfgaaGreatDoorEvBef
namespace Go.Proofs.YtmokmdmabenfgaaGreatDoor.Ev
open Go

def vOv : Ov := fun g => match Nat.beq g 44 with
  | true => some (befOv 4)
  | false => .none
theorem vOv_ok : OvOk Tryz.prog vOv := by
  intro g h hov
  unfold vOv at hov
  split at hov
  · rename_i hg
    cases hov
    obtain rfl := Nat.eq_of_beq_eq_true hg
    exact fun args S v S' he hS => befOv_ok args S v S' he hS
  · cases hov

set_option maxRecDepth 100000
theorem stub_tt : okRunO Tryz.prog vOv [] 60 4 [.bool true, .bool true] = true := by kernel_rfl
theorem stub_tf : okRunO Tryz.prog vOv [] 60 4 [.bool true, .bool false] = true := by kernel_rfl
theorem stub_ft : okRunO Tryz.prog vOv [] 60 4 [.bool false, .bool true] = true := by kernel_rfl
theorem stub_ff : okRunO Tryz.prog vOv [] 60 4 [.bool false, .bool false] = true := by kernel_rfl

theorem stub_calls (a b : Bool) (w : World) : Calls Tryz.prog 4 #[.bool a, .bool b] w fun e w' => e = .returned (.bool true) ∧ RowKit.Below w.heap.size w w' := by
  have h : okRunO Tryz.prog vOv [] 60 4 [.bool a, .bool b] = true := by
    cases a <;> cases b
    · exact stub_ff
    · exact stub_ft
    · exact stub_tf
    · exact stub_tt
  exact okRunO_calls pgood pnames pmixed vOv_ok rfl h (m0 := fun _ => .none) (fun _ _ => rfl) (.cons (.bool a) (.cons (.bool b) .nil)) w (fun x hx => by cases hx)
end Go.Proofs.YtmokmdmabenfgaaGreatDoor.Ev
