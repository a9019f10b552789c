/-
  Chapter 41: what stands for flow.before in the runs.
-/
import Derived.Test.YtgkbjdphkmmmhaaDoorEvBef
namespace Go.Proofs.YtgkbjdphkmmmhaaDoor.Ev
open Go

def vOv : Ov := fun g => match Nat.beq g 41 with
  | true => some (befOv 4)
  | false => .none
theorem vOv_ok : OvOk Tryd.prog vOv := by
  intro g h hov
  unfold vOv at hov
  split at hov
  · rename_i hg
    cases hov
    obtain rfl := Nat.eq_of_beq_eq_true hg
    exact fun args S v S' he hS => befOv_ok args S v S' he hS
  · cases hov

def guardArgs (a b : Nat) (bare : Bool) : List Value := [sym 0 (enc [(97, a), (99, b)]), sym 1 (enc [(97, a), (99, b)]), .bool bare]
end Go.Proofs.YtgkbjdphkmmmhaaDoor.Ev
