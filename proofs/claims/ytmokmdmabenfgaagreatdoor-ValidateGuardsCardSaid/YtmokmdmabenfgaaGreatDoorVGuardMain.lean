/-
  The law warmpathlaw41.ValidateGuards: every input takes one of its paths. Written by gen-guards.py.
-/
import Derived.Test.YtmokmdmabenfgaaGreatDoorVGuard0
import Derived.Test.YtmokmdmabenfgaaGreatDoorVGuard1
import Derived.Test.YtmokmdmabenfgaaGreatDoorVGuard2
namespace Go.Proofs.YtmokmdmabenfgaaGreatDoor.Ev
open Go

def guardZ (a b : Int) : Nat → Option (Nat × Int)
  | 0 => some (1, a)
  | 1 => some (1, b)
  | _ => .none
theorem guard_runs (a b : Nat) (ha : a < 3) (hb : b < 3) (c : Bool) : ∃ ov, OvOk Tryz.prog ov ∧ okRunO Tryz.prog ov [] 60 5 (guardArgs a b c) = true := by
  obtain rfl | rfl | rfl : a = 0 ∨ a = 1 ∨ a = 2 := by omega
  all_goals obtain rfl | rfl | rfl : b = 0 ∨ b = 1 ∨ b = 2 := by omega
  all_goals cases c
  · exact ⟨_, gOv0_ok, guard00_false⟩
  · exact ⟨_, gOv0_ok, guard00_true⟩
  · exact ⟨_, gOv0_ok, guard01_false⟩
  · exact ⟨_, gOv0_ok, guard01_true⟩
  · exact ⟨_, gOv0_ok, guard02_false⟩
  · exact ⟨_, gOv0_ok, guard02_true⟩
  · exact ⟨_, gOv1_ok, guard10_false⟩
  · exact ⟨_, gOv1_ok, guard10_true⟩
  · exact ⟨_, gOv1_ok, guard11_false⟩
  · exact ⟨_, gOv1_ok, guard11_true⟩
  · exact ⟨_, gOv1_ok, guard12_false⟩
  · exact ⟨_, gOv1_ok, guard12_true⟩
  · exact ⟨_, gOv2_ok, guard20_false⟩
  · exact ⟨_, gOv2_ok, guard20_true⟩
  · exact ⟨_, gOv2_ok, guard21_false⟩
  · exact ⟨_, gOv2_ok, guard21_true⟩
  · exact ⟨_, gOv2_ok, guard22_false⟩
  · exact ⟨_, gOv2_ok, guard22_true⟩
theorem guard_calls (a b : Int) (c : Bool) (ha : 0 ≤ a ∧ a ≤ 255) (hb : 0 ≤ b ∧ b ≤ 255) (w : World) :
    Calls Tryz.prog 5 #[.int .u8 a, .int .u8 b, .bool c] w fun e w' => e = .returned (.bool true) ∧ RowKit.Below w.heap.size w w' := by
  have ea : a.tmod 3 = ((a.tmod 3).toNat : Int) := by rw [Int.tmod_eq_emod_of_nonneg ha.1]; omega
  have eb : b.tmod 3 = ((b.tmod 3).toNat : Int) := by rw [Int.tmod_eq_emod_of_nonneg hb.1]; omega
  have la : (a.tmod 3).toNat < 3 := by rw [Int.tmod_eq_emod_of_nonneg ha.1]; omega
  have lb : (b.tmod 3).toNat < 3 := by rw [Int.tmod_eq_emod_of_nonneg hb.1]; omega
  generalize (a.tmod 3).toNat = ra at *
  generalize (b.tmod 3).toNat = rb at *
  obtain ⟨ov, hov, hrun⟩ := guard_runs ra rb la lb c
  have hs : ∀ x ∈ [((97 : Nat), ra), (99, rb)], Says (guardZ a b) x.1 x.2 := by
    intro x hx
    simp only [List.mem_cons, List.not_mem_nil, or_false] at hx
    rcases hx with rfl | rfl
    · exact says_rem (a := 0) (c := 3) (by decide) rfl (by decide) ea
    · exact says_rem (a := 1) (c := 3) (by decide) rfl (by decide) eb
  have hl : ∀ x ∈ [((97 : Nat), ra), (99, rb)], x.1 < 268435456 ∧ x.2 < 16 := by
    intro x hx
    simp only [List.mem_cons, List.not_mem_nil, or_false] at hx
    rcases hx with rfl | rfl
    · exact ⟨by simp, by simp only; omega⟩
    · exact ⟨by simp, by simp only; omega⟩
  have hk := knows_enc hl hs
  have v0 : VRel (symMap (guardZ a b)) (sym 0 (enc [(97, ra), (99, rb)])) (.int .u8 a) := sym_rel (by decide) hk rfl (by omega) rfl
  have v1 : VRel (symMap (guardZ a b)) (sym 1 (enc [(97, ra), (99, rb)])) (.int .u8 b) := sym_rel (by decide) hk rfl (by omega) rfl
  have x0 := v0.mono (mG_ext (P := Tryz.prog) (gl := []) (symMap_low (guardZ a b)))
  have x1 := v1.mono (mG_ext (P := Tryz.prog) (gl := []) (symMap_low (guardZ a b)))
  exact okRunO_calls pgood pnames pmixed hov rfl hrun (m0 := symMap (guardZ a b)) (symMap_low _) (args' := [.int .u8 a, .int .u8 b, .bool c]) (.cons x0 (.cons x1 (.cons (.bool c) .nil))) w (fun x hx => by cases hx)
end Go.Proofs.YtmokmdmabenfgaaGreatDoor.Ev
