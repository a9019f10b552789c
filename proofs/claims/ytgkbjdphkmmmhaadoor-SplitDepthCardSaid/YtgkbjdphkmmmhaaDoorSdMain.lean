/-
  The law warmpathlaw35.SplitDepth: every input takes one of the forty runs. Written by gen-depth.py.
-/
import Derived.Test.YtgkbjdphkmmmhaaDoorSdR0
import Derived.Test.YtgkbjdphkmmmhaaDoorSdR1
import Derived.Test.YtgkbjdphkmmmhaaDoorSdR2
import Derived.Test.YtgkbjdphkmmmhaaDoorSdR3
import Derived.Test.YtgkbjdphkmmmhaaDoorSdR4
import Derived.Test.YtgkbjdphkmmmhaaDoorSdR5
import Derived.Test.YtgkbjdphkmmmhaaDoorSdR6
import Derived.Test.YtgkbjdphkmmmhaaDoorSdR7
import Derived.Test.YtgkbjdphkmmmhaaDoorSdR8
import Derived.Test.YtgkbjdphkmmmhaaDoorSdR9
import Derived.Test.YtgkbjdphkmmmhaaDoorSdR10
namespace Go.Proofs.YtgkbjdphkmmmhaaDoor.Ev
open Go
set_option maxRecDepth 100000
def depthZ (a : Int) : Nat → Option (Nat × Int)
  | 0 => some (1, a)
  | _ => .none
theorem depth_runs (n : Nat) (hn : n < 40) : ∃ ov, OvOk Tryd.prog ov ∧ okRunO Tryd.prog ov [] 60 3 (depthArgs n) = true := by
  obtain rfl | rfl | rfl | rfl | rfl | rfl | rfl | rfl | rfl | rfl | rfl | rfl | rfl | rfl | rfl | rfl | rfl | rfl | rfl | rfl | rfl | rfl | rfl | rfl | rfl | rfl | rfl | rfl | rfl | rfl | rfl | rfl | rfl | rfl | rfl | rfl | rfl | rfl | rfl | rfl : n = 0 ∨ n = 1 ∨ n = 2 ∨ n = 3 ∨ n = 4 ∨ n = 5 ∨ n = 6 ∨ n = 7 ∨ n = 8 ∨ n = 9 ∨ n = 10 ∨ n = 11 ∨ n = 12 ∨ n = 13 ∨ n = 14 ∨ n = 15 ∨ n = 16 ∨ n = 17 ∨ n = 18 ∨ n = 19 ∨ n = 20 ∨ n = 21 ∨ n = 22 ∨ n = 23 ∨ n = 24 ∨ n = 25 ∨ n = 26 ∨ n = 27 ∨ n = 28 ∨ n = 29 ∨ n = 30 ∨ n = 31 ∨ n = 32 ∨ n = 33 ∨ n = 34 ∨ n = 35 ∨ n = 36 ∨ n = 37 ∨ n = 38 ∨ n = 39 := by omega
  · exact ⟨_, eOv_ok, sd_run0⟩
  · exact ⟨_, eOv_ok, sd_run1⟩
  · exact ⟨_, eOv_ok, sd_run2⟩
  · exact ⟨_, eOv_ok, sd_run3⟩
  · exact ⟨_, eOv_ok, sd_run4⟩
  · exact ⟨_, eOv_ok, sd_run5⟩
  · exact ⟨_, eOv_ok, sd_run6⟩
  · exact ⟨_, eOv_ok, sd_run7⟩
  · exact ⟨_, eOv_ok, sd_run8⟩
  · exact ⟨_, eOv_ok, sd_run9⟩
  · exact ⟨_, eOv_ok, sd_run10⟩
  · exact ⟨_, eOv_ok, sd_run11⟩
  · exact ⟨_, eOv_ok, sd_run12⟩
  · exact ⟨_, eOv_ok, sd_run13⟩
  · exact ⟨_, eOv_ok, sd_run14⟩
  · exact ⟨_, eOv_ok, sd_run15⟩
  · exact ⟨_, eOv_ok, sd_run16⟩
  · exact ⟨_, eOv_ok, sd_run17⟩
  · exact ⟨_, eOv_ok, sd_run18⟩
  · exact ⟨_, eOv_ok, sd_run19⟩
  · exact ⟨_, eOv_ok, sd_run20⟩
  · exact ⟨_, eOv_ok, sd_run21⟩
  · exact ⟨_, eOv_ok, sd_run22⟩
  · exact ⟨_, eOv_ok, sd_run23⟩
  · exact ⟨_, eOv_ok, sd_run24⟩
  · exact ⟨_, eOv_ok, sd_run25⟩
  · exact ⟨_, eOv_ok, sd_run26⟩
  · exact ⟨_, rOv27_ok, sd_run27⟩
  · exact ⟨_, rOv28_ok, sd_run28⟩
  · exact ⟨_, rOv29_ok, sd_run29⟩
  · exact ⟨_, rOv30_ok, sd_run30⟩
  · exact ⟨_, rOv31_ok, sd_run31⟩
  · exact ⟨_, rOv32_ok, sd_run32⟩
  · exact ⟨_, rOv33_ok, sd_run33⟩
  · exact ⟨_, rOv34_ok, sd_run34⟩
  · exact ⟨_, rOv35_ok, sd_run35⟩
  · exact ⟨_, rOv36_ok, sd_run36⟩
  · exact ⟨_, rOv37_ok, sd_run37⟩
  · exact ⟨_, rOv38_ok, sd_run38⟩
  · exact ⟨_, rOv39_ok, sd_run39⟩
theorem depth_calls (a b : Int) (ha : 0 ≤ a ∧ a ≤ 255) (hb : 0 ≤ b ∧ b ≤ 255) (w : World) :
    Calls Tryd.prog 3 #[.int .u8 a, .int .u8 b] w fun e w' => e = .returned (.bool true) ∧ RowKit.Below w.heap.size w w' := by
  have ea : a.tmod 40 = ((a.tmod 40).toNat : Int) := by rw [Int.tmod_eq_emod_of_nonneg ha.1]; omega
  have la : (a.tmod 40).toNat < 40 := by rw [Int.tmod_eq_emod_of_nonneg ha.1]; omega
  generalize (a.tmod 40).toNat = n at *
  obtain ⟨ov, hov, hrun⟩ := depth_runs n la
  have hs : ∀ x ∈ [((1281 : Nat), n)], Says (depthZ a) x.1 x.2 := by
    intro x hx
    simp only [List.mem_singleton] at hx
    subst hx
    exact says_rem (a := 0) (c := 40) (by decide) rfl (by decide) ea
  have hl : ∀ x ∈ [((1281 : Nat), n)], x.1 < 67108864 ∧ x.2 < 64 := by
    intro x hx
    simp only [List.mem_singleton] at hx
    subst hx
    exact ⟨by simp, by simp only; omega⟩
  have hk := knows_enc hl hs
  have v0 : VRel (symMap (depthZ a)) (sym 0 (enc [(1281, n)])) (.int .u8 a) := sym_rel (by decide) hk rfl (by omega) rfl
  have x0 := v0.mono (mG_ext (P := Tryd.prog) (gl := []) (symMap_low (depthZ a)))
  exact okRunO_calls pgood pnames pmixed hov rfl hrun (m0 := symMap (depthZ a)) (symMap_low (depthZ a)) (.cons x0 (.cons (itvU8_rel (by omega) (by omega) (by decide) (by decide)) .nil)) w (fun x hx => by cases hx)
end Go.Proofs.YtgkbjdphkmmmhaaDoor.Ev
