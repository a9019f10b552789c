/-
  The law warmpathlaw41.ValidateRecursion: both its paths, carried out by the kernel.
-/
import Derived.Test.YtofjmelefbkdcaaEvTop
namespace Go.Proofs.Ytofjmelefbkdcaa.Ev
open Go

def recArgs (l : List (Nat × Nat)) : List Value := [sym 0 (enc l), sym 1 (enc l), sym 2 (enc l)]
set_option maxRecDepth 100000
theorem rec1 : okRun Try.prog 60 4 (recArgs [(2097154, 1)]) = true := by kernel_rfl
theorem rec0 : okRun Try.prog 60 4 (recArgs [(2097154, 0)]) = true := by kernel_rfl

def recZ (a b c : Int) : Nat → Option (Nat × Int)
  | 0 => some (0, a)
  | 1 => some (0, b)
  | 2 => some (0, c)
  | _ => .none
theorem rec_calls (a b c : Int) (ha : -128 ≤ a ∧ a ≤ 127) (hb : -128 ≤ b ∧ b ≤ 127) (hc : -128 ≤ c ∧ c ≤ 127) (w : World) :
    Calls Try.prog 4 #[.int .i8 a, .int .i8 b, .int .i8 c] w fun e w' => e = .returned (.bool true) ∧ RowKit.Below w.heap.size w w' := by
  have go : ∀ r : Nat, r < 16 → decide (b < a) = Nat.beq r 1 → okRun Try.prog 60 4 (recArgs [(2097154, r)]) = true → Calls Try.prog 4 #[.int .i8 a, .int .i8 b, .int .i8 c] w fun e w' => e = .returned (.bool true) ∧ RowKit.Below w.heap.size w w' := by
    intro r hr h hrun
    have hk : Knows (symMap (recZ a b c)) (enc [(2097154, r)]) := by
      refine knows_enc (fun x hx => by simp only [List.mem_singleton] at hx; subst hx; exact ⟨(by decide : 2097154 < 268435456), hr⟩) (fun x hx => ?_)
      simp only [List.mem_singleton] at hx
      subst hx
      have : (2097154 : Nat) = keyLt 1 0 4096 := rfl
      dsimp only
      rw [this]
      refine says_lt (by decide) (by decide) (.inl ⟨rfl, by decide⟩) (.inl ⟨rfl, by decide⟩) ?_
      rw [← h, decide_eq_decide]; omega
    exact run_of hrun (symMap_low _) (.cons (sym_rel (by decide) hk rfl (by omega) rfl) (.cons (sym_rel (by decide) hk rfl (by omega) rfl) (.cons (sym_rel (by decide) hk rfl (by omega) rfl) .nil))) w
  by_cases h : b < a
  · exact go 1 (by decide) (by rw [decide_eq_true h]; rfl) rec1
  · exact go 0 (by decide) (by rw [decide_eq_false h]; rfl) rec0
end Go.Proofs.Ytofjmelefbkdcaa.Ev
