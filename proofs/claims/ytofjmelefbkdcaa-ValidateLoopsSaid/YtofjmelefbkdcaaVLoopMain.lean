/-
  The law warmpathlaw41.ValidateLoops: every input takes one of its paths.
-/
import Derived.Test.YtofjmelefbkdcaaVLoopB
import Derived.Test.YtofjmelefbkdcaaVLoopC
import Derived.Test.YtofjmelefbkdcaaVLoopD
namespace Go.Proofs.Ytofjmelefbkdcaa.Ev
open Go

def loopZ (a b c : Int) : Nat → Option (Nat × Int)
  | 0 => some (0, a)
  | 1 => some (0, b)
  | 2 => some (1, c)
  | _ => .none
theorem loop_calls (a b c : Int) (ha : -128 ≤ a ∧ a ≤ 127) (hb : -128 ≤ b ∧ b ≤ 127) (hc : 0 ≤ c ∧ c ≤ 255) (w : World) :
    Calls Try.prog 3 #[.int .i8 a, .int .i8 b, .int .u8 c] w fun e w' => e = .returned (.bool true) ∧ RowKit.Below w.heap.size w w' := by
  have go : ∀ {l : List (Nat × Nat)}, (∀ x ∈ l, x.1 < 268435456 ∧ x.2 < 16) → (∀ x ∈ l, Says (loopZ a b c) x.1 x.2) → okRun Try.prog 60 3 (loopArgs l) = true →
      Calls Try.prog 3 #[.int .i8 a, .int .i8 b, .int .u8 c] w fun e w' => e = .returned (.bool true) ∧ RowKit.Below w.heap.size w w' := by
    intro l hl hs hrun
    have hk := knows_enc hl hs
    exact run_of hrun (symMap_low _) (.cons (sym_rel (by decide) hk rfl (by omega) rfl) (.cons (sym_rel (by decide) hk rfl (by omega) rfl) (.cons (sym_rel (by decide) hk rfl (by omega) rfl) .nil))) w
  have sGe : ∀ {r : Nat}, decide (b ≤ a) = Nat.beq r 1 → Says (loopZ a b c) (keyLt 1 0 4097) r := fun h => says_lt (by decide) (by decide) (.inl ⟨rfl, by decide⟩) (.inl ⟨rfl, by decide⟩) (by rw [← h, decide_eq_decide]; omega)
  have sLe : ∀ {r : Nat}, decide (a ≤ b) = Nat.beq r 1 → Says (loopZ a b c) (keyLt 0 1 4097) r := fun h => says_lt (by decide) (by decide) (.inl ⟨rfl, by decide⟩) (.inl ⟨rfl, by decide⟩) (by rw [← h, decide_eq_decide]; omega)
  have sFar : ∀ (d : Nat) {k : Nat}, k = keyLt 0 1 d → ¬ a - b + 4096 < (d : Int) → Says (loopZ a b c) k 0 := fun d k hk h => by
    subst hk
    exact says_lt (by decide) (by decide) (.inl ⟨rfl, by decide⟩) (.inl ⟨rfl, by decide⟩) (by rw [decide_eq_false h]; rfl)
  have sRem : ∀ {r : Nat}, c.tmod 6 = (r : Int) → Says (loopZ a b c) (keyRem 2 6) r := fun h => says_rem (by decide) rfl (by decide) h
  have hm : c.tmod 6 = 0 ∨ c.tmod 6 = 1 ∨ c.tmod 6 = 2 ∨ c.tmod 6 = 3 ∨ c.tmod 6 = 4 ∨ c.tmod 6 = 5 := by
    rw [Int.tmod_eq_emod_of_nonneg hc.1]; omega
  rcases hm with hr | hr | hr | hr | hr | hr
  · exact go (l := [(197, 0)]) (by intro x hx; revert x; decide) (by
      intro x hx
      simp only [List.mem_cons, List.not_mem_nil, or_false] at hx
      rcases hx with rfl
      exact sRem hr) loop0_0
  · by_cases hg : b ≤ a
    · exact go (l := [(197, 1), (2097666, 1), (2096672, 0)]) (by intro x hx; revert x; decide) (by
      intro x hx
      simp only [List.mem_cons, List.not_mem_nil, or_false] at hx
      rcases hx with rfl | rfl | rfl
      · exact sRem hr
      · exact (sGe (by rw [decide_eq_true hg]; rfl))
      · exact (sFar 4095 rfl (by omega))) loop1_1
    · exact go (l := [(197, 1), (2097666, 0)]) (by intro x hx; revert x; decide) (by
      intro x hx
      simp only [List.mem_cons, List.not_mem_nil, or_false] at hx
      rcases hx with rfl | rfl
      · exact sRem hr
      · exact (sGe (by rw [decide_eq_false hg]; rfl))) loop1_0
  · by_cases hg : b ≤ a
    · by_cases hl : a ≤ b
      · exact go (l := [(197, 2), (2097666, 1), (2097696, 1)]) (by intro x hx; revert x; decide) (by
        intro x hx
        simp only [List.mem_cons, List.not_mem_nil, or_false] at hx
        rcases hx with rfl | rfl | rfl
        · exact sRem hr
        · exact (sGe (by rw [decide_eq_true hg]; rfl))
        · exact (sLe (by rw [decide_eq_true hl]; rfl))) loop2_2
      · exact go (l := [(197, 2), (2097666, 1), (2097696, 0)]) (by intro x hx; revert x; decide) (by
        intro x hx
        simp only [List.mem_cons, List.not_mem_nil, or_false] at hx
        rcases hx with rfl | rfl | rfl
        · exact sRem hr
        · exact (sGe (by rw [decide_eq_true hg]; rfl))
        · exact (sLe (by rw [decide_eq_false hl]; rfl))) loop2_1
    · exact go (l := [(197, 2), (2097666, 0)]) (by intro x hx; revert x; decide) (by
      intro x hx
      simp only [List.mem_cons, List.not_mem_nil, or_false] at hx
      rcases hx with rfl | rfl
      · exact sRem hr
      · exact (sGe (by rw [decide_eq_false hg]; rfl))) loop2_0
  · by_cases hg : b ≤ a
    · by_cases hl : a ≤ b
      · exact go (l := [(197, 3), (2097666, 1), (2097696, 1), (2095648, 0)]) (by intro x hx; revert x; decide) (by
        intro x hx
        simp only [List.mem_cons, List.not_mem_nil, or_false] at hx
        rcases hx with rfl | rfl | rfl | rfl
        · exact sRem hr
        · exact (sGe (by rw [decide_eq_true hg]; rfl))
        · exact (sLe (by rw [decide_eq_true hl]; rfl))
        · exact (sFar 4093 rfl (by omega))) loop3_2
      · exact go (l := [(197, 3), (2097666, 1), (2097696, 0)]) (by intro x hx; revert x; decide) (by
        intro x hx
        simp only [List.mem_cons, List.not_mem_nil, or_false] at hx
        rcases hx with rfl | rfl | rfl
        · exact sRem hr
        · exact (sGe (by rw [decide_eq_true hg]; rfl))
        · exact (sLe (by rw [decide_eq_false hl]; rfl))) loop3_1
    · exact go (l := [(197, 3), (2097666, 0)]) (by intro x hx; revert x; decide) (by
      intro x hx
      simp only [List.mem_cons, List.not_mem_nil, or_false] at hx
      rcases hx with rfl | rfl
      · exact sRem hr
      · exact (sGe (by rw [decide_eq_false hg]; rfl))) loop3_0
  · by_cases hg : b ≤ a
    · by_cases hl : a ≤ b
      · exact go (l := [(197, 4), (2097666, 1), (2097696, 1)]) (by intro x hx; revert x; decide) (by
        intro x hx
        simp only [List.mem_cons, List.not_mem_nil, or_false] at hx
        rcases hx with rfl | rfl | rfl
        · exact sRem hr
        · exact (sGe (by rw [decide_eq_true hg]; rfl))
        · exact (sLe (by rw [decide_eq_true hl]; rfl))) loop4_2
      · exact go (l := [(197, 4), (2097666, 1), (2097696, 0)]) (by intro x hx; revert x; decide) (by
        intro x hx
        simp only [List.mem_cons, List.not_mem_nil, or_false] at hx
        rcases hx with rfl | rfl | rfl
        · exact sRem hr
        · exact (sGe (by rw [decide_eq_true hg]; rfl))
        · exact (sLe (by rw [decide_eq_false hl]; rfl))) loop4_1
    · exact go (l := [(197, 4), (2097666, 0)]) (by intro x hx; revert x; decide) (by
      intro x hx
      simp only [List.mem_cons, List.not_mem_nil, or_false] at hx
      rcases hx with rfl | rfl
      · exact sRem hr
      · exact (sGe (by rw [decide_eq_false hg]; rfl))) loop4_0
  · by_cases hg : b ≤ a
    · by_cases hl : a ≤ b
      · exact go (l := [(197, 5), (2097666, 1), (2097696, 1), (2094624, 0)]) (by intro x hx; revert x; decide) (by
        intro x hx
        simp only [List.mem_cons, List.not_mem_nil, or_false] at hx
        rcases hx with rfl | rfl | rfl | rfl
        · exact sRem hr
        · exact (sGe (by rw [decide_eq_true hg]; rfl))
        · exact (sLe (by rw [decide_eq_true hl]; rfl))
        · exact (sFar 4091 rfl (by omega))) loop5_2
      · exact go (l := [(197, 5), (2097666, 1), (2097696, 0)]) (by intro x hx; revert x; decide) (by
        intro x hx
        simp only [List.mem_cons, List.not_mem_nil, or_false] at hx
        rcases hx with rfl | rfl | rfl
        · exact sRem hr
        · exact (sGe (by rw [decide_eq_true hg]; rfl))
        · exact (sLe (by rw [decide_eq_false hl]; rfl))) loop5_1
    · exact go (l := [(197, 5), (2097666, 0)]) (by intro x hx; revert x; decide) (by
      intro x hx
      simp only [List.mem_cons, List.not_mem_nil, or_false] at hx
      rcases hx with rfl | rfl
      · exact sRem hr
      · exact (sGe (by rw [decide_eq_false hg]; rfl))) loop5_0
end Go.Proofs.Ytofjmelefbkdcaa.Ev
