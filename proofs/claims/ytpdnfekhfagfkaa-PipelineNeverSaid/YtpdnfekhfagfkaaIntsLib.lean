/-
  slices.Index at []int.
-/
import Derived.Test.YtpdnfekhfagfkaaBaseTwo
import Derived.Test.YtpdnfekhfagfkaaNums
import Derived.Deep.Cut
import Derived.Deep.CutBlock
import Derived.Deep.DeepCutAuto
namespace Go.Proofs.Ytpdnfekhfagfkaa
open Go.RowKit

/-- Where a number stands, or -1. -/
def idxI (xs : List Int) (x : Int) : Int := if x ∈ xs then (xs.idxOf x : Int) else -1
theorem idxOf_at {xs : List Int} {x : Int} {k : Nat} (hk : xs[k]? = some x) (hd : ∀ j y, j < k → xs[j]? = some y → y ≠ x) : xs.idxOf x = k := by
  induction xs generalizing k with
  | nil => simp at hk
  | cons a xs ih =>
    cases k with
    | zero =>
      simp at hk
      rw [hk, List.idxOf_cons_self]
    | succ k =>
      have ha : a ≠ x := hd 0 a (by omega) rfl
      have hb : (a == x) = false := by simpa using ha
      rw [List.idxOf_cons, hb, ih (k := k) (by simpa using hk) (fun j y hj hy => hd (j + 1) y (by omega) (by simpa using hy))]
      rfl

set_option maxRecDepth 100000 in
set_option maxHeartbeats 2000000 in
theorem index_calls (p : Option Addr) (xs : List Int) (c : Nat) (x : Int) (w : World) (h : SliceV intEnc 1 w p xs) (hl : xs.length ≤ 1000000) :
    Calls Try.prog 32 #[.slice p xs.length c, .int .i64 x] w fun e w' => e = .returned (.int .i64 (idxI xs x)) ∧ Keep None w w' := by
  have HS := Lib.hid h
  clear h
  go_enter Try.func32, Try.ntmps32
  go_wp2
  go_loopw [8] (fun t wr => ∃ k : Nat, t = .int .i64 k ∧ k ≤ xs.length ∧ (∀ j y, j < k → xs[j]? = some y → y ≠ x) ∧ Keep None w wr) (fun t _ => xs.length - (intOf t).toNat)
  case atStart => exact ⟨0, rfl, by omega, by intro j y hj; omega, Keep.refl _ _⟩
  case round =>
    obtain ⟨k, rfl, hk, hd, hkw⟩ := hrel
    have HD := Lib.hid hd
    have HKW := Lib.hid hkw
    have hs := HS.out.keep hkw (fun _ _ h => h)
    clear hd hkw
    by_cases hlt : k < xs.length
    · obtain ⟨y, hy⟩ : ∃ y, xs[k]? = some y := ⟨xs[k], List.getElem?_eq_getElem hlt⟩
      rcases hs with h | ⟨b, o, rfl, hs⟩
      · rw [h] at hlt; simp at hlt
      have s0 := hs.int hy
      have HY := Lib.hid hy
      clear hs hy
      by_cases hxy : x = y
      · subst hxy
        have hxx : (x == x) = true := by simp
        go_wp2
        go_ret
        refine ⟨?_, HKW.out⟩
        unfold idxI
        rw [if_pos (List.mem_of_getElem? HY.out), idxOf_at HY.out HD.out]
        rfl
      · have hxy' : (x == y) = false := by simpa using hxy
        go_wp2
        go_roundw
        case rel =>
          refine ⟨k + 1, by simp, by omega, fun j z hj hz => ?_, HKW.out⟩
          rcases Nat.lt_or_ge j k with h1 | h1
          · exact HD.out j z h1 hz
          · obtain rfl : j = k := by omega
            have := HY.out
            rw [hz] at this
            cases this
            exact fun h => hxy h.symm
        case measure => simp [intOf] <;> omega
    · obtain rfl : k = xs.length := by omega
      go_wp2
      go_ret
      refine ⟨?_, HKW.out⟩
      have hno : ¬ x ∈ xs := fun hm => by
        obtain ⟨j, hj⟩ := List.mem_iff_getElem?.1 hm
        exact HD.out j x (List.getElem?_eq_some_iff.1 hj).1 hj rfl
      unfold idxI
      rw [if_neg hno]
      rfl

end Go.Proofs.Ytpdnfekhfagfkaa
