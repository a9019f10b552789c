/-
  Chapter 41: ValidateConstants: every input takes one of the twelve runs.
-/
import Derived.Test.YtpjamkiepfmfbaaGreatDoorVConA
import Derived.Test.YtpjamkiepfmfbaaGreatDoorVConB
import Derived.Test.YtpjamkiepfmfbaaGreatDoorVConC
import Derived.Test.YtpjamkiepfmfbaaGreatDoorVConD
namespace Go.Proofs.YtpjamkiepfmfbaaGreatDoor.Ev
open Go

/-- The inputs, and their sum. -/
def cz (v b : Int) : Nat → Option (Nat × Int)
  | 0 => some (0, v)
  | 1 => some (0, b)
  | 2 => some (0, wrapO (v + b))
  | _ => .none
theorem wrapO_in {v : Int} (h : -9223372036854775808 ≤ v ∧ v ≤ 9223372036854775807) : wrapO v = v := IntWalk.i64_in _ h
theorem wrapO_ne {v b : Int} (hv : -9223372036854775808 ≤ v ∧ v ≤ 9223372036854775807) (hb : -9223372036854775808 ≤ b ∧ b ≤ 9223372036854775807) (h : b ≠ 0) : wrapO (v + b) ≠ v := by
  unfold wrapO
  rw [IntKind.wrap_i64]
  omega
theorem opq_any {v b : Int} {n : Nat} (hn : Nat.mod n 16 = 0) (hv : -9223372036854775808 ≤ v ∧ v ≤ 9223372036854775807) (hb : -9223372036854775808 ≤ b ∧ b ≤ 9223372036854775807) (h0 : v ≠ 0) (h1 : b ≠ 0)
    (h2 : bitO n 14 = true → wrapO (v + b) ≠ 0) (h3 : bitO n 13 = true → wrapO (v + b) = 0) (h4 : bitO n 12 = true → b = 1) (h5 : ∀ k, k < 12 → bitO n k = true → k = 2) : VRel (symMap (cz v b)) (.chan (some n)) (.int .i64 v) := by
  refine opq_rel (by rw [hn]; decide) (by rw [hn]; rfl) (wrapO_in hv) (fun _ => h0) (fun k hk h => ?_) (fun h => ⟨0, b, 0, _, rfl, rfl, rfl, h2 h, wrapO_ne hv hb h1⟩) (fun h => ⟨0, b, rfl, h3 h⟩) (fun h => ⟨0, by rw [← h4 h]; rfl⟩)
  cases h5 k hk h
  exact ⟨0, _, rfl, wrapO_ne hv hb h1⟩
theorem opq_by {v b : Int} (hb : -9223372036854775808 ≤ b ∧ b ≤ 9223372036854775807) (h1 : b ≠ 0) : VRel (symMap (cz v b)) (.chan (some 524289)) (.int .i64 b) := by
  refine opq_rel (by decide) rfl (wrapO_in hb) (fun _ => h1) (fun k hk h => ?_) (fun h => absurd h (by decide)) (fun h => absurd h (by decide)) (fun h => absurd h (by decide))
  revert h
  have : ∀ k, k < 12 → bitO 524289 k = true → False := by decide
  exact fun h => (this k hk h).elim

theorem const_calls (v b : Int) (d : Bool) (hv : -9223372036854775808 ≤ v ∧ v ≤ 9223372036854775807) (hb : -9223372036854775808 ≤ b ∧ b ≤ 9223372036854775807) (w : World) :
    Calls Tryz.prog 3 #[.int .i64 v, .int .i64 b, .bool d] w fun e w' => e = .returned (.bool true) ∧ RowKit.Below w.heap.size w w' := by
  have fin : ∀ {x y : Value} (z : Nat → Option (Nat × Int)), okRunO Tryz.prog vOv [] 60 3 [x, y, .bool d] = true → VRel (symMap z) x (.int .i64 v) → VRel (symMap z) y (.int .i64 b) →
      Calls Tryz.prog 3 #[.int .i64 v, .int .i64 b, .bool d] w fun e w' => e = .returned (.bool true) ∧ RowKit.Below w.heap.size w w' := by
    intro x y z h hx hy
    have hext : Ext (symMap z) (mG Tryz.prog [] (symMap z)) := mG_ext (symMap_low z)
    exact okRunO_calls pgood pnames pmixed vOv_ok rfl h (m0 := symMap z) (symMap_low z) (.cons (hx.mono hext) (.cons (hy.mono hext) (.cons (.bool d) .nil))) w (fun x hx => by cases hx)
  by_cases h0 : b = 0
  · subst h0
    by_cases h1 : v = 0
    · subst h1
      cases d
      · exact fin (fun _ => .none) con_6f (.int _ _) (.int _ _)
      · exact fin (fun _ => .none) con_6t (.int _ _) (.int _ _)
    by_cases h2 : wrapO (v + 1) = 0
    · obtain rfl : v = -1 := by
        unfold wrapO at h2
        rw [IntKind.wrap_i64] at h2
        omega
      cases d
      · exact fin (fun _ => .none) con_5f (.int _ _) (.int _ _)
      · exact fin (fun _ => .none) con_5t (.int _ _) (.int _ _)
    have hx : VRel (symMap (cz v 1)) (.chan (some 852032)) (.int .i64 v) := opq_any rfl hv (by decide) h1 (by decide) (fun _ => h2) (fun h => absurd h (by decide)) (fun _ => rfl) (by decide)
    cases d
    · exact fin (cz v 1) con_4f hx (.int _ _)
    · exact fin (cz v 1) con_4t hx (.int _ _)
  · by_cases h1 : v = 0
    · subst h1
      cases d
      · exact fin (cz 0 b) con_3f (.int _ _) (opq_by hb h0)
      · exact fin (cz 0 b) con_3t (.int _ _) (opq_by hb h0)
    by_cases h2 : wrapO (v + b) = 0
    · have hx : VRel (symMap (cz v b)) (.chan (some 655360)) (.int .i64 v) := opq_any rfl hv hb h1 h0 (fun h => absurd h (by decide)) (fun _ => h2) (fun h => absurd h (by decide)) (by decide)
      cases d
      · exact fin (cz v b) con_2f hx (opq_by hb h0)
      · exact fin (cz v b) con_2t hx (opq_by hb h0)
    have hx : VRel (symMap (cz v b)) (.chan (some 786496)) (.int .i64 v) := opq_any rfl hv hb h1 h0 (fun _ => h2) (fun h => absurd h (by decide)) (fun h => absurd h (by decide)) (by decide)
    cases d
    · exact fin (cz v b) con_1f hx (opq_by hb h0)
    · exact fin (cz v b) con_1t hx (opq_by hb h0)
end Go.Proofs.YtpjamkiepfmfbaaGreatDoor.Ev
