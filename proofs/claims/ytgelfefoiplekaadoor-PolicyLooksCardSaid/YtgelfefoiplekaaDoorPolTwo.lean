/-
  Chapter 44: a line with two numbers.
-/
import Derived.Test.YtgelfefoiplekaaDoorPolLib
namespace Go.Proofs.YtgelfefoiplekaaDoor
open Go.RowKit PN

/-- What 'two' returns. -/
def TwoPost (line word btw : Bs) (w : World) (e : Ending) (w' : World) : Prop :=
  ∃ (x y : Int) (ok : Bool), e = .returned (.tuple #[.int .i64 x, .int .i64 y, .bool ok]) ∧ (match two line word btw with | some p => x = p.1 ∧ y = p.2 ∧ ok = true | none => ok = false) ∧ Keep None w w'

set_option maxHeartbeats 4000000 in
theorem two_calls (line word btw : ByteArray) (w : World) (hE : Env w) (hl : line.size < 4294967281) :
    Calls Tryd.prog 43 #[.string line, .string word, .string btw] w (TwoPost (bl line) (bl word) (bl btw) w) := by
  go_enter Tryd.func43, Tryd.ntmps43
  go_upto_region 2 with (go_at_call 54; refine (split_calls line w hE hl).mono ?_; rintro e w1 ⟨Ps, hPs, rfl, rfl⟩; have HPS := Lib.hid hPs; clear hPs)
  by_cases hn : Ps.length = 4
  · obtain ⟨A, B, C, D, rfl⟩ : ∃ A B C D, Ps = [A, B, C, D] := by
      match Ps, hn with
      | [A, B, C, D], _ => exact ⟨A, B, C, D, rfl⟩
    have hsz := sp_size 32 HPS.out
    have hA := hsz A (by simp)
    have hB := hsz B (by simp)
    have hC := hsz C (by simp)
    have hD := hsz D (by simp)
    clear hsz hn
    have HT : Hid (two (bl line) (bl word) (bl btw) = if bl A = bl word ∧ bl C = bl btw then (match number (bl B), number (bl D) with | some x, some y => some (x, y) | _, _ => none) else none) := Lib.hid (by
      unfold two; rw [← HPS.out]; rfl)
    simp only [List.map_cons, List.map_nil, List.length_cons, List.length_nil]
    by_cases ha : bl A = bl word
    · have a1 : A.toList = word.toList := by rw [bl_eq, bl_eq]; exact ha
      have a2 : (A.toList == word.toList) = true := by rw [a1]; simp
      have HA := Lib.hid ha
      clear ha
      by_cases hc : bl C = bl btw
      · have c1 : C.toList = btw.toList := by rw [bl_eq, bl_eq]; exact hc
        have c2 : (!C.toList == btw.toList) = false := by rw [c1]; simp
        have HC := Lib.hid hc
        clear hc
        obtain ⟨x, okx, hx1, hx2⟩ : ∃ x okx, numV (bl B) = .tuple #[.int .i64 x, .bool okx] ∧ (match number (bl B) with | some z => x = z ∧ okx = true | none => okx = false) := by
          unfold numV
          cases number (bl B) with
          | none => exact ⟨_, _, rfl, rfl⟩
          | some z => exact ⟨_, _, rfl, rfl, rfl⟩
        obtain ⟨y, oky, hy1, hy2⟩ : ∃ y oky, numV (bl D) = .tuple #[.int .i64 y, .bool oky] ∧ (match number (bl D) with | some z => y = z ∧ oky = true | none => oky = false) := by
          unfold numV
          cases number (bl D) with
          | none => exact ⟨_, _, rfl, rfl⟩
          | some z => exact ⟨_, _, rfl, rfl, rfl⟩
        have HX1 := Lib.hid hx1
        have HX2 := Lib.hid hx2
        have HY1 := Lib.hid hy1
        have HY2 := Lib.hid hy2
        clear hx1 hx2 hy1 hy2
        have HF : Hid (match two (bl line) (bl word) (bl btw) with | some p => x = p.1 ∧ y = p.2 ∧ (okx && oky) = true | none => (okx && oky) = false) := Lib.hid (by
          have h1 := HX2.out
          have h2 := HY2.out
          rw [HT.out, if_pos ⟨HA.out, HC.out⟩]
          cases hb : number (bl B) with
          | none => rw [hb] at h1; simp only at h1 ⊢; rw [h1]; rfl
          | some z =>
            cases hd : number (bl D) with
            | none => rw [hd] at h2; simp only at h2 ⊢; rw [h2]; simp
            | some u =>
              rw [hb] at h1
              rw [hd] at h2
              simp only at h1 h2 ⊢
              exact ⟨h1.1, h2.1, by rw [h1.2, h2.2]; rfl⟩)
        cases okx <;> cases oky
        all_goals
          go_wp2_with (first
            | ((with_reducible (show Calls _ _ #[.string B] _ _)); refine (number_calls B _ (by omega)).mono ?_; rintro e w2 ⟨rfl, rfl⟩; rw [HX1.out])
            | ((with_reducible (show Calls _ _ #[.string D] _ _)); refine (number_calls D _ (by omega)).mono ?_; rintro e w3 ⟨rfl, rfl⟩; rw [HY1.out]))
          go_ret3
          exact ⟨x, y, _, rfl, HF.out, (Keep.refl _ _).alloc _⟩
      · have c1 : ¬ C.toList = btw.toList := by rw [bl_eq, bl_eq]; exact hc
        have c2 : (!C.toList == btw.toList) = true := by simpa using c1
        have HN : Hid (two (bl line) (bl word) (bl btw) = none) := Lib.hid (by rw [HT.out, if_neg (fun h => hc h.2)])
        clear hc
        go_wp2
        (go_ret3; refine ⟨0, 0, false, rfl, ?_, (Keep.refl _ _).alloc _⟩; rw [HN.out])
    · have a1 : ¬ A.toList = word.toList := by rw [bl_eq, bl_eq]; exact ha
      have a2 : (A.toList == word.toList) = false := by simpa using a1
      have HN : Hid (two (bl line) (bl word) (bl btw) = none) := Lib.hid (by rw [HT.out, if_neg (fun h => ha h.1)])
      clear ha
      go_wp2
      (go_ret3; refine ⟨0, 0, false, rfl, ?_, (Keep.refl _ _).alloc _⟩; rw [HN.out])
  · have hn' : ¬ (Ps.length : Int) = 4 := by omega
    have hn2 : ((Ps.length : Int) == 4) = false := by simp; omega
    have HN : Hid (two (bl line) (bl word) (bl btw) = none) := Lib.hid (by
      unfold two
      rw [← HPS.out]
      split
      · rename_i h; exact absurd (by have := congrArg List.length h; simpa using this) hn
      · rfl)
    clear hn
    go_wp2
    (go_ret3; refine ⟨0, 0, false, rfl, ?_, (Keep.refl _ _).alloc _⟩; rw [HN.out])

end Go.Proofs.YtgelfefoiplekaaDoor
