/-
  Lists of numbers: before.
-/
import Derived.Test.YtiojoheenjkphaaInts
namespace Go.Proofs.Ytiojoheenjkphaa
open Go.RowKit

def beforeB : List Int → List Int → Bool
  | [], [] => false
  | [], _ :: _ => true
  | _ :: _, [] => false
  | x :: xs, y :: ys => if x = y then beforeB xs ys else decide (x < y)

def BeforeInv (xs ys : List Int) (w0 : World) (i : Value) (w : World) : Prop :=
  ∃ k : Nat, i = .int .i64 k ∧ k ≤ xs.length ∧ k ≤ ys.length ∧ beforeB (xs.drop k) (ys.drop k) = beforeB xs ys ∧ Keep None w0 w

set_option maxHeartbeats 1000000 in
theorem before_calls (p q : Option Addr) (xs ys : List Int) (c d : Nat) (w : World) (h : SliceV intEnc 1 w p xs) (h' : SliceV intEnc 1 w q ys) (hx : xs.length ≤ 1000000) (hy : ys.length ≤ 1000000) :
    Calls Try.prog 15 #[.slice p xs.length c, .slice q ys.length d] w (Gives None (.bool (beforeB xs ys)) w) := by
  go_enter Try.func15, Try.ntmps15
  go_wp2
  go_loopw [5] (BeforeInv xs ys w) (fun i _ => xs.length - (intOf i).toNat)
  case atStart => exact ⟨0, rfl, by omega, by omega, by simp, Keep.refl _ _⟩
  case round =>
    obtain ⟨k, rfl, hk, hk', hdr, hkp⟩ := hrel
    have HDR := Lib.hid hdr
    clear hdr
    by_cases hlt : k < xs.length
    · by_cases hlt' : k < ys.length
      · obtain ⟨x, hxk⟩ : ∃ x, xs[k]? = some x := ⟨xs[k], by simp [hlt]⟩
        obtain ⟨y, hyk⟩ : ∃ y, ys[k]? = some y := ⟨ys[k], by simp [hlt']⟩
        rcases h with h | ⟨b, o, rfl, h⟩
        · subst h; simp at hlt
        rcases h' with h' | ⟨b', o', rfl, h'⟩
        · subst h'; simp at hlt'
        have f1 : wr.cell? ⟨b, o + k, none⟩ = some (.int .i64 x) := by have := hkp.cell (h k x hxk 0 _ rfl) id; simpa using this
        have f2 : wr.cell? ⟨b', o' + k, none⟩ = some (.int .i64 y) := by have := hkp.cell (h' k y hyk 0 _ rfl) id; simpa using this
        have hdx := drop_cons hxk
        have hdy := drop_cons hyk
        by_cases hxy : x = y
        · subst hxy
          have hnew : beforeB (xs.drop (k + 1)) (ys.drop (k + 1)) = beforeB xs ys := by rw [← HDR.out, hdx, hdy]; simp [beforeB]
          have HN := Lib.hid hnew
          clear hnew hdx hdy h h' hxk hyk
          go_wp2
          go_quiet (fail)
          go_wp2
          go_roundw
          case rel => exact ⟨k + 1, by go_num, by omega, by omega, HN.out, hkp.drewN _⟩
          case measure => simp [intOf]; omega
        · have hfin : beforeB xs ys = decide (x < y) := by rw [← HDR.out, hdx, hdy]; simp [beforeB, hxy]
          have HF := Lib.hid hfin
          have hne : (x != y) = true := by simpa using hxy
          clear hfin hdx hdy h h' hxk hyk hxy
          go_wp2
          go_quiet (fail)
          go_wp2
          go_quiet (fail)
          go_wp2
          go_ret
          rw [HF.out]
          exact ⟨rfl, (hkp.drewN _).drewN _⟩
      · have hke : k = ys.length := by omega
        subst hke
        have hfin : beforeB xs ys = decide (xs.length < ys.length) := by
          obtain ⟨x, hxk⟩ : ∃ x, xs[ys.length]? = some x := ⟨xs[ys.length], by simp [hlt]⟩
          rw [← HDR.out, drop_cons hxk, List.drop_length]; simp [beforeB]; omega
        have HF := Lib.hid hfin
        have d1 : decide (xs.length < ys.length) = false := by simp; omega
        clear hfin h h'
        go_wp2
        go_ret
        rw [HF.out]
        exact ⟨by simp [d1], hkp⟩
    · have hke : k = xs.length := by omega
      subst hke
      have hfin : beforeB xs ys = decide (xs.length < ys.length) := by
        rw [← HDR.out, List.drop_length]
        cases hd : ys.drop xs.length with
        | nil => have := List.drop_eq_nil_iff.1 hd; simp [beforeB]; omega
        | cons y t =>
          have : xs.length < ys.length := by
            rcases Nat.lt_or_ge xs.length ys.length with h | h
            · exact h
            · rw [List.drop_eq_nil_of_le h] at hd; cases hd
          simp [beforeB, this]
      have HF := Lib.hid hfin
      clear hfin h h'
      go_wp2
      go_ret
      rw [HF.out]
      exact ⟨by simp, hkp⟩

end Go.Proofs.Ytiojoheenjkphaa
