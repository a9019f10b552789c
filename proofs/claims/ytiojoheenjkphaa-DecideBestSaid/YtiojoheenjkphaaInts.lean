/-
  Lists of numbers: equal, before.
-/
import Derived.Test.YtiojoheenjkphaaBest2
namespace Go.Proofs.Ytiojoheenjkphaa
open Go.RowKit

theorem drop_cons {α : Type} {l : List α} {k : Nat} {x : α} (h : l[k]? = some x) : l.drop k = x :: l.drop (k + 1) := by
  have hk : k < l.length := (List.getElem?_eq_some_iff.1 h).1
  rw [List.drop_eq_getElem_cons hk]; congr 1; rw [List.getElem?_eq_getElem hk] at h; exact Option.some.inj h

def IntsInv (xs ys : List Int) (w0 : World) (i : Value) (w : World) : Prop :=
  ∃ k : Nat, i = .int .i64 k ∧ k ≤ xs.length ∧ decide (xs.drop k = ys.drop k) = decide (xs = ys) ∧ Keep None w0 w

set_option maxHeartbeats 1000000 in
theorem ints_calls (p q : Option Addr) (xs ys : List Int) (c d : Nat) (w : World) (h : SliceV intEnc 1 w p xs) (h' : SliceV intEnc 1 w q ys) (hx : xs.length ≤ 1000000) (hy : ys.length ≤ 1000000) :
    Calls Try.prog 13 #[.slice p xs.length c, .slice q ys.length d] w (Gives None (.bool (decide (xs = ys))) w) := by
  by_cases hlen : xs.length = ys.length
  · have e1 : (xs.length != ys.length) = false := by simp [hlen]
    have e2 : ((xs.length : Int) != (ys.length : Int)) = false := by simp [hlen]
    have HLEN := Lib.hid hlen
    clear hlen
    go_enter Try.func13, Try.ntmps13
    go_wp2
    go_loopw [5] (IntsInv xs ys w) (fun i _ => xs.length - (intOf i).toNat)
    case atStart => exact ⟨0, rfl, by omega, by simp, Keep.refl _ _⟩
    case round =>
      obtain ⟨k, rfl, hk, hdr, hkp⟩ := hrel
      have HDR := Lib.hid hdr
      clear hdr
      by_cases hlt : k < xs.length
      · obtain ⟨x, hxk⟩ : ∃ x, xs[k]? = some x := ⟨xs[k], by simp [hlt]⟩
        have hlt' : k < ys.length := by have := HLEN.out; omega
        obtain ⟨y, hyk⟩ : ∃ y, ys[k]? = some y := ⟨ys[k], by simp [hlt']⟩
        rcases h with h | ⟨b, o, rfl, h⟩
        · subst h; simp at hlt
        rcases h' with h' | ⟨b', o', rfl, h'⟩
        · subst h'; simp at hlt'
        have f1 : wr.cell? ⟨b, o + k, none⟩ = some (.int .i64 x) := by have := hkp.cell (h k x hxk 0 _ rfl) id; simpa using this
        have f2 : wr.cell? ⟨b', o' + k, none⟩ = some (.int .i64 y) := by have := hkp.cell (h' k y hyk 0 _ rfl) id; simpa using this
        have hdx := drop_cons hxk
        have hdy := drop_cons hyk
        by_cases hxy : x = y
        · subst hxy
          have hnew : decide (xs.drop (k + 1) = ys.drop (k + 1)) = decide (xs = ys) := by rw [← HDR.out, hdx, hdy]; simp
          have HN := Lib.hid hnew
          clear hnew hdx hdy h h' hxk hyk
          go_wp2
          go_quiet (fail)
          go_wp2
          go_roundw
          case rel => exact ⟨k + 1, by go_num, by omega, HN.out, hkp.drewN _⟩
          case measure => simp [intOf]; omega
        · have hfin : decide (xs = ys) = false := by rw [← HDR.out, hdx, hdy]; simp [hxy]
          have HF := Lib.hid hfin
          have hne : (x != y) = true := by simpa using hxy
          clear hfin hdx hdy h h' hxk hyk hxy
          go_wp2
          go_quiet (fail)
          go_wp2
          go_ret
          rw [HF.out]
          exact ⟨rfl, hkp.drewN _⟩
      · have hke : k = xs.length := by omega
        subst hke
        have hfin : decide (xs = ys) = true := by rw [← HDR.out, List.drop_length, HLEN.out, List.drop_length]; simp
        have HF := Lib.hid hfin
        clear hfin h h'
        go_wp2
        go_ret
        rw [HF.out]
        exact ⟨rfl, hkp⟩
  · have e1 : (xs.length != ys.length) = true := by simp [hlen]
    have hfin : decide (xs = ys) = false := by simp; rintro rfl; exact hlen rfl
    have HF := Lib.hid hfin
    clear hfin hlen h h'
    go_enter Try.func13, Try.ntmps13
    go_wp2
    go_ret
    rw [HF.out]
    exact ⟨rfl, Keep.refl _ _⟩

end Go.Proofs.Ytiojoheenjkphaa
