/-
  Chapter 23: links and their order.
-/
import Derived.Test.YtlhmajjmhkjcoaaNums
import Derived.Test.YtlhmajjmhkjcoaaBaseTwo
import Derived.StillTactics
namespace Go.Proofs.Ytlhmajjmhkjcoaa
open Go.RowKit

structure Lk where
  func : Int
  block : Int
  callee : Int
  count : Int

def Lk.enc (l : Lk) : List Value := [.int .i64 l.func, .int .i64 l.block, .int .i64 l.callee, .int .i64 l.count]
theorem Lk.enc_len (l : Lk) : l.enc.length = 4 := rfl
theorem Try.sizeLk : (Try.prog.info? 72).map (·.size) = some 4 := by kernel_rfl
theorem Try.infoLk : (Try.prog.info? 72).map (fun i => (i.zero, i.size, i.bytes)) = some (some (.agg #[.int .i64 0, .int .i64 0, .int .i64 0, .int .i64 0]), 4, 32) := by kernel_rfl

def cmpI (a b : Int) : Int := if a < b then -1 else if b < a then 1 else 0

theorem isNaN_calls (n : Int) (w : World) : Calls Try.prog 62 #[.int .i64 n] w fun e w' => e = .returned (.bool false) ∧ w' = w := by
  go_enter Try.func62, Try.ntmps62
  go_wp2
  go_ret
  exact ⟨by simp, rfl⟩

theorem cmp_calls (a b : Int) (w : World) : Calls Try.prog 58 #[.int .i64 a, .int .i64 b] w fun e w' => e = .returned (.int .i64 (cmpI a b)) ∧ w' = w := by
  by_cases h1 : a < b
  · have hf : cmpI a b = -1 := by simp [cmpI, h1]
    rw [hf]
    go_enter Try.func58, Try.ntmps58
    go_wp2_with (go_at_call 62; refine (isNaN_calls _ _).mono ?_; rintro e w' ⟨rfl, rfl⟩)
    go_ret
    exact ⟨rfl, rfl⟩
  · by_cases h2 : b < a
    · have hf : cmpI a b = 1 := by simp [cmpI, h1, h2]
      rw [hf]
      go_enter Try.func58, Try.ntmps58
      go_wp2_with (go_at_call 62; refine (isNaN_calls _ _).mono ?_; rintro e w' ⟨rfl, rfl⟩)
      go_ret
      exact ⟨rfl, rfl⟩
    · have hf : cmpI a b = 0 := by simp [cmpI, h1, h2]
      rw [hf]
      go_enter Try.func58, Try.ntmps58
      go_wp2_with (go_at_call 62; refine (isNaN_calls _ _).mono ?_; rintro e w' ⟨rfl, rfl⟩)
      go_ret
      exact ⟨rfl, rfl⟩

/-- The first that is not 0. -/
def orL : List Int → Int
  | [] => 0
  | x :: r => if x = 0 then orL r else x

theorem or_calls (p : Option Addr) (l : List Int) (c : Nat) (w : World) (h : SliceV intEnc 1 w p l) (hl : l.length ≤ 1000000) :
    Calls Try.prog 57 #[.slice p l.length c] w fun e w' => e = .returned (.int .i64 (orL l)) ∧ w' = w := by
  go_enter Try.func57, Try.ntmps57
  go_wp2
  go_loop [8] (fun i => ∃ k : Nat, i = .int .i64 k ∧ k ≤ l.length ∧ orL (l.drop k) = orL l) (fun i => l.length - (intOf i).toNat)
  case atStart => exact ⟨0, rfl, by omega, rfl⟩
  case round =>
    obtain ⟨k, rfl, hk, hr⟩ := hrel
    have HR := Lib.hid hr
    clear hr
    by_cases hlt : k < l.length
    · obtain ⟨x, hx⟩ : ∃ x, l[k]? = some x := ⟨l[k], by simp [hlt]⟩
      rcases h with h | ⟨b, o, rfl, h⟩
      · subst h; simp at hlt
      have hc := h.int hx
      have HD := Lib.hid (drop_cons hx)
      clear hx h
      by_cases hz : x = 0
      · subst hz
        have HN : Hid (orL (l.drop (k + 1)) = orL l) := Lib.hid (by rw [← HR.out, HD.out]; simp [orL])
        go_wp2
        go_round
        case rel => exact ⟨k + 1, by go_num, by omega, HN.out⟩
        case measure => simp [intOf]; omega
      · have HN : Hid (orL l = x) := Lib.hid (by rw [← HR.out, HD.out]; simp [orL, hz])
        have hz' : (x != 0) = true := by simpa using hz
        clear hz
        go_wp2
        go_ret
        rw [HN.out]
        exact ⟨rfl, rfl⟩
    · have hke : k = l.length := by omega
      subst hke
      have HN : Hid (orL l = 0) := Lib.hid (by rw [← HR.out, List.drop_length]; rfl)
      go_wp2
      go_ret
      rw [HN.out]
      exact ⟨rfl, rfl⟩

def ordL (a b : Lk) : Int := orL [cmpI a.func b.func, cmpI a.block b.block, cmpI a.callee b.callee]

set_option maxRecDepth 100000 in
set_option maxHeartbeats 1000000 in
theorem order_calls {a0 a1 a2 a3 b0 b1 b2 b3 : Int} (w : World) :
    Calls Try.prog 47 #[.agg #[.int .i64 a0, .int .i64 a1, .int .i64 a2, .int .i64 a3], .agg #[.int .i64 b0, .int .i64 b1, .int .i64 b2, .int .i64 b3]] w (Gives None (.int .i64 (ordL ⟨a0, a1, a2, a3⟩ ⟨b0, b1, b2, b3⟩)) w) := by
  go_enter Try.func47, Try.ntmps47
  go_wp2
  refine region_tail 15 (by kernel_rfl) (by kernel_rfl) ?_
  simp only [List.take_succ_cons, List.take_zero, List.drop_succ_cons, List.drop_zero]
  iterate 4 still_step
  still_call (cmp_calls _ _ _)
  iterate 4 still_step
  still_call (cmp_calls _ _ _)
  iterate 4 still_step
  still_call (cmp_calls _ _ _)
  refine wpStill_nil ?_
  go_wp2_with (go_at_call 57; refine (or_calls _ [cmpI a0 b0, cmpI a1 b1, cmpI a2 b2] _ _ ?_ (by simp)).mono ?_)
  · refine .inr ⟨_, 0, rfl, Arr.slAt (e := 3) intEnc_len ?_⟩
    unfold Arr
    first
    | exact alloc_at (by simp)
    | exact (Keep.drew (Keep.refl None _)).obj (alloc_at (by simp)) id
  · rintro e w' ⟨rfl, rfl⟩
    go_wp2
    go_ret
    refine ⟨rfl, ?_⟩
    repeat (first | exact Keep.refl _ _ | refine Keep.drew ?_ | refine Keep.alloc ?_ _)

def sameKey (a b : Lk) : Prop := a.func = b.func ∧ a.block = b.block ∧ a.callee = b.callee
def lessB (a b : Lk) : Bool := if a.func ≠ b.func then decide (a.func < b.func) else if a.block ≠ b.block then decide (a.block < b.block) else decide (a.callee < b.callee)

theorem ord_neg (a b : Lk) : ordL a b < 0 ↔ lessB a b = true := by
  unfold ordL lessB orL orL orL orL cmpI
  by_cases h1 : a.func = b.func
  · by_cases h2 : a.block = b.block
    · simp only [h1, h2, Int.lt_irrefl, if_false, if_true, ne_eq, not_true, not_false_iff]
      by_cases h3 : a.callee < b.callee
      · simp [h3]
      · by_cases h4 : b.callee < a.callee <;> simp [h3, h4]
    · simp only [h1, h2, Int.lt_irrefl, if_false, if_true, ne_eq, not_true, not_false_iff]
      by_cases h3 : a.block < b.block
      · simp [h3]
      · have h4 : b.block < a.block := by omega
        simp [h3, h4]
  · simp only [h1, ne_eq, not_false_iff, if_true]
    by_cases h3 : a.func < b.func
    · simp [h3]
    · have h4 : b.func < a.func := by omega
      simp [h3, h4]

theorem ord_zero (a b : Lk) : ordL a b = 0 ↔ sameKey a b := by
  have c0 : ∀ x y : Int, cmpI x y = 0 ↔ x = y := by
    intro x y; unfold cmpI; split
    · constructor <;> intro h <;> omega
    · split
      · constructor <;> intro h <;> omega
      · constructor <;> intro h <;> omega
  unfold ordL sameKey orL orL orL orL
  by_cases h1 : cmpI a.func b.func = 0
  · by_cases h2 : cmpI a.block b.block = 0
    · by_cases h3 : cmpI a.callee b.callee = 0
      · simp only [h1, h2, h3, if_true, true_iff]
        exact ⟨(c0 _ _).1 h1, (c0 _ _).1 h2, (c0 _ _).1 h3⟩
      · simp only [h1, h2, h3, if_true, if_false, false_iff]
        exact fun h => h3 ((c0 _ _).2 h.2.2)
    · simp only [h1, h2, if_true, if_false, false_iff]
      exact fun h => h2 ((c0 _ _).2 h.2.1)
  · simp only [h1, if_false, false_iff]
    exact fun h => h1 ((c0 _ _).2 h.1)

set_option maxHeartbeats 1000000 in
theorem less_calls {a0 a1 a2 a3 b0 b1 b2 b3 : Int} (w : World) :
    Calls Try.prog 50 #[.agg #[.int .i64 a0, .int .i64 a1, .int .i64 a2, .int .i64 a3], .agg #[.int .i64 b0, .int .i64 b1, .int .i64 b2, .int .i64 b3]] w (Gives None (.bool (lessB ⟨a0, a1, a2, a3⟩ ⟨b0, b1, b2, b3⟩)) w) := by
  by_cases h1 : a0 = b0
  · by_cases h2 : a1 = b1
    · have hf : lessB ⟨a0, a1, a2, a3⟩ ⟨b0, b1, b2, b3⟩ = decide (a2 < b2) := by simp [lessB, h1, h2]
      rw [hf]
      have g1 : (a0 != b0) = false := by simp [h1]
      have g2 : (a1 != b1) = false := by simp [h2]
      clear h1 h2
      go_enter Try.func50, Try.ntmps50
      go_wp2
      go_ret
      exact ⟨rfl, ((Keep.refl _ _).alloc _).alloc _⟩
    · have hf : lessB ⟨a0, a1, a2, a3⟩ ⟨b0, b1, b2, b3⟩ = decide (a1 < b1) := by simp [lessB, h1, h2]
      rw [hf]
      have g1 : (a0 != b0) = false := by simp [h1]
      have g2 : (a1 != b1) = true := by simp [h2]
      clear h1 h2
      go_enter Try.func50, Try.ntmps50
      go_wp2
      go_ret
      exact ⟨rfl, ((Keep.refl _ _).alloc _).alloc _⟩
  · have hf : lessB ⟨a0, a1, a2, a3⟩ ⟨b0, b1, b2, b3⟩ = decide (a0 < b0) := by simp [lessB, h1]
    rw [hf]
    have g1 : (a0 != b0) = true := by simp [h1]
    clear h1
    go_enter Try.func50, Try.ntmps50
    go_wp2
    go_ret
    exact ⟨rfl, ((Keep.refl _ _).alloc _).alloc _⟩

end Go.Proofs.Ytlhmajjmhkjcoaa
