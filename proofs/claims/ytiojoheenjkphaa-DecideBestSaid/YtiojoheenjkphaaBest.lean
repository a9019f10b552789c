/-
  decide.Best: what it computes.
-/
import Derived.Test.YtiojoheenjkphaaDecs
namespace Go.Proofs.Ytiojoheenjkphaa
open Go.RowKit

def bad (d : Dec) : Bool := decide (d.benefit < -1125899906842624) || decide (1125899906842624 < d.benefit) || decide (d.size < 0) || decide (1048576 < d.size)

set_option maxHeartbeats 400000 in
theorem bad_calls (d : Dec) (w : World) : Calls Try.prog 18 #[.agg d.enc.toArray] w fun e w' => e = .returned (.bool (bad d)) ∧ w' = w.alloc (.cells d.enc.toArray 30) := by
  obtain ⟨a, b, c, i, t, be, sz⟩ := d
  by_cases h1 : be < -1125899906842624
  · have hf : bad ⟨a, b, c, i, t, be, sz⟩ = true := by simp [bad, h1]
    rw [hf]
    simp only [Dec.enc]
    go_enter Try.func18, Try.ntmps18
    go_wp2
    go_ret
    exact ⟨rfl, rfl⟩
  · by_cases h2 : 1125899906842624 < be
    · have hf : bad ⟨a, b, c, i, t, be, sz⟩ = true := by simp [bad, h2]
      rw [hf]
      simp only [Dec.enc]
      go_enter Try.func18, Try.ntmps18
      go_wp2
      go_ret
      exact ⟨rfl, rfl⟩
    · by_cases h3 : sz < 0
      · have hf : bad ⟨a, b, c, i, t, be, sz⟩ = true := by simp [bad, h3]
        rw [hf]
        simp only [Dec.enc]
        go_enter Try.func18, Try.ntmps18
        go_wp2
        go_ret
        exact ⟨rfl, rfl⟩
      · have hf : bad ⟨a, b, c, i, t, be, sz⟩ = decide (1048576 < sz) := by simp [bad, h1, h2, h3]
        rw [hf]
        simp only [Dec.enc]
        go_enter Try.func18, Try.ntmps18
        go_wp2
        go_ret
        exact ⟨rfl, rfl⟩

/-- The first bad one, or -1. -/
def firstBad : List Dec → Int
  | [] => -1
  | d :: r => if bad d then 0 else if firstBad r = -1 then -1 else firstBad r + 1

theorem firstBad_any (l : List Dec) : decide (0 ≤ firstBad l) = l.any bad := by
  induction l with
  | nil => simp [firstBad]
  | cons d r ih =>
    have : -1 ≤ firstBad r := by
      clear ih
      induction r with
      | nil => simp [firstBad]
      | cons x y ih => simp only [firstBad]; split <;> (try split) <;> omega
    simp only [firstBad, List.any_cons]
    rw [← ih]
    by_cases hb : bad d = true
    · simp [hb]
    · simp only [hb, Bool.false_or, decide_eq_decide]
      by_cases h1 : firstBad r = -1
      · simp [h1]
      · simp only [h1, Bool.false_eq_true, if_false]; omega

theorem firstBad_at : ∀ (l : List Dec) (k : Nat) (d : Dec), (∀ j d, j < k → l[j]? = some d → bad d = false) → l[k]? = some d → bad d = true → firstBad l = k
  | [], k, d, _, h, _ => by simp at h
  | x :: r, 0, d, _, h, hb => by simp at h; subst h; simp [firstBad, hb]
  | x :: r, k + 1, d, ha, h, hb => by
    have h0 : bad x = false := ha 0 x (by omega) (by simp)
    have := firstBad_at r k d (fun j d hj hd => ha (j + 1) d (by omega) (by simpa using hd)) (by simpa using h) hb
    simp [firstBad, h0, this]

theorem firstBad_none : ∀ (l : List Dec), (∀ (j : Nat) (d : Dec), j < l.length → l[j]? = some d → bad d = false) → firstBad l = -1
  | [], _ => rfl
  | x :: r, ha => by
    have h0 : bad x = false := ha 0 x (by simp) (by simp)
    have := firstBad_none r (fun j d hj hd => ha (j + 1) d (by simpa using hj) (by simpa using hd))
    simp [firstBad, h0, this]

def IndexInv (l : List Dec) (w0 : World) (i : Value) (w : World) : Prop :=
  ∃ k : Nat, i = .int .i64 k ∧ k ≤ l.length ∧ (∀ j d, j < k → l[j]? = some d → bad d = false) ∧ Keep None w0 w

set_option maxHeartbeats 1000000 in
theorem index_calls (p : Option Addr) (l : List Dec) (cap : Nat) (w : World) (h : SliceV Dec.enc 7 w p l) (hl : l.length ≤ 1000000) :
    Calls Try.prog 21 #[.slice p l.length cap, .func (.func 18) #[] #[]] w (Gives None (.int .i64 (firstBad l)) w) := by
  go_enter Try.func21, Try.ntmps21
  go_wp2
  go_loopw [8] (IndexInv l w) (fun i _ => l.length - (intOf i).toNat)
  case atStart => exact ⟨0, rfl, by omega, by intro j d hj; omega, Keep.refl _ _⟩
  case round =>
    obtain ⟨k, rfl, hk, hall, hkeep⟩ := hrel
    by_cases hlt : k < l.length
    · rcases h with h | ⟨b, off, rfl, h⟩
      · subst h; simp at hlt
      obtain ⟨d, hd⟩ : ∃ d, l[k]? = some d := ⟨l[k], by simp [hlt]⟩
      have HC : Hid _ := Lib.hid ((h.keep hkeep (by simp)).range hd)
      have HA : Hid _ := Lib.hid hall
      have HD : Hid _ := Lib.hid hd
      clear hall hd h
      cases hb : bad d with
      | true =>
        have HB : Hid _ := Lib.hid hb
        clear hb
        go_wp2_with (first
          | (with_reducible (show wpList _ _ _ (⟨_, .load 30 _, _, _, _, none⟩ :: _) _ _); refine wpList_loadEl rfl 30 _ rfl _ _ rfl d _ HC.out d.enc_len Try.underlying30 rfl Try.sizeDec _ rfl ?_)
          | (go_at_call 18; refine (bad_calls d _).mono ?_; rintro e w' ⟨rfl, rfl⟩; rw [HB.out]))
        go_ret
        refine ⟨?_, hkeep.alloc _⟩
        rw [firstBad_at l k d HA.out HD.out HB.out]; rfl
      | false =>
        have HB : Hid _ := Lib.hid hb
        clear hb
        go_wp2_with (first
          | (with_reducible (show wpList _ _ _ (⟨_, .load 30 _, _, _, _, none⟩ :: _) _ _); refine wpList_loadEl rfl 30 _ rfl _ _ rfl d _ HC.out d.enc_len Try.underlying30 rfl Try.sizeDec _ rfl ?_)
          | (go_at_call 18; refine (bad_calls d _).mono ?_; rintro e w' ⟨rfl, rfl⟩; rw [HB.out]))
        go_roundw
        case rel =>
          refine ⟨k + 1, by go_num, by omega, ?_, hkeep.alloc _⟩
          intro j x hj hx
          by_cases e : j = k
          · subst e; rw [HD.out] at hx; cases hx; exact HB.out
          · exact HA.out j x (by omega) hx
        case measure => simp [intOf]; omega
    · have : k = l.length := by omega
      subst this
      have HA : Hid _ := Lib.hid hall
      clear hall h
      go_wp2
      go_ret
      refine ⟨?_, hkeep⟩
      rw [firstBad_none l HA.out]; rfl

theorem contains_calls (p : Option Addr) (l : List Dec) (cap : Nat) (w : World) (h : SliceV Dec.enc 7 w p l) (hl : l.length ≤ 1000000) :
    Calls Try.prog 17 #[.slice p l.length cap, .func (.func 18) #[] #[]] w (Gives None (.bool (l.any bad)) w) := by
  have HB : Hid _ := Lib.hid (firstBad_any l)
  go_enter Try.func17, Try.ntmps17
  go_wp2_with (go_at_call 21; refine (index_calls p l cap _ h hl).mono ?_; rintro e w' ⟨rfl, hk⟩)
  go_ret
  refine ⟨?_, hk⟩
  rw [← HB.out]; rfl

structure Ch where
  benefit : Int
  size : Int
  taken : Bool
  empty : Bool

def Ch.enc (c : Ch) : List Value := [.int .i64 c.benefit, .int .i64 c.size, .bool c.taken, .bool c.empty]
theorem Ch.enc_len (c : Ch) : c.enc.length = 4 := rfl
theorem Try.infoCh : (Try.prog.info? 54).map (fun i => (i.zero, i.size, i.bytes)) = some (some (.agg #[.int .i64 0, .int .i64 0, .bool false, .bool false]), 4, 24) := by kernel_rfl
theorem Try.sizeCh : (Try.prog.info? 54).map (·.size) = some 4 := by kernel_rfl

def better (c d : Ch) : Bool := decide (d.benefit < c.benefit) || (decide (c.benefit = d.benefit) && decide (c.size < d.size))

set_option maxHeartbeats 400000 in
theorem better_calls (a s : Int) (x y : Bool) (b t : Int) (z u : Bool) (r : Bool) (hr : better ⟨a, s, x, y⟩ ⟨b, t, z, u⟩ = r) (w : World) :
    Calls Try.prog 19 #[.agg #[.int .i64 a, .int .i64 s, .bool x, .bool y], .agg #[.int .i64 b, .int .i64 t, .bool z, .bool u]] w (Gives None (.bool r) w) := by
  subst hr
  by_cases h1 : b < a
  · have hf : better ⟨a, s, x, y⟩ ⟨b, t, z, u⟩ = true := by simp [better, h1]
    rw [hf]
    go_enter Try.func19, Try.ntmps19
    go_wp2
    go_ret
    exact ⟨rfl, ((Keep.refl _ _).alloc _).alloc _⟩
  · by_cases h2 : a = b
    · subst h2
      have hf : better ⟨a, s, x, y⟩ ⟨a, t, z, u⟩ = decide (s < t) := by simp [better]
      rw [hf]
      go_enter Try.func19, Try.ntmps19
      go_wp2
      go_ret
      exact ⟨rfl, ((Keep.refl _ _).alloc _).alloc _⟩
    · have hf : better ⟨a, s, x, y⟩ ⟨b, t, z, u⟩ = false := by simp [better, h1, h2]
      rw [hf]
      have h3 : ((a == b) : Bool) = false := by simpa using h2
      clear h2
      go_enter Try.func19, Try.ntmps19
      go_wp2
      go_ret
      exact ⟨rfl, ((Keep.refl _ _).alloc _).alloc _⟩

end Go.Proofs.Ytiojoheenjkphaa
