/-
  The plain law of DecideLeast: what is picked is before all other sets within the budget.
-/
import Derived.Test.YtiojoheenjkphaaLeast
import Derived.Test.YtiojoheenjkphaaBefore
namespace Go.Proofs.Ytiojoheenjkphaa
open Go.RowKit

theorem beforeB_irrefl : ∀ x : List Int, beforeB x x = false
  | [] => rfl
  | a :: x => by simp [beforeB, beforeB_irrefl x]

theorem beforeB_asymm : ∀ x y : List Int, beforeB x y = true → beforeB y x = false
  | [], [], h => by simp [beforeB] at h
  | [], _ :: _, _ => rfl
  | _ :: _, [], h => by simp [beforeB] at h
  | a :: x, b :: y, h => by
    by_cases e : a = b
    · subst e; simp only [beforeB, if_true] at h ⊢; exact beforeB_asymm x y h
    · have e' : b ≠ a := fun q => e q.symm
      simp only [beforeB, e, e', if_false, decide_eq_true_eq, decide_eq_false_iff_not] at h ⊢
      omega

theorem beforeB_trans : ∀ x y z : List Int, beforeB x y = true → beforeB y z = true → beforeB x z = true
  | [], [], _, h, _ => by simp [beforeB] at h
  | [], _ :: _, [], _, h => by simp [beforeB] at h
  | [], _ :: _, _ :: _, _, _ => rfl
  | _ :: _, [], _, h, _ => by simp [beforeB] at h
  | _ :: _, _ :: _, [], _, h => by simp [beforeB] at h
  | a :: x, b :: y, c :: z, h1, h2 => by
    by_cases e : a = b
    · subst e
      by_cases e2 : a = c
      · subst e2; simp only [beforeB, if_true] at *; exact beforeB_trans x y z h1 h2
      · simp only [beforeB, if_true, e2, if_false] at *; exact h2
    · by_cases e2 : b = c
      · subst e2; simp only [beforeB, if_true, e, if_false] at *; exact h1
      · simp only [beforeB, e, e2, if_false, decide_eq_true_eq] at h1 h2
        have e3 : a ≠ c := by omega
        simp only [beforeB, e3, if_false, decide_eq_true_eq]; omega

/-- A sum of benefits, a sum of sizes, a list. -/
structure Tri where
  ben : Int
  siz : Int
  lst : List Int

def beats (p q : Tri) : Prop := q.ben < p.ben ∨ p.ben = q.ben ∧ (p.siz < q.siz ∨ p.siz = q.siz ∧ beforeB p.lst q.lst = true)
def least (p q : Tri) : Prop := beats p q ∨ p = q

theorem beats_asymm {p q : Tri} (h : beats p q) : ¬ beats q p := by
  unfold beats at *
  rintro h2
  rcases h with h | ⟨h, h' | ⟨h', h''⟩⟩
  · omega
  · omega
  · rcases h2 with h2 | ⟨h2, h3 | ⟨h3, h4⟩⟩
    · omega
    · omega
    · rw [beforeB_asymm _ _ h''] at h4; cases h4

theorem beats_irrefl (p : Tri) : ¬ beats p p := by
  unfold beats
  rintro (h | ⟨_, h | ⟨_, h⟩⟩)
  · omega
  · omega
  · rw [beforeB_irrefl] at h; cases h

theorem beats_trans {p q r : Tri} (h : beats p q) (h2 : beats q r) : beats p r := by
  unfold beats at *
  rcases h with h | ⟨h, h' | ⟨h', h''⟩⟩ <;> rcases h2 with k | ⟨k, k' | ⟨k', k''⟩⟩
  · left; omega
  · left; omega
  · left; omega
  · left; omega
  · right; exact ⟨by omega, .inl (by omega)⟩
  · right; exact ⟨by omega, .inl (by omega)⟩
  · left; omega
  · right; exact ⟨by omega, .inl (by omega)⟩
  · right; exact ⟨by omega, .inr ⟨by omega, beforeB_trans _ _ _ h'' k''⟩⟩

theorem least_of_beats {p q r : Tri} (h : beats p q) (h2 : least q r) : least p r := by
  rcases h2 with h2 | rfl
  · exact .inl (beats_trans h h2)
  · exact .inl h

theorem least_not {p q : Tri} (h : least p q) : ¬ beats q p := by
  rcases h with h | rfl
  · exact beats_asymm h
  · exact beats_irrefl _

def triOf (l : List Dec) (i b : Nat) : Tri := ⟨(cell l b).benefit, (cell l b).size, picks l i b⟩
def triSet (l : List Dec) (i s : Nat) : Tri := ⟨setBen l s, setSiz l s, setIdx l i s⟩

theorem empty_iff : ∀ (l : List Dec) (i b : Nat), (cell l b).empty = (picks l i b).isEmpty
  | [], _, _ => rfl
  | d :: r, i, b => by
    rcases cell_cases d r b with ⟨h1, _, h3⟩ | ⟨h1, h3⟩
    · rw [h3] at h1 ⊢
      simp [picks, h3, withIt]
    · have e := empty_iff r (i + 1) b
      simp only [picks, h1, Bool.false_eq_true, if_false]
      rw [h3]; exact e

theorem better_iff (c d : Ch) : better c d = true ↔ (d.benefit < c.benefit ∨ c.benefit = d.benefit ∧ c.size < d.size) := by
  simp [better]

theorem pick_spec (wo wi : Ch) : (pick wo wi = wi ∧ (wo.benefit < wi.benefit ∨ wi.benefit = wo.benefit ∧ (wi.size < wo.size ∨ wi.size = wo.size ∧ wo.empty = false))) ∨
    (pick wo wi = wo ∧ (wi.benefit < wo.benefit ∨ wi.benefit = wo.benefit ∧ (wo.size < wi.size ∨ wi.size = wo.size ∧ wo.empty = true))) := by
  have b1 := better_iff wi wo
  have b2 := better_iff wo wi
  unfold pick
  cases h1 : better wi wo with
  | true =>
    rw [h1] at b1
    left
    refine ⟨by simp, ?_⟩
    have := b1.1 rfl
    rcases this with h | ⟨h, h'⟩
    · exact .inl h
    · exact .inr ⟨h, .inl h'⟩
  | false =>
    rw [h1] at b1
    have n1 : ¬ (wo.benefit < wi.benefit ∨ wi.benefit = wo.benefit ∧ wi.size < wo.size) := fun h => by cases b1.2 h
    cases h2 : better wo wi with
    | true =>
      rw [h2] at b2
      right
      refine ⟨by simp, ?_⟩
      rcases b2.1 rfl with h | ⟨h, h'⟩
      · exact .inl h
      · exact .inr ⟨h.symm, .inl h'⟩
    | false =>
      rw [h2] at b2
      have n2 : ¬ (wi.benefit < wo.benefit ∨ wo.benefit = wi.benefit ∧ wo.size < wi.size) := fun h => by cases b2.2 h
      have e1 : wi.benefit = wo.benefit := by omega
      have e2 : wi.size = wo.size := by omega
      cases h3 : wo.empty with
      | true => right; exact ⟨by simp, .inr ⟨e1, .inr ⟨e2, rfl⟩⟩⟩
      | false => left; exact ⟨by simp, .inr ⟨e1, .inr ⟨e2, rfl⟩⟩⟩

theorem setSiz_nonneg : ∀ {l : List Dec} (s : Nat), nonneg l → 0 ≤ setSiz l s
  | [], _, _ => by simp [setSiz]
  | d :: r, s, h => by
    have h1 := setSiz_nonneg (s / 2) h.tail
    have h2 := h d (by simp)
    simp only [setSiz]; split <;> omega

theorem least_cons {d : Dec} {i : Nat} {p q : Tri} (h : least p q) : least ⟨p.ben + d.benefit, p.siz + d.size, (i : Int) :: p.lst⟩ ⟨d.benefit + q.ben, d.size + q.siz, (i : Int) :: q.lst⟩ := by
  rcases h with h | rfl
  · left
    rcases h with h | ⟨h, h' | ⟨h', h''⟩⟩
    · left; show d.benefit + q.ben < p.ben + d.benefit; omega
    · right; exact ⟨by show p.ben + d.benefit = d.benefit + q.ben; omega, .inl (by show p.siz + d.size < d.size + q.siz; omega)⟩
    · right; exact ⟨by show p.ben + d.benefit = d.benefit + q.ben; omega, .inr ⟨by show p.siz + d.size = d.size + q.siz; omega, by simp only [beforeB, if_true]; exact h''⟩⟩
  · right
    rw [Int.add_comm p.ben, Int.add_comm p.siz]

theorem picks_head {l : List Dec} {i b : Nat} {x : Int} {t : List Int} (h : picks l i b = x :: t) : (i : Int) ≤ x := by
  have := (picks_in l i b).2 x (by rw [h]; simp)
  exact this.1

theorem best_least : ∀ (l : List Dec) (i b s : Nat), nonneg l → setSiz l s ≤ b → least (triOf l i b) (triSet l i s)
  | [], i, b, s, _, _ => .inr rfl
  | d :: r, i, b, s, hn, hs => by
    have hd := hn d (by simp)
    have ihw := best_least r (i + 1) b (s / 2) hn.tail
    by_cases hbit : s % 2 = 1
    · -- the set holds the first decision
      have hsz : d.size + setSiz r (s / 2) ≤ b := by simpa [setSiz, hbit] using hs
      have h0 := setSiz_nonneg (s / 2) hn.tail
      have hfit : ¬ (b : Int) < d.size := by omega
      have ih := best_least r (i + 1) (b - d.size.toNat) (s / 2) hn.tail (by omega)
      have hi : least ⟨(withIt (cell r (b - d.size.toNat)) d).benefit, (withIt (cell r (b - d.size.toNat)) d).size, (i : Int) :: picks r (i + 1) (b - d.size.toNat)⟩ (triSet (d :: r) i s) := by
        have := least_cons (d := d) (i := i) ih
        simp only [triOf, triSet] at this
        simp only [triSet, setBen, setSiz, setIdx, hbit, if_true, withIt]
        exact this
      rcases cell_cases d r b with ⟨h1, h2, h3⟩ | ⟨h1, h3⟩
      · rw [triOf, h3]; simp only [picks, h1, if_true]
        exact hi
      · -- it was not taken: what was kept beats it
        have hk : beats (triOf (d :: r) i b) ⟨(withIt (cell r (b - d.size.toNat)) d).benefit, (withIt (cell r (b - d.size.toNat)) d).size, (i : Int) :: picks r (i + 1) (b - d.size.toNat)⟩ := by
          have hc : cell (d :: r) b = pick (without (cell r b)) (withIt (cell r (b - d.size.toNat)) d) := by simp only [cell, if_neg hfit]
          have hnt : (pick (without (cell r b)) (withIt (cell r (b - d.size.toNat)) d)).taken = false := by rw [← hc]; exact h1
          rw [triOf, h3]; simp only [picks, h1, Bool.false_eq_true, if_false]
          have he := empty_iff r (i + 1) b
          rcases pick_spec (without (cell r b)) (withIt (cell r (b - d.size.toNat)) d) with ⟨p1, _⟩ | ⟨_, p2⟩
          · rw [p1] at hnt; cases hnt
          · unfold beats
            simp only [without, withIt] at p2 ⊢
            rcases p2 with p2 | ⟨p2, p3 | ⟨p3, p4⟩⟩
            · exact .inl p2
            · exact .inr ⟨p2.symm, .inl p3⟩
            · refine .inr ⟨p2.symm, .inr ⟨p3.symm, ?_⟩⟩
              rw [p4] at he
              have hp : picks r (i + 1) b = [] := by simpa using he.symm
              rw [hp]; rfl
        exact least_of_beats hk hi
    · -- the set does not hold it
      have hsz : setSiz r (s / 2) ≤ b := by simpa [setSiz, hbit] using hs
      have ih := ihw hsz
      have hset : triSet (d :: r) i s = triSet r (i + 1) (s / 2) := by simp [triSet, setBen, setSiz, setIdx, hbit]
      rw [hset]
      rcases cell_cases d r b with ⟨h1, h2, h3⟩ | ⟨h1, h3⟩
      · have hk : beats (triOf (d :: r) i b) (triOf r (i + 1) b) := by
          have hc : cell (d :: r) b = pick (without (cell r b)) (withIt (cell r (b - d.size.toNat)) d) := by simp only [cell, if_neg h2]
          have hnt : (pick (without (cell r b)) (withIt (cell r (b - d.size.toNat)) d)).taken = true := by rw [← hc]; exact h1
          rw [triOf, triOf, h3]; simp only [picks, h1, if_true]
          have he := empty_iff r (i + 1) b
          rcases pick_spec (without (cell r b)) (withIt (cell r (b - d.size.toNat)) d) with ⟨_, p2⟩ | ⟨p1, _⟩
          · unfold beats
            simp only [without, withIt] at p2 ⊢
            rcases p2 with p2 | ⟨p2, p3 | ⟨p3, p4⟩⟩
            · exact .inl p2
            · exact .inr ⟨p2, .inl p3⟩
            · refine .inr ⟨p2, .inr ⟨p3, ?_⟩⟩
              rw [p4] at he
              cases hp : picks r (i + 1) b with
              | nil => rw [hp] at he; cases he
              | cons x t =>
                have := picks_head hp
                have hne : (i : Int) ≠ x := by omega
                simp only [beforeB, hne, if_false, decide_eq_true_eq]; omega
          · rw [p1] at hnt; cases hnt
        exact least_of_beats hk ih
      · have : triOf (d :: r) i b = triOf r (i + 1) b := by simp [triOf, picks, h3, without]
        rw [this]; exact ih

/-- The bits of what is picked. -/
def code : List Dec → Nat → Nat
  | [], _ => 0
  | d :: r, b => if (cell (d :: r) b).taken then 1 + 2 * code r (b - d.size.toNat) else 2 * code r b

theorem code_is : ∀ (l : List Dec) (i b : Nat), triSet l i (code l b) = triOf l i b ∧ code l b < 2 ^ l.length
  | [], _, _ => by simp [triSet, triOf, code, setBen, setSiz, setIdx, cell, picks]
  | d :: r, i, b => by
    rcases cell_cases d r b with ⟨h1, h2, h3⟩ | ⟨h1, h3⟩
    · obtain ⟨e, q⟩ := code_is r (i + 1) (b - d.size.toNat)
      simp only [triSet, triOf, Tri.mk.injEq] at e
      have o1 : (1 + 2 * code r (b - d.size.toNat)) % 2 = 1 := by omega
      have o2 : (1 + 2 * code r (b - d.size.toNat)) / 2 = code r (b - d.size.toNat) := by omega
      simp only [triSet, triOf, code, if_true, setBen, setSiz, setIdx, o1, o2, picks, h3, withIt, e.1, e.2.1, e.2.2, List.length_cons, Nat.pow_succ, Tri.mk.injEq, and_true]
      omega
    · obtain ⟨e, q⟩ := code_is r (i + 1) b
      simp only [triSet, triOf, Tri.mk.injEq] at e
      have o1 : ¬ (2 * code r b) % 2 = 1 := by omega
      have o2 : (2 * code r b) / 2 = code r b := by omega
      simp only [triSet, triOf, code, Bool.false_eq_true, if_false, setBen, setSiz, setIdx, o1, o2, picks, h3, without, e.1, e.2.1, e.2.2, List.length_cons, Nat.pow_succ, true_and]
      omega

theorem setIdx_len : ∀ (l : List Dec) (i s : Nat), (setIdx l i s).length ≤ l.length
  | [], _, _ => by simp [setIdx]
  | d :: r, i, s => by
    have := setIdx_len r (i + 1) (s / 2)
    simp only [setIdx]; split <;> simp <;> omega

theorem set_zero : ∀ (l : List Dec) (i : Nat), triSet l i 0 = ⟨0, 0, []⟩
  | [], _ => rfl
  | d :: r, i => by
    have := set_zero r (i + 1)
    simp only [triSet, Tri.mk.injEq] at *
    simp [setBen, setSiz, setIdx, this]

end Go.Proofs.Ytiojoheenjkphaa
