/-
  The plain law of the best decisions: no subset within the budget is worth more than what the table says, and what is picked is worth that.
-/
import Derived.Test.YtiojoheenjkphaaBudgets
namespace Go.Proofs.Ytiojoheenjkphaa
open Go.RowKit

def benL (s : List Dec) : Int := (s.map Dec.benefit).sum
def sizL (s : List Dec) : Int := (s.map Dec.size).sum
def nonneg (l : List Dec) : Prop := ∀ d ∈ l, 0 ≤ d.size

theorem nonneg.tail {d : Dec} {r : List Dec} (h : nonneg (d :: r)) : nonneg r := fun x hx => h x (by simp [hx])

theorem sizL_nonneg : ∀ {s : List Dec}, nonneg s → 0 ≤ sizL s
  | [], _ => by simp [sizL]
  | d :: s, h => by
    have h1 := sizL_nonneg h.tail
    have h2 := h d (by simp)
    simp only [sizL, List.map_cons, List.sum_cons] at *
    omega

theorem pick_ge (wo wi : Ch) : wo.benefit ≤ (pick wo wi).benefit ∧ wi.benefit ≤ (pick wo wi).benefit := by
  unfold pick
  split
  · rename_i h
    simp [better] at h
    omega
  · rename_i h
    simp [better] at h
    omega

theorem cell_wo (d : Dec) (r : List Dec) (b : Nat) : (cell r b).benefit ≤ (cell (d :: r) b).benefit := by
  simp only [cell]
  split
  · simp [without]
  · exact (pick_ge (without (cell r b)) _).1

theorem opt : ∀ (l : List Dec) (b : Nat) (s : List Dec), nonneg l → List.Sublist s l → sizL s ≤ b → benL s ≤ (cell l b).benefit
  | [], b, s, _, hs, _ => by
    have : s = [] := List.sublist_nil.1 hs
    subst this; simp [benL, cell]
  | d :: r, b, s, hn, hs, hb => by
    cases hs with
    | cons _ h => exact Int.le_trans (opt r b s hn.tail h hb) (cell_wo d r b)
    | cons_cons _ h =>
      rename_i s'
      have h0 := sizL_nonneg (s := s') (fun x hx => hn x (by simp [h.subset hx]))
      have hd := hn d (by simp)
      simp only [benL, sizL, List.map_cons, List.sum_cons] at hb ⊢
      have ih := opt r (b - d.size.toNat) s' hn.tail h (by simp only [sizL] at h0 ⊢; omega)
      have hfit : ¬ (b : Int) < d.size := by simp only [sizL] at h0; omega
      simp only [cell, if_neg hfit]
      have := (pick_ge (without (cell r b)) (withIt (cell r (b - d.size.toNat)) d)).2
      simp only [withIt, benL] at *
      omega

theorem pick_taken {wo wi : Ch} (h1 : wo.taken = false) (h2 : wi.taken = true) : (pick wo wi = wi ∧ (pick wo wi).taken = true) ∨ (pick wo wi = wo ∧ (pick wo wi).taken = false) := by
  rcases pick_or wo wi with h | h
  · exact .inl ⟨h, by rw [h, h2]⟩
  · exact .inr ⟨h, by rw [h, h1]⟩

theorem cell_cases (d : Dec) (r : List Dec) (b : Nat) :
    ((cell (d :: r) b).taken = true ∧ ¬ (b : Int) < d.size ∧ cell (d :: r) b = withIt (cell r (b - d.size.toNat)) d) ∨ ((cell (d :: r) b).taken = false ∧ cell (d :: r) b = without (cell r b)) := by
  by_cases h : (b : Int) < d.size
  · exact .inr ⟨by simp [cell, h, without], by simp [cell, h]⟩
  · rcases pick_taken (wo := without (cell r b)) (wi := withIt (cell r (b - d.size.toNat)) d) rfl rfl with ⟨h1, h2⟩ | ⟨h1, h2⟩
    · exact .inl ⟨by simp only [cell, if_neg h]; exact h2, h, by simp only [cell, if_neg h]; exact h1⟩
    · exact .inr ⟨by simp only [cell, if_neg h]; exact h2, by simp only [cell, if_neg h]; exact h1⟩

/-- What is picked. -/
def chosen : List Dec → Nat → List Dec
  | [], _ => []
  | d :: r, b => if (cell (d :: r) b).taken then d :: chosen r (b - d.size.toNat) else chosen r b

theorem chosen_is : ∀ (l : List Dec) (b : Nat), nonneg l → List.Sublist (chosen l b) l ∧ benL (chosen l b) = (cell l b).benefit ∧ sizL (chosen l b) = (cell l b).size ∧ (cell l b).size ≤ b
  | [], b, _ => by simp [chosen, benL, sizL, cell]
  | d :: r, b, hn => by
    have hd := hn d (by simp)
    rcases cell_cases d r b with ⟨h1, h2, h3⟩ | ⟨h1, h3⟩
    · obtain ⟨i1, i2, i3, i4⟩ := chosen_is r (b - d.size.toNat) hn.tail
      rw [h3]
      simp only [chosen, h1, if_true]
      refine ⟨i1.cons_cons d, ?_, ?_, ?_⟩
      · simp only [benL, List.map_cons, List.sum_cons, withIt] at *; omega
      · simp only [sizL, List.map_cons, List.sum_cons, withIt] at *; omega
      · simp only [withIt]; omega
    · obtain ⟨i1, i2, i3, i4⟩ := chosen_is r b hn.tail
      rw [h3]
      simp only [chosen, h1, Bool.false_eq_true, if_false]
      exact ⟨i1.cons d, i2, i3, i4⟩

theorem picks_in : ∀ (l : List Dec) (i b : Nat), (picks l i b).length ≤ l.length ∧ ∀ x ∈ picks l i b, (i : Int) ≤ x ∧ x < i + l.length
  | [], i, b => by simp [picks]
  | d :: r, i, b => by
    simp only [picks]
    split
    · obtain ⟨h1, h2⟩ := picks_in r (i + 1) (b - d.size.toNat)
      refine ⟨by simp; omega, fun x hx => ?_⟩
      simp only [List.mem_cons] at hx
      rcases hx with rfl | hx
      · simp; omega
      · have := h2 x hx; simp; omega
    · obtain ⟨h1, h2⟩ := picks_in r (i + 1) b
      refine ⟨by simp; omega, fun x hx => ?_⟩
      have := h2 x hx; simp; omega

theorem sums_picks (L : List Dec) : ∀ (l : List Dec) (i b : Nat), l <+: L.drop i → sums L (picks l i b) = (benL (chosen l b), sizL (chosen l b))
  | [], i, b, _ => by simp [picks, chosen, sums, benL, sizL]
  | d :: r, i, b, h => by
    have hd : L[i]? = some d := by
      obtain ⟨t, ht⟩ := h
      have : (L.drop i)[0]? = some d := by rw [← ht]; rfl
      simpa using this
    have hr : r <+: L.drop (i + 1) := by
      obtain ⟨t, ht⟩ := h
      refine ⟨t, ?_⟩
      have := congrArg List.tail ht
      simpa using this
    simp only [picks, chosen]
    split
    · have ih := sums_picks L r (i + 1) (b - d.size.toNat) hr
      simp only [sums, Prod.mk.injEq] at ih ⊢
      simp only [List.map_cons, List.sum_cons, benL, sizL] at ih ⊢
      rw [ih.1, ih.2]
      simp [benOf, sizOf, hd]
    · exact sums_picks L r (i + 1) b hr

/-- The law of the budgets. -/
theorem budgets_law (l : List Dec) (n more : Nat) (hn : nonneg l) :
    let x := sums l (picks l 0 n)
    let y := sums l (picks l 0 (n + more))
    let z := sums l (picks (l.take (l.length / 2)) 0 n)
    0 ≤ x.1 ∧ x.1 ≤ y.1 ∧ z.1 ≤ x.1 ∧ 0 ≤ z.1 ∧ x.2 ≤ n ∧ y.2 ≤ n + more := by
  have hx := sums_picks l l 0 n (by simp)
  have hy := sums_picks l l 0 (n + more) (by simp)
  have hz := sums_picks l (l.take (l.length / 2)) 0 n (by simpa using List.take_prefix _ _)
  have hn' : nonneg (l.take (l.length / 2)) := fun d hd => hn d (List.mem_of_mem_take hd)
  obtain ⟨x1, x2, x3, x4⟩ := chosen_is l n hn
  obtain ⟨y1, y2, y3, y4⟩ := chosen_is l (n + more) hn
  obtain ⟨z1, z2, z3, z4⟩ := chosen_is (l.take (l.length / 2)) n hn'
  simp only [hx, hy, hz]
  have e1 := opt l n [] hn (List.nil_sublist _) (by simp [sizL])
  have e2 := opt l (n + more) _ hn x1 (by omega)
  have e3 := opt l n _ hn (z1.trans (List.take_sublist _ _)) (by omega)
  have e4 := opt (l.take (l.length / 2)) n [] hn' (List.nil_sublist _) (by simp [sizL])
  simp only [benL, List.map_nil, List.sum_nil] at e1 e4
  simp only [benL] at *
  omega

/-! ### What the drawn decisions are -/
def codesOk (r : List Int) : Prop := ∀ x ∈ r, (0 : Int) ≤ x ∧ x ≤ 255

theorem next_ok {n : Int} : ∀ {r : List Int}, codesOk r → codesOk (next n r).2
  | [], h => by simpa [next] using h
  | x :: t, h => by
    have ht : codesOk t := fun y hy => h y (by simp [hy])
    simp only [next]
    split
    · exact h
    · split
      · exact ht
      · cases t with
        | nil => exact ht
        | cons y u => exact fun z hz => ht z (by simp at hz ⊢; exact .inr hz)

theorem decsTo_ok : ∀ (k : Nat) (r : List Int) (acc : List Dec), codesOk r → small acc → small (decsTo k r acc).1 ∧ (decsTo k r acc).1.length = acc.length + k ∧ codesOk (decsTo k r acc).2
  | 0, r, acc, hr, ha => ⟨ha, by simp [decsTo], hr⟩
  | k + 1, r, acc, hr, ha => by
    have h1 := next_ok (n := 3) hr
    have h2 := next_ok (n := 24) h1
    have h3 := next_ok (n := 12) h2
    have b2 := next_bd (n := 24) (by omega) h1
    have b3 := next_bd (n := 12) (by omega) h2
    have := decsTo_ok k (decRound r).2 (acc ++ [(decRound r).1]) h3 (by
      intro d hd
      simp only [List.mem_append, List.mem_singleton] at hd
      rcases hd with hd | rfl
      · exact ha d hd
      · simp only [decRound]; omega)
    simp only [decsTo]
    exact ⟨this.1, by rw [this.2.1]; simp; omega, this.2.2⟩

theorem decs_ok (most : Nat) (r : List Int) (h : codesOk r) : small (decs most r).1 ∧ (decs most r).1.length ≤ most ∧ codesOk (decs most r).2 := by
  have b := next_bd (n := most + 1) (by omega) h
  have := decsTo_ok (next (most + 1) r).1.toNat (next (most + 1) r).2 [] (next_ok h) (by intro d hd; cases hd)
  refine ⟨this.1, ?_, this.2.2⟩
  have e := this.2.1
  unfold decs
  rw [e]; simp; omega

theorem small_good {l : List Dec} (h : small l) : l.any bad = false := by
  rw [List.any_eq_false]
  intro d hd
  have := h d hd
  simp [bad]
  omega

theorem small_nonneg {l : List Dec} (h : small l) : nonneg l := fun d hd => (h d hd).2.2.1

theorem best_small {l : List Dec} (h : small l) (hl : l.length ≤ 64) (m : Nat) (hm : m ≤ 4096) : best l m = (picks l 0 m, 0) := by
  have b1 : ¬ ((m : Int) < 0 ∨ 4096 < (m : Int)) := by omega
  have b2 : ¬ (64 < l.length ∨ l.any bad = true) := by rw [small_good h]; simp; omega
  simp only [best, if_neg b1, if_neg b2, Int.toNat_natCast]

end Go.Proofs.Ytiojoheenjkphaa
