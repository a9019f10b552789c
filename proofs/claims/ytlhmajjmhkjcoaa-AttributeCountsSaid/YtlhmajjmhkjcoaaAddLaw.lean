/-
  Chapter 23: the sum of hits, the plain law.
-/
import Derived.Test.YtlhmajjmhkjcoaaHitShape
import Derived.Test.YtlhmajjmhkjcoaaWith
namespace Go.Proofs.Ytlhmajjmhkjcoaa
open Go.RowKit

def addRow (a b : List Int) : List Int := List.zipWith (· + ·) a b
def addRows (a b : List (List Int)) : List (List Int) := List.zipWith addRow a b
def addLink (l : List Lk) (x : Lk) : List Lk := if 0 < x.count then linkedL l x else l
def addLinkR (l : List Lk) (x : Lk) : List Lk := if 0 < x.count then withL l x else l
def addH (a b : Hits) : Hits := ⟨addRows a.blocks b.blocks, (a.links ++ b.links).foldl addLink [], a.unk + b.unk, a.lost + b.lost⟩
def zeroH : Hits := ⟨[], [], 0, 0⟩
def addOk (a b : Hits) : Bool := allB smallB a && allB smallB b
def addR (a b : Hits) : Hits × Int :=
  if lens a.blocks = lens b.blocks then (if addOk a b = true then (if allB smallB (addH a b) = true then (addH a b, 0) else (zeroH, 5)) else (zeroH, 5)) else (zeroH, 21)

def cap (y : Lk) : Lk := { y with count := min y.count 1099511627777 }

theorem less_cap (y x : Lk) : lessB (cap y) x = lessB y x := rfl
theorem less_cap' (y x : Lk) : lessB x (cap y) = lessB x y := rfl

theorem ord_eq {y x : Lk} : ordL y x = 0 ↔ y.func = x.func ∧ y.block = x.block ∧ y.callee = x.callee := ord_zero y x

theorem ord_less {y x : Lk} : ordL y x = 0 ↔ lessB y x = false ∧ lessB x y = false := by
  rw [ord_eq]
  constructor
  · rintro ⟨h1, h2, h3⟩; constructor <;> simp [lessB, h1, h2, h3]
  · rintro ⟨h1, h2⟩
    have g1 : ¬ (lessB y x = true) := by simp [h1]
    have g2 : ¬ (lessB x y = true) := by simp [h2]
    rw [lessB_iff] at g1 g2
    omega

theorem with_cap : ∀ (l : List Lk) (x : Lk), 0 ≤ x.count → x.count ≤ 1099511627776 → withL (l.map cap) x = (linkedL l x).map cap
  | [], x, h0, h1 => by
    have : cap x = x := by cases x; simp [cap] at *; omega
    simp [withL, linkedL, this]
  | y :: r, x, h0, h1 => by
    have ih := with_cap r x h0 h1
    simp only [List.map_cons, withL, linkedL, less_cap, less_cap']
    have hx : cap x = x := by cases x; simp [cap] at *; omega
    by_cases hl : lessB y x = true
    · simp [hl, ih]
    · have hl' : lessB y x = false := by simpa using hl
      by_cases hr : lessB x y = true
      · have hne : ¬ ordL y x = 0 := by rw [ord_less]; simp [hr]
        simp [hl', hr, hne, hx]
      · have hr' : lessB x y = false := by simpa using hr
        have he : ordL y x = 0 := ord_less.2 ⟨hl', hr'⟩
        obtain ⟨e1, e2, e3⟩ := ord_eq.1 he
        simp only [hl', hr', he, if_true, Bool.false_eq_true, if_false, List.map_cons]
        congr 1
        cases x; cases y
        simp only [cap] at *
        subst e1 e2 e3
        congr 1
        omega

theorem addLinks_cap : ∀ (xs l : List Lk), (∀ x ∈ xs, x.count ≤ 1099511627776) → xs.foldl addLinkR (l.map cap) = (xs.foldl addLink l).map cap
  | [], l, _ => rfl
  | x :: r, l, h => by
    simp only [List.foldl_cons]
    have hx := h x (by simp)
    have hr : ∀ y ∈ r, y.count ≤ 1099511627776 := fun y hy => h y (by simp [hy])
    by_cases hp : 0 < x.count
    · simp only [addLinkR, addLink, hp, if_true]
      rw [with_cap l x (by omega) hx]
      exact addLinks_cap r _ hr
    · simp only [addLinkR, addLink, hp, if_false]
      exact addLinks_cap r _ hr

theorem small_cap (c : Int) : smallB (min c 1099511627777) = smallB c := by
  unfold smallB
  by_cases h : c ≤ 1099511627776
  · rw [show min c 1099511627777 = c from by omega]
  · have h1 : ¬ (min c 1099511627777 ≤ 1099511627776) := by omega
    simp [h, h1]

theorem all_cap (l : List Lk) : (l.map cap).all (fun y => smallB y.count) = l.all (fun y => smallB y.count) := by
  induction l with
  | nil => rfl
  | cons y r ih => simp only [List.map_cons, List.all_cons, ih]; rw [show (cap y).count = min y.count 1099511627777 from rfl, small_cap]

theorem cap_id {l : List Lk} (h : l.all (fun y => smallB y.count) = true) : l.map cap = l := by
  induction l with
  | nil => rfl
  | cons y r ih =>
    simp only [List.all_cons, Bool.and_eq_true] at h
    rw [List.map_cons, ih h.2]
    have := h.1
    simp only [smallB, Bool.and_eq_true, decide_eq_true_eq] at this
    cases y
    simp only [cap] at *
    congr 2
    omega

theorem linked_mem : ∀ {l : List Lk} {x y : Lk}, y ∈ linkedL l x → ∃ c, y.count = c ∧ (y ∈ l ∨ y = x ∨ ∃ z ∈ l, y = { z with count := z.count + x.count })
  | [], x, y, h => ⟨_, rfl, by simp [linkedL] at h; exact .inr (.inl h)⟩
  | z :: r, x, y, h => by
    refine ⟨_, rfl, ?_⟩
    unfold linkedL at h
    split at h
    · rcases List.mem_cons.1 h with h | h
      · exact .inl (by simp [h])
      · obtain ⟨_, _, h | h | ⟨u, hu, h⟩⟩ := linked_mem h
        · exact .inl (by simp [h])
        · exact .inr (.inl h)
        · exact .inr (.inr ⟨u, by simp [hu], h⟩)
    · split at h
      · rcases List.mem_cons.1 h with h | h
        · exact .inr (.inr ⟨z, by simp, h⟩)
        · exact .inl (by simp [h])
      · rcases List.mem_cons.1 h with h | h
        · exact .inr (.inl h)
        · exact .inl h

theorem linked_count {l : List Lk} {x : Lk} {B : Int} (hl : ∀ y ∈ l, 0 ≤ y.count ∧ y.count ≤ B) (h0 : 0 ≤ x.count) (hB : 0 ≤ B) : ∀ y ∈ linkedL l x, 0 ≤ y.count ∧ y.count ≤ B + x.count := by
  intro y hy
  obtain ⟨_, _, h | h | ⟨u, hu, h⟩⟩ := linked_mem hy
  · have := hl y h; omega
  · subst h; omega
  · have := hl u hu; subst h; simp only; omega

theorem linked_len : ∀ (l : List Lk) (x : Lk), (linkedL l x).length ≤ l.length + 1
  | [], x => by simp [linkedL]
  | z :: r, x => by
    have := linked_len r x
    unfold linkedL
    split
    · simp; omega
    · split <;> simp

theorem linked_key : ∀ {l : List Lk} {x y : Lk}, y ∈ linkedL l x → (∃ z ∈ l, ∀ u, lessB u y = lessB u z) ∨ ∀ u, lessB u y = lessB u x := by
  intro l x y hy
  obtain ⟨_, _, h | h | ⟨z, hz, h⟩⟩ := linked_mem hy
  · exact .inl ⟨y, h, fun _ => rfl⟩
  · subst h; exact .inr fun _ => rfl
  · exact .inl ⟨z, hz, fun u => by subst h; rfl⟩

theorem linked_sorted : ∀ {l : List Lk} {x : Lk}, sorted l → sorted (linkedL l x)
  | [], x, _ => by simp [linkedL, sorted]
  | z :: r, x, h => by
    obtain ⟨h1, h2⟩ := List.pairwise_cons.1 h
    unfold linkedL
    split
    · rename_i hz
      refine List.pairwise_cons.2 ⟨fun y hy => ?_, linked_sorted h2⟩
      rcases linked_key hy with ⟨u, hu, he⟩ | he
      · rw [he]; exact h1 u hu
      · rw [he]; exact hz
    · rename_i hz
      split
      · exact List.pairwise_cons.2 ⟨fun y hy => h1 y hy, h2⟩
      · rename_i hne
        have hx : lessB x z = true := by
          cases hc : lessB x z with
          | true => rfl
          | false => exact absurd (ord_less.2 ⟨by simpa using hz, hc⟩) hne
        exact List.pairwise_cons.2 ⟨fun y hy => by
          rcases List.mem_cons.1 hy with h | h
          · subst h; exact hx
          · exact less_trans hx (h1 y h), h⟩

/-- What holds of the links counted so far. -/
theorem addLinks_ok : ∀ (xs : List Lk) (l : List Lk) (B : Int), sorted l → (∀ y ∈ l, 0 ≤ y.count ∧ y.count ≤ B) → 0 ≤ B → (∀ x ∈ xs, x.count ≤ 1099511627776) →
    sorted (xs.foldl addLink l) ∧ (∀ y ∈ xs.foldl addLink l, 0 ≤ y.count ∧ y.count ≤ B + xs.length * 1099511627776) ∧ (xs.foldl addLink l).length ≤ l.length + xs.length
  | [], l, B, hs, hc, hB, _ => ⟨hs, fun y hy => by have := hc y hy; simp; omega, by simp⟩
  | x :: r, l, B, hs, hc, hB, hx => by
    have hx1 := hx x (by simp)
    have hr : ∀ y ∈ r, y.count ≤ 1099511627776 := fun y hy => hx y (by simp [hy])
    simp only [List.foldl_cons]
    by_cases hp : 0 < x.count
    · have e : addLink l x = linkedL l x := by simp [addLink, hp]
      rw [e]
      obtain ⟨a1, a2, a3⟩ := addLinks_ok r (linkedL l x) (B + x.count) (linked_sorted hs) (linked_count hc (by omega) hB) (by omega) hr
      have := linked_len l x
      refine ⟨a1, fun y hy => ?_, by simp; omega⟩
      have := a2 y hy
      simp only [List.length_cons]
      constructor
      · exact this.1
      · have : ((r.length + 1 : Nat) : Int) * 1099511627776 = (r.length : Int) * 1099511627776 + 1099511627776 := by rw [Int.natCast_add, Int.add_mul]; simp
        omega
    · have e : addLink l x = l := by simp [addLink, hp]
      rw [e]
      obtain ⟨a1, a2, a3⟩ := addLinks_ok r l B hs hc hB hr
      refine ⟨a1, fun y hy => ?_, by simp; omega⟩
      have := a2 y hy
      simp only [List.length_cons]
      constructor
      · exact this.1
      · have : ((r.length + 1 : Nat) : Int) * 1099511627776 = (r.length : Int) * 1099511627776 + 1099511627776 := by rw [Int.natCast_add, Int.add_mul]; simp
        omega

end Go.Proofs.Ytlhmajjmhkjcoaa
