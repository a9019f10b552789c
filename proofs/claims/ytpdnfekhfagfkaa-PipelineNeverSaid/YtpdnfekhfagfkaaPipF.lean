/-
  Chapter 19: the sets of a cache in memory.
-/
import Derived.Test.YtpdnfekhfagfkaaPipE
import Derived.Test.YtpdnfekhfagfkaaSvRow
namespace Go.Proofs.Ytpdnfekhfagfkaa
open Go.RowKit PI

/-- The sets' numbers in memory: none in a block of X. -/
def SetsAt (X : Nat → Prop) (w : World) (hs : List Sl) (S : List (List Int)) : Prop :=
  hs.length = S.length ∧ ∀ (i : Nat) (h : Sl) (xs : List Int), hs[i]? = some h → S[i]? = some xs → h.n = xs.length ∧ xs.length ≤ 900 ∧ (xs = [] ∨ ∃ b o, h.p = some ⟨b, o, none⟩ ∧ ¬ X b ∧ b < w.heap.size ∧ SlAt intEnc 1 w b o xs)

theorem SetsAt.keep {X T : Nat → Prop} {w w' : World} {hs : List Sl} {S : List (List Int)} (h : SetsAt X w hs S) (k : Keep T w w') (ht : ∀ b, b < w.heap.size → T b → X b) : SetsAt X w' hs S := by
  refine ⟨h.1, fun i s xs h1 h2 => ?_⟩
  obtain ⟨a, b, c⟩ := h.2 i s xs h1 h2
  refine ⟨a, b, ?_⟩
  rcases c with c | ⟨g, o, c1, c2, c3, c4⟩
  · exact .inl c
  · exact .inr ⟨g, o, c1, c2, Nat.lt_of_lt_of_le c3 k.size, c4.keep k fun h => c2 (ht g c3 h)⟩
theorem SetsAt.less {X X' : Nat → Prop} {w : World} {hs : List Sl} {S : List (List Int)} (h : SetsAt X w hs S) (ht : ∀ b, b < w.heap.size → X' b → X b) : SetsAt X' w hs S := by
  refine ⟨h.1, fun i s xs h1 h2 => ?_⟩
  obtain ⟨a, b, c⟩ := h.2 i s xs h1 h2
  refine ⟨a, b, ?_⟩
  rcases c with c | ⟨g, o, c1, c2, c3, c4⟩
  · exact .inl c
  · exact .inr ⟨g, o, c1, fun h => c2 (ht g c3 h), c3, c4⟩
theorem SetsAt.set {X : Nat → Prop} {w : World} {hs : List Sl} {S : List (List Int)} (h : SetsAt X w hs S) {m : Nat} {s : Sl} {xs : List Int} (h1 : s.n = xs.length) (h2 : xs.length ≤ 900) (h3 : xs = [] ∨ ∃ b o, s.p = some ⟨b, o, none⟩ ∧ ¬ X b ∧ b < w.heap.size ∧ SlAt intEnc 1 w b o xs) : SetsAt X w (hs.set m s) (S.set m xs) := by
  refine ⟨by simp [h.1], fun i t ys g1 g2 => ?_⟩
  by_cases hi : m = i
  · subst hi
    have hm : m < hs.length := by
      have := (List.getElem?_eq_some_iff.1 g1).1
      simpa using this
    rw [List.getElem?_set_self hm] at g1
    rw [List.getElem?_set_self (by rw [← h.1]; exact hm)] at g2
    cases g1
    cases g2
    exact ⟨h1, h2, h3⟩
  · rw [List.getElem?_set_ne hi] at g1 g2
    exact h.2 i t ys g1 g2
theorem SetsAt.new (X : Nat → Prop) (w : World) (n : Int) : SetsAt X w ((caNew n).map fun _ => nilSl) (caNew n) := by
  refine ⟨by simp, fun i s xs h1 h2 => ?_⟩
  rw [List.getElem?_map, h2] at h1
  cases h1
  have : xs = [] := by
    unfold caNew at h2
    split at h2
    · have := List.mem_of_getElem? h2
      exact (List.mem_replicate.1 this).2
    · simp at h2
  subst this
  exact ⟨rfl, by simp, .inl rfl⟩
theorem SetsAt.slice {X : Nat → Prop} {w : World} {hs : List Sl} {S : List (List Int)} (h : SetsAt X w hs S) {m : Nat} {s : Sl} {xs : List Int} (h1 : hs[m]? = some s) (h2 : S[m]? = some xs) : SliceV intEnc 1 w s.p xs := by
  obtain ⟨-, -, c⟩ := h.2 m s xs h1 h2
  rcases c with c | ⟨g, o, c1, -, -, c4⟩
  · exact .inl c
  · exact .inr ⟨g, o, c1, c4⟩

/-- A model, as memory lays it out. -/
def moEnc (m : Mod) : List Value := [.int .i64 m.step, .int .i64 m.mis, .int .i64 m.miss, .int .i64 m.fault, .int .i64 m.call, .int .i64 m.ind, .int .i64 m.line, .int .i64 m.sets, .int .i64 m.ways, .int .i64 m.page, .int .i64 m.res, .int .i64 m.pred]
def moVal (m : Mod) : Value := .agg (moEnc m).toArray

end Go.Proofs.Ytpdnfekhfagfkaa
