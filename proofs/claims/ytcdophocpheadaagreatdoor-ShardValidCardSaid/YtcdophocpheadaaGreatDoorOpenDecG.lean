/-
  A slice of structs of integers that came in, read as a list (the part without a program).
-/
import Derived.Test.YtcdophocpheadaaGreatDoorBaseTwo
import Derived.Deep.Slices
import Derived.Deep.Fields
import Derived.ChangeSame
namespace Go.Proofs.YtcdophocpheadaaGreatDoor
open Go.RowKit Go.ChangeShapes Go.WideShapes Go.Deep

section
variable {H : Type} {enc : TypeId × Value → H} {P : Program} {w : World} {base : Nat} {spare : Nat → Bool} {held : Bool}

theorem list_of_all {α : Type} {Q : Nat → α → Prop} : ∀ n, (∀ i, i < n → ∃ x, Q i x) → ∃ l : List α, l.length = n ∧ ∀ i x, l[i]? = some x → Q i x
  | 0, _ => ⟨[], rfl, by simp⟩
  | n + 1, h => by
    obtain ⟨l, hl, hq⟩ := list_of_all n (fun i hi => h i (by omega))
    obtain ⟨x, hx⟩ := h n (by omega)
    refine ⟨l ++ [x], by simp [hl], fun i y hy => ?_⟩
    by_cases hi : i < n
    · rw [List.getElem?_append_left (by omega)] at hy; exact hq i y hy
    · rw [List.getElem?_append_right (by omega)] at hy
      have : i = n := by
        have := (List.getElem?_eq_some_iff.1 hy).1
        simp at this; omega
      subst this
      rw [hl] at hy
      simp at hy
      subst hy; exact hx

def intFields (P : Program) (fs : Array Field) : Bool := fs.toList.all fun f => match P.underlying f.type with | some (.int .i64) => true | _ => false
theorem intFields_get {P : Program} {fs : Array Field} (h : intFields P fs = true) {j : Nat} {f : Field} (hj : fs[j]? = some f) : P.underlying f.type = some (.int .i64) := by
  have hm : f ∈ fs.toList := by have := Array.mem_of_getElem? hj; simpa using this
  have := List.all_eq_true.1 h f hm
  revert this
  split
  · intro _; assumption
  · intro h; cases h

/-- Each element is a row of numbers. -/
theorem number_structs {t e : TypeId} {fs : Array Field} {fuel : Nat} {cs : List Value} {x : DataW H × List MemPlace} (ht : P.underlying t = some (.slice e)) (he : P.underlying e = some (.struct fs))
    (hone : oneCellFields P fs = true) (hC : P.cellsOf e = fs.size) (hint : intFields P fs = true) (h : DataW.trod enc P w base spare held fuel t cs = some x) :
    (cs = [.slice none 0 0]) ∨
    ∃ (a : Addr) (len cap : Nat), cs = [.slice (some a) len cap] ∧ len ≤ cap ∧ cap ≤ maxLen ∧
      ∀ i, i < len → ∃ row : List Int, row.length = fs.size ∧ ∀ j n, row[j]? = some n → w.cell? (a.add (i * fs.size + j)) = some (.int .i64 n) := by
  rcases open_slice ht h with h0 | ⟨a, len, cap, m, n, D, Pl, hcs, hb, hl, hm, hmm, hx, hi⟩
  · exact .inl h0.1
  · refine .inr ⟨a, len, cap, hcs, hl, hm, fun i him => ?_⟩
    have him' : i < m := by
      rw [hmm]; split <;> omega
    obtain ⟨cs', hc, ht'⟩ := hi i him'
    rw [hC] at hc
    obtain ⟨ys, n', _, _, hlen, _, hf⟩ := DataW.trod_struct he ht'
    obtain ⟨_, hcl, hat⟩ := World.cells?_some hc
    obtain ⟨row, hr, hq⟩ := list_of_all (Q := fun j n => w.cell? (a.add (i * fs.size + j)) = some (.int .i64 n)) fs.size (fun j hj => by
      have hjf : fs[j]? = some fs[j] := Array.getElem?_eq_getElem hj
      obtain ⟨ho, hk⟩ := hone_of hone j _ hjf
      have hv : cs'[j]? = some (cs'[j]'(by omega)) := List.getElem?_eq_getElem (by omega)
      have h1 := hf j _ hjf
      have ht1 : (cs'.drop j).take 1 = [cs'[j]'(by omega)] := by rw [List.drop_eq_getElem_cons (by omega)]; rfl
      rw [ho, hk, ht1] at h1
      have hys : ys[j]? = some (ys[j]'(by omega)) := List.getElem?_eq_getElem (by omega)
      rw [hys] at h1
      obtain ⟨k, hk1, -, -⟩ := DataW.trod_int (intFields_get hint hjf) h1
      refine ⟨k, ?_⟩
      rw [← Go.Deep.add_add, hat j hj, hv]
      exact congrArg some (List.cons.inj hk1).1)
    exact ⟨row, hr, hq⟩
end

end Go.Proofs.YtcdophocpheadaaGreatDoor
