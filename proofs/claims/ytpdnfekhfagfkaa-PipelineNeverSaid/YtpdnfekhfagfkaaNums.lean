/-
  Lists of numbers in memory.
-/
import Derived.Test.YtpdnfekhfagfkaaDraw
namespace Go.Proofs.Ytpdnfekhfagfkaa
open Go.RowKit

def intEnc (n : Int) : List Value := [.int .i64 n]
theorem intEnc_len (n : Int) : (intEnc n).length = 1 := rfl
theorem Try.infoInt : (Try.prog.info? 3).map (fun i => (i.zero, i.size, i.bytes)) = some (some (.int .i64 0), 1, 8) := by kernel_rfl
theorem Try.sizeInt : (Try.prog.info? 3).map (·.size) = some 1 := by kernel_rfl

theorem drop_cons {α : Type} {l : List α} {k : Nat} {x : α} (h : l[k]? = some x) : l.drop k = x :: l.drop (k + 1) := by
  have hk : k < l.length := (List.getElem?_eq_some_iff.1 h).1
  rw [List.drop_eq_getElem_cons hk]; congr 1; rw [List.getElem?_eq_getElem hk] at h; exact Option.some.inj h

theorem Keep.frozen {S : Nat → Prop} {w w' : World} (h : Keep S w w') {p : Addr} {b : Bool} (hf : w.frozen? p = b) (hlt : p.block < w.heap.size) (hp : ¬ S p.block) : w'.frozen? p = b := by
  rw [← hf]; simp only [World.frozen?, h.block _ hlt hp]

/-- A cell that can be written. -/
theorem CF.keep {S : Nat → Prop} {w w' : World} (h : Keep S w w') {p : Addr} {v : Value} (hc : w.cell? p = some v ∧ w.frozen? p = false) (hp : ¬ S p.block) : w'.cell? p = some v ∧ w'.frozen? p = false :=
  ⟨h.cell hc.1 hp, h.frozen hc.2 (World.block_lt_of_cell? w p hc.1) hp⟩

theorem alloc_at {w : World} {o : Obj} {n : Nat} (h : n = w.heap.size) : (w.alloc o).heap[n]? = some o := by subst h; exact heap_alloc_new _ _

/-- One cell of a slice of numbers. -/
theorem SlAt.int {w : World} {b off : Nat} {xs : List Int} (h : SlAt intEnc 1 w b off xs) {i : Nat} {x : Int} (hx : xs[i]? = some x) : w.cell? ⟨b, off + i, none⟩ = some (.int .i64 x) := by
  have := h i x hx 0 _ rfl
  simpa using this

def listEnc (l : List Value) : List Value := l
/-- A block that is known whole reads as a struct. -/
theorem range_of_obj {w : World} {g : Nat} {l : List Value} {e : TypeId} {fr : Nat × Nat} (h : w.heap[g]? = some (.cells l.toArray e fr)) : w.rangeAt g 0 (listEnc l) := fun j u hu => by
  simp only [World.cell?, h]
  simpa [listEnc] using hu

/-- What came in as a row of integers reads as a list. -/
theorem ints_in {k : IntKind} {enc : Int → List Value} (henc : ∀ n, enc n = [.int k n]) {w : World} {a : Option Addr} {len cap : Nat} {zs : List Int}
    (h : (a = none ∧ len = 0 ∧ cap = 0 ∧ zs = []) ∨ ∃ x, a = some x ∧ len ≤ cap ∧ cap ≤ maxLen ∧ zs.length = cap ∧ (∀ i, i < zs.length → w.cell? (x.add i) = some (.int k (zs.getD i 0))) ∧ ∀ n ∈ zs, (Lit.int k n).wf = true) :
    ∃ bs : List Int, bs.length = len ∧ SliceV enc 1 w a bs ∧ len ≤ cap ∧ cap ≤ maxLen ∧ ∀ x ∈ bs, (Lit.int k x).wf = true := by
  rcases h with ⟨rfl, rfl, rfl, rfl⟩ | ⟨x, rfl, h1, h2, h3, h4, h5⟩
  · exact ⟨[], rfl, .inl rfl, Nat.le_refl _, by simp [maxLen], by simp⟩
  · refine ⟨zs.take len, by simp; omega, ?_, h1, h2, fun y hy => h5 y (List.mem_of_mem_take hy)⟩
    by_cases hz : len = 0
    · subst hz; exact .inl (by simp)
    · obtain ⟨b, off, rfl, h6⟩ := ints_at h4 (by omega)
      refine .inr ⟨b, off, rfl, fun i y hy j u hu => ?_⟩
      have hi : i < (zs.take len).length := (List.getElem?_eq_some_iff.1 hy).1
      have hi2 : i < zs.length := by simp at hi; omega
      have := h6 i hi2
      rw [List.getElem?_take, if_pos (by simp at hi; omega)] at hy
      have hg : zs.getD i 0 = y := by rw [List.getD_eq_getElem?_getD, hy]; rfl
      rw [hg] at this
      rw [henc] at hu
      match j, hu with
      | 0, hu =>
        simp at hu; subst hu
        simpa using this

end Go.Proofs.Ytpdnfekhfagfkaa
