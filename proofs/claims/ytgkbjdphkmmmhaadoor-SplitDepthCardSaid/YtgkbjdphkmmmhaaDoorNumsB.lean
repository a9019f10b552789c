/-
  Lists of numbers in memory (XNums for a program without draws).
-/
import Derived.Test.YtgkbjdphkmmmhaaDoorBaseTwo
import Derived.Test.YtgkbjdphkmmmhaaDoorProg
import Derived.ProofKit
import Derived.BigQuiet
import Derived.Deep.QuietTactic
namespace Go.Proofs.YtgkbjdphkmmmhaaDoor
open Go.RowKit

def intEnc (n : Int) : List Value := [.int .i64 n]
theorem intEnc_len (n : Int) : (intEnc n).length = 1 := rfl
theorem Tryd.infoInt : (Tryd.prog.info? 3).map (fun i => (i.zero, i.size, i.bytes)) = some (some (.int .i64 0), 1, 8) := by kernel_rfl
theorem Tryd.sizeInt : (Tryd.prog.info? 3).map (·.size) = some 1 := by kernel_rfl

theorem drop_cons {α : Type} {l : List α} {k : Nat} {x : α} (h : l[k]? = some x) : l.drop k = x :: l.drop (k + 1) := by
  have hk : k < l.length := (List.getElem?_eq_some_iff.1 h).1
  rw [List.drop_eq_getElem_cons hk]; congr 1; rw [List.getElem?_eq_getElem hk] at h; exact Option.some.inj h

theorem Keep.frozen {S : Nat → Prop} {w w' : World} (h : Keep S w w') {p : Addr} {b : Bool} (hf : w.frozen? p = b) (hlt : p.block < w.heap.size) (hp : ¬ S p.block) : w'.frozen? p = b := by
  rw [← hf]; simp only [World.frozen?, h.block _ hlt hp]

/-- A cell that can be written. -/
theorem CF.keep {S : Nat → Prop} {w w' : World} (h : Keep S w w') {p : Addr} {v : Value} (hc : w.cell? p = some v ∧ w.frozen? p = false) (hp : ¬ S p.block) : w'.cell? p = some v ∧ w'.frozen? p = false :=
  ⟨h.cell hc.1 hp, h.frozen hc.2 (World.block_lt_of_cell? w p hc.1) hp⟩

theorem alloc_at {w : World} {o : Obj} {n : Nat} (h : n = w.heap.size) : (w.alloc o).heap[n]? = some o := by subst h; exact heap_alloc_new _ _

/-- One cell of a slice of numbers. -/
theorem SlAt.int {w : World} {b off : Nat} {xs : List Int} (h : SlAt intEnc 1 w b off xs) {i : Nat} {x : Int} (hx : xs[i]? = some x) : w.cell? ⟨b, off + i, none⟩ = some (.int .i64 x) := by
  have := h i x hx 0 _ rfl
  simpa using this

def listEnc (l : List Value) : List Value := l
/-- A block that is known whole reads as a struct. -/
theorem range_of_obj {w : World} {g : Nat} {l : List Value} {e : TypeId} {fr : Nat × Nat} (h : w.heap[g]? = some (.cells l.toArray e fr)) : w.rangeAt g 0 (listEnc l) := fun j u hu => by
  simp only [World.cell?, h]
  simpa [listEnc] using hu

end Go.Proofs.YtgkbjdphkmmmhaaDoor
