/-
  Memory: what a call keeps, and slices of cells read as lists. No program in sight.
-/
import Derived.WalkKit
import Derived.WalkSpells
import Derived.WalkLawsBesides
import Derived.Maps.AppendAt
import Derived.Deep.MidRow
import Derived.Lib.Hide
import Derived.StillTailTactics
namespace Go.Proofs.YtgkbjdphkmmmhaaDoor
open Go.RowKit

/-- All blocks that were there, but those of S, are as they were; the streams too. -/
structure Keep (S : Nat → Prop) (w w' : World) : Prop where
  os : w'.os = w.os
  tape : w'.tape = w.tape
  output : w'.output = w.output
  size : w.heap.size ≤ w'.heap.size
  block : ∀ k, k < w.heap.size → ¬ S k → w'.heap[k]? = w.heap[k]?

abbrev None : Nat → Prop := fun _ => False

namespace Keep
theorem refl (S : Nat → Prop) (w : World) : Keep S w w := ⟨rfl, rfl, rfl, Nat.le_refl _, fun _ _ _ => rfl⟩
theorem trans {S : Nat → Prop} {a b c : World} (h : Keep S a b) (k : Keep S b c) : Keep S a c :=
  ⟨k.os.trans h.os, k.tape.trans h.tape, k.output.trans h.output, Nat.le_trans h.size k.size,
    fun i hi hs => (k.block i (Nat.lt_of_lt_of_le hi h.size) hs).trans (h.block i hi hs)⟩
theorem weaken {S T : Nat → Prop} {a b : World} (h : Keep S a b) (hs : ∀ k, k < a.heap.size → S k → T k) : Keep T a b :=
  ⟨h.os, h.tape, h.output, h.size, fun i hi ht => h.block i hi fun hm => ht (hs i hi hm)⟩
/-- A further step, of which only what was there at the beginning counts. -/
theorem andThen {S T : Nat → Prop} {a b c : World} (h : Keep S a b) (k : Keep T b c) (hs : ∀ k, k < a.heap.size → T k → S k) : Keep S a c :=
  ⟨k.os.trans h.os, k.tape.trans h.tape, k.output.trans h.output, Nat.le_trans h.size k.size,
    fun i hi ht => (k.block i (Nat.lt_of_lt_of_le hi h.size) fun hm => ht (hs i hi hm)).trans (h.block i hi ht)⟩
theorem drewN {S : Nat → Prop} {a b : World} (h : Keep S a b) (n : Nat) : Keep S a (b.drewN n) :=
  ⟨h.os, h.tape, h.output, h.size, h.block⟩
theorem drew {S : Nat → Prop} {a b : World} (h : Keep S a b) : Keep S a b.drew :=
  ⟨h.os, h.tape, h.output, h.size, h.block⟩
theorem alloc {S : Nat → Prop} {a b : World} (h : Keep S a b) (o : Obj) : Keep S a (b.alloc o) :=
  h.trans ⟨rfl, rfl, rfl, by simp, fun k hk _ => Below.heap_alloc _ _ _ hk⟩
theorem setCell {S : Nat → Prop} {a b : World} (h : Keep S a b) {p : Addr} (hp : S p.block ∨ a.heap.size ≤ p.block) (u : Value) : Keep S a (b.setCell p u) :=
  ⟨h.os, h.tape, h.output, by simp [World.setCell]; exact h.size, fun k hk hs => by
    rw [Below.heap_setCell _ _ _ _ (by rintro rfl; rcases hp with h1 | h1; exact hs h1; omega)]; exact h.block k hk hs⟩
theorem grown {S : Nat → Prop} {a b c : World} (h : Keep S a b) {row : Option Nat} (hg : b.grownBy c row) (hr : ∀ k, row = some k → S k ∨ a.heap.size ≤ k) : Keep S a c :=
  ⟨hg.os.trans h.os, hg.tape.trans h.tape, hg.output.trans h.output, Nat.le_trans h.size hg.size,
    fun k hk hs => (hg.block k (Nat.lt_of_lt_of_le hk h.size) (fun e => by rcases hr k e.symm with h1 | h1; exact hs h1; omega)).trans (h.block k hk hs)⟩
theorem cell {S : Nat → Prop} {w w' : World} (h : Keep S w w') {p : Addr} {v : Value} (hc : w.cell? p = some v) (hp : ¬ S p.block) : w'.cell? p = some v :=
  (World.cell?_of_block (w := w) (h.block p.block (World.block_lt_of_cell? w p hc) hp)).trans hc
theorem obj {S : Nat → Prop} {w w' : World} (h : Keep S w w') {b : Nat} {o : Obj} (hc : w.heap[b]? = some o) (hp : ¬ S b) : w'.heap[b]? = some o :=
  (h.block b (Array.getElem?_eq_some_iff.1 hc).1 hp).trans hc
theorem below {w w' : World} (h : Keep None w w') : Below w.heap.size w w' := ⟨h.os, h.tape, h.output, h.size, fun k hk => h.block k hk (by simp)⟩
theorem ofBelow {w w' : World} {B : Nat} (h : Below B w w') : Keep (B ≤ ·) w w' := ⟨h.os, h.tape, h.output, h.size, fun k _ hs => h.block k (by omega)⟩
end Keep

theorem heap_lt {w : World} {b : Nat} {o : Obj} (h : w.heap[b]? = some o) : b < w.heap.size := (Array.getElem?_eq_some_iff.1 h).1

/-- The elements xs, each laid out in 'size' cells by 'enc', from offset off of block b on. -/
def SlAt {α : Type} (enc : α → List Value) (size : Nat) (w : World) (b off : Nat) (xs : List α) : Prop :=
  ∀ i x, xs[i]? = some x → ∀ j u, (enc x)[j]? = some u → w.cell? ⟨b, off + i * size + j, none⟩ = some u

/-- The elements of a slice with address p. -/
def SliceV {α : Type} (enc : α → List Value) (size : Nat) (w : World) (p : Option Addr) (xs : List α) : Prop :=
  xs = [] ∨ ∃ b off, p = some ⟨b, off, none⟩ ∧ SlAt enc size w b off xs

/-- The address lies in no block of S. -/
def OffS (S : Nat → Prop) (p : Option Addr) : Prop := ∀ a, p = some a → ¬ S a.block

/-- The address lies in a block from B on. -/
def From (B : Nat) (p : Option Addr) : Prop := ∀ a, p = some a → B ≤ a.block

theorem SlAt.keep {α : Type} {enc : α → List Value} {size : Nat} {w w' : World} {b off : Nat} {xs : List α} {S : Nat → Prop} (h : SlAt enc size w b off xs) (k : Keep S w w') (hb : ¬ S b) : SlAt enc size w' b off xs :=
  fun i x hx j u hu => k.cell (h i x hx j u hu) hb

theorem SliceV.keep {α : Type} {enc : α → List Value} {size : Nat} {w w' : World} {p : Option Addr} {xs : List α} {S : Nat → Prop} (h : SliceV enc size w p xs) (k : Keep S w w') (hb : OffS S p) : SliceV enc size w' p xs := by
  rcases h with h | ⟨b, off, rfl, h⟩
  · exact .inl h
  · exact .inr ⟨b, off, rfl, h.keep k (hb _ rfl)⟩

theorem SlAt.range {α : Type} {enc : α → List Value} {size : Nat} {w : World} {b off : Nat} {xs : List α} (h : SlAt enc size w b off xs) {i : Nat} {x : α} (hx : xs[i]? = some x) : w.rangeAt b (off + i * size) (enc x) := fun j u hu => h i x hx j u hu

theorem flat_get {α : Type} {enc : α → List Value} {size : Nat} (hsz : ∀ x, (enc x).length = size) : ∀ (xs : List α) (i : Nat) (x : α), xs[i]? = some x → ∀ j u, (enc x)[j]? = some u → (xs.flatMap enc)[i * size + j]? = some u
  | [], i, x, h => by simp at h
  | y :: ys, 0, x, h => by
    intro j u hu
    simp at h; subst h
    have hj : j < (enc y).length := (List.getElem?_eq_some_iff.1 hu).1
    simp only [List.flatMap_cons, Nat.zero_mul, Nat.zero_add]
    rw [List.getElem?_append_left hj]; exact hu
  | y :: ys, i + 1, x, h => by
    intro j u hu
    simp at h
    have := flat_get hsz ys i x h j u hu
    simp only [List.flatMap_cons]
    rw [List.getElem?_append_right (by rw [hsz]; have := Nat.le_add_right size (i * size + j); rw [Nat.succ_mul]; omega)]
    rw [hsz, Nat.succ_mul, show i * size + size + j - size = i * size + j from by omega]
    exact this

theorem flat_len {α : Type} {enc : α → List Value} {size : Nat} (hsz : ∀ x, (enc x).length = size) (xs : List α) : (xs.flatMap enc).length = xs.length * size := by
  induction xs with
  | nil => simp
  | cons y ys ih => simp [hsz, ih, Nat.succ_mul]; omega

theorem addr_add (g j : Nat) : (⟨g, 0, none⟩ : Addr).add j = ⟨g, j, none⟩ := by unfold Addr.add; split <;> simp_all

/-- A slice that the call owns, with the elements xs. -/
def Own {α : Type} (enc : α → List Value) (size : Nat) (e : TypeId) (base : Nat) (w : World) (v : Value) (xs : List α) : Prop :=
  w.ownsRow base e size v xs.length (xs.flatMap enc)

theorem Own.nil {α : Type} (enc : α → List Value) (size : Nat) (e : TypeId) (base : Nat) (w : World) : Own enc size e base w (.slice none 0 0) [] := World.ownsRow_nil _ _ _ _

/-- What is owned reads as a slice. -/
theorem Own.slice {α : Type} {enc : α → List Value} {size : Nat} (hsz : ∀ x, (enc x).length = size) {w : World} {base : Nat} {e : TypeId} {v : Value} {xs : List α} (h : Own enc size e base w v xs) :
    ∃ p cap, v = .slice p xs.length cap ∧ xs.length ≤ cap ∧ cap ≤ maxLen ∧ SliceV enc size w p xs ∧ From base p := by
  have hc := fun g hg => World.ownsRow.cells h (g := g) hg
  rcases h.2 with ⟨rfl, h0⟩ | ⟨g, cap, cur, rfl, hb, hg, h1, h2, h3, h4⟩
  · exact ⟨none, 0, by rw [h0], by omega, by simp [maxLen], .inl (List.eq_nil_of_length_eq_zero h0), by intro a ha; cases ha⟩
  · refine ⟨some ⟨g, 0, none⟩, cap, rfl, h1, h2, .inr ⟨g, 0, rfl, fun i x hx j u hu => ?_⟩, by intro a ha; cases ha; exact hb⟩
    have := hc g rfl (i * size + j) u (flat_get hsz xs i x hx j u hu)
    rw [addr_add] at this
    rw [Nat.zero_add]
    exact this

theorem Own.keep {α : Type} {enc : α → List Value} {size : Nat} {w w' : World} {base : Nat} {e : TypeId} {v : Value} {xs : List α} {S : Nat → Prop} (h : Own enc size e base w v xs) (k : Keep S w w') (hs : ∀ g, v.ownBlock = some g → ¬ S g) : Own enc size e base w' v xs := by
  refine ⟨h.1, ?_⟩
  rcases h.2 with hn | ⟨g, cap, cur, rfl, hb, hgg, rest⟩
  · exact .inl hn
  · exact .inr ⟨g, cap, cur, rfl, hb, k.obj hgg (hs g rfl), rest⟩

/-- Below its base nothing touches it. -/
theorem Own.keepOld {α : Type} {enc : α → List Value} {size : Nat} {w w' : World} {base : Nat} {e : TypeId} {v : Value} {xs : List α} {S : Nat → Prop} (h : Own enc size e base w v xs) (k : Keep S w w') (hs : ∀ g, S g → g < base) : Own enc size e base w' v xs :=
  h.keep k fun g hg hsg => by have := (World.ownsRow.lt h g hg).1; have := hs g hsg; omega

/-- 'append' of one element, which was just laid in a block of its own. -/
theorem wpList_push {P : Program} {α : Type} {enc : α → List Value} {size : Nat} {w0 : World} {ops : Array Oper} {rest : List Oper} {o : Oper} {a : Act} {Q : Exit → Act → World → Prop} (hgd : o.guard = none) (s x : Operand) (t : TypeId)
    (ho : o.op = .call { callee := .builtin .append, args := #[s, x], argTypes := #[t, t] })
    (base : Nat) (e : TypeId) (i : TypeInfo) (z : Value) (bytes : Nat) (ht : P.underlying t = some (.slice e)) (hi : P.info? e = some i) (hz : i.zero = some z)
    (hsize : i.size = size) (hby : i.bytes = bytes) (hzs : z.cells.size = size) (hsz : 0 < size)
    (v : Value) (xs : List α) (hs : a.eval s = v) (hown : Own enc size e base w0 v xs) (d : α)
    (c : Nat) (hx : a.eval x = .slice (some ⟨w0.heap.size, 0, none⟩) 1 c) (cells : List Value) (hd : enc d = cells) (hl : cells.length = size) (h1 : ∀ u ∈ cells, u.oneCell' = true)
    (hlen : xs.length < 1000000) (hb : bytes ≤ 10000) (hbase : base ≤ w0.heap.size)
    (h : ∀ v' w', Own enc size e base w' v' (xs ++ [d]) → Keep (base ≤ ·) w0 w' → (v'.ownBlock = v.ownBlock ∨ v'.ownBlock = some (w0.heap.size + 1)) → (∀ k, some k ≠ v.ownBlock → k < w0.heap.size → w'.heap[k]? = w0.heap[k]?) → wpList P ops Q rest (a.put o.dst v') w') :
    wpList P ops Q (o :: rest) a (w0.alloc (.cells cells.toArray e)) := by
  have hown' : (w0.alloc (.cells cells.toArray e)).ownsRow base e size v xs.length (xs.flatMap enc) := World.ownsRow.alloc hown _
  refine wpList_append_own_at _ hgd s x t ho base e i z size bytes ht hi hz hsize hby hzs hsz v xs.length (xs.flatMap enc) hs hown'
    ⟨w0.heap.size, 0, none⟩ 1 c cells hx (by omega) ?_ h1 (by unfold maxLen; omega) ?_ (by simp; omega) ?_
  · intro j u hu
    rw [addr_add]
    have hj : j < cells.length := (List.getElem?_eq_some_iff.1 hu).1
    have := cell_of_row (w0.alloc (.cells cells.toArray e)) w0.heap.size j cells.toArray e (0, 0) (heap_alloc_new _ _)
    rw [this]; simpa using hu
  · have : (xs.length + 1) * bytes ≤ 1000000 * 10000 := Nat.mul_le_mul (by omega) hb
    omega
  · intro v' w' h2 h3 _ h5
    refine h v' w' ?_ ?_ (by simpa using h5) ?_
    · unfold Own; simpa [hd] using h2
    · have hk : Keep (base ≤ ·) w0 (w0.alloc (.cells cells.toArray e)) := (Keep.refl _ _).alloc _
      exact hk.grown h3 fun k hk => by have := (World.ownsRow.lt hown' k hk).1; exact .inl this
    · intro k hk hlt
      rw [h3.block k (by simp; omega) hk]
      exact Below.heap_alloc _ _ _ hlt

/-- The load of a struct out of a range of cells. -/
theorem wpList_loadEl {P : Program} {α : Type} {enc : α → List Value} {size : Nat} {ops : Array Oper} {rest : List Oper} {op : Oper} {a : Act} {w : World} {Q : Exit → Act → World → Prop} (hgd : op.guard = none) (ty : TypeId) (x : Operand) (ho : op.op = .load ty x)
    (b o : Nat) (hx : a.eval x = .pointer (some ⟨b, o, none⟩)) (y : α) (d : TypeDesc) (hc : w.rangeAt b o (enc y)) (hl : (enc y).length = size)
    (hu : P.underlying ty = some d) (hd : d.isRow = true) (hi : (P.info? ty).map (·.size) = some size) (v : Value) (hv : v = .agg (enc y).toArray)
    (h : wpList P ops Q rest (a.put op.dst v) w) : wpList P ops Q (op :: rest) a w :=
  wpList_load_mid hgd ty x ho b o hx (enc y) d hc hu hd (by rw [hl]; exact hi) (hv ▸ h)

/-! ### A row that is known whole -/
def Arr {α : Type} (enc : α → List Value) (e : TypeId) (w : World) (g : Nat) (xs : List α) : Prop := w.heap[g]? = some (.cells (xs.flatMap enc).toArray e (0, 0))

theorem Arr.keep {α : Type} {enc : α → List Value} {e : TypeId} {w w' : World} {g : Nat} {xs : List α} {S : Nat → Prop} (h : Arr enc e w g xs) (k : Keep S w w') (hg : ¬ S g) : Arr enc e w' g xs := k.obj h hg
theorem Arr.lt {α : Type} {enc : α → List Value} {e : TypeId} {w : World} {g : Nat} {xs : List α} (h : Arr enc e w g xs) : g < w.heap.size := heap_lt h

theorem Arr.range {α : Type} {enc : α → List Value} {size : Nat} (hsz : ∀ x, (enc x).length = size) {e : TypeId} {w : World} {g : Nat} {xs : List α} (h : Arr enc e w g xs) {i : Nat} {x : α} (hx : xs[i]? = some x) : w.rangeAt g (i * size) (enc x) := fun j u hu => by
  have := flat_get hsz xs i x hx j u hu
  have h' : w.heap[g]? = some _ := h
  simp only [World.cell?, h']
  simpa using this

theorem Arr.slAt {α : Type} {enc : α → List Value} {size : Nat} (hsz : ∀ x, (enc x).length = size) {e : TypeId} {w : World} {g : Nat} {xs : List α} (h : Arr enc e w g xs) : SlAt enc size w g 0 xs := fun i x hx j u hu => by
  rw [Nat.zero_add]; exact h.range hsz hx j u hu

theorem Arr.there {α : Type} {enc : α → List Value} {size : Nat} (hsz : ∀ x, (enc x).length = size) {e : TypeId} {w : World} {g : Nat} {xs : List α} (h : Arr enc e w g xs) {i : Nat} (hi : i < xs.length) : w.there g (i * size) size := fun j hj => by
  have hlt : i * size + j < (xs.flatMap enc).length := by
    rw [flat_len hsz]
    have : (i + 1) * size ≤ xs.length * size := Nat.mul_le_mul_right _ hi
    rw [Nat.succ_mul] at this; omega
  have h' : w.heap[g]? = some _ := h
  refine ⟨?_, ?_⟩
  · simp only [World.cell?, h']; simp only [List.getElem?_toArray, Option.isSome_none, Bool.false_eq_true, if_false]; rw [List.getElem?_eq_getElem hlt]; rfl
  · simp only [World.frozen?, h']; simp

def spliceA : List Value → Nat → Array Value → Array Value
  | [], _, C => C
  | v :: r, o, C => spliceA r (o + 1) (C.setIfInBounds o v)

theorem heap_setCells {b : Nat} {e : TypeId} {fr : Nat × Nat} : ∀ (vs : List Value) (o : Nat) (w : World) (C : Array Value), w.heap[b]? = some (.cells C e fr) → (w.setCells b o vs).heap[b]? = some (.cells (spliceA vs o C) e fr)
  | [], _, _, _, h => h
  | v :: r, o, w, C, h => heap_setCells r (o + 1) _ _ (by simp [World.setCell, Array.getElem?_modify, h])

theorem spliceA_list : ∀ (vs : List Value) (o : Nat) (C : Array Value), o + vs.length ≤ C.size → (spliceA vs o C).toList = C.toList.take o ++ vs ++ C.toList.drop (o + vs.length)
  | [], o, C, h => by simp [spliceA]
  | v :: r, o, C, h => by
    simp only [List.length_cons] at h
    rw [spliceA, spliceA_list r (o + 1) _ (by simp; omega)]
    simp only [Array.toList_setIfInBounds, List.length_cons]
    rw [List.take_set, List.take_add_one, List.drop_set_of_lt (by omega)]
    have hl : o < C.toList.length := by simp; omega
    rw [List.getElem?_eq_getElem hl]
    have : (C.toList.take o ++ [C.toList[o]]).set o v = C.toList.take o ++ [v] := by
      rw [List.set_append_right _ _ (by simp; omega)]
      have : o - (C.toList.take o).length = 0 := by simp; omega
      rw [this]; rfl
    simp only [Option.toList_some]
    rw [this, show o + 1 + r.length = o + (r.length + 1) from by omega]
    simp

theorem flat_splice {α : Type} {enc : α → List Value} {size : Nat} (hsz : ∀ x, (enc x).length = size) (c : α) : ∀ (xs : List α) (i : Nat), i < xs.length → (xs.flatMap enc).take (i * size) ++ enc c ++ (xs.flatMap enc).drop (i * size + (enc c).length) = (xs.set i c).flatMap enc
  | [], i, h => by simp at h
  | x :: xs, 0, h => by simp [hsz]
  | x :: xs, i + 1, h => by
    have ih := flat_splice hsz c xs i (by simpa using h)
    simp only [List.flatMap_cons, List.set_cons_succ]
    rw [← ih, List.take_append, List.drop_append]
    rw [List.take_of_length_le (by rw [hsz, Nat.succ_mul]; omega), List.drop_of_length_le (by rw [hsz, Nat.succ_mul]; omega)]
    rw [hsz x, Nat.succ_mul, show i * size + size - size = i * size from by omega, show i * size + size + (enc c).length - size = i * size + (enc c).length from by omega]
    simp

theorem Arr.set {α : Type} {enc : α → List Value} {size : Nat} (hsz : ∀ x, (enc x).length = size) {e : TypeId} {w : World} {g : Nat} {xs : List α} (h : Arr enc e w g xs) {i : Nat} (hi : i < xs.length) (c : α) : Arr enc e (w.setCells g (i * size) (enc c)) g (xs.set i c) := by
  unfold Arr
  have hlt : i * size + (enc c).length ≤ (xs.flatMap enc).toArray.size := by
    simp only [List.size_toArray]
    rw [flat_len hsz, hsz]
    have : (i + 1) * size ≤ xs.length * size := Nat.mul_le_mul_right _ hi
    rw [Nat.succ_mul] at this; omega
  rw [heap_setCells _ _ _ _ h]
  have := spliceA_list (enc c) (i * size) (xs.flatMap enc).toArray hlt
  have e2 := flat_splice hsz c xs i hi
  rw [← e2]
  simp only [Option.some.injEq, Obj.cells.injEq, and_true]
  rw [← Array.toList_inj, this]

theorem flat_field {α : Type} {enc : α → List Value} {size : Nat} (hsz : ∀ x, (enc x).length = size) {x c : α} {j : Nat} {v : Value} (hj : j < size) (hc : enc c = (enc x).set j v) : ∀ (xs : List α) (i : Nat), xs[i]? = some x → (xs.flatMap enc).set (i * size + j) v = (xs.set i c).flatMap enc
  | [], i, h => by simp at h
  | y :: ys, 0, h => by
    simp at h; subst h
    simp only [List.flatMap_cons, List.set_cons_zero, Nat.zero_mul, Nat.zero_add, hc]
    rw [List.set_append_left _ _ (by rw [hsz]; exact hj)]
  | y :: ys, i + 1, h => by
    have ih := flat_field hsz hj hc ys i (by simpa using h)
    simp only [List.flatMap_cons, List.set_cons_succ]
    rw [List.set_append_right _ _ (by rw [hsz, Nat.succ_mul]; omega), hsz, ← ih, Nat.succ_mul, show i * size + size + j - size = i * size + j from by omega]

/-- The store of one field of an element. -/
theorem Arr.setField {α : Type} {enc : α → List Value} {size : Nat} (hsz : ∀ x, (enc x).length = size) {e : TypeId} {w : World} {g : Nat} {xs : List α} (h : Arr enc e w g xs) {i : Nat} {x : α} (hx : xs[i]? = some x) {j : Nat} (hj : j < size) {v : Value} {c : α} (hc : enc c = (enc x).set j v) :
    Arr enc e (w.setCell ⟨g, i * size + j, none⟩ v) g (xs.set i c) := by
  have h' : w.heap[g]? = some _ := h
  unfold Arr
  simp only [World.setCell, Array.getElem?_modify, h']
  simp only [if_true, Option.map_some, Option.some.injEq, Obj.cells.injEq, and_true]
  rw [← Array.toList_inj, ← flat_field hsz hj hc xs i hx]
  simp

theorem Keep.setCells {S : Nat → Prop} {a : World} {g : Nat} (hg : S g ∨ a.heap.size ≤ g) : ∀ (vs : List Value) (o : Nat) {b : World}, Keep S a b → Keep S a (b.setCells g o vs)
  | [], _, _, h => h
  | v :: r, o, _, h => Keep.setCells hg r (o + 1) (h.setCell (p := ⟨g, o, none⟩) hg v)

theorem run_storeVar_any {P : Program} (w : World) (b o : Nat) (ty : TypeId) (v : Value) (ht : w.there b o v.cells.size) (hi : (P.info? ty).map (·.size) = some v.cells.size) (h1 : ∀ u ∈ v.cells.toList, u.oneCell' = true) :
    (storeVar ty ⟨b, o, none⟩ v).run P w = .ok () (w.setCells b o v.cells.toList) := by
  have := run_storeCells_cells (P := P) b o v.cells.toList 0 w (fun j hj => by simpa using (ht j (by simpa using hj)).1) (fun j hj => by simpa using (ht j (by simpa using hj)).2) h1
  cases hq : P.info? ty with
  | none => simp [hq] at hi
  | some i =>
    have hs : v.cells.size = i.size := by simp [hq] at hi; omega
    simp only [Nat.add_zero] at this
    simp [storeVar, sizeOf, typeInfo, hq, hs, this]

theorem size_setCells (g : Nat) : ∀ (vs : List Value) (o : Nat) (w : World), (w.setCells g o vs).heap.size = w.heap.size
  | [], _, _ => rfl
  | v :: r, o, w => by rw [World.setCells, size_setCells g r]; simp [World.setCell]

/-- The store of an element into a row that is known whole. -/
theorem wpList_storeEl {P : Program} {α : Type} {enc : α → List Value} {size : Nat} {ops : Array Oper} {rest : List Oper} {op : Oper} {a : Act} {w : World} {Q : Exit → Act → World → Prop} (hgd : op.guard = none) (ty : TypeId) (x y : Operand) (ho : op.op = .store ty x y)
    (g o : Nat) (hx : a.eval x = .pointer (some ⟨g, o, none⟩)) (c : α) (v : Value) (hy : a.eval y = v) (hv : v.cells.toList = enc c)
    (hsz : ∀ x, (enc x).length = size) {e : TypeId} {xs : List α} (h : Arr enc e w g xs) (i : Nat) (hi : i < xs.length) (hoff : o = i * size)
    (hif : (P.info? ty).map (·.size) = some size) (h1 : ∀ v ∈ enc c, v.oneCell' = true)
    (hk : ∀ w', Arr enc e w' g (xs.set i c) → Keep (· = g) w w' → w'.heap.size = w.heap.size → wpList P ops Q rest (a.put op.dst undef) w') : wpList P ops Q (op :: rest) a w := by
  subst hoff
  have hvs : v.cells.size = size := by rw [← hsz c, ← hv]; simp
  have hrun := run_storeVar_any (P := P) w g (i * size) ty v (by rw [hvs]; exact h.there hsz hi) (by rw [hvs]; exact hif) (by rw [hv]; exact h1)
  refine wpList_plain hgd fun K hK => ?_
  unfold Oper.wp execOp
  simp only [ho, hx, hy, Instr.storeAt, Instr.sureAddr, Sem.run_bind, Sem.run_pure, Result.andThen_ok, hrun]
  rw [hv]
  exact hK _ _ (hk _ (h.set hsz hi c) (Keep.setCells (S := (· = g)) (.inl rfl) _ _ (Keep.refl _ _)) (size_setCells _ _ _ _))

/-- 'make([]T, n)': a row of n zeros. -/
theorem wpList_makeArr {P : Program} {α : Type} {enc : α → List Value} {size : Nat} (w : World) {ops : Array Oper} {rest : List Oper} {o : Oper} {a : Act} {Q : Exit → Act → World → Prop}
    (hg : o.guard = none) (l c : Operand) (t : TypeId) (hop : o.op = Op.makeSlice t l c)
    (e : TypeId) (i : TypeInfo) (z : Value) (bytes : Nat) (h1 : P.underlying t = some (.slice e)) (h2 : P.info? e = some i) (h3 : i.zero = some z) (h4 : i.size = size) (h5 : i.bytes = bytes)
    (zero : α) (hsz : ∀ x, (enc x).length = size) (hz : enc zero = z.cells.toList) (hpos : 0 < size)
    (kl kc : IntKind) (L C : Int) (n : Nat) (hl : a.eval l = .int kl L) (hc : a.eval c = .int kc C) (hL : L = (n : Int)) (hC : C = (n : Int)) (b2 : bytes ≤ 10000) (b3 : n ≤ 2000000)
    (hK : ∀ w', Arr enc e w' w.heap.size (List.replicate n zero) → Keep None w w' → w'.heap.size = w.heap.size + 1 → wpList P ops Q rest (a.put o.dst (.slice (some ⟨w.heap.size, 0, none⟩) n n)) w') :
    wpList P ops Q (o :: rest) a w := by
  refine wpList_plain hg fun K hK' => ?_
  subst hL
  subst hC
  have hb : i.bytes * n ≤ 10000 * 2000000 := Nat.mul_le_mul (by omega) b3
  have hb' : ((i.bytes * n : Nat) : Int) ≤ 281474976710656 := by omega
  have hrun := run_make (P := P) w t e i z h1 h2 h3 kl kc n n (by omega) (by omega) (by rw [Int.natCast_mul] at hb'; exact hb') (by omega)
  simp only [Int.toNat_natCast] at hrun
  unfold Oper.wp
  simp [execOp, hop, hl, hc, hrun, Result.andThen]
  refine hK' _ _ (hK _ ?_ ((Keep.refl _ _).alloc _) (by simp))
  have : madeCells z.cells (n * i.size) = ((List.replicate n zero).flatMap enc).toArray := by
    subst h4
    have hzs : z.cells.size = i.size := by rw [← hsz zero, hz]; simp
    rw [← Array.toList_inj]
    apply List.ext_getElem?
    intro j
    by_cases hj : j < n * i.size
    · have hq : j / i.size < n := Nat.div_lt_of_lt_mul (by rw [Nat.mul_comm]; exact hj)
      have hm := Nat.mod_lt j hpos
      have e1 : (List.replicate n zero)[j / i.size]? = some zero := by simp [hq]
      have e2 : (enc zero)[j % i.size]? = some (z.cells[j % i.size]'(by omega)) := by rw [hz]; simp
      have := flat_get hsz (List.replicate n zero) (j / i.size) zero e1 (j % i.size) _ e2
      rw [Nat.mul_comm, Nat.div_add_mod] at this
      simp only [this]
      simp [madeCells, hj, hzs, getElem!_pos, hm]
    · rw [List.getElem?_eq_none (by simp [size_madeCells]; omega), List.getElem?_eq_none (by rw [flat_len hsz]; simp; omega)]
  unfold Arr
  rw [← this]
  exact heap_alloc_new _ _

/-- It returns v and touches nothing but S. -/
def Gives (S : Nat → Prop) (v : Value) (w : World) (e : Ending) (w' : World) : Prop := e = .returned v ∧ Keep S w w'

/-- A region that draws its order, whose first n operations only read, and whose tail is forced. -/
theorem region_tail {P : Program} {id : Nat} {Q : Exit → Act → World → Prop} {a : Act} {w : World} {l : List Oper} (n : Nat) (hm : P.follows .mixedOrders = true) (hB : Region.lexTailB .any l.toArray n = true)
    (h : wpStill P l.toArray w.drew (fun a' => wpList P l.toArray Q (l.drop n) a' w.drew) (l.take n) a) : (Code.region id l.toArray true).wp P Q a w :=
  wp_region_still_tail n hm hB h

end Go.Proofs.YtgkbjdphkmmmhaaDoor
