/-
  Memory, more: append in a region that draws its order.
-/
import Derived.Test.YtiojoheenjkphaaBase
import Derived.Deep.RegionHeld3
namespace Go.Proofs.Ytiojoheenjkphaa
open Go.RowKit

/-- 'append' of one element, which lies in a block g0, as one operation. -/
theorem wp_push {P : Program} {α : Type} {enc : α → List Value} {size : Nat} {W : World} {o : Oper} {a : Act} {K : Act → World → Prop} {Q : Exit → Act → World → Prop} (s x : Operand) (t : TypeId)
    (ho : o.op = .call { callee := .builtin .append, args := #[s, x], argTypes := #[t, t] })
    (base : Nat) (e : TypeId) (i : TypeInfo) (z : Value) (bytes : Nat) (ht : P.underlying t = some (.slice e)) (hi : P.info? e = some i) (hz : i.zero = some z)
    (hsize : i.size = size) (hby : i.bytes = bytes) (hzs : z.cells.size = size) (hsz : 0 < size)
    (v : Value) (xs : List α) (hs : a.eval s = v) (hown : Own enc size e base W v xs) (d : α) (g0 : Nat)
    (c : Nat) (hx : a.eval x = .slice (some ⟨g0, 0, none⟩) 1 c) (cells : List Value) (hblk : W.heap[g0]? = some (.cells cells.toArray e (0, 0))) (hd : enc d = cells) (hl : cells.length = size) (h1 : ∀ u ∈ cells, u.oneCell' = true)
    (hlen : xs.length < 1000000) (hb : bytes ≤ 10000) (hbase : base ≤ W.heap.size)
    (h : ∀ v' w', Own enc size e base w' v' (xs ++ [d]) → Keep (base ≤ ·) W w' → K (a.put o.dst v') w') : o.wp P a W K Q := by
  have hbytes : (xs.length + 1) * bytes ≤ 140737488355328 := by
    have : (xs.length + 1) * bytes ≤ 1000000 * 10000 := Nat.mul_le_mul (by omega) hb
    omega
  obtain ⟨v', w', hr, h2, h3, h4, h5⟩ := run_append_own_at (P := P) W base t o.type e i z size bytes ht hi hz hsize hby hzs hsz v xs.length (xs.flatMap enc) hown ⟨g0, 0, none⟩ 1 c cells (by omega)
    (by
      intro j u hu
      rw [addr_add]
      have := cell_of_row W g0 j cells.toArray e (0, 0) hblk
      rw [this]; simpa using hu) h1 (by unfold maxLen; omega) hbytes hbase
  unfold Oper.wp execOp
  simp only [ho, resolve, invoke, builtin, Sem.run_bind, Sem.run_pure, Result.andThen_ok, List.map_toArray, List.map_cons, List.map_nil, hs, hx, hr]
  refine h v' w' (by unfold Own; simpa [hd] using h2) ?_
  exact (Keep.refl _ _).grown h3 fun k hk => by have := (World.ownsRow.lt hown k hk).1; exact .inl this

/-- The same at a step of a region that draws its order. -/
theorem step_push {P : Program} {α : Type} {enc : α → List Value} {size : Nat} {W : World} {ops : Array Oper} {o : Oper} {a : Act} {K : Act → World → Prop} {Q : Exit → Act → World → Prop} {E : Prop} (hgd : o.guard = none) (s x : Operand) (t : TypeId)
    (ho : o.op = .call { callee := .builtin .append, args := #[s, x], argTypes := #[t, t] })
    (base : Nat) (e : TypeId) (i : TypeInfo) (z : Value) (bytes : Nat) (ht : P.underlying t = some (.slice e)) (hi : P.info? e = some i) (hz : i.zero = some z)
    (hsize : i.size = size) (hby : i.bytes = bytes) (hzs : z.cells.size = size) (hsz : 0 < size)
    (v : Value) (xs : List α) (hs : a.eval s = v) (hown : Own enc size e base W v xs) (d : α) (g0 : Nat)
    (c : Nat) (hx : a.eval x = .slice (some ⟨g0, 0, none⟩) 1 c) (cells : List Value) (hblk : W.heap[g0]? = some (.cells cells.toArray e (0, 0))) (hd : enc d = cells) (hl : cells.length = size) (h1 : ∀ u ∈ cells, u.oneCell' = true)
    (hlen : xs.length < 1000000) (hb : bytes ≤ 10000) (hbase : base ≤ W.heap.size)
    (h : ∀ v' w', Own enc size e base w' v' (xs ++ [d]) → Keep (base ≤ ·) W w' → K (a.put o.dst v') w') :
    if Region.wanted o (yielded ops a.tmps) = true then Oper.wp P o a W K Q else E := by
  have hw : Region.wanted o (yielded ops a.tmps) = true := by simp [Region.wanted, hgd]
  rw [if_pos hw]
  exact wp_push s x t ho base e i z bytes ht hi hz hsize hby hzs hsz v xs hs hown d g0 c hx cells hblk hd hl h1 hlen hb hbase h

end Go.Proofs.Ytiojoheenjkphaa
