/-
  Memory, more: append in a region that draws its order.
-/
import Derived.Test.YtgkbjdphkmmmhaaDoorBase
import Derived.Deep.RegionHeld3
namespace Go.Proofs.YtgkbjdphkmmmhaaDoor
open Go.RowKit

theorem Own.reads {α : Type} {enc : α → List Value} {size : Nat} (hsz : ∀ x, (enc x).length = size) {w : World} {base : Nat} {e : TypeId} {p : Option Addr} {n cap : Nat} {xs : List α} (h : Own enc size e base w (.slice p n cap) xs) :
    n = xs.length ∧ xs.length ≤ cap ∧ cap ≤ maxLen ∧ SliceV enc size w p xs ∧ From base p := by
  obtain ⟨p', c', he, h1, h2, h3, h4⟩ := h.slice hsz
  cases he
  exact ⟨rfl, h1, h2, h3, h4⟩

/-- A row that the call made whole is its own. -/
theorem Own.ofArr {α : Type} {enc : α → List Value} {size : Nat} (hsz : ∀ x, (enc x).length = size) {w : World} {base : Nat} {e : TypeId} {g : Nat} {xs : List α} (h : Arr enc e w g xs) (hb : base ≤ g) (hl : xs.length ≤ 9000000000000000000) : Own enc size e base w (.slice (some ⟨g, 0, none⟩) xs.length xs.length) xs := by
  refine ⟨by rw [flat_len hsz], .inr ⟨g, xs.length, (xs.flatMap enc).toArray, rfl, hb, h, Nat.le_refl _, by unfold maxLen; omega, by simp only [List.size_toArray]; rw [flat_len hsz], List.take_of_length_le (by rw [flat_len hsz]; simp [flat_len hsz])⟩⟩

theorem Own.row {α : Type} {enc : α → List Value} {size : Nat} (_ : ∀ x, (enc x).length = size) {e : TypeId} {base : Nat} {w : World} {p : Option Addr} {n cap : Nat} {xs : List α} (h : Own enc size e base w (.slice p n cap) xs) (hx : 0 < xs.length) :
    ∃ g, p = some ⟨g, 0, none⟩ ∧ base ≤ g := by
  rcases h.2 with ⟨_, h0⟩ | ⟨g, cap, cur, hv, hb, hg, h1, h2, h3, h4⟩
  · omega
  · cases hv; exact ⟨g, rfl, hb⟩

/-- 'append' of one element, which lies in a block g0, as one operation. -/
theorem wp_push {P : Program} {α : Type} {enc : α → List Value} {size : Nat} {W : World} {o : Oper} {a : Act} {K : Act → World → Prop} {Q : Exit → Act → World → Prop} (s x : Operand) (t : TypeId)
    (ho : o.op = .call { callee := .builtin .append, args := #[s, x], argTypes := #[t, t] })
    (base : Nat) (e : TypeId) (i : TypeInfo) (z : Value) (bytes : Nat) (ht : P.underlying t = some (.slice e)) (hi : P.info? e = some i) (hz : i.zero = some z)
    (hsize : i.size = size) (hby : i.bytes = bytes) (hzs : z.cells.size = size) (hsz : 0 < size)
    (v : Value) (xs : List α) (hs : a.eval s = v) (hown : Own enc size e base W v xs) (d : α) (g0 : Nat)
    (c : Nat) (hx : a.eval x = .slice (some ⟨g0, 0, none⟩) 1 c) (cells : List Value) (hblk : W.heap[g0]? = some (.cells cells.toArray e (0, 0))) (hd : enc d = cells) (hl : cells.length = size) (h1 : ∀ u ∈ cells, u.oneCell' = true)
    (hlen : xs.length < 1000000) (hb : bytes ≤ 10000) (hbase : base ≤ W.heap.size)
    (h : ∀ v' w', Own enc size e base w' v' (xs ++ [d]) → Keep (base ≤ ·) W w' → K (a.put o.dst v') w') : o.wp P a W K Q := by
  have hbytes : (xs.length + 1) * bytes ≤ 140737488355328 := by
    have : (xs.length + 1) * bytes ≤ 1000000 * 10000 := Nat.mul_le_mul (by omega) hb
    omega
  obtain ⟨v', w', hr, h2, h3, h4, h5⟩ := run_append_own_at (P := P) W base t o.type e i z size bytes ht hi hz hsize hby hzs hsz v xs.length (xs.flatMap enc) hown ⟨g0, 0, none⟩ 1 c cells (by omega)
    (by
      intro j u hu
      rw [addr_add]
      have := cell_of_row W g0 j cells.toArray e (0, 0) hblk
      rw [this]; simpa using hu) h1 (by unfold maxLen; omega) hbytes hbase
  unfold Oper.wp execOp
  simp only [ho, resolve, invoke, builtin, Sem.run_bind, Sem.run_pure, Result.andThen_ok, List.map_toArray, List.map_cons, List.map_nil, hs, hx, hr]
  refine h v' w' (by unfold Own; simpa [hd] using h2) ?_
  exact (Keep.refl _ _).grown h3 fun k hk => by have := (World.ownsRow.lt hown k hk).1; exact .inl this

/-- The same at a step of a region that draws its order. -/
theorem step_push {P : Program} {α : Type} {enc : α → List Value} {size : Nat} {W : World} {ops : Array Oper} {o : Oper} {a : Act} {K : Act → World → Prop} {Q : Exit → Act → World → Prop} {E : Prop} (hgd : o.guard = none) (s x : Operand) (t : TypeId)
    (ho : o.op = .call { callee := .builtin .append, args := #[s, x], argTypes := #[t, t] })
    (base : Nat) (e : TypeId) (i : TypeInfo) (z : Value) (bytes : Nat) (ht : P.underlying t = some (.slice e)) (hi : P.info? e = some i) (hz : i.zero = some z)
    (hsize : i.size = size) (hby : i.bytes = bytes) (hzs : z.cells.size = size) (hsz : 0 < size)
    (v : Value) (xs : List α) (hs : a.eval s = v) (hown : Own enc size e base W v xs) (d : α) (g0 : Nat)
    (c : Nat) (hx : a.eval x = .slice (some ⟨g0, 0, none⟩) 1 c) (cells : List Value) (hblk : W.heap[g0]? = some (.cells cells.toArray e (0, 0))) (hd : enc d = cells) (hl : cells.length = size) (h1 : ∀ u ∈ cells, u.oneCell' = true)
    (hlen : xs.length < 1000000) (hb : bytes ≤ 10000) (hbase : base ≤ W.heap.size)
    (h : ∀ v' w', Own enc size e base w' v' (xs ++ [d]) → Keep (base ≤ ·) W w' → K (a.put o.dst v') w') :
    if Region.wanted o (yielded ops a.tmps) = true then Oper.wp P o a W K Q else E := by
  have hw : Region.wanted o (yielded ops a.tmps) = true := by simp [Region.wanted, hgd]
  rw [if_pos hw]
  exact wp_push s x t ho base e i z bytes ht hi hz hsize hby hzs hsz v xs hs hown d g0 c hx cells hblk hd hl h1 hlen hb hbase h

/-- The same in a list of operations; what comes out is a slice. -/
theorem wpList_pushAt {P : Program} {α : Type} {enc : α → List Value} {size : Nat} {W : World} {ops : Array Oper} {rest : List Oper} {o : Oper} {a : Act} {Q : Exit → Act → World → Prop} (hgd : o.guard = none) (s x : Operand) (t : TypeId)
    (ho : o.op = .call { callee := .builtin .append, args := #[s, x], argTypes := #[t, t] })
    (base : Nat) (e : TypeId) (i : TypeInfo) (z : Value) (bytes : Nat) (ht : P.underlying t = some (.slice e)) (hi : P.info? e = some i) (hz : i.zero = some z)
    (hsize : i.size = size) (hby : i.bytes = bytes) (hzs : z.cells.size = size) (hsz : 0 < size) (henc : ∀ x, (enc x).length = size)
    (v : Value) (xs : List α) (hs : a.eval s = v) (hown : Own enc size e base W v xs) (d : α) (g0 : Nat)
    (c : Nat) (hx : a.eval x = .slice (some ⟨g0, 0, none⟩) 1 c) (cells : List Value) (hblk : W.heap[g0]? = some (.cells cells.toArray e (0, 0))) (hd : enc d = cells) (hl : cells.length = size) (h1 : ∀ u ∈ cells, u.oneCell' = true)
    (hlen : xs.length < 1000000) (hb : bytes ≤ 10000) (hbase : base ≤ W.heap.size)
    (h : ∀ p' c' w', Own enc size e base w' (.slice p' (xs.length + 1) c') (xs ++ [d]) → Keep (base ≤ ·) W w' → (∀ k, some k ≠ v.ownBlock → k < W.heap.size → w'.heap[k]? = W.heap[k]?) → ((Value.slice p' (xs.length + 1) c').ownBlock = v.ownBlock ∨ (Value.slice p' (xs.length + 1) c').ownBlock = some W.heap.size) → wpList P ops Q rest (a.put o.dst (.slice p' (xs.length + 1) c')) w') :
    wpList P ops Q (o :: rest) a W := by
  refine wpList_plain hgd fun K hK => ?_
  have hbytes : (xs.length + 1) * bytes ≤ 140737488355328 := by
    have : (xs.length + 1) * bytes ≤ 1000000 * 10000 := Nat.mul_le_mul (by omega) hb
    omega
  obtain ⟨v', w', hr, h2, h3, h4, h5⟩ := run_append_own_at (P := P) W base t o.type e i z size bytes ht hi hz hsize hby hzs hsz v xs.length (xs.flatMap enc) hown ⟨g0, 0, none⟩ 1 c cells (by omega)
    (by
      intro j u hu
      rw [addr_add]
      have := cell_of_row W g0 j cells.toArray e (0, 0) hblk
      rw [this]; simpa using hu) h1 (by unfold maxLen; omega) hbytes hbase
  have hO : Own enc size e base w' v' (xs ++ [d]) := by unfold Own; simpa [hd] using h2
  obtain ⟨p', c', rfl, -⟩ := hO.slice henc
  rw [show (xs ++ [d]).length = xs.length + 1 from by simp] at hr hO
  unfold Oper.wp execOp
  simp only [ho, resolve, invoke, builtin, Sem.run_bind, Sem.run_pure, Result.andThen_ok, List.map_toArray, List.map_cons, List.map_nil, hs, hx, hr]
  refine hK _ _ (h p' c' w' hO ?_ ?_ (by simpa using h5))
  · exact (Keep.refl _ _).grown h3 fun k hk => by have := (World.ownsRow.lt hown k hk).1; exact .inl this
  · intro k hk hlt
    exact h3.block k hlt hk

/-- A struct is stored over a block that is known whole. -/
theorem wpList_storeObj {P : Program} {ops : Array Oper} {rest : List Oper} {op : Oper} {a : Act} {w : World} {Q : Exit → Act → World → Prop} (hgd : op.guard = none) (ty : TypeId) (x y : Operand) (ho : op.op = .store ty x y)
    (g : Nat) (hx : a.eval x = .pointer (some ⟨g, 0, none⟩)) (old new : List Value) (hy : a.eval y = .agg new.toArray) (e : TypeId) (hl : old.length = new.length) (h : w.heap[g]? = some (.cells old.toArray e (0, 0)))
    (size : Nat) (hif : (P.info? ty).map (·.size) = some size) (hnl : new.length = size) (h1 : ∀ v ∈ new, v.oneCell' = true)
    (hk : ∀ w', w'.heap[g]? = some (.cells new.toArray e (0, 0)) → Keep (· = g) w w' → w'.heap.size = w.heap.size → wpList P ops Q rest (a.put op.dst undef) w') : wpList P ops Q (op :: rest) a w := by
  subst hnl
  have hc : (Value.agg new.toArray).cells = new.toArray := rfl
  have ht : w.there g 0 (Value.agg new.toArray).cells.size := by
    intro j hj
    rw [hc] at hj
    have hj' : j < old.length := by simp at hj; omega
    exact ⟨by simp [World.cell?, h, hj'], by simp [World.frozen?, h]⟩
  have hrun := run_storeVar_any (P := P) w g 0 ty (.agg new.toArray) ht (by rw [hc]; simpa using hif) (by rw [hc]; simpa using h1)
  refine wpList_plain hgd fun K hK => ?_
  unfold Oper.wp execOp
  simp only [ho, hx, hy, Instr.storeAt, Instr.sureAddr, Sem.run_bind, Sem.run_pure, Result.andThen_ok, hrun]
  rw [hc]
  refine hK _ _ (hk _ ?_ (Keep.setCells (S := (· = g)) (.inl rfl) _ _ (Keep.refl _ _)) (size_setCells _ _ _ _))
  rw [heap_setCells _ _ _ _ h]
  have := spliceA_list new 0 old.toArray (by simp; omega)
  have e2 : spliceA new 0 old.toArray = new.toArray := by
    rw [← Array.toList_inj, this]
    simp; omega
  simp [e2]

/-- A result that is a struct in memory. -/
theorem results_obj {P : Program} {fn : Func} {t : Tmp} {ty : TypeId} {tmps : Array Value} {w : World} {g : Nat} (h : fn.results = #[.cell t ty]) (ht : tmps.getD t undef = .pointer (some ⟨g, 0, none⟩)) (cs : List Value) (d : TypeDesc) (hc : w.rangeAt g 0 cs)
    (hu : P.underlying ty = some d) (hd : d.isRow = true) (size : Nat) (hi : (P.info? ty).map (·.size) = some size) (hcl : cs.length = size) : (results fn tmps).run P w = .ok (.agg cs.toArray) w := by
  subst hcl
  have hl := run_loadVar_mid (P := P) w g 0 ty cs d hc hu hd hi
  have ht' : tmps[t]?.getD undef = .pointer (some ⟨g, 0, none⟩) := by simpa using ht
  simp [results, h, asAddr, ht', hl]

end Go.Proofs.YtgkbjdphkmmmhaaDoor
