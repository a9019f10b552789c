/-
  Memory, more: a copy of a whole slice; the store of one field into a slice that the call owns.
-/
import Derived.Test.YtpdnfekhfagfkaaBaseTwo
import Derived.Laws.OwnMore
namespace Go.Proofs.Ytpdnfekhfagfkaa
open Go.RowKit

/-- 'append([]T(nil), xs...)'. -/
theorem wpList_copyAll {P : Program} {α : Type} {enc : α → List Value} {size : Nat} {w : World} {ops : Array Oper} {rest : List Oper} {o : Oper} {a : Act} {Q : Exit → Act → World → Prop} (hgd : o.guard = none) (s x : Operand) (t : TypeId)
    (ho : o.op = .call { callee := .builtin .append, args := #[s, x], argTypes := #[t, t] })
    (e : TypeId) (i : TypeInfo) (z : Value) (bytes : Nat) (ht : P.underlying t = some (.slice e)) (hi : P.info? e = some i) (hz : i.zero = some z)
    (hsize : i.size = size) (hby : i.bytes = bytes) (hzs : z.cells.size = size) (hsz : 0 < size) (henc : ∀ x, (enc x).length = size)
    (hs : a.eval s = .slice none 0 0) (p : Option Addr) (xs : List α) (c : Nat) (hx : a.eval x = .slice p xs.length c) (hv : SliceV enc size w p xs) (h1 : ∀ x, ∀ u ∈ enc x, u.oneCell' = true)
    (hlen : xs.length ≤ 2000000) (hb : bytes ≤ 10000)
    (h : ∀ v' w', Own enc size e w.heap.size w' v' xs → Keep None w w' → wpList P ops Q rest (a.put o.dst v') w') :
    wpList P ops Q (o :: rest) a w := by
  refine wpList_plain hgd fun K hK => ?_
  have hbytes : (0 + xs.length) * bytes ≤ 140737488355328 := by
    have : (0 + xs.length) * bytes ≤ 2000000 * 10000 := Nat.mul_le_mul (by omega) hb
    omega
  have hown : Own enc size e w.heap.size w (.slice none 0 0) ([] : List α) := Own.nil _ _ _ _ _
  have some_case : ∀ ad : Addr, p = some ad → (∀ j u, (xs.flatMap enc)[j]? = some u → w.cell? (ad.add j) = some u) → Oper.wp P o a w K Q := by
    intro ad hp hc
    subst hp
    obtain ⟨v', w', hr, h2, h3, h4, h5⟩ := run_append_own_at (P := P) w w.heap.size t o.type e i z size bytes ht hi hz hsize hby hzs hsz (.slice none 0 0) 0 [] hown ad xs.length c (xs.flatMap enc) (flat_len henc xs) hc
      (by intro u hu; obtain ⟨y, -, hy⟩ := List.mem_flatMap.1 hu; exact h1 y u hy) (by unfold maxLen; omega) hbytes (Nat.le_refl _)
    unfold Oper.wp execOp
    simp only [ho, resolve, invoke, builtin, Sem.run_bind, Sem.run_pure, Result.andThen_ok, List.map_toArray, List.map_cons, List.map_nil, hs, hx, hr]
    refine hK _ _ (h v' w' (by unfold Own; simpa using h2) ?_)
    exact (Keep.refl _ _).grown h3 fun k hk => by cases hk
  cases p with
  | none =>
    have hxs : xs = [] := by
      rcases hv with h0 | ⟨b, off, h0, -⟩
      · exact h0
      · cases h0
    subst hxs
    have hr : (Builtin.append_ #[t, t] o.type #[.slice none 0 0, .slice none 0 c]).run P w = .ok (.slice none 0 0) w := by
      simp [Builtin.append_, run_underlying ht, sizeOf, typeInfo, hi, Builtin.lenOf, Builtin.firstCells]
    unfold Oper.wp execOp
    simp only [ho, resolve, invoke, builtin, Sem.run_bind, Sem.run_pure, Result.andThen_ok, List.map_toArray, List.map_cons, List.map_nil, hs, hx, List.length_nil, hr]
    exact hK _ _ (h _ _ hown (Keep.refl _ _))
  | some ad =>
    refine some_case ad rfl ?_
    rcases hv with h0 | ⟨b, off, h0, hv⟩
    · subst h0; simp
    · cases h0
      intro j u hu
      have hj : j < (xs.flatMap enc).length := (List.getElem?_eq_some_iff.1 hu).1
      rw [flat_len henc] at hj
      have hq : j / size < xs.length := Nat.div_lt_of_lt_mul (by rw [Nat.mul_comm]; exact hj)
      have hm := Nat.mod_lt j hsz
      have e1 : xs[j / size]? = some (xs[j / size]'hq) := List.getElem?_eq_getElem hq
      have e2 : (enc (xs[j / size]'hq))[j % size]? = some ((enc (xs[j / size]'hq))[j % size]'(by rw [henc]; exact hm)) := List.getElem?_eq_getElem _
      have e3 := flat_get henc xs (j / size) _ e1 (j % size) _ e2
      have e4 := hv (j / size) _ e1 (j % size) _ e2
      have hd : j / size * size + j % size = j := by rw [Nat.mul_comm]; exact Nat.div_add_mod j size
      rw [hd] at e3
      rw [e3] at hu
      have : (⟨b, off, none⟩ : Addr).add j = ⟨b, off + j, none⟩ := by unfold Addr.add; split <;> simp_all
      rw [this, ← hu, ← e4]
      congr 2
      omega

theorem Own.setField {α : Type} {enc : α → List Value} {size : Nat} (hsz : ∀ x, (enc x).length = size) {e : TypeId} {base : Nat} {w : World} {g cap : Nat} {xs : List α} (h : Own enc size e base w (.slice (some ⟨g, 0, none⟩) xs.length cap) xs) {i : Nat} {x : α} (hx : xs[i]? = some x) {j : Nat} (hj : j < size) {v : Value} {c : α} (hc : enc c = (enc x).set j v) :
    Own enc size e base (w.setCell ⟨g, i * size + j, none⟩ v) (.slice (some ⟨g, 0, none⟩) xs.length cap) (xs.set i c) := by
  obtain ⟨hl, hr⟩ := h
  rcases hr with ⟨hn, -⟩ | ⟨g', cap', cur, hv, hb, hg, h1, h2, h3, h4⟩
  · cases hn
  · cases hv
    unfold Own
    rw [List.length_set]
    refine ⟨by rw [flat_len hsz, List.length_set], .inr ⟨g, cap, cur.setIfInBounds (i * size + j) v, rfl, hb, ?_, h1, h2, by simpa using h3, ?_⟩⟩
    · simp [World.setCell, Array.getElem?_modify, hg]
    · rw [Array.toList_setIfInBounds, List.take_set, h4, flat_field hsz hj hc xs i hx]

end Go.Proofs.Ytpdnfekhfagfkaa
