/-
  append of one element as one operation: what was there before is still owned, and reads as before.
-/
import Derived.Test.YtgelfefoiplekaaDoorBaseTwo
namespace Go.Proofs.YtgelfefoiplekaaDoor
open Go.RowKit

theorem append_old {P : Program} (w : World) (base : Nat) (t ty e : TypeId) (i : TypeInfo) (z : Value) (size bytes : Nat) (ht : P.underlying t = some (.slice e)) (hi : P.info? e = some i) (hz : i.zero = some z)
    (hsize : i.size = size) (hby : i.bytes = bytes) (hsz : 0 < size)
    (v : Value) (n : Nat) (xs : List Value) (hown : w.ownsRow base e size v n xs)
    (a : Addr) (m c : Nat) (news : List Value) (hl : news.length = m * size) (hnews : ∀ j u, news[j]? = some u → w.cell? (a.add j) = some u) (h1 : ∀ u ∈ news, u.oneCell' = true)
    (h63 : n + m ≤ maxLen) (hbytes : (n + m) * bytes ≤ 140737488355328) {v' : Value} {w' : World} (hr : (Builtin.append_ #[t, t] ty #[v, .slice (some a) m c]).run P w = .ok v' w') : w'.ownsRow base e size v n xs := by
  subst hsize
  subst hby
  have hsmall : n + m ≤ 9223372036854775807 := by simp only [maxLen] at h63; omega
  rcases hown.2 with ⟨rfl, rfl⟩ | ⟨g, cap, cur, rfl, hbg, hg, hnc, hcm, hcs, htake⟩
  · have hx : xs = [] := List.eq_nil_of_length_eq_zero (by simpa using hown.1)
    subst hx
    exact World.ownsRow_nil _ _ _ _
  · by_cases hroom : n + m ≤ cap
    · have hfit : n * i.size + news.length ≤ cur.size := by rw [hl, hcs, ← Nat.add_mul]; exact Nat.mul_le_mul_right _ hroom
      have hr' := run_append_room (P := P) w t ty e i ht hi g n cap cur hg a m c news hl hnews h1 hroom hfit
      rw [hr'] at hr
      cases hr
      refine ⟨hown.1, .inr ⟨g, cap, _, rfl, hbg, setRow_heap w g cur _ e _ hg, hnc, hcm, ?_, ?_⟩⟩
      · simp only [List.size_toArray, List.length_append, List.length_take, List.length_drop, Array.length_toList]
        omega
      · have hxl : xs.length = n * i.size := hown.1
        rw [htake, ← hxl]
        simp
    · have holds : ∀ j u, xs[j]? = some u → w.cell? ((⟨g, 0, none⟩ : Addr).add j) = some u := hown.cells (g := g) rfl
      have hr' := run_append_grow (P := P) w t ty e i z ht hi hz ⟨g, 0, none⟩ n cap xs hown.1 holds a m c news hl hnews (by omega) (by omega) (growslice_fits (by omega) hbytes)
      rw [hr'] at hr
      cases hr
      exact ⟨hown.1, .inr ⟨g, cap, cur, rfl, hbg, (heap_alloc_old w.drew _ (heap_lt hg)).trans hg, hnc, hcm, hcs, htake⟩⟩

theorem wp_push2 {P : Program} {α : Type} {enc : α → List Value} {size : Nat} {W : World} {o : Oper} {a : Act} {K : Act → World → Prop} {Q : Exit → Act → World → Prop} (s x : Operand) (t : TypeId)
    (ho : o.op = .call { callee := .builtin .append, args := #[s, x], argTypes := #[t, t] })
    (base : Nat) (e : TypeId) (i : TypeInfo) (z : Value) (bytes : Nat) (ht : P.underlying t = some (.slice e)) (hi : P.info? e = some i) (hz : i.zero = some z)
    (hsize : i.size = size) (hby : i.bytes = bytes) (hzs : z.cells.size = size) (hsz : 0 < size) (henc : ∀ x, (enc x).length = size)
    (v : Value) (xs : List α) (hs : a.eval s = v) (hown : Own enc size e base W v xs) (d : α) (g0 : Nat)
    (c : Nat) (hx : a.eval x = .slice (some ⟨g0, 0, none⟩) 1 c) (cells : List Value) (hblk : W.heap[g0]? = some (.cells cells.toArray e (0, 0))) (hd : enc d = cells) (hl : cells.length = size) (h1 : ∀ u ∈ cells, u.oneCell' = true)
    (hlen : xs.length < 1000000) (hb : bytes ≤ 10000) (hbase : base ≤ W.heap.size)
    (h : ∀ p' c' w', Own enc size e base w' (.slice p' (xs.length + 1) c') (xs ++ [d]) → Own enc size e base w' v xs → Keep (fun k => v.ownBlock = some k) W w' → ((Value.slice p' (xs.length + 1) c').ownBlock = v.ownBlock ∨ (Value.slice p' (xs.length + 1) c').ownBlock = some W.heap.size) → K (a.put o.dst (.slice p' (xs.length + 1) c')) w') : o.wp P a W K Q := by
  have hbytes : (xs.length + 1) * bytes ≤ 140737488355328 := by
    have : (xs.length + 1) * bytes ≤ 1000000 * 10000 := Nat.mul_le_mul (by omega) hb
    omega
  have hnews : ∀ j u, cells[j]? = some u → W.cell? ((⟨g0, 0, none⟩ : Addr).add j) = some u := by
    intro j u hu
    rw [addr_add]
    have := cell_of_row W g0 j cells.toArray e (0, 0) hblk
    rw [this]; simpa using hu
  obtain ⟨v', w', hr, h2, h3, h4, h5⟩ := run_append_own_at (P := P) W base t o.type e i z size bytes ht hi hz hsize hby hzs hsz v xs.length (xs.flatMap enc) hown ⟨g0, 0, none⟩ 1 c cells (by omega) hnews h1 (by unfold maxLen; omega) hbytes hbase
  have hold := append_old (P := P) W base t o.type e i z size bytes ht hi hz hsize hby hsz v xs.length (xs.flatMap enc) hown ⟨g0, 0, none⟩ 1 c cells (by omega) hnews h1 (by unfold maxLen; omega) hbytes hr
  have hO : Own enc size e base w' v' (xs ++ [d]) := by unfold Own; simpa [hd] using h2
  obtain ⟨p', c', rfl, -⟩ := hO.slice henc
  rw [show (xs ++ [d]).length = xs.length + 1 from by simp] at hr hO
  unfold Oper.wp execOp
  simp only [ho, resolve, invoke, builtin, Sem.run_bind, Sem.run_pure, Result.andThen_ok, List.map_toArray, List.map_cons, List.map_nil, hs, hx, hr]
  refine h p' c' w' hO hold ?_ (by simpa using h5)
  exact (Keep.refl _ _).grown h3 fun k hk => .inl hk

end Go.Proofs.YtgelfefoiplekaaDoor
