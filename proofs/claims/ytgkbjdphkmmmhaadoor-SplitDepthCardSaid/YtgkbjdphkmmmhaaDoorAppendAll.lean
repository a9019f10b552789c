/-
  'append(l, m...)' to a list that the call owns.
-/
import Derived.Test.YtgkbjdphkmmmhaaDoorBaseTwo
namespace Go.Proofs.YtgkbjdphkmmmhaaDoor
open Go.RowKit

theorem wp_appendAll {P : Program} {α : Type} {enc : α → List Value} {size : Nat} {W : World} {o : Oper} {a : Act} {K : Act → World → Prop} {Q : Exit → Act → World → Prop} (s x : Operand) (t : TypeId)
    (ho : o.op = .call { callee := .builtin .append, args := #[s, x], argTypes := #[t, t] })
    (base : Nat) (e : TypeId) (i : TypeInfo) (z : Value) (bytes : Nat) (ht : P.underlying t = some (.slice e)) (hi : P.info? e = some i) (hz : i.zero = some z)
    (hsize : i.size = size) (hby : i.bytes = bytes) (hzs : z.cells.size = size) (hsz : 0 < size) (henc : ∀ x, (enc x).length = size)
    (v : Value) (xs : List α) (hs : a.eval s = v) (hown : Own enc size e base W v xs) (p : Option Addr) (ys : List α) (c : Nat) (hx : a.eval x = .slice p ys.length c) (hv : SliceV enc size W p ys) (h1 : ∀ x, ∀ u ∈ enc x, u.oneCell' = true)
    (hlen : xs.length + ys.length ≤ 140737488355328) (hb : (xs.length + ys.length) * bytes ≤ 140737488355328) (hbase : base ≤ W.heap.size)
    (h : ∀ p' c' w', Own enc size e base w' (.slice p' (xs.length + ys.length) c') (xs ++ ys) → Keep (fun k => v.ownBlock = some k) W w' → ((Value.slice p' (xs.length + ys.length) c').ownBlock = v.ownBlock ∨ (Value.slice p' (xs.length + ys.length) c').ownBlock = some W.heap.size) → K (a.put o.dst (.slice p' (xs.length + ys.length) c')) w') :
    o.wp P a W K Q := by
  have hbytes : (xs.length + ys.length) * bytes ≤ 140737488355328 := hb
  have some_case : ∀ ad : Addr, p = some ad → (∀ j u, (ys.flatMap enc)[j]? = some u → W.cell? (ad.add j) = some u) → Oper.wp P o a W K Q := by
    intro ad hp hc
    subst hp
    obtain ⟨v', w', hr, h2, h3, h4, h5⟩ := run_append_own_at (P := P) W base t o.type e i z size bytes ht hi hz hsize hby hzs hsz v xs.length (xs.flatMap enc) hown ad ys.length c (ys.flatMap enc) (flat_len henc ys) hc
      (by intro u hu; obtain ⟨y, -, hy⟩ := List.mem_flatMap.1 hu; exact h1 y u hy) (by unfold maxLen; omega) hbytes hbase
    have hO : Own enc size e base w' v' (xs ++ ys) := by unfold Own; simpa using h2
    obtain ⟨p', c', rfl, -⟩ := hO.slice henc
    rw [show (xs ++ ys).length = xs.length + ys.length from by simp] at hr hO
    unfold Oper.wp execOp
    simp only [ho, resolve, invoke, builtin, Sem.run_bind, Sem.run_pure, Result.andThen_ok, List.map_toArray, List.map_cons, List.map_nil, hs, hx, hr]
    refine h p' c' w' hO ?_ (by simpa using h5)
    exact (Keep.refl _ _).grown h3 fun k hk => .inl hk
  cases p with
  | none =>
    have hys : ys = [] := by
      rcases hv with h0 | ⟨b, off, h0, -⟩
      · exact h0
      · cases h0
    subst hys
    have hown' := hown
    rcases hown.2 with ⟨hv, h0⟩ | ⟨g, c', cur, hv, hbg, hg, hlc, hcm, hcs, htk⟩
    · subst hv
      have hx0 : xs = [] := List.eq_nil_of_length_eq_zero h0
      subst hx0
      have hr : (Builtin.append_ #[t, t] o.type #[.slice none 0 0, .slice none 0 c]).run P W = .ok (.slice none 0 0) W := by
        simp [Builtin.append_, run_underlying ht, sizeOf, typeInfo, hi, Builtin.lenOf, Builtin.firstCells]
      unfold Oper.wp execOp
      simp only [ho, resolve, invoke, builtin, Sem.run_bind, Sem.run_pure, Result.andThen_ok, List.map_toArray, List.map_cons, List.map_nil, hs, hx, List.length_nil, hr]
      exact h none 0 W hown' (Keep.refl _ _) (.inl rfl)
    · subst hv
      have hr : (Builtin.append_ #[t, t] o.type #[.slice (some ⟨g, 0, none⟩) xs.length c', .slice none 0 c]).run P W = .ok (.slice (some ⟨g, 0, none⟩) xs.length c') W := by
        simp [Builtin.append_, run_underlying ht, sizeOf, typeInfo, hi, Builtin.lenOf, Builtin.firstCells]
        rw [if_pos hlc]
        simp [storeCells]
      unfold Oper.wp execOp
      simp only [ho, resolve, invoke, builtin, Sem.run_bind, Sem.run_pure, Result.andThen_ok, List.map_toArray, List.map_cons, List.map_nil, hs, hx, List.length_nil, hr]
      exact h (some ⟨g, 0, none⟩) c' W (by simpa using hown') (Keep.refl _ _) (.inl rfl)
  | some ad =>
    refine some_case ad rfl ?_
    rcases hv with h0 | ⟨b, off, h0, hv⟩
    · subst h0; simp
    · cases h0
      intro j u hu
      have hj : j < (ys.flatMap enc).length := (List.getElem?_eq_some_iff.1 hu).1
      rw [flat_len henc] at hj
      have hq : j / size < ys.length := Nat.div_lt_of_lt_mul (by rw [Nat.mul_comm]; exact hj)
      have hm := Nat.mod_lt j hsz
      have e1 : ys[j / size]? = some (ys[j / size]'hq) := List.getElem?_eq_getElem hq
      have e2 : (enc (ys[j / size]'hq))[j % size]? = some ((enc (ys[j / size]'hq))[j % size]'(by rw [henc]; exact hm)) := List.getElem?_eq_getElem _
      have e3 := flat_get henc ys (j / size) _ e1 (j % size) _ e2
      have e4 := hv (j / size) _ e1 (j % size) _ e2
      have hd : j / size * size + j % size = j := by rw [Nat.mul_comm]; exact Nat.div_add_mod j size
      rw [hd] at e3
      rw [e3] at hu
      have : (⟨b, off, none⟩ : Addr).add j = ⟨b, off + j, none⟩ := by unfold Addr.add; split <;> simp_all
      rw [this, ← hu, ← e4]
      congr 2
      omega

theorem wpList_appendAll {P : Program} {α : Type} {enc : α → List Value} {size : Nat} {W : World} {ops : Array Oper} {rest : List Oper} {o : Oper} {a : Act} {Q : Exit → Act → World → Prop} (hgd : o.guard = none) (s x : Operand) (t : TypeId)
    (ho : o.op = .call { callee := .builtin .append, args := #[s, x], argTypes := #[t, t] })
    (base : Nat) (e : TypeId) (i : TypeInfo) (z : Value) (bytes : Nat) (ht : P.underlying t = some (.slice e)) (hi : P.info? e = some i) (hz : i.zero = some z)
    (hsize : i.size = size) (hby : i.bytes = bytes) (hzs : z.cells.size = size) (hsz : 0 < size) (henc : ∀ x, (enc x).length = size)
    (v : Value) (xs : List α) (hs : a.eval s = v) (hown : Own enc size e base W v xs) (p : Option Addr) (ys : List α) (c : Nat) (hx : a.eval x = .slice p ys.length c) (hv : SliceV enc size W p ys) (h1 : ∀ x, ∀ u ∈ enc x, u.oneCell' = true)
    (hlen : xs.length + ys.length ≤ 140737488355328) (hb : (xs.length + ys.length) * bytes ≤ 140737488355328) (hbase : base ≤ W.heap.size)
    (h : ∀ p' c' w', Own enc size e base w' (.slice p' (xs.length + ys.length) c') (xs ++ ys) → Keep (fun k => v.ownBlock = some k) W w' → ((Value.slice p' (xs.length + ys.length) c').ownBlock = v.ownBlock ∨ (Value.slice p' (xs.length + ys.length) c').ownBlock = some W.heap.size) → wpList P ops Q rest (a.put o.dst (.slice p' (xs.length + ys.length) c')) w') :
    wpList P ops Q (o :: rest) a W := by
  refine wpList_plain hgd fun K hK => ?_
  exact wp_appendAll s x t ho base e i z bytes ht hi hz hsize hby hzs hsz henc v xs hs hown p ys c hx hv h1 hlen hb hbase fun p' c' w' a1 a2 a3 => hK _ _ (h p' c' w' a1 a2 a3)

end Go.Proofs.YtgkbjdphkmmmhaaDoor
