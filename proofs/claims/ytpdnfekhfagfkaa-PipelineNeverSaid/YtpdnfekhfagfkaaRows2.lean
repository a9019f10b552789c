/-
  Memory, more: copies and 'append' of made elements, for elements of more than one cell.
-/
import Derived.Test.YtpdnfekhfagfkaaBaseTwo
import Derived.Deep.AppendSrc
import Derived.Laws.CopyOwn
namespace Go.Proofs.Ytpdnfekhfagfkaa
open Go.RowKit

section
variable {P : Program} (w : World)

theorem run_copy_row (dT sT ty elem : TypeId) (size : Nat) (i : TypeInfo) (hu : P.underlying dT = some (.slice elem)) (hi : P.info? elem = some i) (hsz : i.size = size) (g off dLen dCap : Nat) (ad : Addr) (sLen sCap n : Nat) (hn : n = Nat.min sLen dLen)
    (cur : Array Value) (e : TypeId) (hg : w.heap[g]? = some (.cells cur e (0, 0))) (cs : List Value) (hl : cs.length = n * size) (hsrc : ∀ j u, cs[j]? = some u → w.cell? (ad.add j) = some u) (hfit : off + cs.length ≤ cur.size) (h1 : ∀ u ∈ cs, u.oneCell' = true) :
    (Builtin.copy_ #[dT, sT] ty #[.slice (some ⟨g, off, none⟩) dLen dCap, .slice (some ad) sLen sCap]).run P w = .ok (goInt n) (w.setCells g off cs) := by
  subst hsz
  subst hn
  have hf := run_firstCells_some (P := P) w i.size (Nat.min sLen dLen) ad sLen sCap cs hl hsrc
  have hst := run_storeCells_cells (P := P) g off cs 0 w (fun j hj => by
    have : off + j < cur.size := by omega
    simp [World.cell?, hg, this]) (fun j hj => by simp [World.frozen?, hg]) h1
  simp only [Nat.add_zero] at hst
  simp [Builtin.copy_, run_underlying hu, sizeOf, typeInfo, hi, Builtin.lenOf, hf, hst]

theorem run_append_make (t tx ty e : TypeId) (k : IntKind) (i : TypeInfo) (z : Value) (ht : P.underlying t = some (.slice e)) (hx : P.underlying tx = some (.int k)) (hi : P.info? e = some i) (hz : i.zero = some z)
    (b : Addr) (sLen sCap : Nat) (olds : List Value) (hlo : olds.length = sLen * i.size) (holds : ∀ j v, olds[j]? = some v → w.cell? (b.add j) = some v)
    (n : Nat) (hg : sCap < sLen + n) (hpos : 0 < n * i.size) (hsmall : sLen + n ≤ 1000000) (hb : i.bytes ≤ 10000) (hfit : Builtin.nextslicecap (sLen + n) sCap * i.bytes ≤ 281474976710656) :
    (Builtin.append_ #[t, tx] ty #[.slice (some b) sLen sCap, .int .i64 (n : Int)]).run P w =
      .ok (.slice (some ⟨w.heap.size, 0, none⟩) (sLen + n) (grownCap w (sLen + n) sCap e))
        (w.drew.alloc (.cells (olds.toArray ++ Builtin.zeroCells z.cells n ++ Builtin.zeroCells z.cells (grownCap w (sLen + n) sCap e - (sLen + n))) e)) := by
  have hn : ¬ (sLen + n ≤ sCap) := by omega
  have h63' : ¬ (9223372036854775807 < ((sLen : Int) + (n : Int))) := by omega
  have h48' : ¬ (281474976710656 < Builtin.nextslicecap (sLen + n) sCap * i.bytes) := by omega
  have hfo := run_firstCells_some (P := P) w.drew i.size sLen b sLen sCap olds hlo (by simpa using holds)
  have hw : IntKind.i64.wrap (n : Int) = n := IntWalk.i64_in _ (by omega)
  have hneg : ¬ ((n : Int) < 0) := by omega
  have hnb : n * i.bytes ≤ 1000000 * 10000 := Nat.mul_le_mul (by omega) hb
  generalize hM : n * i.bytes = M at *
  have hbig : ¬ ((281474976710656 : Int) < (n : Int) * (i.bytes : Int)) := by
    rw [← Int.natCast_mul, hM]
    omega
  have hz1 : n ≠ 0 := by rintro rfl; rw [Nat.zero_mul] at hpos; omega
  have hz2 : i.size ≠ 0 := by intro h; rw [h, Nat.mul_zero] at hpos; omega
  simp [Builtin.append_, run_underlying ht, run_underlying hx, sizeOf, typeInfo, zeroValue, hi, hz, asInt, asIntOf, hw, hneg, hbig, hz1, hz2, hn, h63', h48', Question.forced, hfo, newRow, grownCap]
  intro h0
  omega

end

/-- 'copy' of elements between two rows, as an operation. -/
theorem wpList_copyRow {P : Program} {w : World} {ops : Array Oper} {rest : List Oper} {o : Oper} {a : Act} {Q : Exit → Act → World → Prop} (hgd : o.guard = none) (d s : Operand) (dT sT : TypeId)
    (ho : o.op = .call { callee := .builtin .copy, args := #[d, s], argTypes := #[dT, sT] }) (elem : TypeId) (size : Nat) (i : TypeInfo) (hu : P.underlying dT = some (.slice elem)) (hi : P.info? elem = some i) (hsz : i.size = size)
    (g off dLen dCap : Nat) (g' off' : Nat) (sLen sCap n : Nat) (hd : a.eval d = .slice (some ⟨g, off, none⟩) dLen dCap) (hs : a.eval s = .slice (some ⟨g', off', none⟩) sLen sCap) (hn : n = Nat.min sLen dLen)
    (cur : Array Value) (e : TypeId) (hg : w.heap[g]? = some (.cells cur e (0, 0))) (cs : List Value) (hl : cs.length = n * size) (hsrc : w.rangeAt g' off' cs) (hfit : off + cs.length ≤ cur.size) (h1 : ∀ u ∈ cs, u.oneCell' = true)
    (h : ∀ w', w'.heap[g]? = some (.cells (spliceA cs off cur) e (0, 0)) → Keep (· = g) w w' → w'.heap.size = w.heap.size → wpList P ops Q rest (a.put o.dst (goInt n)) w') : wpList P ops Q (o :: rest) a w := by
  have hrun := run_copy_row (P := P) w dT sT o.type elem size i hu hi hsz g off dLen dCap ⟨g', off', none⟩ sLen sCap n hn cur e hg cs hl (fun j u hj => by rw [Addr.add_mid]; exact hsrc j u hj) hfit h1
  refine wpList_plain hgd fun K hK => ?_
  unfold Oper.wp execOp
  simp only [ho, resolve, invoke, builtin, Sem.run_bind, Sem.run_pure, Result.andThen_ok, List.map_toArray, List.map_cons, List.map_nil, hd, hs, hrun]
  exact hK _ _ (h _ (heap_setCells _ _ _ _ hg) (Keep.setCells (S := (· = g)) (.inl rfl) _ _ (Keep.refl _ _)) (size_setCells _ _ _ _))

/-- 'append' of n made elements where there is no room, as an operation. -/
theorem wpList_growMade {P : Program} {w : World} {ops : Array Oper} {rest : List Oper} {o : Oper} {a : Act} {Q : Exit → Act → World → Prop} (hgd : o.guard = none) (s x : Operand) (t tx e : TypeId)
    (ho : o.op = .call { callee := .builtin .append, args := #[s, x], argTypes := #[t, tx] }) (k : IntKind) (i : TypeInfo) (z : Value) (size : Nat) (ht : P.underlying t = some (.slice e)) (hx : P.underlying tx = some (.int k)) (hi : P.info? e = some i) (hz : i.zero = some z)
    (hsize : i.size = size) (hzs : z.cells.size = size) (b off sLen sCap : Nat) (hs : a.eval s = .slice (some ⟨b, off, none⟩) sLen sCap) (n : Nat) (N : Int) (hxv : a.eval x = .int .i64 N) (hN : N = (n : Int)) (olds : List Value) (hlo : olds.length = sLen * size) (holds : w.rangeAt b off olds)
    (hg : sCap < sLen + n) (hpos : 0 < n) (hpos2 : 0 < size) (hsmall : sLen + n ≤ 1000000) (hb : i.bytes ≤ 10000)
    (h : ∀ (c : Nat) (w' : World) (cur : Array Value), w'.heap[w.heap.size]? = some (.cells cur e (0, 0)) → cur.size = c * size → sLen + n ≤ c → c ≤ maxLen → (∀ (j : Nat) (u : Value), olds[j]? = some u → cur[j]? = some u) → Keep None w w' → w'.heap.size = w.heap.size + 1 → wpList P ops Q rest (a.put o.dst (.slice (some ⟨w.heap.size, 0, none⟩) (sLen + n) c)) w') : wpList P ops Q (o :: rest) a w := by
  subst hN
  subst hsize
  have hfit : Builtin.nextslicecap (sLen + n) sCap * i.bytes ≤ 281474976710656 := growslice_fits (by omega) (by
    have : (sLen + n) * i.bytes ≤ 1000000 * 10000 := Nat.mul_le_mul hsmall hb
    omega)
  have hrun := run_append_make (P := P) w t tx o.type e k i z ht hx hi hz ⟨b, off, none⟩ sLen sCap olds hlo (fun j v hv => by rw [Addr.add_mid]; exact holds j v hv) n hg (Nat.mul_pos hpos hpos2) hsmall hb hfit
  refine wpList_plain hgd fun K hK => ?_
  unfold Oper.wp execOp
  simp only [ho, resolve, invoke, builtin, Sem.run_bind, Sem.run_pure, Result.andThen_ok, List.map_toArray, List.map_cons, List.map_nil, hs, hxv, hrun]
  have hge := grownCap_ge w (sLen + n) sCap e
  have hcm : grownCap w (sLen + n) sCap e ≤ maxLen := grownCap_le_maxLen w (sLen + n) sCap e (by unfold maxLen; omega)
  refine hK _ _ (h _ _ _ (heap_alloc_new w.drew _) ?_ hge hcm ?_ ((Keep.refl None w).drew.alloc _) (by simp))
  · simp only [Array.size_append, List.size_toArray, size_zeroCells, hzs, hlo, ← Nat.add_mul]
    congr 1
    omega
  · intro j u hu
    have hj : j < olds.length := (List.getElem?_eq_some_iff.1 hu).1
    rw [Array.append_assoc, Array.getElem?_append_left (by simpa using hj)]
    simpa using hu

/-- The cells of a slice, one after the other. -/
theorem SlAt.flat {α : Type} {enc : α → List Value} {size : Nat} (hsz : ∀ x, (enc x).length = size) (hpos : 0 < size) {w : World} {b off : Nat} {xs : List α} (h : SlAt enc size w b off xs) : w.rangeAt b off (xs.flatMap enc) := by
  intro j u hu
  have hj : j < (xs.flatMap enc).length := (List.getElem?_eq_some_iff.1 hu).1
  rw [flat_len hsz] at hj
  have hq : j / size < xs.length := Nat.div_lt_of_lt_mul (by rw [Nat.mul_comm]; exact hj)
  have hm := Nat.mod_lt j hpos
  have e1 : xs[j / size]? = some (xs[j / size]'hq) := List.getElem?_eq_getElem hq
  have e2 : (enc (xs[j / size]'hq))[j % size]? = some ((enc (xs[j / size]'hq))[j % size]'(by rw [hsz]; exact hm)) := List.getElem?_eq_getElem _
  have e3 := flat_get hsz xs (j / size) _ e1 (j % size) _ e2
  have e4 := h (j / size) _ e1 (j % size) _ e2
  have hd : j / size * size + j % size = j := by rw [Nat.mul_comm]; exact Nat.div_add_mod j size
  rw [hd] at e3
  rw [e3] at hu
  rw [← hu, ← e4]
  congr 2
  omega

theorem SlAt.drop {α : Type} {enc : α → List Value} {size : Nat} {w : World} {b off : Nat} {xs : List α} (h : SlAt enc size w b off xs) (k : Nat) : SlAt enc size w b (off + k * size) (xs.drop k) := by
  intro i x hx j u hu
  rw [List.getElem?_drop] at hx
  have := h _ _ hx j u hu
  rw [← this, Nat.add_mul]
  congr 2
  omega

theorem SlAt.take {α : Type} {enc : α → List Value} {size : Nat} {w : World} {b off : Nat} {xs : List α} (h : SlAt enc size w b off xs) (k : Nat) : SlAt enc size w b off (xs.take k) := by
  intro i x hx j u hu
  rw [List.getElem?_take] at hx
  split at hx
  · exact h _ _ hx j u hu
  · cases hx

theorem spliceA_size (cs : List Value) : ∀ (o : Nat) (C : Array Value), (spliceA cs o C).size = C.size := by
  induction cs with
  | nil => intro o C; rfl
  | cons v r ih => intro o C; rw [spliceA, ih]; simp

/-- First x, then cs behind it. -/
theorem splice_front {C : Array Value} {xe cs : List Value} {o : Nat} (h : o + xe.length + cs.length ≤ C.size) :
    (spliceA cs (o + xe.length) (spliceA xe o C)).toList.take (o + xe.length + cs.length) = C.toList.take o ++ xe ++ cs := by
  have h1 := spliceA_list xe o C (by omega)
  have h2 := spliceA_list cs (o + xe.length) (spliceA xe o C) (by rw [spliceA_size]; exact h)
  have ho : o ≤ C.toList.length := by simp; omega
  rw [h2, h1]
  have e1 : (C.toList.take o ++ xe ++ C.toList.drop (o + xe.length)).take (o + xe.length) = C.toList.take o ++ xe := by
    rw [List.take_left' (by simp; omega)]
  rw [e1, List.append_assoc (_ ++ _), ← List.append_assoc (C.toList.take o ++ xe)]
  rw [List.take_left' (by simp; omega)]

/-- First cs, then x ahead of it. -/
theorem splice_back {C : Array Value} {xe cs : List Value} {o : Nat} (h : o + xe.length + cs.length ≤ C.size) :
    (spliceA xe o (spliceA cs (o + xe.length) C)).toList.take (o + xe.length + cs.length) = C.toList.take o ++ xe ++ cs := by
  have h1 := spliceA_list cs (o + xe.length) C h
  have h2 := spliceA_list xe o (spliceA cs (o + xe.length) C) (by rw [spliceA_size]; omega)
  have ho : o ≤ C.toList.length := by simp; omega
  have hx : o + xe.length ≤ C.toList.length := by simp; omega
  rw [h2, h1]
  have e1 : (C.toList.take (o + xe.length) ++ cs ++ C.toList.drop (o + xe.length + cs.length)).take o = C.toList.take o := by
    rw [List.append_assoc, List.take_append_of_le_length (by simp; omega), List.take_take, Nat.min_eq_left (by omega)]
  have e2 : (C.toList.take (o + xe.length) ++ cs ++ C.toList.drop (o + xe.length + cs.length)).drop (o + xe.length) = cs ++ C.toList.drop (o + xe.length + cs.length) := by
    rw [List.append_assoc, List.drop_left' (by simp; omega)]
  rw [e1, e2, ← List.append_assoc]
  rw [List.take_left' (by simp; omega)]

theorem take_of_get {C : Array Value} {xs : List Value} (h : ∀ (j : Nat) (u : Value), xs[j]? = some u → C[j]? = some u) : C.toList.take xs.length = xs := by
  apply List.ext_getElem?
  intro j
  rw [List.getElem?_take]
  split
  · rename_i hj
    have := h j _ (List.getElem?_eq_getElem hj)
    rw [List.getElem?_eq_getElem hj]
    simpa using this
  · rename_i hj
    rw [List.getElem?_eq_none (by omega)]

/-- A call of a function without a body, whose entry is known. -/
theorem wpList_extern2 {P : Program} {w : World} {ops : Array Oper} {rest : List Oper} {o : Oper} {a : Act} {Q : Exit → Act → World → Prop} (hgd : o.guard = none) (f : FuncId) (x y : Operand) (ty : Array TypeId)
    (ho : o.op = .call { callee := .value (.func f), args := #[x, y], argTypes := ty }) (v1 v2 v : Value) (hx : a.eval x = v1) (hy : a.eval y = v2) (hrun : (callFunc f #[v1, v2]).run P w = .ok (.value v) w)
    (h : wpList P ops Q rest (a.put o.dst v) w) : wpList P ops Q (o :: rest) a w := by
  refine wpList_plain hgd fun K hK => ?_
  unfold Oper.wp execOp
  have e1 : a.eval (.func f) = .func (.func f) #[] #[] := rfl
  simp only [ho, resolve, invoke, Deferred.ofValue, Sem.run_bind, Sem.run_pure, Result.andThen_ok, List.map_toArray, List.map_cons, List.map_nil, hx, hy, e1, Array.append_empty, Array.empty_append, hrun]
  exact hK _ _ h

end Go.Proofs.Ytpdnfekhfagfkaa
