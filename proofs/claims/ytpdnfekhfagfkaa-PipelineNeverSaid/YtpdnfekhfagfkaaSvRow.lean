/-
  A struct stored over an element of a row that is owned. No program in sight.
-/
import Derived.Test.YtpdnfekhfagfkaaOwnMore
namespace Go.Proofs.Ytpdnfekhfagfkaa
open Go.RowKit

theorem Own.setEl {α : Type} {enc : α → List Value} {size : Nat} (hsz : ∀ x, (enc x).length = size) {e : TypeId} {base : Nat} {w : World} {g cap : Nat} {xs : List α} (h : Own enc size e base w (.slice (some ⟨g, 0, none⟩) xs.length cap) xs) {i : Nat} (hi : i < xs.length) (c : α) :
    Own enc size e base (w.setCells g (i * size) (enc c)) (.slice (some ⟨g, 0, none⟩) xs.length cap) (xs.set i c) := by
  obtain ⟨hl, hr⟩ := h
  rcases hr with ⟨hn, -⟩ | ⟨g', cap', cur, hv, hb, hg, h1, h2, h3, h4⟩
  · cases hn
  · cases hv
    have hm1 : (i + 1) * size ≤ xs.length * size := Nat.mul_le_mul_right _ hi
    have hm2 : xs.length * size ≤ cap * size := Nat.mul_le_mul_right _ h1
    rw [Nat.succ_mul] at hm1
    have hlt : i * size + (enc c).length ≤ cur.size := by rw [hsz, h3]; omega
    have hsp := spliceA_list (enc c) (i * size) cur hlt
    have hlen : (spliceA (enc c) (i * size) cur).size = cur.size := by
      rw [← Array.length_toList, hsp]
      simp
      omega
    have e2 := flat_splice hsz c xs i hi
    rw [← h4] at e2
    unfold Own
    rw [List.length_set]
    refine ⟨by rw [flat_len hsz, List.length_set], .inr ⟨g, cap, spliceA (enc c) (i * size) cur, rfl, hb, heap_setCells _ _ _ _ hg, h1, h2, by rw [hlen]; exact h3, ?_⟩⟩
    have hL : (cur.toList.take (i * size) ++ enc c).length = i * size + size := by
      rw [List.length_append, List.length_take, hsz, Array.length_toList]; omega
    rw [hsp, ← e2, List.take_append, List.take_of_length_le (by rw [hL]; omega : (cur.toList.take (i * size) ++ enc c).length ≤ xs.length * size), hL, List.take_take, List.drop_take, hsz, show min (i * size) (xs.length * size) = i * size from by omega]

theorem Own.there {α : Type} {enc : α → List Value} {size : Nat} {e : TypeId} {base : Nat} {w : World} {g cap : Nat} {xs : List α} (h : Own enc size e base w (.slice (some ⟨g, 0, none⟩) xs.length cap) xs) {i : Nat} (hi : i < xs.length) : w.there g (i * size) size := by
  obtain ⟨hl, hr⟩ := h
  rcases hr with ⟨hn, -⟩ | ⟨g', cap', cur, hv, hb, hg, h1, h2, h3, h4⟩
  · cases hn
  · cases hv
    intro j hj
    have hm1 : (i + 1) * size ≤ xs.length * size := Nat.mul_le_mul_right _ hi
    have hm2 : xs.length * size ≤ cap * size := Nat.mul_le_mul_right _ h1
    rw [Nat.succ_mul] at hm1
    have hlt : i * size + j < cur.size := by rw [h3]; omega
    exact ⟨by simp [World.cell?, hg, hlt], by simp [World.frozen?, hg]⟩

theorem wpList_storeOwn {P : Program} {α : Type} {enc : α → List Value} {size : Nat} {ops : Array Oper} {rest : List Oper} {op : Oper} {a : Act} {w : World} {Q : Exit → Act → World → Prop} (hgd : op.guard = none) (ty : TypeId) (x y : Operand) (ho : op.op = .store ty x y)
    (g o : Nat) (hx : a.eval x = .pointer (some ⟨g, o, none⟩)) (c : α) (v : Value) (hy : a.eval y = v) (hv : v.cells.toList = enc c)
    (hsz : ∀ x, (enc x).length = size) {e : TypeId} {base cap : Nat} {xs : List α} (h : Own enc size e base w (.slice (some ⟨g, 0, none⟩) xs.length cap) xs) (i : Nat) (hi : i < xs.length) (hoff : o = i * size)
    (hif : (P.info? ty).map (·.size) = some size) (h1 : ∀ v ∈ enc c, v.oneCell' = true)
    (hk : ∀ w', Own enc size e base w' (.slice (some ⟨g, 0, none⟩) xs.length cap) (xs.set i c) → Keep (· = g) w w' → w'.heap.size = w.heap.size → wpList P ops Q rest (a.put op.dst undef) w') : wpList P ops Q (op :: rest) a w := by
  subst hoff
  have hvs : v.cells.size = size := by rw [← hsz c, ← hv]; simp
  have hrun := run_storeVar_any (P := P) w g (i * size) ty v (by rw [hvs]; exact h.there hi) (by rw [hvs]; exact hif) (by rw [hv]; exact h1)
  refine wpList_plain hgd fun K hK => ?_
  unfold Oper.wp execOp
  simp only [ho, hx, hy, Instr.storeAt, Instr.sureAddr, Sem.run_bind, Sem.run_pure, Result.andThen_ok, hrun]
  rw [hv]
  exact hK _ _ (hk _ (h.setEl hsz hi c) (Keep.setCells (S := (· = g)) (.inl rfl) _ _ (Keep.refl _ _)) (size_setCells _ _ _ _))

end Go.Proofs.Ytpdnfekhfagfkaa
