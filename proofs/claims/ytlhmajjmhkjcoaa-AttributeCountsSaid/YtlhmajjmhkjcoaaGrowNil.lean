/-
  'append(nil, make([]T, n)...)': room for n elements.
-/
import Derived.Test.YtlhmajjmhkjcoaaRows2
namespace Go.Proofs.Ytlhmajjmhkjcoaa
open Go.RowKit

section
variable {P : Program} {w : World}

theorem run_append_make_nil (t tx ty e : TypeId) (k : IntKind) (i : TypeInfo) (z : Value) (ht : P.underlying t = some (.slice e)) (hx : P.underlying tx = some (.int k)) (hi : P.info? e = some i) (hz : i.zero = some z)
    (n : Nat) (hpos : 0 < n * i.size) (hsmall : n ≤ 1000000) (hb : i.bytes ≤ 10000) (hfit : Builtin.nextslicecap n 0 * i.bytes ≤ 281474976710656) :
    (Builtin.append_ #[t, tx] ty #[.slice none 0 0, .int .i64 (n : Int)]).run P w =
      .ok (.slice (some ⟨w.heap.size, 0, none⟩) n (grownCap w n 0 e))
        (w.drew.alloc (.cells (Builtin.zeroCells z.cells n ++ Builtin.zeroCells z.cells (grownCap w n 0 e - n)) e)) := by
  have h63' : ¬ (9223372036854775807 < (n : Int)) := by omega
  have h48' : ¬ (281474976710656 < Builtin.nextslicecap n 0 * i.bytes) := by omega
  have hw : IntKind.i64.wrap (n : Int) = n := IntWalk.i64_in _ (by omega)
  have hneg : ¬ ((n : Int) < 0) := by omega
  have hnb : n * i.bytes ≤ 1000000 * 10000 := Nat.mul_le_mul (by omega) hb
  generalize hM : n * i.bytes = M at *
  have hbig : ¬ ((281474976710656 : Int) < (n : Int) * (i.bytes : Int)) := by
    rw [← Int.natCast_mul, hM]
    omega
  have hz1 : n ≠ 0 := by rintro rfl; rw [Nat.zero_mul] at hpos; omega
  have hz2 : i.size ≠ 0 := by intro h; rw [h, Nat.mul_zero] at hpos; omega
  simp [Builtin.append_, run_underlying ht, run_underlying hx, sizeOf, typeInfo, zeroValue, hi, hz, asInt, asIntOf, hw, hneg, hbig, hz1, hz2, h63', h48', Question.forced, newRow, grownCap, Builtin.firstCells]
  intro h0
  omega

end

/-- The same, as an operation: what comes out, cut to nothing, is owned. -/
theorem wpList_growNil {P : Program} {w : World} {ops : Array Oper} {rest : List Oper} {o : Oper} {a : Act} {Q : Exit → Act → World → Prop} (hgd : o.guard = none) (s x : Operand) (t tx e : TypeId)
    (ho : o.op = .call { callee := .builtin .append, args := #[s, x], argTypes := #[t, tx] }) (k : IntKind) (i : TypeInfo) (z : Value) (size : Nat) (ht : P.underlying t = some (.slice e)) (hx : P.underlying tx = some (.int k)) (hi : P.info? e = some i) (hz : i.zero = some z)
    (hsize : i.size = size) (hzs : z.cells.size = size) (hs : a.eval s = .slice none 0 0) (n : Nat) (N : Int) (hxv : a.eval x = .int .i64 N) (hN : N = (n : Int))
    (hpos : 0 < n) (hpos2 : 0 < size) (hsmall : n ≤ 1000000) (hb : i.bytes ≤ 10000)
    (h : ∀ (c : Nat) (w' : World), w'.ownsRow w.heap.size e size (.slice (some ⟨w.heap.size, 0, none⟩) 0 c) 0 [] → n ≤ c → Keep None w w' → w'.heap.size = w.heap.size + 1 → wpList P ops Q rest (a.put o.dst (.slice (some ⟨w.heap.size, 0, none⟩) n c)) w') : wpList P ops Q (o :: rest) a w := by
  subst hN
  subst hsize
  have hfit : Builtin.nextslicecap n 0 * i.bytes ≤ 281474976710656 := growslice_fits (by omega) (by
    have : n * i.bytes ≤ 1000000 * 10000 := Nat.mul_le_mul hsmall hb
    omega)
  have hrun := run_append_make_nil (P := P) (w := w) t tx o.type e k i z ht hx hi hz n (Nat.mul_pos hpos hpos2) hsmall hb hfit
  refine wpList_plain hgd fun K hK => ?_
  unfold Oper.wp execOp
  simp only [ho, resolve, invoke, builtin, Sem.run_bind, Sem.run_pure, Result.andThen_ok, List.map_toArray, List.map_cons, List.map_nil, hs, hxv, hrun]
  have hge := grownCap_ge w n 0 e
  have hcm : grownCap w n 0 e ≤ maxLen := grownCap_le_maxLen w n 0 e (by unfold maxLen; omega)
  refine hK _ _ (h _ _ ⟨by simp, .inr ⟨w.heap.size, _, _, rfl, Nat.le_refl _, heap_alloc_new w.drew _, by omega, hcm, ?_, by simp⟩⟩ hge ((Keep.refl None w).drew.alloc _) (by simp))
  simp only [Array.size_append, size_zeroCells, hzs, ← Nat.add_mul]
  congr 1
  omega

end Go.Proofs.Ytlhmajjmhkjcoaa
