/-
  Small laws of no one function, for the seats behind the first ones.
-/
import Derived.Test.YtpdnfekhfagfkaaBaseTwo
import Derived.Test.YtpdnfekhfagfkaaNums
import Derived.Test.YtpdnfekhfagfkaaRegDep
import Derived.Deep.DeepCutAuto
import Derived.Deep.CutBlock
namespace Go.Proofs.Ytpdnfekhfagfkaa
open Go.RowKit

theorem results_obj_tmp {P : Program} {fn : Func} {t u : Tmp} {ty : TypeId} {tmps : Array Value} {w : World} {g : Nat} (h : fn.results = #[.cell t ty, .tmp u]) (ht : tmps.getD t undef = .pointer (some ⟨g, 0, none⟩)) (cs : List Value) (d : TypeDesc) (hc : w.rangeAt g 0 cs)
    (hu : P.underlying ty = some d) (hd : d.isRow = true) (size : Nat) (hi : (P.info? ty).map (·.size) = some size) (hcl : cs.length = size) : (results fn tmps).run P w = .ok (.tuple #[.agg cs.toArray, tmps.getD u undef]) w := by
  subst hcl
  have hl := run_loadVar_mid (P := P) w g 0 ty cs d hc hu hd hi
  have ht' : tmps[t]?.getD undef = .pointer (some ⟨g, 0, none⟩) := by simpa using ht
  simp [results, h, asAddr, ht', hl]

/-- The load of a struct, behind a guard that says yes. -/
theorem wpList_loadElG {P : Program} {α : Type} {enc : α → List Value} {size : Nat} {ops : Array Oper} {rest : List Oper} {op : Oper} {a : Act} {w : World} {Q : Exit → Act → World → Prop} (hgd : Region.wanted op (yielded ops a.tmps) = true) (ty : TypeId) (x : Operand) (ho : op.op = .load ty x)
    (b o : Nat) (hx : a.eval x = .pointer (some ⟨b, o, none⟩)) (y : α) (d : TypeDesc) (hc : w.rangeAt b o (enc y)) (hl : (enc y).length = size)
    (hu : P.underlying ty = some d) (hd : d.isRow = true) (hi : (P.info? ty).map (·.size) = some size) (v : Value) (hv : v = .agg (enc y).toArray)
    (h : wpList P ops Q rest (a.put op.dst v) w) : wpList P ops Q (op :: rest) a w := by
  subst hv
  have hrun := run_loadVar_mid (P := P) w b o ty (enc y) d hc hu hd (by rw [hl]; exact hi)
  refine BigFrame.wpList_want hgd fun K hK => ?_
  unfold Oper.wp execOp
  simp only [ho, hx, Instr.loadAt, Instr.sureAddr, Sem.run_bind, Sem.run_pure, Result.andThen_ok, hrun]
  exact hK _ _ h

/-- Block b is a row of cells of type e. -/
def Typed (w : World) (e : TypeId) (b : Nat) : Prop := ∃ C fr, w.heap[b]? = some (.cells C e fr)

theorem Typed.ne {w : World} {e e' : TypeId} {b b' : Nat} (h : Typed w e b) (h' : Typed w e' b') (he : e ≠ e') : b ≠ b' := by
  rintro rfl
  obtain ⟨C, fr, h⟩ := h
  obtain ⟨C', fr', h'⟩ := h'
  rw [h] at h'
  cases h'
  exact he rfl

theorem Typed.lt {w : World} {e : TypeId} {b : Nat} (h : Typed w e b) : b < w.heap.size := by
  obtain ⟨_, _, h⟩ := h
  exact heap_lt h

theorem Own.typed {α : Type} {enc : α → List Value} {size : Nat} {e : TypeId} {base : Nat} {w : World} {v : Value} {xs : List α} (h : Own enc size e base w v xs) {g : Nat} (hg : v.ownBlock = some g) : Typed w e g := by
  rcases h.2 with ⟨rfl, _⟩ | ⟨g', c, cur, rfl, hb, hh, _⟩
  · simp [Value.ownBlock] at hg
  · simp [Value.ownBlock] at hg
    subst hg
    exact ⟨_, _, hh⟩

theorem heap_setCell' {w : World} {g j : Nat} {C : Array Value} {e : TypeId} {fr : Nat × Nat} {v : Value} (h : w.heap[g]? = some (.cells C e fr)) : (w.setCell ⟨g, j, none⟩ v).heap[g]? = some (.cells (C.setIfInBounds j v) e fr) := by
  simp [World.setCell, Array.getElem?_modify, h]

theorem typed_of {w : World} {g : Nat} {C : Array Value} {e : TypeId} {fr : Nat × Nat} (h : w.heap[g]? = some (.cells C e fr)) : Typed w e g := ⟨C, fr, h⟩
theorem Typed.keep {w w' : World} {e : TypeId} {b : Nat} {S : Nat → Prop} (h : Typed w e b) (k : Keep S w w') (hb : ¬ S b) : Typed w' e b := by
  obtain ⟨C, fr, h⟩ := h
  exact ⟨C, fr, k.obj h hb⟩

end Go.Proofs.Ytpdnfekhfagfkaa
