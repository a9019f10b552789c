/-
  Regions that draw their order: calls, and operations on values of which only a fact is known. No program in sight.
-/
import Derived.Test.YtpdnfekhfagfkaaRegAny
namespace Go.Proofs.Ytpdnfekhfagfkaa
open Go.RowKit

variable {P : Program} {ops : Array Oper} {Q : Exit → Act → World → Prop} {L : List (World → Value → Prop)} {Inv : World → Prop} {R : World → World → Prop} {a0 : Act} {i k : Nat} {o : Oper}

/-- A call with arguments that are known. -/
theorem sv_call (us : List (Nat × Value)) (hd : ∀ p ∈ us, VDep k ops L a0 o p.1 p.2) (hg : o.guard = none) (F : FuncId) (args : Array Value) (hx : ∀ (a : Act) (w : World), (∀ p ∈ us, (a.tmps[p.1]?).getD undef = p.2) → (execOp a.eval o).run P w = .ok (.enter F args) w)
    (hc : ∀ w, Inv w → Calls P F args w fun e w' => ∃ u, e = .returned u ∧ Inv w' ∧ R w w' ∧ KV L i w' u) : VStep k P ops Q L Inv R a0 i o := by
  intro a w K hI hV hF hK
  rw [if_pos (by simp [Region.wanted, hg])]
  unfold Oper.wp
  rw [hx a w (fun p hp => (eval_tmp _ _).symm.trans (hd p hp a w hV hF))]
  simp only [Oper.upon_enter]
  refine (hc w hI).mono ?_
  rintro e w' ⟨u, rfl, h2, h3, h4⟩
  exact hK _ _ h2 h3 h4

/-- An operation on one value of which a fact is known. -/
theorem sv_pass (j t : Nat) (he : o.after.toList.any (fun e => e.on == j && Region.binds .any e) = true) (hj : (ops[j]?.bind (·.dst)) = some t) (hg : o.guard = none)
    (hx : ∀ (a : Act) (w : World) (v : Value), KV L j w v → (a.tmps[t]?).getD undef = v → Inv w → ∃ u, (execOp a.eval o).run P w = .ok (.value u) w ∧ KV L i w u)
    (hR : ∀ w, R w w) : VStep k P ops Q L Inv R a0 i o := by
  intro a w K hI hV hF hK
  rw [if_pos (by simp [Region.wanted, hg])]
  have h := vtells hV j t he hj
  obtain ⟨u, hu, hk⟩ := hx a w _ h (eval_tmp _ _).symm hI
  unfold Oper.wp
  rw [hu]
  simp only [Oper.upon_value]
  exact hK _ _ hI (hR _) hk

/-- The load of a struct out of cells that stay. -/
theorem sv_load {t : Nat} (ty : TypeId) (b off : Nat) (cs : List Value) (ho : o.op = .load ty (.tmp t)) (dp : VDep k ops L a0 o t (.pointer (some ⟨b, off, none⟩))) (hg : o.guard = none) (hc : ∀ w, Inv w → w.rangeAt b off cs) (d : TypeDesc) (hu : P.underlying ty = some d) (hd : d.isRow = true)
    (size : Nat) (hi : (P.info? ty).map (·.size) = some size) (hl : cs.length = size) (hR : ∀ w, R w w) (hk : ∀ w, KV L i w (.agg cs.toArray)) : VStep k P ops Q L Inv R a0 i o := by
  subst hl
  intro a w K hI hV hF hK
  rw [if_pos (by simp [Region.wanted, hg])]
  have hx := dp a w hV hF
  have hrun := run_loadVar_mid (P := P) w b off ty cs d (hc w hI) hu hd hi
  unfold Oper.wp execOp
  simp only [ho, hx, Instr.loadAt, Instr.sureAddr, Sem.run_bind, Sem.run_pure, Result.andThen_ok, hrun]
  exact hK _ _ hI (hR _) (hk _)

end Go.Proofs.Ytpdnfekhfagfkaa
