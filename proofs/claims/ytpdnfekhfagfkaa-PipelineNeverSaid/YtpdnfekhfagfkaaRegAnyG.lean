/-
  Regions that draw their order: guards, stores in the head. No program in sight.
-/
import Derived.Test.YtpdnfekhfagfkaaRegAnyC
namespace Go.Proofs.Ytpdnfekhfagfkaa
open Go.RowKit

variable {P : Program} {ops : Array Oper} {Q : Exit → Act → World → Prop} {L : List (World → Value → Prop)} {Inv : World → Prop} {R : World → World → Prop} {a0 : Act} {i k : Nat} {o : Oper}

/-- What an operation knows of those ahead of it. -/
abbrev VKnows (ops : Array Oper) (L : List (World → Value → Prop)) (o : Oper) (a : Act) (w : World) : Prop :=
  ∀ e ∈ o.after, Region.binds .any e = true → ∀ oj, ops[e.on]? = some oj → KV L e.on w (valOf a oj)
def VWant (ops : Array Oper) (L : List (World → Value → Prop)) (o : Oper) : Prop := ∀ (a : Act) (w : World), VKnows ops L o a w → Region.wanted o (yielded ops a.tmps) = true
theorem vw_free (hg : o.guard = none) : VWant ops L o := fun _ _ _ => by simp [Region.wanted, hg]
theorem vw_on (j t : Nat) (b : Bool) (hg : o.guard = some (j, b)) (he : o.after.toList.any (fun e => e.on == j && Region.binds .any e) = true) (hj : (ops[j]?.bind (·.dst)) = some t) (hkj : ∀ w v, KV L j w v → v = .bool b) : VWant ops L o := fun a w hV => by
  have h1 := hkj w _ (vtells hV j t he hj)
  have h2 := yielded_of (ops := ops) hj h1
  simp [Region.wanted, hg, h2]

theorem sv_evW (hq : VWant ops L o) (us : List (Nat × Value)) (hd : ∀ p ∈ us, VDep k ops L a0 o p.1 p.2) (v : Value) (hx : ∀ (a : Act) (w : World), (∀ p ∈ us, (a.tmps[p.1]?).getD undef = p.2) → Inv w → (execOp a.eval o).run P w = .ok (.value v) w)
    (hR : ∀ w, R w w) (hk : ∀ w, KV L i w v) : VStep k P ops Q L Inv R a0 i o := by
  intro a w K hI hV hF hK
  rw [if_pos (hq a w hV)]
  unfold Oper.wp
  rw [hx a w (fun p hp => (eval_tmp _ _).symm.trans (hd p hp a w hV hF)) hI]
  simp only [Oper.upon_value]
  exact hK _ _ hI (hR _) (hk _)
theorem sv_callW (hq : VWant ops L o) (us : List (Nat × Value)) (hd : ∀ p ∈ us, VDep k ops L a0 o p.1 p.2) (F : FuncId) (args : Array Value) (hx : ∀ (a : Act) (w : World), (∀ p ∈ us, (a.tmps[p.1]?).getD undef = p.2) → (execOp a.eval o).run P w = .ok (.enter F args) w)
    (hc : ∀ w, Inv w → Calls P F args w fun e w' => ∃ u, e = .returned u ∧ Inv w' ∧ R w w' ∧ KV L i w' u) : VStep k P ops Q L Inv R a0 i o := by
  intro a w K hI hV hF hK
  rw [if_pos (hq a w hV)]
  unfold Oper.wp
  rw [hx a w (fun p hp => (eval_tmp _ _).symm.trans (hd p hp a w hV hF))]
  simp only [Oper.upon_enter]
  refine (hc w hI).mono ?_
  rintro e w' ⟨u, rfl, h2, h3, h4⟩
  exact hK _ _ h2 h3 h4
theorem sv_passW (hq : VWant ops L o) (j t : Nat) (he : o.after.toList.any (fun e => e.on == j && Region.binds .any e) = true) (hj : (ops[j]?.bind (·.dst)) = some t)
    (hx : ∀ (a : Act) (w : World) (v : Value), KV L j w v → (a.tmps[t]?).getD undef = v → Inv w → ∃ u, (execOp a.eval o).run P w = .ok (.value u) w ∧ KV L i w u)
    (hR : ∀ w, R w w) : VStep k P ops Q L Inv R a0 i o := by
  intro a w K hI hV hF hK
  rw [if_pos (hq a w hV)]
  have h := vtells hV j t he hj
  obtain ⟨u, hu, hk⟩ := hx a w _ h (eval_tmp _ _).symm hI
  unfold Oper.wp
  rw [hu]
  simp only [Oper.upon_value]
  exact hK _ _ hI (hR _) hk
/-- An operation on two values of which facts are known. -/
theorem sv_pass2W (hq : VWant ops L o) (j t j' t' : Nat) (he : o.after.toList.any (fun e => e.on == j && Region.binds .any e) = true) (hj : (ops[j]?.bind (·.dst)) = some t) (he' : o.after.toList.any (fun e => e.on == j' && Region.binds .any e) = true) (hj' : (ops[j']?.bind (·.dst)) = some t')
    (hx : ∀ (a : Act) (w : World) (v v' : Value), KV L j w v → KV L j' w v' → (a.tmps[t]?).getD undef = v → (a.tmps[t']?).getD undef = v' → Inv w → ∃ u, (execOp a.eval o).run P w = .ok (.value u) w ∧ KV L i w u)
    (hR : ∀ w, R w w) : VStep k P ops Q L Inv R a0 i o := by
  intro a w K hI hV hF hK
  rw [if_pos (hq a w hV)]
  obtain ⟨u, hu, hk⟩ := hx a w _ _ (vtells hV j t he hj) (vtells hV j' t' he' hj') (eval_tmp _ _).symm (eval_tmp _ _).symm hI
  unfold Oper.wp
  rw [hu]
  simp only [Oper.upon_value]
  exact hK _ _ hI (hR _) hk
theorem sv_loadW (hq : VWant ops L o) {t : Nat} (ty : TypeId) (b off : Nat) (cs : List Value) (ho : o.op = .load ty (.tmp t)) (dp : VDep k ops L a0 o t (.pointer (some ⟨b, off, none⟩))) (hc : ∀ w, Inv w → w.rangeAt b off cs) (d : TypeDesc) (hu : P.underlying ty = some d) (hd : d.isRow = true)
    (size : Nat) (hi : (P.info? ty).map (·.size) = some size) (hl : cs.length = size) (hR : ∀ w, R w w) (hk : ∀ w, KV L i w (.agg cs.toArray)) : VStep k P ops Q L Inv R a0 i o := by
  subst hl
  intro a w K hI hV hF hK
  rw [if_pos (hq a w hV)]
  have hx := dp a w hV hF
  have hrun := run_loadVar_mid (P := P) w b off ty cs d (hc w hI) hu hd hi
  unfold Oper.wp execOp
  simp only [ho, hx, Instr.loadAt, Instr.sureAddr, Sem.run_bind, Sem.run_pure, Result.andThen_ok, hrun]
  exact hK _ _ hI (hR _) (hk _)

/-- A store of a number. -/
theorem sv_store (hq : VWant ops L o) (j l t u ty : Nat) (ad : Addr) (ho : o.op = .store ty (.tmp t) (.tmp u)) (he : o.after.toList.any (fun e => e.on == j && Region.binds .any e) = true) (hj : (ops[j]?.bind (·.dst)) = some t)
    (he' : o.after.toList.any (fun e => e.on == l && Region.binds .any e) = true) (hj' : (ops[l]?.bind (·.dst)) = some u) (hkj : ∀ w v, KV L j w v → v = .pointer (some ad))
    (hst : ∀ w v, Inv w → KV L l w v → ∃ n, v = .int .i64 n ∧ (Instr.storeAt ty (.pointer (some ad)) (.int .i64 n)).run P w = .ok () (w.setCell ad (.int .i64 n)) ∧ Inv (w.setCell ad (.int .i64 n)) ∧ R w (w.setCell ad (.int .i64 n)) ∧ KV L i (w.setCell ad (.int .i64 n)) undef) : VStep k P ops Q L Inv R a0 i o := by
  intro a w K hI hV hF hK
  rw [if_pos (hq a w hV)]
  have h1 : a.eval (.tmp t) = .pointer (some ad) := hkj w _ (vtells hV j t he hj)
  obtain ⟨n, h2, q1, q2, q3, q4⟩ := hst w _ hI (vtells hV l u he' hj')
  unfold Oper.wp execOp
  simp only [ho, h1, h2, Sem.run_bind, q1, Result.andThen_ok, Sem.run_pure, Oper.upon_skip]
  exact hK _ _ q2 q3 q4

/-- The region: a head in any order, stores too, a tail in its own. -/
theorem region_anyS {id : Nat} {a : Act} {w : World} (L : List (World → Value → Prop)) (Inv : World → Prop) (R : World → World → Prop) (n k : Nat)
    (hm : P.follows .mixedOrders = true) (hk : k ≤ ops.size) (hB : invGB n ops = true) (hW : waitB k ops = true) (hS : Region.seqB .any ops (ops.size - k) k (headDone k ops.size) = true) (hn : a.tmps.size = n)
    (hmono : ∀ i w w' v, KV L i w v → R w w' → KV L i w' v) (hnone : ∀ i w o, ops[i]? = some o → o.dst = none → KV L i w undef) (h0 : Inv w.drew)
    (hstep : StepsFrom (VStep k P ops Q L Inv R a) 0 (ops.toList.take k))
    (hdone : ∀ f w', (∀ i o d, i < k → ops[i]? = some o → o.dst = some d → KV L i w' (f d)) → Inv w' → wpList P ops Q (ops.toList.drop k) (putsOf f a (ops.toList.take k)) w') :
    (Code.region id ops true).wp P Q a w := by
  refine region_invH_tail (KV L) Inv R n k hm hk hB hW hS hn hmono hnone h0 ?_ ?_
  · intro i o hi ho
    have := StepsFrom.get _ 0 hstep i o (by rw [List.getElem?_take, if_pos hi]; simpa using ho)
    simpa using this
  · intro a' w' h1 h2 h3 h4 h5
    have h3' : ∀ t, (∀ o ∈ (ops.toList.take k).toArray, o.dst ≠ some t) → a'.eval (.tmp t) = a.eval (.tmp t) := by
      intro t ht
      refine h3 t fun i o hi ho => ht o ?_
      simp only [List.mem_toArray]
      rw [List.mem_take_iff_getElem]
      have hil : i < ops.toList.length := by have := (Array.getElem?_eq_some_iff.1 ho).1; simpa using this
      refine ⟨i, by omega, ?_⟩
      have : ops.toList[i]? = some o := by simpa using ho
      rw [List.getElem?_eq_getElem hil] at this
      exact Option.some.inj this
    have := frame_behind (ops := (ops.toList.take k).toArray) hn h1 h2 h3'
    simp only at this
    rw [this]
    refine hdone _ w' (fun i o d hi ho hd => ?_) h5
    have := h4 i o hi ho (by simp [hd])
    simpa [valOf, hd] using this

end Go.Proofs.Ytpdnfekhfagfkaa
