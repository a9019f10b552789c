/-
  Regions that draw their order: any relation between worlds, any fact about each value; a tail in its own order. No program in sight.
-/
import Derived.Test.YtpdnfekhfagfkaaRegTail
namespace Go.Proofs.Ytpdnfekhfagfkaa
open Go.RowKit

def KV (L : List (World → Value → Prop)) (i : Nat) (w : World) (v : Value) : Prop := (L.getD i (fun _ _ => True)) w v
/-- The value itself. -/
def isV (u : Value) : World → Value → Prop := fun _ v => v = u

abbrev VStep (k : Nat) (P : Program) (ops : Array Oper) (Q : Exit → Act → World → Prop) (L : List (World → Value → Prop)) (Inv : World → Prop) (R : World → World → Prop) (a0 : Act) (i : Nat) (o : Oper) : Prop :=
  InvStepH k P ops Q (KV L) Inv R a0 i o

def VDep (k : Nat) (ops : Array Oper) (L : List (World → Value → Prop)) (a0 : Act) (o : Oper) (t : Nat) (u : Value) : Prop :=
  ∀ (a : Act) (w : World), (∀ e ∈ o.after, Region.binds .any e = true → ∀ oj, ops[e.on]? = some oj → KV L e.on w (valOf a oj)) →
    (∀ t, (∀ i o, i < k → ops[i]? = some o → o.dst ≠ some t) → a.eval (.tmp t) = a0.eval (.tmp t)) → a.eval (.tmp t) = u

variable {P : Program} {ops : Array Oper} {Q : Exit → Act → World → Prop} {L : List (World → Value → Prop)} {Inv : World → Prop} {R : World → World → Prop} {a0 : Act} {i k : Nat} {o : Oper}

theorem vdep_f {t : Nat} {u : Value} (ht : (ops.toList.take k).all (fun o => o.dst != some t) = true) (hv : a0.eval (.tmp t) = u) : VDep k ops L a0 o t u := by
  intro a w hV hF
  rw [hF t (fun j oj hj hoj => ?_), hv]
  have hjl : j < ops.toList.length := by have := (Array.getElem?_eq_some_iff.1 hoj).1; simpa using this
  have hm : oj ∈ ops.toList.take k := by
    rw [List.mem_take_iff_getElem]
    refine ⟨j, by omega, ?_⟩
    have h2 : ops.toList[j]? = some oj := by simpa using hoj
    rw [List.getElem?_eq_getElem hjl] at h2
    exact Option.some.inj h2
  have := List.all_eq_true.1 ht oj hm
  simpa using this

theorem vtells {a : Act} {w : World} (hV : ∀ e ∈ o.after, Region.binds .any e = true → ∀ oj, ops[e.on]? = some oj → KV L e.on w (valOf a oj)) (j t : Nat)
    (he : o.after.toList.any (fun e => e.on == j && Region.binds .any e) = true) (hj : (ops[j]?.bind (·.dst)) = some t) : KV L j w (a.eval (.tmp t)) := by
  obtain ⟨e, hm, h2⟩ := List.any_eq_true.1 he
  simp only [Bool.and_eq_true, beq_iff_eq] at h2
  obtain ⟨rfl, hb⟩ := h2
  cases hoj : ops[e.on]? with
  | none => simp [hoj] at hj
  | some oj =>
    have := hV e (by simpa using hm) hb oj hoj
    simp [hoj] at hj
    have h3 : valOf a oj = a.eval (.tmp t) := by simp [valOf, hj]
    rw [h3] at this
    exact this
theorem vdep_e (j : Nat) {t : Nat} {u : Value} (he : o.after.toList.any (fun e => e.on == j && Region.binds .any e) = true) (hj : (ops[j]?.bind (·.dst)) = some t) (hkj : ∀ w v, KV L j w v → v = u) : VDep k ops L a0 o t u :=
  fun _ w hV _ => hkj w _ (vtells hV j t he hj)

/-- An operation that reads slots and no memory, or memory that stays. -/
theorem sv_ev (us : List (Nat × Value)) (hd : ∀ p ∈ us, VDep k ops L a0 o p.1 p.2) (hg : o.guard = none) (v : Value) (hx : ∀ (a : Act) (w : World), (∀ p ∈ us, (a.tmps[p.1]?).getD undef = p.2) → Inv w → (execOp a.eval o).run P w = .ok (.value v) w)
    (hR : ∀ w, R w w) (hk : ∀ w, KV L i w v) : VStep k P ops Q L Inv R a0 i o := by
  intro a w K hI hV hF hK
  rw [if_pos (by simp [Region.wanted, hg])]
  unfold Oper.wp
  rw [hx a w (fun p hp => (eval_tmp _ _).symm.trans (hd p hp a w hV hF)) hI]
  simp only [Oper.upon_value]
  exact hK _ _ hI (hR _) (hk _)

/-- The region: a head in any order, a tail in its own. -/
theorem region_anyV {id : Nat} {a : Act} {w : World} (L : List (World → Value → Prop)) (Inv : World → Prop) (R : World → World → Prop) (n k : Nat)
    (hm : P.follows .mixedOrders = true) (hk : k ≤ ops.size) (hB : invGB n ops = true) (hW : waitB k ops = true) (hS : Region.seqB .any ops (ops.size - k) k (headDone k ops.size) = true) (hn : a.tmps.size = n)
    (hmono : ∀ i w w' v, KV L i w v → R w w' → KV L i w' v) (hnone : (ops.toList.take k).all (fun o => o.dst.isSome) = true) (hnone' : ∀ i w o, ops[i]? = some o → k ≤ i → KV L i w undef) (h0 : Inv w.drew)
    (hstep : StepsFrom (VStep k P ops Q L Inv R a) 0 (ops.toList.take k))
    (hdone : ∀ f w', (∀ i o d, i < k → ops[i]? = some o → o.dst = some d → KV L i w' (f d)) → Inv w' → wpList P ops Q (ops.toList.drop k) (putsOf f a (ops.toList.take k)) w') :
    (Code.region id ops true).wp P Q a w := by
  refine region_invH_tail (KV L) Inv R n k hm hk hB hW hS hn hmono ?_ h0 ?_ ?_
  · intro i w o ho hd
    by_cases hik : i < k
    · have hil : i < ops.toList.length := by have := (Array.getElem?_eq_some_iff.1 ho).1; simpa using this
      have hmem : o ∈ ops.toList.take k := by
        rw [List.mem_take_iff_getElem]
        refine ⟨i, by omega, ?_⟩
        have : ops.toList[i]? = some o := by simpa using ho
        rw [List.getElem?_eq_getElem hil] at this
        exact Option.some.inj this
      have := List.all_eq_true.1 hnone o hmem
      simp [hd] at this
    · exact hnone' i w o ho (by omega)
  · intro i o hi ho
    have := StepsFrom.get _ 0 hstep i o (by rw [List.getElem?_take, if_pos hi]; simpa using ho)
    simpa using this
  · intro a' w' h1 h2 h3 h4 h5
    have h3' : ∀ t, (∀ o ∈ (ops.toList.take k).toArray, o.dst ≠ some t) → a'.eval (.tmp t) = a.eval (.tmp t) := by
      intro t ht
      refine h3 t fun i o hi ho => ht o ?_
      simp only [List.mem_toArray]
      rw [List.mem_take_iff_getElem]
      have hil : i < ops.toList.length := by have := (Array.getElem?_eq_some_iff.1 ho).1; simpa using this
      refine ⟨i, by omega, ?_⟩
      have : ops.toList[i]? = some o := by simpa using ho
      rw [List.getElem?_eq_getElem hil] at this
      exact Option.some.inj this
    have := frame_behind (ops := (ops.toList.take k).toArray) hn h1 h2 h3'
    simp only at this
    rw [this]
    refine hdone _ w' (fun i o d hi ho hd => ?_) h5
    have := h4 i o hi ho (by simp [hd])
    simpa [valOf, hd] using this

end Go.Proofs.Ytpdnfekhfagfkaa
