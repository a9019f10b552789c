/-
  Regions that draw their order, by kinds, over any reflexive relation between worlds. Written by gen-regr.py. No program in sight.
-/
import Derived.Test.YtgelfefoiplekaaDoorRegDep
namespace Go.Proofs.YtgelfefoiplekaaDoor.RR
open Go.RowKit Go.Proofs.YtgelfefoiplekaaDoor

inductive VK (R : World → World → Prop) where
  | is (v : Value)
  | any
  | sat (f : World → Value → Prop) (hf : ∀ w w' v, R w w' → f w v → f w' v)

def VK.holds {R : World → World → Prop} (w : World) (v : Value) : VK R → Prop
  | .is u => v = u
  | .any => True
  | .sat f _ => f w v

theorem VK.keep {R : World → World → Prop} {w w' : World} (hk : R w w') {v : Value} : ∀ {k : VK R}, k.holds w v → k.holds w' v
  | .is _, h => h
  | .any, h => h
  | .sat _ hf, h => hf _ _ _ hk h

def kindOf {R : World → World → Prop} (ks : List (VK R)) (i : Nat) : VK R := ks.getD i .any
def Kinds {R : World → World → Prop} (ks : List (VK R)) (i : Nat) (w : World) (v : Value) : Prop := (kindOf ks i).holds w v

variable {P : Program} {ops : Array Oper} {Q : Exit → Act → World → Prop} {R : World → World → Prop} {ks : List (VK R)} {Inv : World → Prop} {a0 : Act} {i : Nat} {o : Oper}

abbrev KStep (P : Program) (ops : Array Oper) (Q : Exit → Act → World → Prop) (ks : List (VK R)) (Inv : World → Prop) (a0 : Act) (i : Nat) (o : Oper) : Prop :=
  InvStep P ops Q (Kinds ks) Inv R a0 i o
abbrev KStepG (P : Program) (ops : Array Oper) (Q : Exit → Act → World → Prop) (ks : List (VK R)) (Inv : World → Prop) (a0 : Act) (i : Nat) (o : Oper) : Prop :=
  InvStepG P ops Q (Kinds ks) Inv R a0 i o

theorem tells {a : Act} {w : World} (hV : ∀ e ∈ o.after, Region.binds .any e = true → ∀ oj, ops[e.on]? = some oj → Kinds ks e.on w (valOf a oj)) (j t : Nat)
    (he : o.after.toList.any (fun e => e.on == j && Region.binds .any e) = true) (hj : (ops[j]?.bind (·.dst)) = some t) : (kindOf ks j).holds w (a.eval (.tmp t)) := by
  obtain ⟨e, hm, h2⟩ := List.any_eq_true.1 he
  simp only [Bool.and_eq_true, beq_iff_eq] at h2
  obtain ⟨rfl, hb⟩ := h2
  cases hoj : ops[e.on]? with
  | none => simp [hoj] at hj
  | some oj =>
    have := hV e (by simpa using hm) hb oj hoj
    simp [hoj] at hj
    have h3 : valOf a oj = a.eval (.tmp t) := by simp [valOf, hj]
    rw [h3] at this
    exact this


theorem stays {a : Act} (hF : ∀ t, (∀ o ∈ ops, o.dst ≠ some t) → a.eval (.tmp t) = a0.eval (.tmp t)) (t : Nat) (h : ops.toList.all (fun o => o.dst != some t) = true) : a.eval (.tmp t) = a0.eval (.tmp t) :=
  hF t fun o ho => by have := List.all_eq_true.1 h o (by simpa using ho); simpa using this


theorem st_free (hg : o.guard = none) (h : KStep P ops Q ks Inv a0 i o) : KStepG P ops Q ks Inv a0 i o := by
  intro a w K hI hV hF hK
  rw [if_pos (by simp [Region.wanted, hg])]
  exact h a w K hI hV hF hK


theorem st_on (j t : Nat) (b : Bool) (hg : o.guard = some (j, b)) (he : o.after.toList.any (fun e => e.on == j && Region.binds .any e) = true) (hj : (ops[j]?.bind (·.dst)) = some t)
    (hkj : kindOf ks j = .is (.bool b)) (h : KStep P ops Q ks Inv a0 i o) : KStepG P ops Q ks Inv a0 i o := by
  intro a w K hI hV hF hK
  have h1 := tells hV j t he hj
  rw [hkj] at h1
  have h2 := yielded_of (ops := ops) hj (show a.eval (.tmp t) = .bool b from h1)
  rw [if_pos (by simp [Region.wanted, hg, h2])]
  exact h a w K hI hV hF hK


theorem st_off (hR : ∀ w, R w w) (j t : Nat) (b b' : Bool) (hg : o.guard = some (j, b)) (he : o.after.toList.any (fun e => e.on == j && Region.binds .any e) = true) (hj : (ops[j]?.bind (·.dst)) = some t)
    (hkj : kindOf ks j = .is (.bool b')) (hne : b' ≠ b) (hk : kindOf ks i = .is undef) : KStepG P ops Q ks Inv a0 i o := by
  intro a w K hI hV hF hK
  have h1 := tells hV j t he hj
  rw [hkj] at h1
  have h2 := yielded_of (ops := ops) hj (show a.eval (.tmp t) = .bool b' from h1)
  rw [if_neg (by simp [Region.wanted, hg, h2, hne])]
  refine hK _ _ hI (hR _) ?_
  unfold Kinds
  rw [hk]
  rfl


/-- Slot t holds u when operation o runs, whatever the order is. -/
def Dep (ops : Array Oper) (ks : List (VK R)) (a0 : Act) (o : Oper) (t : Nat) (u : Value) : Prop :=
  ∀ (a : Act) (w : World), (∀ e ∈ o.after, Region.binds .any e = true → ∀ oj, ops[e.on]? = some oj → Kinds ks e.on w (valOf a oj)) →
    (∀ t, (∀ o ∈ ops, o.dst ≠ some t) → a.eval (.tmp t) = a0.eval (.tmp t)) → a.eval (.tmp t) = u

def DepS (ops : Array Oper) (ks : List (VK R)) (a0 : Act) (o : Oper) (t : Nat) (f : World → Value → Prop) : Prop :=
  ∀ (a : Act) (w : World), (∀ e ∈ o.after, Region.binds .any e = true → ∀ oj, ops[e.on]? = some oj → Kinds ks e.on w (valOf a oj)) →
    (∀ t, (∀ o ∈ ops, o.dst ≠ some t) → a.eval (.tmp t) = a0.eval (.tmp t)) → f w (a.eval (.tmp t))

theorem dep_e (j : Nat) {t : Nat} {u : Value} (he : o.after.toList.any (fun e => e.on == j && Region.binds .any e) = true) (hj : (ops[j]?.bind (·.dst)) = some t) (hkj : kindOf ks j = .is u) : Dep ops ks a0 o t u := by
  intro a w hV hF
  have h := tells hV j t he hj
  rw [hkj] at h
  exact h


theorem dep_f {t : Nat} {u : Value} (ht : ops.toList.all (fun o => o.dst != some t) = true) (hv : a0.eval (.tmp t) = u) : Dep ops ks a0 o t u := by
  intro a w hV hF
  rw [stays hF t ht, hv]


theorem dep_s (j : Nat) {t : Nat} {f : World → Value → Prop} {hf : ∀ w w' v, R w w' → f w v → f w' v} (he : o.after.toList.any (fun e => e.on == j && Region.binds .any e) = true) (hj : (ops[j]?.bind (·.dst)) = some t) (hkj : kindOf ks j = .sat f hf) : DepS ops ks a0 o t f := by
  intro a w hV hF
  have h := tells hV j t he hj
  rw [hkj] at h
  exact h


theorem st_ev0 (hR : ∀ w, R w w) (v : Value) (hx : ∀ (a : Act) (w : World), Inv w → (execOp a.eval o).run P w = .ok (.value v) w) (hk : kindOf ks i = .is v) : KStep P ops Q ks Inv a0 i o := by
  intro a w K hI hV hF hK
  unfold Oper.wp
  rw [hx a w hI]
  refine hK _ _ hI (hR _) ?_
  unfold Kinds
  rw [hk]
  rfl


theorem st_ev1 (hR : ∀ w, R w w) {t : Nat} {u : Value} (d : Dep ops ks a0 o t u) (v : Value) (hx : ∀ (a : Act) (w : World), (a.tmps[t]?).getD undef = u → Inv w → (execOp a.eval o).run P w = .ok (.value v) w) (hk : kindOf ks i = .is v) : KStep P ops Q ks Inv a0 i o := by
  intro a w K hI hV hF hK
  unfold Oper.wp
  rw [hx a w ((eval_tmp _ _).symm.trans (d a w hV hF)) hI]
  refine hK _ _ hI (hR _) ?_
  unfold Kinds
  rw [hk]
  rfl


theorem st_ev2 (hR : ∀ w, R w w) {t t' : Nat} {u u' : Value} (d : Dep ops ks a0 o t u) (d' : Dep ops ks a0 o t' u') (v : Value) (hx : ∀ (a : Act) (w : World), (a.tmps[t]?).getD undef = u → (a.tmps[t']?).getD undef = u' → Inv w → (execOp a.eval o).run P w = .ok (.value v) w) (hk : kindOf ks i = .is v) : KStep P ops Q ks Inv a0 i o := by
  intro a w K hI hV hF hK
  unfold Oper.wp
  rw [hx a w ((eval_tmp _ _).symm.trans (d a w hV hF)) ((eval_tmp _ _).symm.trans (d' a w hV hF)) hI]
  refine hK _ _ hI (hR _) ?_
  unfold Kinds
  rw [hk]
  rfl


theorem st_evS (hR : ∀ w, R w w) {t : Nat} {f : World → Value → Prop} (d : DepS ops ks a0 o t f) (hx : ∀ (a : Act) (w : World), f w ((a.tmps[t]?).getD undef) → Inv w → ∃ v, (execOp a.eval o).run P w = .ok (.value v) w ∧ (kindOf ks i).holds w v) : KStep P ops Q ks Inv a0 i o := by
  intro a w K hI hV hF hK
  obtain ⟨v, h1, h2⟩ := hx a w ((eval_tmp a t) ▸ d a w hV hF) hI
  unfold Oper.wp
  rw [h1]
  exact hK _ _ hI (hR _) h2


theorem st_evES (hR : ∀ w, R w w) {t t' : Nat} {u : Value} {f : World → Value → Prop} (d' : Dep ops ks a0 o t' u) (d : DepS ops ks a0 o t f) (hx : ∀ (a : Act) (w : World), (a.tmps[t']?).getD undef = u → f w ((a.tmps[t]?).getD undef) → Inv w → ∃ v, (execOp a.eval o).run P w = .ok (.value v) w ∧ (kindOf ks i).holds w v) : KStep P ops Q ks Inv a0 i o := by
  intro a w K hI hV hF hK
  obtain ⟨v, h1, h2⟩ := hx a w ((eval_tmp _ _).symm.trans (d' a w hV hF)) ((eval_tmp a t) ▸ d a w hV hF) hI
  unfold Oper.wp
  rw [h1]
  exact hK _ _ hI (hR _) h2


theorem st_callD1 {t : Nat} {u : Value} (d : Dep ops ks a0 o t u) (f : FuncId) (args : Array Value) (hx : ∀ (a : Act) (w : World), (a.tmps[t]?).getD undef = u → (execOp a.eval o).run P w = .ok (.enter f args) w)
    (hc : ∀ w, Inv w → Calls P f args w fun e w' => ∃ u, e = .returned u ∧ (kindOf ks i).holds w' u ∧ Inv w' ∧ R w w') : KStep P ops Q ks Inv a0 i o := by
  intro a w K hI hV hF hK
  unfold Oper.wp
  rw [hx a w ((eval_tmp _ _).symm.trans (d a w hV hF))]
  simp only [Oper.upon_enter]
  refine (hc w hI).mono ?_
  rintro e w' ⟨u, rfl, h2, h3, h4⟩
  exact hK _ _ h3 h4 h2


theorem st_callD2 {t t' : Nat} {u u' : Value} (d : Dep ops ks a0 o t u) (d' : Dep ops ks a0 o t' u') (f : FuncId) (args : Array Value) (hx : ∀ (a : Act) (w : World), (a.tmps[t]?).getD undef = u → (a.tmps[t']?).getD undef = u' → (execOp a.eval o).run P w = .ok (.enter f args) w)
    (hc : ∀ w, Inv w → Calls P f args w fun e w' => ∃ u, e = .returned u ∧ (kindOf ks i).holds w' u ∧ Inv w' ∧ R w w') : KStep P ops Q ks Inv a0 i o := by
  intro a w K hI hV hF hK
  unfold Oper.wp
  rw [hx a w ((eval_tmp _ _).symm.trans (d a w hV hF)) ((eval_tmp _ _).symm.trans (d' a w hV hF))]
  simp only [Oper.upon_enter]
  refine (hc w hI).mono ?_
  rintro e w' ⟨u, rfl, h2, h3, h4⟩
  exact hK _ _ h3 h4 h2


theorem st_callES {t t' : Nat} {u : Value} {f : World → Value → Prop} (d : Dep ops ks a0 o t u) (d' : DepS ops ks a0 o t' f) (F : FuncId) (args : Value → Array Value)
    (hx : ∀ (a : Act) (w : World) (v' : Value), (a.tmps[t]?).getD undef = u → (a.tmps[t']?).getD undef = v' → (execOp a.eval o).run P w = .ok (.enter F (args v')) w)
    (hc : ∀ w v', Inv w → f w v' → Calls P F (args v') w fun e w' => ∃ u, e = .returned u ∧ (kindOf ks i).holds w' u ∧ Inv w' ∧ R w w') : KStep P ops Q ks Inv a0 i o := by
  intro a w K hI hV hF hK
  unfold Oper.wp
  have hs := d' a w hV hF
  rw [eval_tmp] at hs
  rw [hx a w _ ((eval_tmp _ _).symm.trans (d a w hV hF)) rfl]
  simp only [Oper.upon_enter]
  refine (hc w _ hI hs).mono ?_
  rintro e w' ⟨u, rfl, h2, h3, h4⟩
  exact hK _ _ h3 h4 h2


theorem st_loadD (hR : ∀ w, R w w) {t : Nat} (ty : TypeId) (b off : Nat) (cs : List Value) (ho : o.op = .load ty (.tmp t)) (dp : Dep ops ks a0 o t (.pointer (some ⟨b, off, none⟩))) (hc : ∀ w, Inv w → w.rangeAt b off cs) (d : TypeDesc) (hu : P.underlying ty = some d) (hd : d.isRow = true)
    (size : Nat) (hi : (P.info? ty).map (·.size) = some size) (hl : cs.length = size) (hk : kindOf ks i = .is (.agg cs.toArray)) : KStep P ops Q ks Inv a0 i o := by
  subst hl
  intro a w K hI hV hF hK
  have hx := dp a w hV hF
  have hrun := run_loadVar_mid (P := P) w b off ty cs d (hc w hI) hu hd hi
  unfold Oper.wp execOp
  simp only [ho, hx, Instr.loadAt, Instr.sureAddr, Sem.run_bind, Sem.run_pure, Result.andThen_ok, hrun]
  refine hK _ _ hI (hR _) ?_
  unfold Kinds
  rw [hk]
  rfl


theorem st_alloc (hA : ∀ w o, R w (w.alloc o)) (e : TypeId) (cs : Array Value) (hx : ∀ (a : Act) (w : World), (execOp a.eval o).run P w = .ok (.value (.pointer (some ⟨w.heap.size, 0, none⟩))) (w.alloc (.cells cs e)))
    (hk : ∀ w, Inv w → (kindOf ks i).holds (w.alloc (.cells cs e)) (.pointer (some ⟨w.heap.size, 0, none⟩)) ∧ Inv (w.alloc (.cells cs e))) : KStep P ops Q ks Inv a0 i o := by
  intro a w K hI hV hF hK
  unfold Oper.wp
  rw [hx a w]
  exact hK _ _ (hk w hI).2 (hA _ _) (hk w hI).1


theorem region_kindsG {P : Program} {id : Nat} {ops : Array Oper} {Q : Exit → Act → World → Prop} {a : Act} {w : World} (R : World → World → Prop) (ks : List (VK R)) (Inv : World → Prop) (n : Nat)
    (hm : P.follows .mixedOrders = true) (hB : invGB n ops = true) (hn : a.tmps.size = n)
    (hnone : (List.range ops.size).all (fun i => match ops[i]? with | some o => o.dst.isSome || (match kindOf ks i with | .any => true | _ => false) | none => true) = true) (h0 : Inv w.drew)
    (hstep : StepsFrom (KStepG P ops Q ks Inv a) 0 ops.toList)
    (hdone : ∀ f w', (∀ i o d, ops[i]? = some o → o.dst = some d → Kinds ks i w' (f d)) → Inv w' → Q .normal (putsOf f a ops.toList) w') :
    (Code.region id ops true).wp P Q a w := by
  refine region_invG (Kinds ks) Inv R n hm hB hn (fun i w w' v h hk => VK.keep hk h) ?_ h0 (steps_of hstep) ?_
  · intro i w o ho hd
    have hi : i < ops.size := (Array.getElem?_eq_some_iff.1 ho).1
    have h1 := List.all_eq_true.1 hnone i (List.mem_range.2 hi)
    simp only [ho, hd, Option.isSome_none, Bool.false_or] at h1
    unfold Kinds
    cases hk : kindOf ks i <;> simp [hk] at h1
    trivial
  · intro a' w' h1 h2 h3 h4 h5
    rw [frame_behind (ops := ops) hn h1 h2 h3]
    refine hdone _ w' (fun i o d ho hd => ?_) h5
    have := h4 i o ho (by simp [hd])
    simpa [valOf, hd] using this


theorem region_kindsG_tail {P : Program} {id : Nat} {ops : Array Oper} {Q : Exit → Act → World → Prop} {a : Act} {w : World} (R : World → World → Prop) (ks : List (VK R)) (Inv : World → Prop) (n k : Nat)
    (hm : P.follows .mixedOrders = true) (hk : k ≤ ops.size) (hB : invGB n ops = true) (hW : waitB k ops = true) (hS : Region.seqB .any ops (ops.size - k) k (headDone k ops.size) = true) (hn : a.tmps.size = n)
    (hnone : (List.range ops.size).all (fun i => match ops[i]? with | some o => o.dst.isSome || (match kindOf ks i with | .any => true | _ => false) | none => true) = true) (h0 : Inv w.drew)
    (hstep : StepsFrom (KStepG P ops Q ks Inv a) 0 (ops.toList.take k))
    (hdone : ∀ f w', (∀ i o d, i < k → ops[i]? = some o → o.dst = some d → Kinds ks i w' (f d)) → Inv w' → wpList P ops Q (ops.toList.drop k) (putsOf f a (ops.toList.take k)) w') :
    (Code.region id ops true).wp P Q a w := by
  refine region_invG_tail (Kinds ks) Inv R n k hm hk hB hW hS hn (fun i w w' v h hk => VK.keep hk h) ?_ h0 ?_ ?_
  · intro i w o ho hd
    have hi : i < ops.size := (Array.getElem?_eq_some_iff.1 ho).1
    have h1 := List.all_eq_true.1 hnone i (List.mem_range.2 hi)
    simp only [ho, hd, Option.isSome_none, Bool.false_or] at h1
    unfold Kinds
    cases hk : kindOf ks i <;> simp [hk] at h1
    trivial
  · intro i o hi ho
    have := StepsFrom.get _ 0 hstep i o (by rw [List.getElem?_take, if_pos hi]; simpa using ho)
    simpa using this
  · intro a' w' h1 h2 h3 h4 h5
    have h3' : ∀ t, (∀ o ∈ (ops.toList.take k).toArray, o.dst ≠ some t) → a'.eval (.tmp t) = a.eval (.tmp t) := by
      intro t ht
      refine h3 t fun i o hi ho => ht o ?_
      simp only [List.mem_toArray]
      rw [List.mem_take_iff_getElem]
      have hil : i < ops.toList.length := by have := (Array.getElem?_eq_some_iff.1 ho).1; simpa using this
      refine ⟨i, by omega, ?_⟩
      have : ops.toList[i]? = some o := by simpa using ho
      rw [List.getElem?_eq_getElem hil] at this
      exact Option.some.inj this
    have := frame_behind (ops := (ops.toList.take k).toArray) hn h1 h2 h3'
    simp only at this
    rw [this]
    refine hdone _ w' (fun i o d hi ho hd => ?_) h5
    have := h4 i o hi ho (by simp [hd])
    simpa [valOf, hd] using this



end Go.Proofs.YtgelfefoiplekaaDoor.RR
