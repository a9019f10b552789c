/-
  A region that draws its order, whatever stands in it: by a condition on the world and one on each operation's value. No program in sight.
-/
import Derived.Test.YtiojoheenjkphaaBase
import Derived.StillTail
namespace Go.Proofs.Ytiojoheenjkphaa
open Go.RowKit

/-- What operation o has left. -/
def valOf (a : Act) (o : Oper) : Value := match o.dst with | some d => a.eval (.tmp d) | none => undef

def InvStep (P : Program) (ops : Array Oper) (Q : Exit → Act → World → Prop) (V : Nat → World → Value → Prop) (Inv : World → Prop) (R : World → World → Prop) (a0 : Act) (i : Nat) (o : Oper) : Prop :=
  ∀ (a : Act) (w : World) (K : Act → World → Prop), Inv w →
    (∀ e ∈ o.after, Region.binds .any e = true → ∀ oj, ops[e.on]? = some oj → V e.on w (valOf a oj)) →
    (∀ t, (∀ o ∈ ops, o.dst ≠ some t) → a.eval (.tmp t) = a0.eval (.tmp t)) →
    (∀ v w', Inv w' → R w w' → V i w' v → K (a.put o.dst v) w') → o.wp P a w K Q

/-- No guard, each with a slot of its own, each waits only for earlier ones. -/
def invB (n : Nat) (ops : Array Oper) : Bool :=
  ops.all (fun o => o.guard.isNone && o.dst.all (· < n)) &&
  (List.range ops.size).all (fun i => (List.range ops.size).all fun j => i == j || (match ops[i]?, ops[j]? with | some x, some y => x.dst.isNone || x.dst != y.dst | _, _ => true)) &&
  (List.range ops.size).all (fun i => match ops[i]? with | some o => o.after.all fun e => !Region.binds .any e || decide (e.on < i) | none => true)

theorem invB_guard {n : Nat} {ops : Array Oper} (h : invB n ops = true) {i : Nat} {o : Oper} (ho : ops[i]? = some o) : o.guard = none ∧ ∀ d, o.dst = some d → d < n := by
  simp only [invB, Bool.and_eq_true] at h
  have h1 := Array.all_eq_true_iff_forall_mem.1 h.1.1 o (Array.mem_of_getElem? ho)
  simp only [Bool.and_eq_true] at h1
  refine ⟨by simpa using h1.1, fun d hd => ?_⟩
  have := h1.2
  rw [hd] at this
  simpa using this

theorem invB_dst {n : Nat} {ops : Array Oper} (h : invB n ops = true) {i j : Nat} {x y : Oper} (hx : ops[i]? = some x) (hy : ops[j]? = some y) (hij : i ≠ j) : ∀ d, x.dst = some d → y.dst ≠ some d := by
  simp only [invB, Bool.and_eq_true] at h
  have hi : i < ops.size := (Array.getElem?_eq_some_iff.1 hx).1
  have hj : j < ops.size := (Array.getElem?_eq_some_iff.1 hy).1
  have h1 := List.all_eq_true.1 (List.all_eq_true.1 h.1.2 i (List.mem_range.2 hi)) j (List.mem_range.2 hj)
  rw [hx, hy] at h1
  intro d hd he
  simp [hij, hd, he] at h1

theorem invB_on {n : Nat} {ops : Array Oper} (h : invB n ops = true) {i : Nat} {o : Oper} (ho : ops[i]? = some o) : ∀ e ∈ o.after, Region.binds .any e = true → e.on < i := by
  simp only [invB, Bool.and_eq_true] at h
  have hi : i < ops.size := (Array.getElem?_eq_some_iff.1 ho).1
  have h1 := List.all_eq_true.1 h.2 i (List.mem_range.2 hi)
  rw [ho] at h1
  intro e he hb
  have := Array.all_eq_true_iff_forall_mem.1 h1 e he
  simpa [hb] using this

theorem put_eval_same {a : Act} {d : Nat} (v : Value) (h : d < a.tmps.size) : (a.put (some d) v).eval (.tmp d) = v := by
  simp [Act.put, Act.eval, h]
theorem put_eval_other {a : Act} {x : Option Nat} {t : Nat} (v : Value) (h : x ≠ some t) : (a.put x v).eval (.tmp t) = a.eval (.tmp t) := by
  cases x with
  | none => rfl
  | some d =>
    have : d ≠ t := fun e => h (by rw [e])
    simp [Act.put, Act.eval, Array.getElem?_setIfInBounds_ne this]
theorem put_size (a : Act) (x : Option Nat) (v : Value) : (a.put x v).tmps.size = a.tmps.size := by
  cases x <;> simp [Act.put]
theorem put_defers' (a : Act) (x : Option Nat) (v : Value) : (a.put x v).defers = a.defers := by
  cases x <;> simp [Act.put]

structure InvJ (n : Nat) (ops : Array Oper) (V : Nat → World → Value → Prop) (Inv : World → Prop) (a0 : Act) (listed : Array Bool) (a : Act) (w : World) : Prop where
  sz : listed.size = ops.size
  tm : a.tmps.size = n
  df : a.defers = a0.defers
  vals : ∀ i o, ops[i]? = some o → listed.getD i false = true → (o.dst ≠ none → V i w (valOf a o)) 
  fr : ∀ t, (∀ o ∈ ops, o.dst ≠ some t) → a.eval (.tmp t) = a0.eval (.tmp t)
  inv : Inv w

theorem none_ready {ops : Array Oper} {n : Nat} (hB : invB n ops = true) {listed : Array Bool} (hs : listed.size = ops.size) (h : Region.ready .any ops listed = []) : ∀ i, i < ops.size → listed.getD i false = true := by
  intro i
  induction i using Nat.strongRecOn with
  | _ i ih =>
    intro hi
    cases hl : listed.getD i true with
    | true =>
      have hi' : i < listed.size := by omega
      simp [hi'] at hl ⊢; exact hl
    | false =>
      exfalso
      obtain ⟨o, ho⟩ : ∃ o, ops[i]? = some o := ⟨ops[i], by simp [hi]⟩
      have : i ∈ Region.ready .any ops listed := mem_ready.2 ⟨hl, o, ho, fun e he hb => ih e.on (invB_on hB ho e he hb) (by have := invB_on hB ho e he hb; omega)⟩
      rw [h] at this
      cases this

theorem wpAny_inv {P : Program} {ops : Array Oper} {Q : Exit → Act → World → Prop} {V : Nat → World → Value → Prop} {Inv : World → Prop} {R : World → World → Prop} {a0 : Act} {n : Nat}
    (hB : invB n ops = true) (hmono : ∀ i w w' v, V i w v → R w w' → V i w' v)
    (hnone : ∀ i w o, ops[i]? = some o → o.dst = none → V i w undef)
    (hstep : ∀ i o, ops[i]? = some o → InvStep P ops Q V Inv R a0 i o)
    (hdone : ∀ a w, a.tmps.size = n → a.defers = a0.defers → (∀ t, (∀ o ∈ ops, o.dst ≠ some t) → a.eval (.tmp t) = a0.eval (.tmp t)) → (∀ i o, ops[i]? = some o → o.dst ≠ none → V i w (valOf a o)) → Inv w → Q .normal a w) :
    ∀ (fuel : Nat) (listed : Array Bool) (a : Act) (w : World), listed.toList.count false ≤ fuel → InvJ n ops V Inv a0 listed a w → wpAny P .any ops Q fuel listed a w := by
  have fin : ∀ (listed : Array Bool) (a : Act) (w : World), InvJ n ops V Inv a0 listed a w → Region.ready .any ops listed = [] → Q .normal a w := by
    intro listed a w hJ hr
    refine hdone a w hJ.tm hJ.df hJ.fr (fun i o ho hd => hJ.vals i o ho (none_ready hB hJ.sz hr i (Array.getElem?_eq_some_iff.1 ho).1) hd) hJ.inv
  intro fuel
  induction fuel with
  | zero =>
    intro listed a w hc hJ
    have hr : Region.ready .any ops listed = [] := by
      apply List.eq_nil_iff_forall_not_mem.2
      intro i hi
      obtain ⟨hl, o, ho, -⟩ := mem_ready.1 hi
      have hlt : i < listed.size := by rw [hJ.sz]; exact (Array.getElem?_eq_some_iff.1 ho).1
      have h0 : listed.toList.count false = 0 := by omega
      have := List.count_eq_zero.1 h0
      apply this
      simp [hlt] at hl
      rw [← hl]
      simp
    exact ⟨hr, fin _ _ _ hJ hr⟩
  | succ fuel ih =>
    intro listed a w hc hJ
    refine ⟨fin _ _ _ hJ, fun i hi => ?_⟩
    obtain ⟨hl, o, ho, hdep⟩ := mem_ready.1 hi
    have hlt : i < listed.size := by rw [hJ.sz]; exact (Array.getElem?_eq_some_iff.1 ho).1
    have hg := invB_guard hB ho
    unfold wpOp
    rw [ho]
    have hw : Region.wanted o (yielded ops a.tmps) = true := by simp [Region.wanted, hg.1]
    simp only [hw, if_true]
    refine .inl (hstep i o ho a w _ hJ.inv ?_ hJ.fr ?_)
    · intro e he hb oj hoj
      by_cases hd : oj.dst = none
      · have := hnone e.on w oj hoj hd
        simpa [valOf, hd] using this
      · exact hJ.vals e.on oj hoj (hdep e he hb) hd
    · intro v w' hI hR hV
      refine ih _ _ _ ?_ ?_
      · have hll : listed.toList[i]'(by simpa using hlt) = false := by simp [hlt] at hl; simpa using hl
        have hmem : false ∈ listed.toList := by rw [← hll]; exact List.getElem_mem _
        have hpos := List.count_pos_iff.2 hmem
        rw [Array.toList_setIfInBounds, List.count_set (by simpa using hlt), hll]
        simp
        simp at hpos hc
        omega
      · refine ⟨by simpa using hJ.sz, by rw [put_size]; exact hJ.tm, by rw [put_defers']; exact hJ.df, ?_, ?_, hI⟩
        · intro j oj hoj hlj hdj
          by_cases hij : i = j
          · subst hij
            have : oj = o := Option.some.inj (hoj.symm.trans ho)
            subst this
            obtain ⟨d, hd⟩ := Option.ne_none_iff_exists'.1 hdj
            have hdn := hg.2 d hd
            simp only [valOf, hd]
            rw [put_eval_same _ (by rw [hJ.tm]; exact hdn)]
            exact hV
          · rw [getD_set_ne false hij] at hlj
            have h1 := hmono _ _ _ _ (hJ.vals j oj hoj hlj hdj) hR
            obtain ⟨d, hd⟩ := Option.ne_none_iff_exists'.1 hdj
            simp only [valOf, hd] at h1 ⊢
            rw [put_eval_other _ (fun e => invB_dst hB ho hoj hij d e hd)]
            exact h1
        · intro t ht
          rw [put_eval_other _ (ht o (Array.mem_of_getElem? ho))]
          exact hJ.fr t ht

theorem region_inv {P : Program} {id : Nat} {ops : Array Oper} {Q : Exit → Act → World → Prop} {a : Act} {w : World} (V : Nat → World → Value → Prop) (Inv : World → Prop) (R : World → World → Prop) (n : Nat)
    (hm : P.follows .mixedOrders = true) (hB : invB n ops = true) (hn : a.tmps.size = n) (hmono : ∀ i w w' v, V i w v → R w w' → V i w' v)
    (hnone : ∀ i w o, ops[i]? = some o → o.dst = none → V i w undef) (h0 : Inv w.drew)
    (hstep : ∀ i o, ops[i]? = some o → InvStep P ops Q V Inv R a i o)
    (hdone : ∀ a' w', a'.tmps.size = n → a'.defers = a.defers → (∀ t, (∀ o ∈ ops, o.dst ≠ some t) → a'.eval (.tmp t) = a.eval (.tmp t)) → (∀ i o, ops[i]? = some o → o.dst ≠ none → V i w' (valOf a' o)) → Inv w' → Q .normal a' w') :
    (Code.region id ops true).wp P Q a w := by
  refine wp_region_any hm ?_
  refine wpAny_inv hB hmono hnone hstep hdone _ _ _ _ ?_ ⟨by simp, hn, rfl, ?_, fun _ _ => rfl, h0⟩
  · simp
  · intro i o ho hl
    rw [getD_replicate_false] at hl
    cases hl

end Go.Proofs.Ytiojoheenjkphaa
