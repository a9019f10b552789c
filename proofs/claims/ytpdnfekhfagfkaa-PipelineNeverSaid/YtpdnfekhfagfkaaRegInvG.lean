/-
  A region that draws its order, with guarded operations. Written by gen-reginvg.py from RegInv and RegKinds. No program in sight.
-/
import Derived.Test.YtpdnfekhfagfkaaRegKinds
namespace Go.Proofs.Ytpdnfekhfagfkaa
open Go.RowKit

def InvStepG (P : Program) (ops : Array Oper) (Q : Exit → Act → World → Prop) (V : Nat → World → Value → Prop) (Inv : World → Prop) (R : World → World → Prop) (a0 : Act) (i : Nat) (o : Oper) : Prop :=
  ∀ (a : Act) (w : World) (K : Act → World → Prop), Inv w →
    (∀ e ∈ o.after, Region.binds .any e = true → ∀ oj, ops[e.on]? = some oj → V e.on w (valOf a oj)) →
    (∀ t, (∀ o ∈ ops, o.dst ≠ some t) → a.eval (.tmp t) = a0.eval (.tmp t)) →
    (∀ v w', Inv w' → R w w' → V i w' v → K (a.put o.dst v) w') → (if Region.wanted o (yielded ops a.tmps) = true then o.wp P a w K Q else K (a.put o.dst undef) w)

def invGB (n : Nat) (ops : Array Oper) : Bool :=
  ops.all (fun o => o.dst.all (· < n)) &&
  (List.range ops.size).all (fun i => (List.range ops.size).all fun j => i == j || (match ops[i]?, ops[j]? with | some x, some y => x.dst.isNone || x.dst != y.dst | _, _ => true)) &&
  (List.range ops.size).all (fun i => match ops[i]? with | some o => o.after.all fun e => !Region.binds .any e || decide (e.on < i) | none => true)

theorem invGB_guard {n : Nat} {ops : Array Oper} (h : invGB n ops = true) {i : Nat} {o : Oper} (ho : ops[i]? = some o) : ∀ d, o.dst = some d → d < n := by
  simp only [invGB, Bool.and_eq_true] at h
  have h1 := Array.all_eq_true_iff_forall_mem.1 h.1.1 o (Array.mem_of_getElem? ho)
  intro d hd
  rw [hd] at h1
  simpa using h1

theorem invGB_dst {n : Nat} {ops : Array Oper} (h : invGB n ops = true) {i j : Nat} {x y : Oper} (hx : ops[i]? = some x) (hy : ops[j]? = some y) (hij : i ≠ j) : ∀ d, x.dst = some d → y.dst ≠ some d := by
  simp only [invGB, Bool.and_eq_true] at h
  have hi : i < ops.size := (Array.getElem?_eq_some_iff.1 hx).1
  have hj : j < ops.size := (Array.getElem?_eq_some_iff.1 hy).1
  have h1 := List.all_eq_true.1 (List.all_eq_true.1 h.1.2 i (List.mem_range.2 hi)) j (List.mem_range.2 hj)
  rw [hx, hy] at h1
  intro d hd he
  simp [hij, hd, he] at h1

theorem invGB_on {n : Nat} {ops : Array Oper} (h : invGB n ops = true) {i : Nat} {o : Oper} (ho : ops[i]? = some o) : ∀ e ∈ o.after, Region.binds .any e = true → e.on < i := by
  simp only [invGB, Bool.and_eq_true] at h
  have hi : i < ops.size := (Array.getElem?_eq_some_iff.1 ho).1
  have h1 := List.all_eq_true.1 h.2 i (List.mem_range.2 hi)
  rw [ho] at h1
  intro e he hb
  have := Array.all_eq_true_iff_forall_mem.1 h1 e he
  simpa [hb] using this

theorem none_readyG {ops : Array Oper} {n : Nat} (hB : invGB n ops = true) {listed : Array Bool} (hs : listed.size = ops.size) (h : Region.ready .any ops listed = []) : ∀ i, i < ops.size → listed.getD i false = true := by
  intro i
  induction i using Nat.strongRecOn with
  | _ i ih =>
    intro hi
    cases hl : listed.getD i true with
    | true =>
      have hi' : i < listed.size := by omega
      simp [hi'] at hl ⊢; exact hl
    | false =>
      exfalso
      obtain ⟨o, ho⟩ : ∃ o, ops[i]? = some o := ⟨ops[i], by simp [hi]⟩
      have : i ∈ Region.ready .any ops listed := mem_ready.2 ⟨hl, o, ho, fun e he hb => ih e.on (invGB_on hB ho e he hb) (by have := invGB_on hB ho e he hb; omega)⟩
      rw [h] at this
      cases this

theorem wpAny_invG {P : Program} {ops : Array Oper} {Q : Exit → Act → World → Prop} {V : Nat → World → Value → Prop} {Inv : World → Prop} {R : World → World → Prop} {a0 : Act} {n : Nat}
    (hB : invGB n ops = true) (hmono : ∀ i w w' v, V i w v → R w w' → V i w' v)
    (hnone : ∀ i w o, ops[i]? = some o → o.dst = none → V i w undef)
    (hstep : ∀ i o, ops[i]? = some o → InvStepG P ops Q V Inv R a0 i o)
    (hdone : ∀ a w, a.tmps.size = n → a.defers = a0.defers → (∀ t, (∀ o ∈ ops, o.dst ≠ some t) → a.eval (.tmp t) = a0.eval (.tmp t)) → (∀ i o, ops[i]? = some o → o.dst ≠ none → V i w (valOf a o)) → Inv w → Q .normal a w) :
    ∀ (fuel : Nat) (listed : Array Bool) (a : Act) (w : World), listed.toList.count false ≤ fuel → InvJ n ops V Inv a0 listed a w → wpAny P .any ops Q fuel listed a w := by
  have fin : ∀ (listed : Array Bool) (a : Act) (w : World), InvJ n ops V Inv a0 listed a w → Region.ready .any ops listed = [] → Q .normal a w := by
    intro listed a w hJ hr
    refine hdone a w hJ.tm hJ.df hJ.fr (fun i o ho hd => hJ.vals i o ho (none_readyG hB hJ.sz hr i (Array.getElem?_eq_some_iff.1 ho).1) hd) hJ.inv
  intro fuel
  induction fuel with
  | zero =>
    intro listed a w hc hJ
    have hr : Region.ready .any ops listed = [] := by
      apply List.eq_nil_iff_forall_not_mem.2
      intro i hi
      obtain ⟨hl, o, ho, -⟩ := mem_ready.1 hi
      have hlt : i < listed.size := by rw [hJ.sz]; exact (Array.getElem?_eq_some_iff.1 ho).1
      have h0 : listed.toList.count false = 0 := by omega
      have := List.count_eq_zero.1 h0
      apply this
      simp [hlt] at hl
      rw [← hl]
      simp
    exact ⟨hr, fin _ _ _ hJ hr⟩
  | succ fuel ih =>
    intro listed a w hc hJ
    refine ⟨fin _ _ _ hJ, fun i hi => ?_⟩
    obtain ⟨hl, o, ho, hdep⟩ := mem_ready.1 hi
    have hlt : i < listed.size := by rw [hJ.sz]; exact (Array.getElem?_eq_some_iff.1 ho).1
    have hg := invGB_guard hB ho
    unfold wpOp
    rw [ho]
    have hst := hstep i o ho a w (wpAny P .any ops Q fuel (listed.setIfInBounds i true)) hJ.inv ?_ hJ.fr ?_
    · dsimp only
      split
      · rename_i hw; rw [if_pos hw] at hst; exact .inl hst
      · rename_i hw; rw [if_neg hw] at hst; exact hst
    · intro e he hb oj hoj
      by_cases hd : oj.dst = none
      · have := hnone e.on w oj hoj hd
        simpa [valOf, hd] using this
      · exact hJ.vals e.on oj hoj (hdep e he hb) hd
    · intro v w' hI hR hV
      refine ih _ _ _ ?_ ?_
      · have hll : listed.toList[i]'(by simpa using hlt) = false := by simp [hlt] at hl; simpa using hl
        have hmem : false ∈ listed.toList := by rw [← hll]; exact List.getElem_mem _
        have hpos := List.count_pos_iff.2 hmem
        rw [Array.toList_setIfInBounds, List.count_set (by simpa using hlt), hll]
        simp
        simp at hpos hc
        omega
      · refine ⟨by simpa using hJ.sz, by rw [put_size]; exact hJ.tm, by rw [put_defers']; exact hJ.df, ?_, ?_, hI⟩
        · intro j oj hoj hlj hdj
          by_cases hij : i = j
          · subst hij
            have : oj = o := Option.some.inj (hoj.symm.trans ho)
            subst this
            obtain ⟨d, hd⟩ := Option.ne_none_iff_exists'.1 hdj
            have hdn := hg d hd
            simp only [valOf, hd]
            rw [put_eval_same _ (by rw [hJ.tm]; exact hdn)]
            exact hV
          · rw [getD_set_ne false hij] at hlj
            have h1 := hmono _ _ _ _ (hJ.vals j oj hoj hlj hdj) hR
            obtain ⟨d, hd⟩ := Option.ne_none_iff_exists'.1 hdj
            simp only [valOf, hd] at h1 ⊢
            rw [put_eval_other _ (fun e => invGB_dst hB ho hoj hij d e hd)]
            exact h1
        · intro t ht
          rw [put_eval_other _ (ht o (Array.mem_of_getElem? ho))]
          exact hJ.fr t ht

theorem region_invG {P : Program} {id : Nat} {ops : Array Oper} {Q : Exit → Act → World → Prop} {a : Act} {w : World} (V : Nat → World → Value → Prop) (Inv : World → Prop) (R : World → World → Prop) (n : Nat)
    (hm : P.follows .mixedOrders = true) (hB : invGB n ops = true) (hn : a.tmps.size = n) (hmono : ∀ i w w' v, V i w v → R w w' → V i w' v)
    (hnone : ∀ i w o, ops[i]? = some o → o.dst = none → V i w undef) (h0 : Inv w.drew)
    (hstep : ∀ i o, ops[i]? = some o → InvStepG P ops Q V Inv R a i o)
    (hdone : ∀ a' w', a'.tmps.size = n → a'.defers = a.defers → (∀ t, (∀ o ∈ ops, o.dst ≠ some t) → a'.eval (.tmp t) = a.eval (.tmp t)) → (∀ i o, ops[i]? = some o → o.dst ≠ none → V i w' (valOf a' o)) → Inv w' → Q .normal a' w') :
    (Code.region id ops true).wp P Q a w := by
  refine wp_region_any hm ?_
  refine wpAny_invG hB hmono hnone hstep hdone _ _ _ _ ?_ ⟨by simp, hn, rfl, ?_, fun _ _ => rfl, h0⟩
  · simp
  · intro i o ho hl
    rw [getD_replicate_false] at hl
    cases hl

theorem wpAny_invG_tail {P : Program} {ops : Array Oper} {Q : Exit → Act → World → Prop} {V : Nat → World → Value → Prop} {Inv : World → Prop} {R : World → World → Prop} {a0 : Act} {n k : Nat}
    (hk : k ≤ ops.size) (hB : invGB n ops = true) (hW : waitB k ops = true) (hS : Region.seqB .any ops (ops.size - k) k (headDone k ops.size) = true) (hmono : ∀ i w w' v, V i w v → R w w' → V i w' v)
    (hnone : ∀ i w o, ops[i]? = some o → o.dst = none → V i w undef)
    (hstep : ∀ i o, i < k → ops[i]? = some o → InvStepG P ops Q V Inv R a0 i o)
    (hdone : ∀ a w, a.tmps.size = n → a.defers = a0.defers → (∀ t, (∀ i o, i < k → ops[i]? = some o → o.dst ≠ some t) → a.eval (.tmp t) = a0.eval (.tmp t)) → (∀ i o, i < k → ops[i]? = some o → o.dst ≠ none → V i w (valOf a o)) → Inv w → wpList P ops Q (ops.toList.drop k) a w) :
    ∀ (c : Nat) (listed : Array Bool) (a : Act) (w : World), (listed.toList.take k).count false = c → HeadInv .any ops k listed → InvJ n ops V Inv a0 listed a w →
      (∀ t, (∀ i o, i < k → ops[i]? = some o → o.dst ≠ some t) → a.eval (.tmp t) = a0.eval (.tmp t)) → wpAny P .any ops Q (c + (ops.size - k)) listed a w := by
  simp only [waitB, Bool.and_eq_true, decide_eq_true_eq] at hW
  obtain ⟨hW1, hW2, hW3⟩ := hW
  have tl : ∀ {listed : Array Bool}, HeadInv .any ops k listed → ∀ t, k ≤ t → t < listed.size → listed.toList[t]? = some false := by
    intro listed hH t h1 h2
    have := hH.tail t h1 (by rw [← hH.size]; exact h2)
    simp [h2] at this
    simp [h2, this]
  intro c
  induction c with
  | zero =>
    intro listed a w hc hH hJ hfr
    have htl := tl hH
    have hall : ∀ i, i < k → listed.toList[i]? = some true := by
      intro i hi
      have hil : i < listed.toList.length := by simp [hJ.sz]; omega
      have hmem : listed.toList[i] ∈ listed.toList.take k := by
        rw [List.mem_take_iff_getElem]
        exact ⟨i, by simp [hJ.sz]; omega, rfl⟩
      rw [List.getElem?_eq_getElem hil]
      cases hv : listed.toList[i] with
      | true => rfl
      | false =>
        rw [hv] at hmem
        have := List.count_pos_iff.2 hmem
        omega
    have heq : listed = headDone k ops.size := by
      unfold headDone
      rw [← Array.toList_inj]
      apply List.ext_getElem?
      intro i
      by_cases hi : i < ops.size
      · by_cases hik : i < k
        · rw [hall i hik]; simp [hi, hik]
        · rw [htl i (by omega) (by rw [hJ.sz]; exact hi)]; simp [hi, hik]
      · rw [List.getElem?_eq_none (by simp [hJ.sz]; omega), List.getElem?_eq_none (by simp; omega)]
    rw [Nat.zero_add]
    have hl : (ops.toList.drop k).length = ops.size - k := by simp
    rw [← hl]
    refine wpAny_of_seq (ops.toList.drop k) k listed a w (fun j => by simp) (by rw [hl, heq]; exact hS) ?_
    refine hdone a w hJ.tm hJ.df hfr (fun i o hi ho hd => ?_) hJ.inv
    refine hJ.vals i o ho ?_ hd
    have := hall i hi
    have hil : i < listed.size := by rw [hJ.sz]; omega
    simp [hil] at this ⊢; exact this
  | succ c ih =>
    intro listed a w hc hH hJ hfr
    obtain ⟨i0, hi0, hu0⟩ : ∃ i, i < k ∧ listed.getD i true = false := by
      have hpos : 0 < (listed.toList.take k).count false := by omega
      have hm := List.count_pos_iff.1 hpos
      rw [List.mem_take_iff_getElem] at hm
      obtain ⟨i, hi, he⟩ := hm
      have hi' : i < k ∧ i < listed.size := by simp at hi; omega
      refine ⟨i, hi'.1, ?_⟩
      simp [hi'.2]; simpa using he
    rw [show c + 1 + (ops.size - k) = (c + (ops.size - k)) + 1 by omega]
    have hsome : ∃ i, i < k ∧ i ∈ Region.ready .any ops listed := by
      apply Classical.byContradiction
      intro hno
      have hall : ∀ i, i < k → listed.getD i false = true := by
        intro i
        induction i using Nat.strongRecOn with
        | _ i ihh =>
          intro hi
          cases hl : listed.getD i true with
          | true =>
            have hi' : i < listed.size := by rw [hJ.sz]; omega
            simp [hi'] at hl ⊢; exact hl
          | false =>
            exfalso
            have hio : i < ops.size := by omega
            obtain ⟨o, ho⟩ : ∃ o, ops[i]? = some o := ⟨ops[i], by simp [hio]⟩
            exact hno ⟨i, hi, mem_ready.2 ⟨hl, o, ho, fun e he hb => ihh e.on (invGB_on hB ho e he hb) (by have := invGB_on hB ho e he hb; omega)⟩⟩
      have := hall i0 hi0
      rw [getD_both hu0] at this
      cases this
    refine ⟨fun h => ?_, fun i hi => ?_⟩
    · obtain ⟨i, _, hi⟩ := hsome
      rw [h] at hi; cases hi
    · obtain ⟨hl, o, ho, hdep⟩ := mem_ready.1 hi
      have hlt : i < listed.size := by rw [hJ.sz]; exact (Array.getElem?_eq_some_iff.1 ho).1
      have hik : i < k := by
        apply Classical.byContradiction
        intro hge
        exact tail_waits hW1 hW2 hW3 hH _ i0 rfl hi0 hu0 i (by omega) hi
      have hg := invGB_guard hB ho
      unfold wpOp
      rw [ho]
      have hst := hstep i o hik ho a w (wpAny P .any ops Q (c + (ops.size - k)) (listed.setIfInBounds i true)) hJ.inv ?_ (fun t ht => hfr t fun j oj _ hoj => ht oj (Array.mem_of_getElem? hoj)) ?_
      · dsimp only
        split
        · rename_i hw; rw [if_pos hw] at hst; exact .inl hst
        · rename_i hw; rw [if_neg hw] at hst; exact hst
      · intro e he hb oj hoj
        by_cases hd : oj.dst = none
        · have := hnone e.on w oj hoj hd
          simpa [valOf, hd] using this
        · exact hJ.vals e.on oj hoj (hdep e he hb) hd
      · intro v w' hI hR hV
        refine ih _ _ _ ?_ ?_ ?_ ?_
        · have hll : listed.toList[i]'(by simpa using hlt) = false := by simp [hlt] at hl; simpa using hl
          rw [Array.toList_setIfInBounds, List.take_set]
          have hlk : i < (listed.toList.take k).length := by simp; omega
          have hel : (listed.toList.take k)[i] = false := by rw [List.getElem_take]; exact hll
          rw [List.count_set hlk, hel]
          simp; omega
        · exact hH.set hi hik
        · refine ⟨by simpa using hJ.sz, by rw [put_size]; exact hJ.tm, by rw [put_defers']; exact hJ.df, ?_, ?_, hI⟩
          · intro j oj hoj hlj hdj
            by_cases hij : i = j
            · subst hij
              have : oj = o := Option.some.inj (hoj.symm.trans ho)
              subst this
              obtain ⟨d, hd⟩ := Option.ne_none_iff_exists'.1 hdj
              have hdn := hg d hd
              simp only [valOf, hd]
              rw [put_eval_same _ (by rw [hJ.tm]; exact hdn)]
              exact hV
            · rw [getD_set_ne false hij] at hlj
              have h1 := hmono _ _ _ _ (hJ.vals j oj hoj hlj hdj) hR
              obtain ⟨d, hd⟩ := Option.ne_none_iff_exists'.1 hdj
              simp only [valOf, hd] at h1 ⊢
              rw [put_eval_other _ (fun e => invGB_dst hB ho hoj hij d e hd)]
              exact h1
          · intro t ht
            rw [put_eval_other _ (ht o (Array.mem_of_getElem? ho))]
            exact hJ.fr t ht
        · intro t ht
          rw [put_eval_other _ (ht i o hik ho)]
          exact hfr t ht

theorem region_invG_tail {P : Program} {id : Nat} {ops : Array Oper} {Q : Exit → Act → World → Prop} {a : Act} {w : World} (V : Nat → World → Value → Prop) (Inv : World → Prop) (R : World → World → Prop) (n k : Nat)
    (hm : P.follows .mixedOrders = true) (hk : k ≤ ops.size) (hB : invGB n ops = true) (hW : waitB k ops = true) (hS : Region.seqB .any ops (ops.size - k) k (headDone k ops.size) = true) (hn : a.tmps.size = n) (hmono : ∀ i w w' v, V i w v → R w w' → V i w' v)
    (hnone : ∀ i w o, ops[i]? = some o → o.dst = none → V i w undef) (h0 : Inv w.drew)
    (hstep : ∀ i o, i < k → ops[i]? = some o → InvStepG P ops Q V Inv R a i o)
    (hdone : ∀ a' w', a'.tmps.size = n → a'.defers = a.defers → (∀ t, (∀ i o, i < k → ops[i]? = some o → o.dst ≠ some t) → a'.eval (.tmp t) = a.eval (.tmp t)) → (∀ i o, i < k → ops[i]? = some o → o.dst ≠ none → V i w' (valOf a' o)) → Inv w' → wpList P ops Q (ops.toList.drop k) a' w') :
    (Code.region id ops true).wp P Q a w := by
  refine wp_region_any hm ?_
  have h := wpAny_invG_tail (P := P) (Q := Q) hk hB hW hS hmono hnone hstep hdone k (Array.replicate ops.size false) a w.drew (by simp [List.take_replicate]; omega) ⟨by simp, (by intro j oj _ hl; rw [getD_replicate_false] at hl; cases hl), (by intro t _ ht; simp [ht])⟩ ⟨by simp, hn, rfl, (by intro i o ho hl; rw [getD_replicate_false] at hl; cases hl), fun _ _ => rfl, h0⟩ (fun _ _ => rfl)
  have e : k + (ops.size - k) = ops.size := by omega
  rw [e] at h
  exact h


variable {P : Program} {ops : Array Oper} {Q : Exit → Act → World → Prop} {S : Nat → Prop} {ks : List (VK S)} {Inv : World → Prop} {a0 : Act} {i : Nat} {o : Oper}

abbrev KStepG (P : Program) (ops : Array Oper) (Q : Exit → Act → World → Prop) (S : Nat → Prop) (ks : List (VK S)) (Inv : World → Prop) (a0 : Act) (i : Nat) (o : Oper) : Prop :=
  InvStepG P ops Q (Kinds S ks) Inv (Keep S) a0 i o

theorem st_free (hg : o.guard = none) (h : KStep P ops Q S ks Inv a0 i o) : KStepG P ops Q S ks Inv a0 i o := by
  intro a w K hI hV hF hK
  rw [if_pos (by simp [Region.wanted, hg])]
  exact h a w K hI hV hF hK

theorem yielded_of {a : Act} {j t : Nat} {b : Bool} (hj : (ops[j]?.bind (·.dst)) = some t) (h : a.eval (.tmp t) = .bool b) : yielded ops a.tmps j = some b := by
  unfold yielded
  rw [hj]
  have h' : a.tmps.getD t undef = .bool b := h
  simp only [Option.bind_some]
  by_cases ht : t < a.tmps.size
  · simp [ht] at h' ⊢; rw [h']
  · simp [ht, undef] at h'

theorem st_on (j t : Nat) (b : Bool) (hg : o.guard = some (j, b)) (he : o.after.toList.any (fun e => e.on == j && Region.binds .any e) = true) (hj : (ops[j]?.bind (·.dst)) = some t)
    (hkj : kindOf ks j = .is (.bool b)) (h : KStep P ops Q S ks Inv a0 i o) : KStepG P ops Q S ks Inv a0 i o := by
  intro a w K hI hV hF hK
  have h1 := tells hV j t he hj
  rw [hkj] at h1
  have h2 := yielded_of (ops := ops) hj (show a.eval (.tmp t) = .bool b from h1)
  rw [if_pos (by simp [Region.wanted, hg, h2])]
  exact h a w K hI hV hF hK

theorem st_off (j t : Nat) (b b' : Bool) (hg : o.guard = some (j, b)) (he : o.after.toList.any (fun e => e.on == j && Region.binds .any e) = true) (hj : (ops[j]?.bind (·.dst)) = some t)
    (hkj : kindOf ks j = .is (.bool b')) (hne : b' ≠ b) (hk : kindOf ks i = .is undef) : KStepG P ops Q S ks Inv a0 i o := by
  intro a w K hI hV hF hK
  have h1 := tells hV j t he hj
  rw [hkj] at h1
  have h2 := yielded_of (ops := ops) hj (show a.eval (.tmp t) = .bool b' from h1)
  rw [if_neg (by simp [Region.wanted, hg, h2, hne])]
  refine hK _ _ hI (Keep.refl _ _) ?_
  unfold Kinds
  rw [hk]
  rfl

/-- The region, by kinds. -/
theorem region_kindsG {P : Program} {id : Nat} {ops : Array Oper} {Q : Exit → Act → World → Prop} {a : Act} {w : World} (S : Nat → Prop) (ks : List (VK S)) (Inv : World → Prop) (n : Nat)
    (hm : P.follows .mixedOrders = true) (hB : invGB n ops = true) (hn : a.tmps.size = n)
    (hnone : (List.range ops.size).all (fun i => match ops[i]? with | some o => o.dst.isSome || (match kindOf ks i with | .any => true | _ => false) | none => true) = true) (h0 : Inv w.drew)
    (hstep : StepsFrom (KStepG P ops Q S ks Inv a) 0 ops.toList)
    (hdone : ∀ f w', (∀ i o d, ops[i]? = some o → o.dst = some d → Kinds S ks i w' (f d)) → Inv w' → Q .normal (putsOf f a ops.toList) w') :
    (Code.region id ops true).wp P Q a w := by
  refine region_invG (Kinds S ks) Inv (Keep S) n hm hB hn (fun i w w' v h hk => VK.keep hk h) ?_ h0 (steps_of hstep) ?_
  · intro i w o ho hd
    have hi : i < ops.size := (Array.getElem?_eq_some_iff.1 ho).1
    have h1 := List.all_eq_true.1 hnone i (List.mem_range.2 hi)
    simp only [ho, hd, Option.isSome_none, Bool.false_or] at h1
    unfold Kinds
    cases hk : kindOf ks i <;> simp [hk] at h1
    trivial
  · intro a' w' h1 h2 h3 h4 h5
    rw [frame_behind (ops := ops) hn h1 h2 h3]
    refine hdone _ w' (fun i o d ho hd => ?_) h5
    have := h4 i o ho (by simp [hd])
    simpa [valOf, hd] using this

/-- The region, by kinds: a head in any order, a tail in its own. -/
theorem region_kindsG_tail {P : Program} {id : Nat} {ops : Array Oper} {Q : Exit → Act → World → Prop} {a : Act} {w : World} (S : Nat → Prop) (ks : List (VK S)) (Inv : World → Prop) (n k : Nat)
    (hm : P.follows .mixedOrders = true) (hk : k ≤ ops.size) (hB : invGB n ops = true) (hW : waitB k ops = true) (hS : Region.seqB .any ops (ops.size - k) k (headDone k ops.size) = true) (hn : a.tmps.size = n)
    (hnone : (List.range ops.size).all (fun i => match ops[i]? with | some o => o.dst.isSome || (match kindOf ks i with | .any => true | _ => false) | none => true) = true) (h0 : Inv w.drew)
    (hstep : StepsFrom (KStepG P ops Q S ks Inv a) 0 (ops.toList.take k))
    (hdone : ∀ f w', (∀ i o d, i < k → ops[i]? = some o → o.dst = some d → Kinds S ks i w' (f d)) → Inv w' → wpList P ops Q (ops.toList.drop k) (putsOf f a (ops.toList.take k)) w') :
    (Code.region id ops true).wp P Q a w := by
  refine region_invG_tail (Kinds S ks) Inv (Keep S) n k hm hk hB hW hS hn (fun i w w' v h hk => VK.keep hk h) ?_ h0 ?_ ?_
  · intro i w o ho hd
    have hi : i < ops.size := (Array.getElem?_eq_some_iff.1 ho).1
    have h1 := List.all_eq_true.1 hnone i (List.mem_range.2 hi)
    simp only [ho, hd, Option.isSome_none, Bool.false_or] at h1
    unfold Kinds
    cases hk : kindOf ks i <;> simp [hk] at h1
    trivial
  · intro i o hi ho
    have := StepsFrom.get _ 0 hstep i o (by rw [List.getElem?_take, if_pos hi]; simpa using ho)
    simpa using this
  · intro a' w' h1 h2 h3 h4 h5
    have h3' : ∀ t, (∀ o ∈ (ops.toList.take k).toArray, o.dst ≠ some t) → a'.eval (.tmp t) = a.eval (.tmp t) := by
      intro t ht
      refine h3 t fun i o hi ho => ht o ?_
      simp only [List.mem_toArray]
      rw [List.mem_take_iff_getElem]
      have hil : i < ops.toList.length := by have := (Array.getElem?_eq_some_iff.1 ho).1; simpa using this
      refine ⟨i, by omega, ?_⟩
      have : ops.toList[i]? = some o := by simpa using ho
      rw [List.getElem?_eq_getElem hil] at this
      exact Option.some.inj this
    have := frame_behind (ops := (ops.toList.take k).toArray) hn h1 h2 h3'
    simp only at this
    rw [this]
    refine hdone _ w' (fun i o d hi ho hd => ?_) h5
    have := h4 i o hi ho (by simp [hd])
    simpa [valOf, hd] using this

