/-
  Runs that the kernel carries out: a region that draws its order; the whole. No program in sight.
-/
import Derived.Test.YtgkbjdphkmmmhaaDoorEvO
namespace Go.Proofs.YtgkbjdphkmmmhaaDoor.Ev
open Go
noncomputable section

section
variable {P : Program} {call : CallF} {n : Nat} {ops : Array Oper} {T T' : Tm} {S S' : St} {steps : List DStep}

theorem Known.last (K : Known P call n ops T T' S S' steps) : sAt steps (bare S') steps.length = bare S' ∧ tAt steps T' steps.length = T' := by
  constructor <;> simp [sAt, tAt]

theorem Known.grown (K : Known P call n ops T T' S S' steps) (hS : Tidy S) : Grown S S' where
  next := by
    have := K.nexts steps.length 0 (Nat.zero_le _) (Nat.le_refl _)
    rw [K.first, K.last.1] at this
    exact this
  acc := fun X h => (K.acc X).2 (.inl h)
  wr := fun X h => (K.wr X).2 (.inl h)
  heap := fun X hX hw => by
    have := K.frame (X := X) steps.length 0 (Nat.zero_le _) (Nat.le_refl _) fun l s _ _ hs ht => by
      rcases ht with ht | ht
      · rw [(K.wr X).2 (.inr ⟨s, List.mem_of_getElem? hs, ht⟩)] at hw; cases hw
      · have := K.begins hs; omega
    rw [K.first, K.last.1] at this
    exact this
  live := fun X hX hw => by
    rcases (K.wr X).1 hw with h | ⟨s, hs, h⟩
    · exact .inl h
    · refine .inr ?_
      obtain ⟨k, hk⟩ := List.mem_iff_getElem?.1 hs
      -- the first that writes it
      have first : ∀ (k : Nat) (s : DStep), steps[k]? = some s → s.wr.testBit X = true → (S.heap.get X).isSome = true := by
        intro k
        induction k using Nat.strongRecOn with
        | _ k ih =>
          intro s hk h
          by_cases hx : ∃ l s', l < k ∧ steps[l]? = some s' ∧ s'.wr.testBit X = true
          · obtain ⟨l, s', h1, h2, h3⟩ := hx
            exact ih l h1 s' h2 h3
          · have hl := (K.facts hk).live X (by have := K.begins hk; omega) h
            obtain ⟨_, _, _, h4⟩ := chain_next K.chain hk
            have hkl := (List.getElem?_eq_some_iff.1 hk).1
            have := K.frame (X := X) k 0 (Nat.zero_le _) (by omega) fun l s' _ h2 hs' ht => by
              rcases ht with ht | ht
              · exact hx ⟨l, s', h2, hs', ht⟩
              · have := K.begins hs'; omega
            rw [K.first, h4] at this
            rw [this] at hl
            exact hl
      exact first k s hk h
  low := fun hl => by
    have key : ∀ k, k ≤ steps.length → ∀ X, (sAt steps (bare S') k).next ≤ X → (sAt steps (bare S') k).heap.get X = .none := by
      intro k hk X hX
      by_cases e : k = steps.length
      · subst e
        rcases Nat.eq_zero_or_pos steps.length with h0 | h0
        · rw [h0, K.first] at hX ⊢; exact hl X hX
        · obtain ⟨s, hs⟩ := K.step (k := steps.length - 1) (by omega)
          obtain ⟨_, h2, _, _⟩ := chain_next K.chain hs
          rw [show steps.length - 1 + 1 = steps.length by omega] at h2
          rw [h2] at hX ⊢
          obtain ⟨o, ho, _, ht, _, g, _⟩ := K.oper hs
          exact g.low ht.low X hX
      · obtain ⟨s, hs⟩ := K.step (k := k) (by omega)
        obtain ⟨_, _, _, h4⟩ := chain_next K.chain hs
        rw [h4] at hX ⊢
        exact (K.facts hs).tidy.low X hX
    intro X hX
    have := key steps.length (Nat.le_refl _) X (by rw [K.last.1]; exact hX)
    rw [K.last.1] at this
    exact this
  bnd := fun hb => by
    rcases Nat.eq_zero_or_pos steps.length with h0 | h0
    · have := K.last.1; rw [h0, K.first] at this
      have e : S.next = S'.next := congrArg (·.next) this
      omega
    · obtain ⟨s, hs⟩ := K.step (k := steps.length - 1) (by omega)
      obtain ⟨_, h2, _, _⟩ := chain_next K.chain hs
      rw [show steps.length - 1 + 1 = steps.length by omega, K.last.1] at h2
      obtain ⟨o, ho, _, ht, _, g, _⟩ := K.oper hs
      have e : S'.next = s.S1.next := congrArg (·.next) h2
      rw [e]
      exact g.bnd ht.bnd
  sub := fun hs X h => by
    rcases (K.wr X).1 h with h | ⟨s, hm, h⟩
    · exact (K.acc X).2 (.inl (hs X h))
    · obtain ⟨k, hk⟩ := List.mem_iff_getElem?.1 hm
      exact (K.acc X).2 (.inr ⟨s, hm, (K.facts hk).sub X h⟩)
  top := fun _ ht X h => by
    have hn := K.nexts steps.length 0 (Nat.zero_le _) (Nat.le_refl _)
    rw [K.first, K.last.1] at hn
    rcases (K.wr X).1 h with h | ⟨s, hm, h⟩
    · exact Nat.lt_of_lt_of_le (ht X h) hn
    · obtain ⟨k, hk⟩ := List.mem_iff_getElem?.1 hm
      exact Nat.lt_of_lt_of_le ((K.facts hk).top X h) (K.ends hk)

theorem DInv.begin (K : Known P call n ops T T' S S' steps) {V : Nat → Prop} {m : BMap} {a : Act} {w w1 : World} (h : Ahead P n V m T S S' a w) (hh : w1.heap = w.heap) (hos : w1.os = w.os) (ht : w1.tape = w.tape) (ho : w1.output = w.output) {D : Nat → Prop} (hD : ∀ j, ¬ D j) :
    DInv P n ops steps T' S S' V m w D a w1 m := by
  have val : ∀ X, ((X < S.next ∧ V X) ∨ ∃ i s, D i ∧ steps[i]? = some s ∧ s.S.next ≤ X ∧ X < s.S1.next) → X < S.next ∧ V X := fun X h => h.resolve_right fun ⟨i, _, h, _⟩ => hD i h
  have heap : ∀ X k, k ≤ steps.length → (∀ j s, steps[j]? = some s → s.touch X → (j < k ↔ D j)) → (sAt steps (bare S') k).heap.get X = S.heap.get X := by
    intro X k hk hag
    have := K.frame (X := X) k 0 (Nat.zero_le _) hk fun l s _ h2 hs hx => hD l ((hag l s hs hx).1 h2)
    rw [K.first] at this
    exact this
  refine ⟨h.size, h.defers, Ext.refl m, fun X hX => .inl hX, ⟨tget T, fun t ht => by rw [tget_eq, if_neg (by omega), if_neg (by omega)], h.rel.tm, fun t k hk hag => ?_⟩, ?_, ?_, by rw [hh]; exact Nat.le_refl _, hos, ht, ho, fun b _ _ => by rw [hh], fun X p i s hd => absurd hd (hD i)⟩
  · have := K.frameT (t := t) k 0 (Nat.zero_le _) hk fun l o _ h2 hol hdl => hD l ((hag l o hol hdl).1 h2)
    rw [this, (chain_first K.chain).1]
  · intro X k hk hv hag x hx
    rw [heap X k hk hag] at hx
    have hB := h.mem.blk X (val X hv).2 x hx
    obtain ⟨p, hp, _⟩ := hB.block
    exact hB.same hp (by rw [hh])
  · intro X Y kX kY hkX hkY vX vY aX aY gX gY
    rw [heap X kX hkX aX] at gX
    rw [heap Y kY hkY aY] at gY
    exact h.mem.inj X Y (val X vX).2 (val Y vY).2 gX gY

theorem DInv.done (K : Known P call n ops T T' S S' steps) (hS : Tidy S) {V : Nat → Prop} {m0 m : BMap} (hgl : Gl m0) {w0 w : World} {a : Act} {D : Nat → Prop} (J : DInv P n ops steps T' S S' V m0 w0 D a w m) (hD : ∀ j, j < steps.length → D j) (hDl : ∀ j, D j → j < steps.length) :
    After P n V m0 S w0 m T' S' a w := by
  have hg := K.grown hS
  have agr : ∀ X, Agree steps D X steps.length := fun X j s hs _ => ⟨fun h => hD j h, fun h => hDl j h⟩
  have val : ∀ X, V X ∨ (S.next ≤ X ∧ X < S'.next) → (S'.heap.get X).isSome = true → (X < S.next ∧ V X) ∨ ∃ i s, D i ∧ steps[i]? = some s ∧ s.S.next ≤ X ∧ X < s.S1.next := by
    intro X hX hs
    by_cases h : X < S.next
    · exact .inl ⟨h, hX.resolve_right (by omega)⟩
    · have hX' : X < S'.next := by
        rcases Nat.lt_or_ge X S'.next with h1 | h1
        · exact h1
        · rw [(hS.grown hg).low X h1] at hs; cases hs
      obtain ⟨l, s, h1, h2, h3⟩ := K.news (X := X) (by omega) steps.length (Nat.le_refl _) (by rw [K.last.1]; exact hX')
      exact .inr ⟨l, s, hD l h1, h2, h3⟩
  have le : sAt steps (bare S') steps.length = bare S' := K.last.1
  refine ⟨?_, J.size, J.defers, J.ext, ?_, ⟨?_, ?_, (hS.grown hg).low, (hS.grown hg).bnd⟩, hg, J.old, J.os, J.tape, J.output, ?_, ?_⟩
  · obtain ⟨f, _, f2, f3⟩ := J.slots
    refine ⟨hgl.mono J.ext, fun t => ?_⟩
    have := f3 t steps.length (Nat.le_refl _) fun j o ho _ => ⟨fun h => hD j h, fun h => hDl j h⟩
    rw [K.last.2] at this
    rw [← this]
    exact f2 t
  · intro X h1 h2
    rcases J.dom X h2 with h3 | ⟨i, s, _, hs, h3⟩
    · exact absurd h1 h3
    · have := K.begins hs; have := K.ends hs; omega
  · intro X hX x hx
    exact J.mem X steps.length (Nat.le_refl _) (val X hX (by rw [hx]; rfl)) (agr X) x (by rw [le]; exact hx)
  · intro X Y hX hY gX gY
    exact J.inj X Y steps.length steps.length (Nat.le_refl _) (Nat.le_refl _) (val X hX gX) (val Y hY gY) (agr X) (agr Y) (by rw [le]; exact gX) (by rw [le]; exact gY)
  · intro b hb hx
    exact J.keep b hb fun X p i s _ hs hw hm => hx X p ((K.wr X).2 (.inr ⟨s, List.mem_of_getElem? hs, hw⟩)) hm
  · intro X p h1 h2 hp
    obtain ⟨l, s, h3, h4, h5⟩ := K.news (X := X) h1 steps.length (Nat.le_refl _) (by rw [le]; exact h2)
    rcases J.new X p l s (hD l h3) h4 h5.1 h5.2 hp with h6 | ⟨Y, q, j, s', _, h7, h8, h9⟩
    · exact .inl h6
    · exact .inr ⟨Y, q, (K.wr Y).2 (.inr ⟨s', List.mem_of_getElem? h7, h8⟩), h9⟩

/-- Any order. -/
theorem any_order (hP : PGood P) (hN : PNames P) (hcall : CallOk P call) (K : Known P call n ops T T' S S' steps) (hS : Tidy S) {V : Nat → Prop} {m0 : BMap} (hgl : Gl m0) {w0 : World} (hf : ∀ X, S.next ≤ X → X < S'.next → m0 X = .none) (hV : ∀ X, X < S.next → S'.acc.testBit X = true → V X)
    {Q : Exit → Act → World → Prop} (hq : ∀ m' a' w', After P n V m0 S w0 m' T' S' a' w' → Q .normal a' w') :
    ∀ (fuel : Nat) (listed : Array Bool) (a : Act) (w : World) (m : BMap), listed.size = ops.size → listed.toList.count false ≤ fuel → (∀ k, listed.getD k false = true → ∀ j, (maskAt ops.toList k).testBit j = true → listed.getD j false = true) →
      DInv P n ops steps T' S S' V m0 w0 (fun j => listed.getD j false = true) a w m → wpAny P .any ops Q fuel listed a w := by
  have inB : ∀ {listed : Array Bool}, listed.size = ops.size → ∀ j, listed.getD j false = true → j < steps.length := by
    intro listed hs j hj
    rw [K.len, ← hs]
    rcases Nat.lt_or_ge j listed.size with h | h
    · exact h
    · simp [h] at hj
  have fin : ∀ (listed : Array Bool) (a : Act) (w : World) (m : BMap), listed.size = ops.size → DInv P n ops steps T' S S' V m0 w0 (fun j => listed.getD j false = true) a w m → Region.ready .any ops listed = [] → Q .normal a w := by
    intro listed a w m hs J hr
    have all : ∀ i, i < ops.size → listed.getD i false = true := by
      intro i
      induction i using Nat.strongRecOn with
      | _ i ih =>
        intro hi
        cases hl : listed.getD i true with
        | true =>
          have hi' : i < listed.size := by omega
          simp [hi'] at hl ⊢; exact hl
        | false =>
          exfalso
          obtain ⟨o, ho⟩ : ∃ o, ops[i]? = some o := ⟨ops[i], by simp [hi]⟩
          have hon := (statOk_some K.stat (j := i) (oj := o) (by rw [Array.getElem?_toList]; exact ho)).1
          have : i ∈ Region.ready .any ops listed := mem_ready.2 ⟨hl, o, ho, fun e he hb => ih e.on (hon e he hb) (by have := hon e he hb; omega)⟩
          rw [hr] at this
          cases this
    exact hq m a w (DInv.done K hS hgl J (fun j hj => all j (by rw [← K.len]; exact hj)) (inB hs))
  intro fuel
  induction fuel with
  | zero =>
    intro listed a w m hs hc hcl J
    have hr : Region.ready .any ops listed = [] := by
      apply List.eq_nil_iff_forall_not_mem.2
      intro i hi
      obtain ⟨hl, o, ho, -⟩ := mem_ready.1 hi
      have hlt : i < listed.size := by rw [hs]; exact (Array.getElem?_eq_some_iff.1 ho).1
      have h0 : listed.toList.count false = 0 := by omega
      have := List.count_eq_zero.1 h0
      apply this
      simp [hlt] at hl
      rw [← hl]
      simp
    exact ⟨hr, fin _ _ _ _ hs J hr⟩
  | succ fuel ih =>
    intro listed a w m hs hc hcl J
    refine ⟨fin _ _ _ _ hs J, fun i hi => ?_⟩
    obtain ⟨hl, o, ho, hdep⟩ := mem_ready.1 hi
    have hlt : i < listed.size := by rw [hs]; exact (Array.getElem?_eq_some_iff.1 ho).1
    have hil : i < steps.length := by rw [K.len, ← hs]; exact hlt
    obtain ⟨st, hst⟩ := K.step hil
    have hon := (statOk_some K.stat (j := i) (oj := o) (by rw [Array.getElem?_toList]; exact ho)).1
    have hout : ¬ listed.getD i false = true := by simp [hlt] at hl ⊢; exact hl
    have hwaits : ∀ j, (maskAt ops.toList i).testBit j = true → listed.getD j false = true := by
      intro j hj
      obtain ⟨e, h1, h2, h3⟩ := maskAt_bit (by rw [Array.getElem?_toList]; exact ho) hon hj
      rcases h3 with rfl | h3
      · exact hdep e h1 h2
      · exact hcl e.on (hdep e h1 h2) j h3
    have U : Up ops steps (fun j => listed.getD j false = true) i st := ⟨hst, hout, hwaits, hcl, inB hs⟩
    obtain ⟨hd, htidy, hbare, hgr, hrun⟩ := K.rel i o st ho hst
    -- the slots
    obtain ⟨f, f1, f2, f3⟩ := J.slots
    have hT : TRel m (mkTm f) a := by
      refine ⟨hgl.mono J.ext, fun t => ?_⟩
      rw [tget_mk]
      split
      · exact f2 t
      · rw [← f1 t (by omega)]; exact f2 t
    obtain ⟨_, _, c3, c4⟩ := chain_next K.chain hst
    have named : ∀ t, t ∈ namesOf ops.toList o → tget (mkTm f) t = tget st.T t := by
      intro t ht
      rw [tget_mk]
      have key : f t = tget st.T t := by
        rw [← c3]
        refine f3 t i (by omega) fun j oj hoj hdj => ?_
        constructor
        · intro hj
          rcases (statOk_some K.stat (j := i) (oj := o) (by rw [Array.getElem?_toList]; exact ho)).2 j oj hj (by rw [Array.getElem?_toList]; exact hoj) with h | h
          · exact hwaits j h
          · exact absurd ht (h.1 t hdj).1
        · intro hj
          rcases Nat.lt_trichotomy j i with h | h | h
          · exact h
          · subst h; exact absurd hj hout
          · exfalso
            rcases (statOk_some K.stat (j := j) (oj := oj) (by rw [Array.getElem?_toList]; exact hoj)).2 i o h (by rw [Array.getElem?_toList]; exact ho) with h1 | h1
            · exact hout (hcl j hj i h1)
            · exact h1.2 t hdj ht
      split
      · exact key
      · rw [tget_eq, if_neg (by omega), if_neg (by omega)]
    have hsame : SameAt (mkTm f) st.T (tmpsOf o.op.operands.toList) := fun t ht => named t (by
      unfold namesOf
      rw [List.mem_append]
      exact .inr ht)
    have hwant : Region.wanted o (yielded ops a.tmps) = wantF ops.toList o st.T := by
      unfold wantF
      split
      · rename_i hw
        unfold Region.wanted
        rw [wantC_none hw]
      · rename_i wc hw
        rw [wantC_some hw rfl hT rfl]
        unfold wantC at hw
        split at hw
        · cases hw
        · rename_i j want hgd
          split at hw
          · rename_i t hsl
            cases hw
            show isB want (tget (mkTm f) t) = isB want (tget st.T t)
            rw [named t (by unfold namesOf; rw [hgd]; simp [hsl])]
          · cases hw; rfl
    -- and on
    have go : ∀ m' v v' w', st.T1 = tputO o.dst v st.T → VRel m' v v' → Out P (Looked S V steps (fun j => listed.getD j false = true) i) m st.S w m' ⟨st.S1.heap, st.S1.next, st.ac, st.wr⟩ w' → wpAny P .any ops Q fuel (listed.setIfInBounds i true) (a.put o.dst v') w' := by
      intro m' v v' w' h1 h2 h3
      have J' := J.after K U hf hV ho hd h1 h2 h3
      have hset : ∀ j, (listed.setIfInBounds i true).getD j false = true ↔ More (fun j => listed.getD j false = true) i j := by
        intro j
        by_cases hji : i = j
        · subst hji; simp [More, hlt]
        · rw [getD_set_ne false hji]
          exact ⟨.inl, fun h => h.resolve_right fun e => hji e.symm⟩
      refine ih _ _ _ m' (by simpa using hs) ?_ ?_ ?_
      · have hll : listed.toList[i]'(by simpa using hlt) = false := by simp [hlt] at hl; simpa using hl
        have hmem : false ∈ listed.toList := by rw [← hll]; exact List.getElem_mem _
        have hpos := List.count_pos_iff.2 hmem
        rw [Array.toList_setIfInBounds, List.count_set (by simpa using hlt), hll]
        simp
        simp at hpos hc
        omega
      · intro k hk j hj
        rw [hset] at hk ⊢
        rcases hk with hk | rfl
        · exact .inl (hcl k hk j hj)
        · exact .inl (hwaits j hj)
      · have e : (fun j => (listed.setIfInBounds i true).getD j false = true) = More (fun j => listed.getD j false = true) i := funext fun j => propext (hset j)
        rw [e]
        exact J'
    unfold wpOp
    rw [ho]
    dsimp only
    rw [hwant]
    rcases hrun with ⟨hw, v, h1, h2⟩ | ⟨hw, h2, h3, h4, h5⟩
    · rw [hw, if_pos rfl]
      have h1' : (opC P o).r call (mkTm f) st.S = some (v, ⟨st.S1.heap, st.S1.next, st.ac, st.wr⟩) := by rw [opC_same hsame]; exact h1
      obtain ⟨_, sim⟩ := opC_sim hP hN hcall h1' htidy
      refine .inl (sim m _ w a _ Q hT (J.rel K U) (fun X hX hb => U.looked K hV hX hb) (fun X hX hb => J.fresh K U hf X hX hb) fun m' v' w' hv ho' => ?_)
      exact go m' v v' w' h2 hv ho'
    · rw [hw, if_neg (by simp)]
      refine go m undef undef w h2 (.tuple .nil) ?_
      have hR := J.rel K U
      have hsz : (⟨st.S1.heap, st.S1.next, st.ac, st.wr⟩ : St).next = st.S.next := by rw [h3]
      have hhp : (⟨st.S1.heap, st.S1.next, st.ac, st.wr⟩ : St).heap = st.S.heap := by rw [h3]
      refine ⟨Ext.refl m, fun X h1 h2 => absurd h1 h2, ⟨?_, ?_, ?_, ?_⟩, hgr, Nat.le_refl _, rfl, rfl, rfl, fun _ _ _ => rfl, fun X p h1 h2 _ => by rw [hsz] at h2; omega⟩
      · intro X hX x hx
        rw [hhp] at hx
        exact hR.blk X (hX.resolve_right fun h => by rw [hsz] at h; omega) x hx
      · intro X Y hX hY gX gY
        rw [hhp] at gX gY
        exact hR.inj X Y (hX.resolve_right fun h => by rw [hsz] at h; omega) (hY.resolve_right fun h => by rw [hsz] at h; omega) gX gY
      · intro X hX
        rw [hsz] at hX
        rw [hhp]
        exact hR.low X hX
      · rw [hsz]; exact hR.bnd

theorem draw_ok (hP : PGood P) (hN : PNames P) (hm : P.follows .mixedOrders = true) (hcall : CallOk P call) : DrawSim P call := by
  intro n id ops T T' S S' hst hrun hS
  have hbt : Tidy (bare S) := ⟨hS.low, hS.bnd, fun X h => by simp [bare] at h⟩
  obtain ⟨steps, h1, h2, h3, h4, h5, h6⟩ := draw_steps hP hN hcall _ _ hrun hbt
  have hml : (masksOf ops.toList []).length = ops.toList.length := by rw [masksOf_length]; simp
  have hzip : ∀ k o, ops[k]? = some o → (ops.toList.zip (masksOf ops.toList []))[k]? = some (o, maskAt ops.toList k) := by
    intro k o ho
    have hk : k < ops.toList.length := by have := (Array.getElem?_eq_some_iff.1 ho).1; simpa using this
    rw [List.getElem?_zip_eq_some]
    refine ⟨by rw [Array.getElem?_toList]; exact ho, ?_⟩
    unfold maskAt
    rw [List.getD_eq_getElem?_getD, List.getElem?_eq_getElem (by rw [hml]; exact hk)]
    rfl
  have K : Known P call n ops T T' S S' steps := by
    refine ⟨?_, h2, fun k o st ho hs => (h3 k o _ st (hzip k o ho) hs).1, fun i k a b hik ha hb => ?_, h5, h6, hst⟩
    · rw [h1, List.length_zip, hml]; simp
    · have hk : k < ops.size := by
        have := (List.getElem?_eq_some_iff.1 hb).1
        rw [h1, List.length_zip, hml] at this
        simpa using this
      have := h4 i k _ _ a b hik (hzip k ops[k] (by simp [hk])) ha hb
      rw [Nat.zero_add] at this
      exact this
  refine ⟨K.grown hS, fun m V w a hA => wp_region_any hm ?_⟩
  refine any_order hP hN hcall K hS hA.rel.gl hA.fresh hA.acc (w0 := w) (m0 := m) (fun m' a' w' h => ⟨trivial, m', h⟩) _ _ a _ m (by simp) ?_ ?_ ?_
  · simp
  · intro k hk
    rcases Nat.lt_or_ge k ops.size with h | h <;> simp [h] at hk
  · refine DInv.begin (w1 := { w with drawn := w.drawn + 1 }) (D := fun j => (Array.replicate ops.size false).getD j false = true) K hA rfl rfl rfl rfl fun j hj => ?_
    rcases Nat.lt_or_ge j ops.size with h | h <;> simp [h] at hj

/-- **A call that the kernel has carried out does so in every world, whatever is left open**; nothing that was there is touched. -/
theorem calls_of_gen (hP : PGood P) (hN : PNames P) (hm : P.follows .mixedOrders = true) {ov : Ov} (hO : OvOk P ov) {gl : Gls} (hg : glsOk gl = true) {f : Nat} {g : FuncId} {args args' : List Value} {v : Value} {S' : St} (he : evCallO P ov f g args (SG gl) = some (v, S'))
    {m0 : BMap} (hm0 : ∀ X, X < symAt → m0 X = .none) (hn : S'.next ≤ symAt) (hw : ∀ X, (X < 64 ∨ symAt ≤ X) → S'.wr.testBit X = false) (hargs : VRels (mG P gl m0) args args') (hv : flat v = true) (w : World) (hgw : GlsAt gl w) : Calls P g ⟨args'⟩ w fun e w' => e = .returned v ∧ RowKit.Below w.heap.size w w' :=
  run_calls_gen hP hN hm (fun _ h => draw_ok hP hN hm h) hO hg he hm0 hn hw hargs hv w hgw
end

end
end Go.Proofs.YtgkbjdphkmmmhaaDoor.Ev
