/-
  Runs that the kernel carries out: one operation more, in whatever order. No program in sight.
-/
import Derived.Test.YtgkbjdphkmmmhaaDoorEvN
namespace Go.Proofs.YtgkbjdphkmmmhaaDoor.Ev
open Go
noncomputable section

section
variable {P : Program} {call : CallF} {n : Nat} {ops : Array Oper} {T T' : Tm} {S S' : St} {steps : List DStep} {D : Nat → Prop} {i : Nat} {st : DStep} {V : Nat → Prop}

/-- One more. -/
def More (D : Nat → Prop) (i : Nat) : Nat → Prop := fun j => D j ∨ j = i

theorem more_ne {j : Nat} (h : j ≠ i) : More D i j ↔ D j := ⟨fun h' => h'.resolve_right h, .inl⟩

/-- What is looked at by operation i. -/
def Looked (S : St) (V : Nat → Prop) (steps : List DStep) (D : Nat → Prop) (i : Nat) (X : Nat) : Prop := Val S V steps D X ∧ Agree steps D X i

theorem DInv.rel (K : Known P call n ops T T' S S' steps) (U : Up ops steps D i st) {m0 m : BMap} {w0 w : World} {a : Act} (J : DInv P n ops steps T' S S' V m0 w0 D a w m) : Rel P (Looked S V steps D i) m st.S w := by
  obtain ⟨_, _, _, h4⟩ := chain_next K.chain U.at_
  have hil := (List.getElem?_eq_some_iff.1 U.at_).1
  refine ⟨fun X hX x hx => J.mem X i (by omega) hX.1 hX.2 x (by rw [h4]; exact hx), fun X Y hX hY gX gY => ?_, (K.facts U.at_).tidy.low, (K.facts U.at_).tidy.bnd⟩
  exact J.inj X Y i i (by omega) (by omega) hX.1 hY.1 hX.2 hY.2 (by rw [h4]; exact gX) (by rw [h4]; exact gY)
theorem DInv.fresh (K : Known P call n ops T T' S S' steps) (U : Up ops steps D i st) {m0 m : BMap} {w0 w : World} {a : Act} (J : DInv P n ops steps T' S S' V m0 w0 D a w m) (hf : ∀ X, S.next ≤ X → X < S'.next → m0 X = .none) : ∀ X, st.S.next ≤ X → X < st.S1.next → m X = .none := by
  intro X h1 h2
  apply Classical.byContradiction
  intro h
  rcases J.dom X h with h3 | ⟨l, s, hd, hs, h3⟩
  · have := K.begins U.at_
    have := K.ends U.at_
    exact h3 (hf X (by omega) (by omega))
  · have := K.newsOnce U.at_ hs ⟨h1, h2⟩ h3
    subst this
    exact U.out hd

theorem DInv.after (K : Known P call n ops T T' S S' steps) (U : Up ops steps D i st) {m0 m m' : BMap} {w0 w w' : World} {a : Act} (J : DInv P n ops steps T' S S' V m0 w0 D a w m) (hf : ∀ X, S.next ≤ X → X < S'.next → m0 X = .none) (hV : ∀ X, X < S.next → S'.acc.testBit X = true → V X)
    {o : Oper} (ho : ops[i]? = some o) {v v' : Value} (hd : ∀ t, o.dst = some t → t < n ∧ t < 512) (hT1 : st.T1 = tputO o.dst v st.T) (hv : VRel m' v v')
    (O : Out P (Looked S V steps D i) m st.S w m' ⟨st.S1.heap, st.S1.next, st.ac, st.wr⟩ w') :
    DInv P n ops steps T' S S' V m0 w0 (More D i) (a.put o.dst v') w' m' := by
  have F := K.facts U.at_
  obtain ⟨c1, c2, c3, c4⟩ := chain_next K.chain U.at_
  have hil := (List.getElem?_eq_some_iff.1 U.at_).1
  have hfr := J.fresh K U hf
  have hR := J.rel K U
  -- an old block that was written was live
  have liveW : ∀ Y, st.wr.testBit Y = true → ∀ q, m Y = some q → Y < st.S.next ∧ Looked S V steps D i Y ∧ (st.S.heap.get Y).isSome = true := by
    intro Y hY q hq
    have h1 : Y < st.S.next := by
      rcases Nat.lt_or_ge Y st.S.next with h | h
      · exact h
      · have := hfr Y h (F.top Y hY); rw [hq] at this; cases this
    have h2 := U.looked K hV h1 (F.sub Y hY)
    exact ⟨h1, h2, F.live Y h1 hY⟩
  -- which values are looked at
  have valD : ∀ X, Val S V steps (More D i) X → Val S V steps D X ∨ (st.S.next ≤ X ∧ X < st.S1.next) := by
    intro X h
    rcases h with h | ⟨l, s, h1, h2, h3⟩
    · exact .inl (.inl h)
    · rcases h1 with h1 | rfl
      · exact .inl (.inr ⟨l, s, h1, h2, h3⟩)
      · rw [U.at_] at h2; cases h2; exact .inr h3
  have agreeNo : ∀ X k, ¬ st.touch X → Agree steps (More D i) X k → Agree steps D X k := by
    intro X k ht h j s hs hx
    have hji : j ≠ i := fun e => by subst e; rw [U.at_] at hs; cases hs; exact ht hx
    rw [h j s hs hx, more_ne hji]
  have agreeYes : ∀ X k, k ≤ steps.length → st.touch X → Agree steps (More D i) X k → i < k ∧ (sAt steps (bare S') k).heap.get X = st.S1.heap.get X := by
    intro X k hk ht h
    have h1 : i < k := (h i st U.at_ ht).2 (.inr rfl)
    refine ⟨h1, ?_⟩
    rw [K.frame k (i + 1) (by omega) hk, c2]
    intro l s h2 h3 hs hx
    have h4 := (h l s hs hx).1 h3
    exact U.touched K ht (by omega) hs (h4.resolve_right (by omega)) hx
  have lookYes : ∀ X, st.touch X → Val S V steps (More D i) X → Looked S V steps D i X ∨ (st.S.next ≤ X ∧ X < st.S1.next) := by
    intro X ht hval
    by_cases hX : X < st.S.next
    · refine .inl ?_
      rcases ht with ht | ht
      · exact U.looked K hV hX (F.sub X ht)
      · omega
    · exact (valD X hval).imp (fun h => absurd hX (by
        rcases ht with ht | ht
        · rcases h with h | ⟨l, s, h1, h2, h3⟩
          · have := K.begins U.at_; omega
          · exfalso
            have := K.newsOnce U.at_ h2 ⟨by omega, F.top X ht⟩ h3
            subst this
            exact U.out h1
        · rcases h with h | ⟨l, s, h1, h2, h3⟩
          · have := K.begins U.at_; omega
          · exfalso
            have := K.newsOnce U.at_ h2 ht h3
            subst this
            exact U.out h1)) id
  -- an untouched live block: where it lies
  have noHit : ∀ X k, k ≤ steps.length → ¬ st.touch X → Val S V steps D X → Agree steps D X k → ((sAt steps (bare S') k).heap.get X).isSome = true → ∃ q, m X = some q ∧ q.blk < w.heap.size ∧ ∀ Y r, st.wr.testBit Y = true → m Y = some r → r.blk ≠ q.blk := by
    intro X k hk ht hval hag hs
    obtain ⟨x, hx⟩ := Option.isSome_iff_exists.1 hs
    obtain ⟨q, hq, hl⟩ := (J.mem X k hk hval hag x hx).block
    refine ⟨q, hq, hl, fun Y r hY hr he => ?_⟩
    obtain ⟨h1, h2, h3⟩ := liveW Y hY r hr
    have := J.inj Y X i k (by omega) hk h2.1 hval h2.2 hag (by rw [c4]; exact h3) hs r q hr hq he
    subst this
    exact ht (.inl hY)
  refine ⟨by rw [put_size]; exact J.size, by rw [put_defers]; exact J.defers, J.ext.trans O.ext, ?_, ?_, ?_, ?_, Nat.le_trans J.old O.size, O.os.trans J.os, O.tape.trans J.tape, O.output.trans J.output, ?_, ?_⟩
  · -- dom
    intro X hX
    by_cases h : m X = .none
    · have := O.dom X h hX
      exact .inr ⟨i, st, .inr rfl, U.at_, this⟩
    · rcases J.dom X h with h1 | ⟨l, s, h1, h2⟩
      · exact .inl h1
      · exact .inr ⟨l, s, .inl h1, h2⟩
  · -- slots
    obtain ⟨f, f1, f2, f3⟩ := J.slots
    refine ⟨fun t => if o.dst = some t then v else f t, fun t ht => ?_, fun t => ?_, fun t k hk hag => ?_⟩
    · dsimp only
      rw [if_neg (fun h => absurd (hd t h).2 (Nat.not_lt.2 ht))]
      exact f1 t ht
    · dsimp only
      by_cases h : o.dst = some t
      · rw [if_pos h, h, put_same _ (by rw [J.size]; exact (hd t h).1)]
        exact hv
      · rw [if_neg h, put_other _ h]
        exact (f2 t).mono O.ext
    · dsimp only
      by_cases h : o.dst = some t
      · rw [if_pos h]
        have h1 : i < k := (hag i o ho h).2 (.inr rfl)
        rw [K.frameT k (i + 1) (by omega) hk, c1, hT1, h]
        · show v = tget (tput t v st.T) t
          rw [tget_tput (hd t h).2, if_pos rfl]
        · intro l ol h2 h3 hol hdl
          have h4 := ((hag l ol hol hdl).1 h3).resolve_right (by omega)
          rcases (statOk_some K.stat (j := l) (oj := ol) (by rw [Array.getElem?_toList]; exact hol)).2 i o (by omega) (by rw [Array.getElem?_toList]; exact ho) with h5 | h5
          · exact U.out (U.closed l h4 i h5)
          · exact (h5.1 t h).2 hdl
      · rw [if_neg h]
        refine f3 t k hk fun j oj hoj hdj => ?_
        have hji : j ≠ i := fun e => by subst e; rw [ho] at hoj; cases hoj; exact h hdj
        rw [hag j oj hoj hdj, more_ne hji]
  · -- mem
    intro X k hk hval hag x hx
    by_cases ht : st.touch X
    · obtain ⟨h1, h2⟩ := agreeYes X k hk ht hag
      rw [h2] at hx
      exact O.rel.blk X (lookYes X ht hval) x hx
    · have hval' : Val S V steps D X := (valD X hval).resolve_right fun h => ht (.inr h)
      have hag' := agreeNo X k ht hag
      have hB := J.mem X k hk hval' hag' x hx
      obtain ⟨q, hq, hl, hno⟩ := noHit X k hk ht hval' hag' (by rw [hx]; rfl)
      refine BR.same (p := q) (O.ext X q hq) ?_ (hB.mono O.ext)
      exact O.keep q.blk hl fun Y r hY hr => hno Y r hY hr
  · -- inj
    intro X Y kX kY hkX hkY vX vY aX aY gX gY p q hp hq hpq
    have one : ∀ X Y kX kY, kX ≤ steps.length → kY ≤ steps.length → Val S V steps (More D i) X → Val S V steps (More D i) Y → Agree steps (More D i) X kX → Agree steps (More D i) Y kY → ((sAt steps (bare S') kX).heap.get X).isSome = true → ((sAt steps (bare S') kY).heap.get Y).isSome = true →
        ∀ p q, m' X = some p → m' Y = some q → p.blk = q.blk → st.touch X → ¬ st.touch Y → X = Y := by
      intro X Y kX kY hkX hkY vX vY aX aY gX gY p q hp hq hpq tX tY
      exfalso
      have vY' : Val S V steps D Y := (valD Y vY).resolve_right fun h => tY (.inr h)
      have aY' := agreeNo Y kY tY aY
      obtain ⟨q', hq', hl, hno⟩ := noHit Y kY hkY tY vY' aY' gY
      have := O.ext Y q' hq'
      rw [hq] at this
      cases this
      by_cases hX : X < st.S.next
      · have hw : st.wr.testBit X = true := by
          rcases tX with h | h
          · exact h
          · omega
        have hlook := U.looked K hV hX (F.sub X hw)
        have hlive := F.live X hX hw
        obtain ⟨x, hx⟩ := Option.isSome_iff_exists.1 hlive
        obtain ⟨r, hr, _⟩ := (hR.blk X hlook x hx).block
        have := O.ext X r hr
        rw [hp] at this
        cases this
        exact hno X p hw hr hpq
      · have hX1 : X < st.S1.next := by
          rcases tX with h | h
          · exact F.top X h
          · exact h.2
        rcases O.new X p (by omega) hX1 hp with h | ⟨Z, r, h1, h2, h3⟩
        · omega
        · exact hno Z r h1 h2 (by omega)
    by_cases tX : st.touch X
    · by_cases tY : st.touch Y
      · obtain ⟨_, eX⟩ := agreeYes X kX hkX tX aX
        obtain ⟨_, eY⟩ := agreeYes Y kY hkY tY aY
        exact O.rel.inj X Y (lookYes X tX vX) (lookYes Y tY vY) (by rw [← eX]; exact gX) (by rw [← eY]; exact gY) p q hp hq hpq
      · exact one X Y kX kY hkX hkY vX vY aX aY gX gY p q hp hq hpq tX tY
    · by_cases tY : st.touch Y
      · exact (one Y X kY kX hkY hkX vY vX aY aX gY gX q p hq hp hpq.symm tY tX).symm
      · have vX' : Val S V steps D X := (valD X vX).resolve_right fun h => tX (.inr h)
        have vY' : Val S V steps D Y := (valD Y vY).resolve_right fun h => tY (.inr h)
        have aX' := agreeNo X kX tX aX
        have aY' := agreeNo Y kY tY aY
        obtain ⟨p', hp', _, _⟩ := noHit X kX hkX tX vX' aX' gX
        obtain ⟨q', hq', _, _⟩ := noHit Y kY hkY tY vY' aY' gY
        have e1 := O.ext X p' hp'
        have e2 := O.ext Y q' hq'
        rw [hp] at e1; rw [hq] at e2
        cases e1; cases e2
        exact J.inj X Y kX kY hkX hkY vX' vY' aX' aY' gX gY p q hp' hq' hpq
  · -- keep
    intro b hb hx
    rw [O.keep b (Nat.lt_of_lt_of_le hb J.old) ?_, J.keep b hb fun X p l s hD hs hw hm => hx X p l s (.inl hD) hs hw hm]
    intro Y p hw hm
    by_cases h0 : m0 Y = .none
    · rcases J.dom Y (by rw [hm]; simp) with h1 | ⟨l, s, hD, hs, h1⟩
      · exact absurd h0 h1
      · rcases J.new Y p l s hD hs h1.1 h1.2 hm with h2 | ⟨Z, q, j, s', h2, h3, h4, h5, h6⟩
        · omega
        · rw [← h6]; exact hx Z q j s' (.inl h2) h3 h4 h5
    · obtain ⟨q, hq⟩ := Option.ne_none_iff_exists'.1 h0
      have := J.ext Y q hq
      rw [hm] at this
      cases this
      exact hx Y p i st (.inr rfl) U.at_ hw hq
  · -- new
    have lift : ∀ Y q, m Y = some q → st.wr.testBit Y = true → w0.heap.size ≤ q.blk ∨ ∃ Z r j s', More D i j ∧ steps[j]? = some s' ∧ s'.wr.testBit Z = true ∧ m0 Z = some r ∧ r.blk = q.blk := by
      intro Y q hq hw
      by_cases h0 : m0 Y = .none
      · rcases J.dom Y (by rw [hq]; simp) with h1 | ⟨l, s, hD, hs, h1⟩
        · exact absurd h0 h1
        · rcases J.new Y q l s hD hs h1.1 h1.2 hq with h2 | ⟨Z, r, j, s', h2, h3⟩
          · exact .inl h2
          · exact .inr ⟨Z, r, j, s', .inl h2, h3⟩
      · obtain ⟨r, hr⟩ := Option.ne_none_iff_exists'.1 h0
        have := J.ext Y r hr
        rw [hq] at this
        cases this
        exact .inr ⟨Y, q, i, st, .inr rfl, U.at_, hw, hr, rfl⟩
    intro X p l s hD hs h1 h2 hp
    rcases hD with hD | rfl
    · by_cases h : m X = .none
      · have := O.dom X h (by rw [hp]; simp)
        have := K.newsOnce U.at_ hs this ⟨h1, h2⟩
        subst this
        exact absurd hD U.out
      · obtain ⟨q, hq⟩ := Option.ne_none_iff_exists'.1 h
        have := O.ext X q hq
        rw [hp] at this
        cases this
        rcases J.new X p l s hD hs h1 h2 hq with h3 | ⟨Z, r, j, s', h3, h4⟩
        · exact .inl h3
        · exact .inr ⟨Z, r, j, s', .inl h3, h4⟩
    · rw [U.at_] at hs
      cases hs
      rcases O.new X p h1 h2 hp with h3 | ⟨Y, q, h3, h4, h5⟩
      · exact .inl (Nat.le_trans J.old h3)
      · rcases lift Y q h4 h3 with h6 | ⟨Z, r, j, s', h6, h7, h8, h9, h10⟩
        · exact .inl (by omega)
        · exact .inr ⟨Z, r, j, s', h6, h7, h8, h9, by omega⟩
end

end
end Go.Proofs.YtgkbjdphkmmmhaaDoor.Ev
