/-
  Runs that the kernel carries out: a region that draws its order is carried out in any order. No program in sight.
-/
import Derived.Test.YtgkbjdphkmmmhaaDoorEvM
namespace Go.Proofs.YtgkbjdphkmmmhaaDoor.Ev
open Go
noncomputable section

/-- The state ahead of the k-th operation; behind the last one, the last. -/
def tAt (steps : List DStep) (T' : Tm) (k : Nat) : Tm := match steps[k]? with | some s => s.T | .none => T'
def sAt (steps : List DStep) (S' : St) (k : Nat) : St := match steps[k]? with | some s => s.S | .none => S'
theorem chain_next : ∀ {steps : List DStep} {T T' : Tm} {S S' : St}, Chain T S steps T' S' → ∀ {k : Nat} {s : DStep}, steps[k]? = some s → tAt steps T' (k + 1) = s.T1 ∧ sAt steps S' (k + 1) = s.S1 ∧ tAt steps T' k = s.T ∧ sAt steps S' k = s.S
  | [], T, T', S, S', h, k, s, hk => by simp at hk
  | x :: ss, T, T', S, S', ⟨h1, h2, h3⟩, 0, s, hk => by
    simp at hk; subst hk
    refine ⟨?_, ?_, rfl, rfl⟩
    · unfold tAt
      cases ss with
      | nil => obtain ⟨h4, h5⟩ := h3; simp [h4]
      | cons y ys => obtain ⟨h4, h5, h6⟩ := h3; simp [h4]
    · unfold sAt
      cases ss with
      | nil => obtain ⟨h4, h5⟩ := h3; simp [h5]
      | cons y ys => obtain ⟨h4, h5, h6⟩ := h3; simp [h5]
  | x :: ss, T, T', S, S', ⟨h1, h2, h3⟩, k + 1, s, hk => by
    simp at hk
    have := chain_next h3 hk
    unfold tAt sAt at this ⊢
    simpa using this
theorem chain_first {steps : List DStep} {T T' : Tm} {S S' : St} (h : Chain T S steps T' S') : tAt steps T' 0 = T ∧ sAt steps S' 0 = S := by
  cases steps with
  | nil => obtain ⟨h1, h2⟩ := h; exact ⟨h1.symm, h2.symm⟩
  | cons x ss => obtain ⟨h1, h2, _⟩ := h; exact ⟨h1, h2⟩

section
variable {P : Program}

/-- What is known of the order that was carried out. -/
structure Known (P : Program) (call : CallF) (n : Nat) (ops : Array Oper) (T T' : Tm) (S S' : St) (steps : List DStep) : Prop where
  len : steps.length = ops.size
  chain : Chain T (bare S) steps T' (bare S')
  rel : ∀ (k : Nat) (o : Oper) (st : DStep), ops[k]? = some o → steps[k]? = some st → StepRel P call n ops.toList o st
  disj : ∀ (i k : Nat) (a b : DStep), i < k → steps[i]? = some a → steps[k]? = some b → (maskAt ops.toList k).testBit i = true ∨ Disj a b
  acc : ∀ X, S'.acc.testBit X = true ↔ S.acc.testBit X = true ∨ ∃ s ∈ steps, s.ac.testBit X = true
  wr : ∀ X, S'.wr.testBit X = true ↔ S.wr.testBit X = true ∨ ∃ s ∈ steps, s.wr.testBit X = true
  stat : statOk ops.toList = true

/-- What the operations of D have left, in whatever order. -/
structure DInv (P : Program) (n : Nat) (ops : Array Oper) (steps : List DStep) (T' : Tm) (S S' : St) (V : Nat → Prop) (m0 : BMap) (w0 : World) (D : Nat → Prop) (a : Act) (w : World) (m : BMap) : Prop where
  size : a.tmps.size = n
  defers : a.defers = []
  ext : Ext m0 m
  dom : ∀ X, m X ≠ .none → m0 X ≠ .none ∨ ∃ i s, D i ∧ steps[i]? = some s ∧ s.S.next ≤ X ∧ X < s.S1.next
  slots : ∃ f : Nat → Value, (∀ t, 512 ≤ t → f t = undef) ∧ (∀ t, VRel m (f t) (a.eval (.tmp t))) ∧ ∀ t k, k ≤ steps.length → (∀ j o, ops[j]? = some o → o.dst = some t → (j < k ↔ D j)) → f t = tget (tAt steps T' k) t
  mem : ∀ X k, k ≤ steps.length → ((X < S.next ∧ V X) ∨ ∃ i s, D i ∧ steps[i]? = some s ∧ s.S.next ≤ X ∧ X < s.S1.next) → (∀ j s, steps[j]? = some s → s.touch X → (j < k ↔ D j)) → ∀ x, (sAt steps (bare S') k).heap.get X = some x → BR P m X x w
  inj : ∀ X Y kX kY, kX ≤ steps.length → kY ≤ steps.length → ((X < S.next ∧ V X) ∨ ∃ i s, D i ∧ steps[i]? = some s ∧ s.S.next ≤ X ∧ X < s.S1.next) → ((Y < S.next ∧ V Y) ∨ ∃ i s, D i ∧ steps[i]? = some s ∧ s.S.next ≤ Y ∧ Y < s.S1.next) →
    (∀ j s, steps[j]? = some s → s.touch X → (j < kX ↔ D j)) → (∀ j s, steps[j]? = some s → s.touch Y → (j < kY ↔ D j)) → ((sAt steps (bare S') kX).heap.get X).isSome = true → ((sAt steps (bare S') kY).heap.get Y).isSome = true →
      ∀ p q, m X = some p → m Y = some q → p.blk = q.blk → X = Y
  old : w0.heap.size ≤ w.heap.size
  os : w.os = w0.os
  tape : w.tape = w0.tape
  output : w.output = w0.output
  keep : ∀ b, b < w0.heap.size → (∀ X p i s, D i → steps[i]? = some s → s.wr.testBit X = true → m0 X = some p → p.blk ≠ b) → w.heap[b]? = w0.heap[b]?
  new : ∀ X p i s, D i → steps[i]? = some s → s.S.next ≤ X → X < s.S1.next → m X = some p → w0.heap.size ≤ p.blk ∨ ∃ Y q j s', D j ∧ steps[j]? = some s' ∧ s'.wr.testBit Y = true ∧ m0 Y = some q ∧ q.blk = p.blk

structure StepFacts (s : DStep) : Prop where
  next : s.S.next ≤ s.S1.next
  frame : ∀ X, ¬ s.touch X → s.S1.heap.get X = s.S.heap.get X
  sub : ∀ X, s.wr.testBit X = true → s.ac.testBit X = true
  top : ∀ X, s.wr.testBit X = true → X < s.S1.next
  live : ∀ X, X < s.S.next → s.wr.testBit X = true → (s.S.heap.get X).isSome = true
  tidy : Tidy s.S
theorem step_facts {call : CallF} {n : Nat} {all : List Oper} {o : Oper} {s : DStep} (h : StepRel P call n all o s) : StepFacts s := by
  obtain ⟨_, ht, hb, g, _⟩ := h
  have hw : s.S.wr = 0 := by rw [hb]; rfl
  have nw : ∀ X, s.S.wr.testBit X = false := fun X => by rw [hw]; simp
  refine ⟨g.next, fun X hX => ?_, g.sub ht.sub, g.top ht.low (fun X h => by rw [nw X] at h; cases h), fun X h1 h2 => ?_, ht⟩
  · have h1 : s.wr.testBit X = false := by
      cases hc : s.wr.testBit X
      · rfl
      · exact absurd (.inl hc) hX
    by_cases h2 : X < s.S.next
    · exact g.heap X h2 h1
    · have h3 : s.S1.next ≤ X := by
        rcases Nat.lt_or_ge X s.S1.next with h | h
        · exact absurd (.inr ⟨by omega, h⟩) hX
        · exact h
      rw [ht.low X (by omega)]
      exact g.low ht.low X h3
  · rcases g.live X h1 h2 with h | h
    · rw [nw X] at h; cases h
    · exact h

namespace Known
variable {call : CallF} {n : Nat} {ops : Array Oper} {T T' : Tm} {S S' : St} {steps : List DStep}
theorem oper (K : Known P call n ops T T' S S' steps) {k : Nat} {s : DStep} (hs : steps[k]? = some s) : ∃ o, ops[k]? = some o ∧ StepRel P call n ops.toList o s := by
  have h1 : k < ops.size := by rw [← K.len]; exact (List.getElem?_eq_some_iff.1 hs).1
  exact ⟨ops[k], by simp [h1], K.rel k _ s (by simp [h1]) hs⟩
theorem facts (K : Known P call n ops T T' S S' steps) {k : Nat} {s : DStep} (hs : steps[k]? = some s) : StepFacts s := by
  obtain ⟨o, _, h⟩ := K.oper hs
  exact step_facts h
theorem step (K : Known P call n ops T T' S S' steps) {k : Nat} (hk : k < steps.length) : ∃ s, steps[k]? = some s := ⟨steps[k], List.getElem?_eq_getElem hk⟩
theorem nexts (K : Known P call n ops T T' S S' steps) : ∀ (k j : Nat), j ≤ k → k ≤ steps.length → (sAt steps (bare S') j).next ≤ (sAt steps (bare S') k).next
  | 0, j, h, _ => by rw [show j = 0 by omega]; exact Nat.le_refl _
  | k + 1, j, h, hk => by
    by_cases e : j = k + 1
    · rw [e]; exact Nat.le_refl _
    · have ih := nexts K k j (by omega) (by omega)
      obtain ⟨s, hs⟩ := K.step (k := k) (by omega)
      obtain ⟨_, h2, _, h4⟩ := chain_next K.chain hs
      have := (K.facts hs).next
      rw [h2]
      rw [h4] at ih
      omega
theorem frame (K : Known P call n ops T T' S S' steps) {X : Nat} : ∀ (k j : Nat), j ≤ k → k ≤ steps.length → (∀ l s, j ≤ l → l < k → steps[l]? = some s → ¬ s.touch X) → (sAt steps (bare S') k).heap.get X = (sAt steps (bare S') j).heap.get X
  | 0, j, h, _, _ => by rw [show j = 0 by omega]
  | k + 1, j, h, hk, ht => by
    by_cases e : j = k + 1
    · rw [e]
    · have ih := frame K k j (by omega) (by omega) (fun l s h1 h2 => ht l s h1 (by omega))
      obtain ⟨s, hs⟩ := K.step (k := k) (by omega)
      obtain ⟨_, h2, _, h4⟩ := chain_next K.chain hs
      rw [h2, (K.facts hs).frame X (ht k s (by omega) (by omega) hs), ← h4, ih]
theorem frameT (K : Known P call n ops T T' S S' steps) {t : Nat} : ∀ (k j : Nat), j ≤ k → k ≤ steps.length → (∀ l o, j ≤ l → l < k → ops[l]? = some o → o.dst ≠ some t) → tget (tAt steps T' k) t = tget (tAt steps T' j) t
  | 0, j, h, _, _ => by rw [show j = 0 by omega]
  | k + 1, j, h, hk, ht => by
    by_cases e : j = k + 1
    · rw [e]
    · have ih := frameT K k j (by omega) (by omega) (fun l o h1 h2 => ht l o h1 (by omega))
      obtain ⟨s, hs⟩ := K.step (k := k) (by omega)
      obtain ⟨h1, _, h3, _⟩ := chain_next K.chain hs
      obtain ⟨o, ho, hb, _, _, _, hr⟩ := K.oper hs
      have hd := ht k o (by omega) (by omega) ho
      have key : ∀ v, tget (tputO o.dst v s.T) t = tget s.T t := by
        intro v
        cases hx : o.dst with
        | none => rfl
        | some d =>
          unfold tputO
          dsimp only
          rw [tget_tput (hb d hx).2, if_neg (fun h => hd (by rw [hx, h]))]
      rw [h1, ← ih, h3]
      rcases hr with ⟨_, v, _, h5⟩ | ⟨_, h5, _⟩
      · rw [h5]; exact key v
      · rw [h5]; exact key undef
theorem first (K : Known P call n ops T T' S S' steps) : sAt steps (bare S') 0 = bare S := (chain_first K.chain).2
theorem news (K : Known P call n ops T T' S S' steps) {X : Nat} (hX : S.next ≤ X) : ∀ (k : Nat), k ≤ steps.length → X < (sAt steps (bare S') k).next → ∃ l s, l < k ∧ steps[l]? = some s ∧ s.S.next ≤ X ∧ X < s.S1.next
  | 0, _, h => by rw [K.first] at h; exact absurd h (by show ¬ X < S.next; omega)
  | k + 1, hk, h => by
    obtain ⟨s, hs⟩ := K.step (k := k) (by omega)
    obtain ⟨_, h2, _, h4⟩ := chain_next K.chain hs
    by_cases hl : X < s.S.next
    · obtain ⟨l, s', h5, h6⟩ := news K hX k (by omega) (by rw [h4]; exact hl)
      exact ⟨l, s', by omega, h6⟩
    · rw [h2] at h
      exact ⟨k, s, by omega, hs, by omega, h⟩
/-- An earlier part ends before a later one begins. -/
theorem apartN (K : Known P call n ops T T' S S' steps) {i k : Nat} {a b : DStep} (hik : i < k) (ha : steps[i]? = some a) (hb : steps[k]? = some b) : a.S1.next ≤ b.S.next := by
  obtain ⟨_, h2, _, _⟩ := chain_next K.chain ha
  obtain ⟨_, _, _, h4⟩ := chain_next K.chain hb
  have := K.nexts k (i + 1) (by omega) (by have := (List.getElem?_eq_some_iff.1 hb).1; omega)
  rw [h2, h4] at this
  exact this
theorem begins (K : Known P call n ops T T' S S' steps) {k : Nat} {s : DStep} (hs : steps[k]? = some s) : S.next ≤ s.S.next := by
  obtain ⟨_, _, _, h4⟩ := chain_next K.chain hs
  have := K.nexts k 0 (by omega) (by have := (List.getElem?_eq_some_iff.1 hs).1; omega)
  rw [h4, K.first] at this
  exact this
theorem ends (K : Known P call n ops T T' S S' steps) {k : Nat} {s : DStep} (hs : steps[k]? = some s) : s.S1.next ≤ S'.next := by
  obtain ⟨_, h2, _, _⟩ := chain_next K.chain hs
  have hl := (List.getElem?_eq_some_iff.1 hs).1
  have := K.nexts steps.length (k + 1) (by omega) (Nat.le_refl _)
  rw [h2] at this
  have e : sAt steps (bare S') steps.length = bare S' := by unfold sAt; simp
  rw [e] at this
  exact this
theorem newsOnce (K : Known P call n ops T T' S S' steps) {i k : Nat} {a b : DStep} {X : Nat} (ha : steps[i]? = some a) (hb : steps[k]? = some b) (h1 : a.S.next ≤ X ∧ X < a.S1.next) (h2 : b.S.next ≤ X ∧ X < b.S1.next) : i = k := by
  rcases Nat.lt_trichotomy i k with h | h | h
  · have := K.apartN h ha hb; omega
  · exact h
  · have := K.apartN h hb ha; omega
end Known

/-- Ahead of an operation that may come up now. -/
structure Up (ops : Array Oper) (steps : List DStep) (D : Nat → Prop) (i : Nat) (st : DStep) : Prop where
  at_ : steps[i]? = some st
  out : ¬ D i
  waits : ∀ j, (maskAt ops.toList i).testBit j = true → D j
  closed : ∀ k, D k → ∀ j, (maskAt ops.toList k).testBit j = true → D j
  small : ∀ k, D k → k < steps.length

section
variable {call : CallF} {n : Nat} {ops : Array Oper} {T T' : Tm} {S S' : St} {steps : List DStep} {D : Nat → Prop} {i : Nat} {st : DStep} {V : Nat → Prop}
theorem Up.before (K : Known P call n ops T T' S S' steps) (U : Up ops steps D i st) {j : Nat} {s : DStep} (hj : j < i) (hd : ¬ D j) (hs : steps[j]? = some s) : Disj s st :=
  (K.disj j i s st hj hs U.at_).resolve_left fun h => hd (U.waits j h)
theorem Up.behind (K : Known P call n ops T T' S S' steps) (U : Up ops steps D i st) {j : Nat} {s : DStep} (hj : i < j) (hd : D j) (hs : steps[j]? = some s) : Disj st s :=
  (K.disj i j st s hj U.at_ hs).resolve_left fun h => U.out (U.closed j hd i h)
/-- Which blocks may be looked at. -/
def Val (S : St) (V : Nat → Prop) (steps : List DStep) (D : Nat → Prop) (X : Nat) : Prop := (X < S.next ∧ V X) ∨ ∃ i s, D i ∧ steps[i]? = some s ∧ s.S.next ≤ X ∧ X < s.S1.next
def Agree (steps : List DStep) (D : Nat → Prop) (X k : Nat) : Prop := ∀ j s, steps[j]? = some s → s.touch X → (j < k ↔ D j)
/-- What the operation looks at is as it was in the order that was carried out. -/
theorem Up.looked (K : Known P call n ops T T' S S' steps) (U : Up ops steps D i st) (hV : ∀ X, X < S.next → S'.acc.testBit X = true → V X) {X : Nat} (hX : X < st.S.next) (hac : st.ac.testBit X = true) : Val S V steps D X ∧ Agree steps D X i := by
  have hag : Agree steps D X i := by
    intro j s hs ht
    constructor
    · intro hj
      apply Classical.byContradiction
      intro hd
      have := (U.before K hj hd hs X).1 ht
      rw [hac] at this; cases this
    · intro hd
      rcases Nat.lt_trichotomy j i with h | h | h
      · exact h
      · subst h; exact absurd hd U.out
      · exfalso
        have hdj := U.behind K h hd hs X
        rcases ht with ht | ht
        · have := hdj.2 ht; rw [hac] at this; cases this
        · have := K.apartN h U.at_ hs
          have := (K.facts U.at_).next
          omega
  refine ⟨?_, hag⟩
  by_cases h : X < S.next
  · exact .inl ⟨h, hV X h ((K.acc X).2 (.inr ⟨st, List.mem_of_getElem? U.at_, hac⟩))⟩
  · obtain ⟨_, _, _, h4⟩ := chain_next K.chain U.at_
    have hil := (List.getElem?_eq_some_iff.1 U.at_).1
    obtain ⟨l, s, h5, h6, h7⟩ := K.news (X := X) (by omega) i (by omega) (by rw [h4]; exact hX)
    exact .inr ⟨l, s, (hag l s h6 (.inr h7)).1 h5, h6, h7⟩
/-- What it touches was touched by no later one of D. -/
theorem Up.touched (K : Known P call n ops T T' S S' steps) (U : Up ops steps D i st) {X : Nat} (ht : st.touch X) {l : Nat} {s : DStep} (hl : i < l) (hs : steps[l]? = some s) (hd : D l) : ¬ s.touch X := by
  intro hx
  have hdj := U.behind K hl hd hs X
  rcases hx with hx | hx
  · have := hdj.1 ht
    rw [(K.facts hs).sub X hx] at this; cases this
  · have h1 := K.apartN hl U.at_ hs
    rcases ht with ht | ht
    · have := (K.facts U.at_).top X ht; omega
    · omega
end
end

end
end Go.Proofs.YtgkbjdphkmmmhaaDoor.Ev
