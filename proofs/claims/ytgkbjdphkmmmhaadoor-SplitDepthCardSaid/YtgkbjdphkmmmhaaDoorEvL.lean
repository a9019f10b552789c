/-
  Runs that the kernel carries out: what one order has shown of a region that draws its order. No program in sight.
-/
import Derived.Test.YtgkbjdphkmmmhaaDoorEvK
namespace Go.Proofs.YtgkbjdphkmmmhaaDoor.Ev
open Go
noncomputable section

theorem hasBit_eq (m i : Nat) : hasBit m i = m.testBit i := by
  unfold hasBit
  show Nat.beq ((m >>> i) % 2) 1 = _
  rw [Nat.shiftRight_eq_div_pow, Nat.testBit_eq_decide_div_mod_eq]
  rw [Bool.eq_iff_iff]
  simp [Nat.beq_eq]
theorem land_zero {a b : Nat} (h : Nat.beq (Nat.land a b) 0 = true) {X : Nat} (ha : a.testBit X = true) : b.testBit X = false := by
  have h := Nat.eq_of_beq_eq_true h
  have : (a &&& b).testBit X = false := by
    show (Nat.land a b).testBit X = false
    rw [h]; simp
  rw [Nat.testBit_and, ha] at this
  simpa using this
theorem window_zero {a lo hi : Nat} (h : Nat.beq (Nat.mod (Nat.shiftRight a lo) (Nat.pow 2 (Nat.sub hi lo))) 0 = true) {X : Nat} (h1 : lo ≤ X) (h2 : X < hi) : a.testBit X = false := by
  have h : (a >>> lo) % 2 ^ (hi - lo) = 0 := Nat.eq_of_beq_eq_true h
  have : ((a >>> lo) % 2 ^ (hi - lo)).testBit (X - lo) = false := by rw [h]; simp
  rw [Nat.testBit_mod_two_pow, Nat.testBit_shiftRight] at this
  have e : lo + (X - lo) = X := by omega
  rw [e] at this
  have h3 : X - lo < hi - lo := by omega
  simpa [h3] using this

/-- One operation's part in the order in which the region was carried out. -/
structure DStep where
  T : Tm
  S : St
  T1 : Tm
  S1 : St
  ac : Nat
  wr : Nat
def bare (S : St) : St := ⟨S.heap, S.next, 0, 0⟩
def DStep.touch (s : DStep) (X : Nat) : Prop := s.wr.testBit X = true ∨ (s.S.next ≤ X ∧ X < s.S1.next)
def Disj (a b : DStep) : Prop := ∀ X, (a.touch X → b.ac.testBit X = false) ∧ (b.wr.testBit X = true → a.ac.testBit X = false)
def DisjR (r : Rec) (b : DStep) : Prop := ∀ X, (r.wr.testBit X = true ∨ (r.lo ≤ X ∧ X < r.hi) → b.ac.testBit X = false) ∧ (b.wr.testBit X = true → r.acc.testBit X = false)
def wantF (all : List Oper) (o : Oper) (T : Tm) : Bool := match wantC all o.guard with | .none => true | some w => w.w T
def Chain : Tm → St → List DStep → Tm → St → Prop
  | T, S, [], T', S' => T = T' ∧ S = S'
  | T, S, s :: ss, T', S' => s.T = T ∧ s.S = S ∧ Chain s.T1 s.S1 ss T' S'

section
variable {P : Program}
def StepRel (P : Program) (call : CallF) (n : Nat) (all : List Oper) (o : Oper) (s : DStep) : Prop :=
  (∀ t, o.dst = some t → t < n ∧ t < 512) ∧ Tidy s.S ∧ s.S = bare s.S ∧ Grown s.S ⟨s.S1.heap, s.S1.next, s.ac, s.wr⟩ ∧
  ((wantF all o s.T = true ∧ ∃ v, (opC P o).r call s.T s.S = some (v, ⟨s.S1.heap, s.S1.next, s.ac, s.wr⟩) ∧ s.T1 = tputO o.dst v s.T) ∨
   (wantF all o s.T = false ∧ s.T1 = tputO o.dst undef s.T ∧ s.S1 = s.S ∧ s.ac = 0 ∧ s.wr = 0))

theorem apart_some {mk acc wr : Nat} {r : Rec} (h : apart mk acc wr r = true) : mk.testBit r.i = true ∨ ((∀ X, r.wr.testBit X = true → acc.testBit X = false) ∧ (∀ X, wr.testBit X = true → r.acc.testBit X = false) ∧ ∀ X, r.lo ≤ X → X < r.hi → acc.testBit X = false) := by
  unfold apart at h
  split at h
  · rename_i hb; rw [hasBit_eq] at hb; exact .inl hb
  · split at h
    · cases h
    · rename_i h1
      split at h
      · rename_i h2
        exact .inr ⟨fun X hX => land_zero h1 hX, fun X hX => land_zero h2 hX, fun X a b => window_zero h a b⟩
      · cases h
theorem allApart_some {mk acc wr : Nat} : ∀ {rs : List Rec}, allApart mk acc wr rs = true → ∀ r ∈ rs, apart mk acc wr r = true
  | [], _, r, hr => by cases hr
  | x :: rs, h, r, hr => by
    unfold allApart at h
    split at h
    · rename_i hx
      cases hr with
      | head => exact hx
      | tail _ hr => exact allApart_some h r hr
    · cases h

/-- What the order has shown. -/
def Shown (P : Program) (call : CallF) (n : Nat) (all : List Oper) (l : List (Oper × Nat)) (j : Nat) (T : Tm) (S : St) (rs : List Rec) (acc wr : Nat) (T' : Tm) (S' : St) (steps : List DStep) : Prop :=
  steps.length = l.length ∧ Chain T (bare S) steps T' (bare S') ∧
      (∀ (k : Nat) (o : Oper) (mk : Nat) (st : DStep), l[k]? = some (o, mk) → steps[k]? = some st → StepRel P call n all o st ∧ ∀ r ∈ rs, mk.testBit r.i = true ∨ DisjR r st) ∧
      (∀ (i k : Nat) (o : Oper) (mk : Nat) (a b : DStep), i < k → l[k]? = some (o, mk) → steps[i]? = some a → steps[k]? = some b → mk.testBit (j + i) = true ∨ Disj a b) ∧
      (∀ X, S'.acc.testBit X = true ↔ acc.testBit X = true ∨ ∃ s ∈ steps, s.ac.testBit X = true) ∧ (∀ X, S'.wr.testBit X = true ↔ wr.testBit X = true ∨ ∃ s ∈ steps, s.wr.testBit X = true)
theorem draw_steps (hP : PGood P) (hN : PNames P) {call : CallF} (hcall : CallOk P call) {n : Nat} {all : List Oper} : ∀ (l : List (Oper × Nat)) (j : Nat) {T T' : Tm} {S S' : St} {rs : List Rec} {acc wr : Nat},
    (drawC P n all l j).r call T S rs acc wr = some (T', S') → Tidy (bare S) → ∃ steps : List DStep, Shown P call n all l j T S rs acc wr T' S' steps
  | [], j, T, T', S, S', rs, acc, wr, h, hS => by
    cases h
    exact ⟨[], rfl, ⟨rfl, rfl⟩, fun k o mk st h => by simp at h, fun i k o mk a b _ h => by simp at h, fun X => by simp, fun X => by simp⟩
  | (o, mk) :: l, j, T, T', S, S', rs, acc, wr, h, hS => by
    -- one step, and what follows it
    have glue : ∀ (st : DStep) (rs2 : List Rec) (acc2 wr2 : Nat) (S1 : St), st.T = T → st.S = bare S → st.S1 = bare S1 → StepRel P call n all o st → Tidy (bare S1) → (∀ r ∈ rs, r ∈ rs2) →
        (∀ r ∈ rs, mk.testBit r.i = true ∨ DisjR r st) → (∀ b : DStep, (∀ mk' : Nat, (∀ r ∈ rs2, mk'.testBit r.i = true ∨ DisjR r b) → mk'.testBit j = true ∨ Disj st b)) →
        (∀ X, acc2.testBit X = true ↔ acc.testBit X = true ∨ st.ac.testBit X = true) → (∀ X, wr2.testBit X = true ↔ wr.testBit X = true ∨ st.wr.testBit X = true) →
        (drawC P n all l (j + 1)).r call st.T1 S1 rs2 acc2 wr2 = some (T', S') → ∃ steps : List DStep, Shown P call n all ((o, mk) :: l) j T S rs acc wr T' S' steps := by
      intro st rs2 acc2 wr2 S1 e1 e2 e3 hst hS1 hsub hrs hnext hac hwr hrun
      obtain ⟨steps, h1, h2, h3, h4, h5, h6⟩ := draw_steps hP hN hcall l (j + 1) hrun hS1
      refine ⟨st :: steps, by simp [h1], ⟨e1, e2, by rw [e3]; exact h2⟩, ?_, ?_, ?_, ?_⟩
      · intro k o' mk' s hk hs
        cases k with
        | zero =>
          simp only [List.getElem?_cons_zero, Option.some.injEq] at hk hs
          cases hk; subst hs
          exact ⟨hst, hrs⟩
        | succ k =>
          simp only [List.getElem?_cons_succ] at hk hs
          obtain ⟨h7, h8⟩ := h3 k o' mk' s hk hs
          exact ⟨h7, fun r hr => h8 r (hsub r hr)⟩
      · intro i k o' mk' a b hik hk ha hb
        cases k with
        | zero => omega
        | succ k =>
          simp only [List.getElem?_cons_succ] at hk hb
          cases i with
          | zero =>
            simp only [List.getElem?_cons_zero, Option.some.injEq] at ha
            subst ha
            rw [Nat.add_zero]
            exact hnext b mk' (h3 k o' mk' b hk hb).2
          | succ i =>
            simp only [List.getElem?_cons_succ] at ha
            have := h4 i k o' mk' a b (by omega) hk ha hb
            rw [show j + (i + 1) = j + 1 + i by omega]
            exact this
      · intro X
        rw [h5 X, hac X]
        simp only [List.mem_cons, exists_eq_or_imp]
        constructor
        · rintro ((h | h) | h)
          · exact .inl h
          · exact .inr (.inl h)
          · exact .inr (.inr h)
        · rintro (h | h | h)
          · exact .inl (.inl h)
          · exact .inl (.inr h)
          · exact .inr h
      · intro X
        rw [h6 X, hwr X]
        simp only [List.mem_cons, exists_eq_or_imp]
        constructor
        · rintro ((h | h) | h)
          · exact .inl h
          · exact .inr (.inl h)
          · exact .inr (.inr h)
        · rintro (h | h | h)
          · exact .inl (.inl h)
          · exact .inl (.inr h)
          · exact .inr h
    have go : wantF all o T = true → (then2 ((opC P o).r call T ⟨S.heap, S.next, 0, 0⟩) fun v S1 => (putC n o.dst).p v T fun T =>
        match Nat.beq S1.acc 0 && Nat.beq S1.next S.next with
        | true => (drawC P n all l (j + 1)).r call T S1 rs acc wr
        | false => match allApart mk S1.acc S1.wr rs with
          | true => forceN (Nat.lor acc S1.acc) fun acc => forceN (Nat.lor wr S1.wr) fun wr => (drawC P n all l (j + 1)).r call T S1 (⟨j, S1.acc, S1.wr, S.next, S1.next⟩ :: rs) acc wr
          | false => .none) = some (T', S') → ∃ steps : List DStep, Shown P call n all ((o, mk) :: l) j T S rs acc wr T' S' steps := fun hw h => by
      obtain ⟨v, S1, h1, h2⟩ := then2_some h
      obtain ⟨h3, hd⟩ := putC_some h2
      obtain ⟨g1, _⟩ := opC_sim hP hN hcall h1 hS
      have hS1 : Tidy (bare S1) := ⟨(hS.grown g1).low, (hS.grown g1).bnd, fun X h => by simp [bare] at h⟩
      have hsub := (hS.grown g1).sub
      have hst : StepRel P call n all o ⟨T, bare S, tputO o.dst v T, bare S1, S1.acc, S1.wr⟩ := ⟨hd, hS, rfl, g1, .inl ⟨hw, v, h1, rfl⟩⟩
      split at h3
      · rename_i hq
        simp only [Bool.and_eq_true] at hq
        have q1 := Nat.eq_of_beq_eq_true hq.1
        have q2 := Nat.eq_of_beq_eq_true hq.2
        have qa : ∀ X, S1.acc.testBit X = false := fun X => by rw [q1]; simp
        have qw : ∀ X, S1.wr.testBit X = false := fun X => by
          cases hx : S1.wr.testBit X
          · rfl
          · have := hsub X hx; rw [qa X] at this; cases this
        refine glue ⟨T, bare S, tputO o.dst v T, bare S1, S1.acc, S1.wr⟩ rs acc wr S1 rfl rfl rfl hst hS1 (fun r hr => hr) (fun r hr => .inr fun X => ⟨fun _ => qa X, fun h => by rw [qw X] at h; cases h⟩) (fun b mk' _ => .inr fun X => ⟨fun ht => ?_, fun _ => qa X⟩) (fun X => by simp [qa X]) (fun X => by simp [qw X]) h3
        rcases ht with ht | ht
        · rw [qw X] at ht; cases ht
        · simp only [bare] at ht; omega
      · split at h3
        · rename_i hap
          rw [forceN_eq, forceN_eq] at h3
          have hall := allApart_some hap
          refine glue ⟨T, bare S, tputO o.dst v T, bare S1, S1.acc, S1.wr⟩ (⟨j, S1.acc, S1.wr, S.next, S1.next⟩ :: rs) _ _ S1 rfl rfl rfl hst hS1 (fun r hr => List.mem_cons_of_mem _ hr) (fun r hr => ?_) (fun b mk' hb => ?_) (fun X => ?_) (fun X => ?_) h3
          · rcases apart_some (hall r hr) with h | ⟨h4, h5, h6⟩
            · exact .inl h
            · exact .inr fun X => ⟨fun h => h.elim (h4 X) fun h => h6 X h.1 h.2, h5 X⟩
          · rcases hb _ (List.mem_cons_self ..) with h | h
            · exact .inl h
            · exact .inr fun X => ⟨fun ht => (h X).1 ht, fun ht => (h X).2 ht⟩
          · show (acc ||| S1.acc).testBit X = true ↔ _
            rw [Nat.testBit_or, Bool.or_eq_true]
          · show (wr ||| S1.wr).testBit X = true ↔ _
            rw [Nat.testBit_or, Bool.or_eq_true]
        · cases h3
    unfold drawC at h
    dsimp only at h
    split at h
    · rename_i hw
      exact go (by unfold wantF; rw [hw]) h
    · rename_i wc hw
      dsimp only at h
      split at h
      · rename_i hwt
        exact go (by unfold wantF; rw [hw]; exact hwt) h
      · rename_i hwf
        obtain ⟨h3, hd⟩ := putC_some h
        refine glue ⟨T, bare S, tputO o.dst undef T, bare S, 0, 0⟩ rs acc wr S rfl rfl rfl ⟨hd, hS, rfl, ?_, .inr ⟨by unfold wantF; rw [hw]; exact hwf, rfl, rfl, rfl, rfl⟩⟩ hS (fun r hr => hr) (fun r hr => .inr fun X => ⟨fun _ => by simp, fun h => by simp at h⟩) (fun b mk' _ => .inr fun X => ⟨fun ht => ?_, fun _ => by simp⟩) (fun X => by simp) (fun X => by simp) h3
        · exact Grown.refl _
        · rcases ht with ht | ht
          · simp at ht
          · simp only [bare] at ht; omega
end

end
end Go.Proofs.YtgkbjdphkmmmhaaDoor.Ev
