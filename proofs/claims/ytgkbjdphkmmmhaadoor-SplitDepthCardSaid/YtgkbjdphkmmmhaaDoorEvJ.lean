/-
  Runs that the kernel carries out: statements in order. No program in sight.
-/
import Derived.Test.YtgkbjdphkmmmhaaDoorEvI
import Derived.Scope
namespace Go.Proofs.YtgkbjdphkmmmhaaDoor.Ev
open Go
noncomputable section

theorem Tidy.grown {S S' : St} (h : Tidy S) (g : Grown S S') : Tidy S' := ⟨g.low h.low, g.bnd h.bnd, g.sub h.sub⟩
theorem then2_some {β γ : Type} {o : Option (β × St)} {k : β → St → Option γ} {y : γ} (h : then2 o k = some y) : ∃ v S, o = some (v, S) ∧ k v S = some y := by
  cases o with
  | none => cases h
  | some p => obtain ⟨v, S⟩ := p; exact ⟨v, S, rfl, h⟩
theorem nthO_eq : ∀ (l : List Oper) (n : Nat), nthO l n = l[n]?
  | [], _ => rfl
  | o :: os, n => by
    unfold nthO
    simp only [forceN_eq]
    cases n with
    | zero => rfl
    | succ n => exact nthO_eq os n

section
variable {P : Program} {m : BMap}

/-! ### Guards -/
theorem eqB_eq (a b : Bool) : eqB a b = (a == b) := by cases a <;> cases b <;> rfl
theorem guard_rel {T : Tm} {a : Act} (hT : TRel m T a) {ops : Array Oper} {j t : Nat} {want : Bool} (hs : guardSlot ops.toList j = some t) : (yielded ops a.tmps j == some want) = isB want (tget T t) := by
  unfold guardSlot at hs
  rw [nthO_eq] at hs
  have hs' : (ops[j]?.bind (·.dst)) = some t := by
    split at hs
    · rename_i o ho
      have : ops[j]? = some o := by rw [← Array.getElem?_toList]; exact ho
      rw [this]; exact hs
    · cases hs
  unfold yielded
  rw [hs', Option.bind_some]
  have ht := hT t
  generalize tget T t = x at ht ⊢
  have hgd : a.eval (.tmp t) = (a.tmps[t]?).getD undef := by simp [Act.eval]
  rw [hgd] at ht
  cases hx : a.tmps[t]? with
  | none =>
    rw [hx] at ht
    simp only [Option.getD_none] at ht
    cases ht
    rfl
  | some v =>
    rw [hx] at ht
    simp only [Option.getD_some] at ht
    cases ht <;> first | rfl | (rename_i b; cases b <;> cases want <;> rfl)
theorem guard_none {a : Act} {ops : Array Oper} {j : Nat} {want : Bool} (hs : guardSlot ops.toList j = .none) : (yielded ops a.tmps j == some want) = false := by
  unfold guardSlot at hs
  rw [nthO_eq] at hs
  have hs' : (ops[j]?.bind (·.dst)) = .none := by
    rw [← Array.getElem?_toList]
    split at hs
    · rename_i o ho
      rw [ho]; exact hs
    · rename_i ho
      rw [ho]; rfl
  unfold yielded
  rw [hs']
  rfl
theorem wantC_none {all : List Oper} {g : Option (Nat × Bool)} (h : wantC all g = .none) : g = .none := by
  unfold wantC at h
  split at h
  · rfl
  · split at h <;> cases h
theorem wantC_some {all : List Oper} {g : Option (Nat × Bool)} {w : WantC} (h : wantC all g = some w) {ops : Array Oper} (ha : ops.toList = all) {T : Tm} {a : Act} (hT : TRel m T a) {o : Oper} (hg : o.guard = g) : Region.wanted o (yielded ops a.tmps) = w.w T := by
  unfold wantC at h
  unfold Region.wanted
  split at h
  · cases h
  · rename_i j want
    rw [hg]
    dsimp only
    split at h
    · rename_i t ht
      cases h
      rw [guard_rel hT (by rw [ha]; exact ht)]
      rfl
    · rename_i ht
      cases h
      exact guard_none (by rw [ha]; exact ht)

/-- What stands behind a piece that was carried out. -/
structure After (P : Program) (n : Nat) (V : Nat → Prop) (m : BMap) (S : St) (w : World) (m' : BMap) (T' : Tm) (S' : St) (a' : Act) (w' : World) : Prop where
  rel : TRel m' T' a'
  size : a'.tmps.size = n
  defers : a'.defers = []
  out : Out P V m S w m' S' w'
/-- What stands ahead of it. -/
structure Ahead (P : Program) (n : Nat) (V : Nat → Prop) (m : BMap) (T : Tm) (S : St) (S' : St) (a : Act) (w : World) : Prop where
  rel : TRel m T a
  size : a.tmps.size = n
  defers : a.defers = []
  mem : Rel P V m S w
  acc : ∀ X, X < S.next → S'.acc.testBit X = true → V X
  fresh : ∀ X, S.next ≤ X → X < S'.next → m X = .none
theorem After.trans {n : Nat} {V : Nat → Prop} {m m1 m2 : BMap} {S S1 S2 : St} {w w1 w2 : World} {T2 : Tm} {a2 : Act} (h : Out P V m S w m1 S1 w1) (k : After P n (fun X => V X ∨ (S.next ≤ X ∧ X < S1.next)) m1 S1 w1 m2 T2 S2 a2 w2) : After P n V m S w m2 T2 S2 a2 w2 :=
  ⟨k.rel, k.size, k.defers, h.trans k.out⟩

/-! ### A region in order -/
theorem regC_sim (hP : PGood P) (hN : PNames P) {call : CallF} (hcall : CallOk P call) {n : Nat} {ops : Array Oper} : ∀ (os : List Oper) (k : Nat), ops.toList.drop k = os → ∀ {T T' : Tm} {S S' : St},
    (regC P n ops.toList os).r call T S = some (T', S') → Tidy S → Grown S S' ∧ ∀ (m : BMap) (V : Nat → Prop) (w : World) (a : Act) (Q : Exit → Act → World → Prop), Ahead P n V m T S S' a w →
      (∀ m' a' w', After P n V m S w m' T' S' a' w' → Q .normal a' w') → wpOps P ops Q ((List.range' k os.length)) a w
  | [], k, hk, T, T', S, S', he, hS => by
    cases he
    refine ⟨Grown.refl _, fun m V w a Q h hq => ?_⟩
    exact hq m a w ⟨h.rel, h.size, h.defers, Out.refl h.mem⟩
  | o :: os, k, hk, T, T', S, S', he, hS => by
    have hok : ops[k]? = some o := by
      rw [← Array.getElem?_toList]
      have := congrArg (fun l => l[0]?) hk
      simpa using this
    have hk' : ops.toList.drop (k + 1) = os := by
      rw [← List.tail_drop, hk]; rfl
    -- the operation is carried out
    have run : (then2 ((opC P o).r call T S) fun v S => (putC n o.dst).p v T fun T => (regC P n ops.toList os).r call T S) = some (T', S') →
        Grown S S' ∧ ∀ (m : BMap) (V : Nat → Prop) (w : World) (a : Act) (Q : Exit → Act → World → Prop), Ahead P n V m T S S' a w → Region.wanted o (yielded ops a.tmps) = true →
          (∀ m' a' w', After P n V m S w m' T' S' a' w' → Q .normal a' w') → wpOps P ops Q (List.range' k (os.length + 1)) a w := by
      intro he
      obtain ⟨v, S1, h1, h2⟩ := then2_some he
      obtain ⟨h3, hd⟩ := putC_some h2
      obtain ⟨g1, sim1⟩ := opC_sim hP hN hcall h1 hS
      obtain ⟨g2, sim2⟩ := regC_sim hP hN hcall os (k + 1) hk' h3 (hS.grown g1)
      refine ⟨g1.trans g2, fun m V w a Q h hw hq => ?_⟩
      rw [List.range'_succ]
      unfold wpOps
      rw [hok]
      dsimp only
      rw [hw, if_pos rfl]
      refine .inl (sim1 m V w a _ _ h.rel h.mem (fun X hX hb => h.acc X hX (g2.acc X hb)) (fun X hX hb => h.fresh X hX (Nat.lt_of_lt_of_le hb g2.next)) fun m1 v' w1 hv ho => ?_)
      refine sim2 m1 _ w1 _ Q ⟨(h.rel.mono ho.ext).put hv h.size hd, by rw [put_size]; exact h.size, by rw [put_defers]; exact h.defers, ho.rel, step_acc ho h.acc, step_fresh ho h.fresh⟩ fun m' a' w' hA => ?_
      exact hq m' a' w' (After.trans ho hA)
    unfold regC at he
    split at he
    · rename_i hw
      obtain ⟨g, sim⟩ := run he
      refine ⟨g, fun m V w a Q h hq => sim m V w a Q h ?_ hq⟩
      unfold Region.wanted
      rw [wantC_none hw]
    · rename_i wc hw
      dsimp only at he
      split at he
      · rename_i hwt
        obtain ⟨g, sim⟩ := run he
        refine ⟨g, fun m V w a Q h hq => sim m V w a Q h ?_ hq⟩
        rw [wantC_some hw rfl h.rel rfl]
        exact hwt
      · rename_i hwf
        obtain ⟨h3, hd⟩ := putC_some he
        obtain ⟨g2, sim2⟩ := regC_sim hP hN hcall os (k + 1) hk' h3 hS
        refine ⟨g2, fun m V w a Q h hq => ?_⟩
        show wpOps P ops Q (List.range' k (os.length + 1)) a w
        rw [List.range'_succ]
        unfold wpOps
        rw [hok]
        dsimp only
        rw [wantC_some hw rfl h.rel rfl, hwf, if_neg (by simp)]
        exact sim2 m V w _ Q ⟨h.rel.put (.tuple .nil) h.size hd, by rw [put_size]; exact h.size, by rw [put_defers]; exact h.defers, h.mem, h.acc, h.fresh⟩ hq

/-! ### Code -/
def exRel : Ex → Exit → Prop
  | .normal, .normal => True
  | .exit i, .exit j => i = j
  | .ret, .ret => True
  | _, _ => False
def CodPost (P : Program) (n : Nat) (V : Nat → Prop) (m : BMap) (S : St) (w : World) (ex : Ex) (T' : Tm) (S' : St) (e : Exit) (a' : Act) (w' : World) : Prop :=
  exRel ex e ∧ ∃ m', After P n V m S w m' T' S' a' w'
/-- A piece of code that was carried out. -/
def CodSim (P : Program) (n : Nat) (c : Code) (T : Tm) (S : St) (ex : Ex) (T' : Tm) (S' : St) : Prop :=
  Grown S S' ∧ ∀ (m : BMap) (V : Nat → Prop) (w : World) (a : Act), Ahead P n V m T S S' a w → c.wp P (CodPost P n V m S w ex T' S') a w

/-- At the head of a round. -/
def InLoop (P : Program) (c : Code) (Q : Exit → Act → World → Prop) (a : Act) (w : World) : Prop :=
  ∀ (b : Go.Frame) (k : List Item) (cs : List Go.Frame), ∃ e a' w', Q e a' w' ∧ Arrives P (lone (b.at a (.code c :: .inLoop c :: k)) cs w) b k cs e a' w'
theorem InLoop.wp {c : Code} {Q : Exit → Act → World → Prop} {a : Act} {w : World} (h : InLoop P c Q a w) : (Code.loop c).wp P Q a w := fun b k cs =>
  let ⟨e, a', w', hq, harr⟩ := h b k cs
  ⟨e, a', w', hq, .of_steps (.one step_loop) harr⟩
theorem InLoop.step {c : Code} {Q : Exit → Act → World → Prop} {a : Act} {w : World} (h : c.wp P (Exit.then (InLoop P c Q) Q) a w) : InLoop P c Q a w := by
  intro b k cs
  obtain ⟨e, a1, w1, hq, harr⟩ := h b (.inLoop c :: k) cs
  cases e with
  | normal =>
    obtain ⟨e2, a2, w2, hq2, harr2⟩ := hq b k cs
    exact ⟨e2, a2, w2, hq2, .of_steps (Steps.trans harr (.one step_inLoop)) harr2⟩
  | exit id => exact ⟨_, a1, w1, hq, .pass (x := .inLoop c) rfl (fun _ _ => .inl (by simp)) harr⟩
  | goto l => exact ⟨_, a1, w1, hq, .pass (x := .inLoop c) rfl (fun _ _ => .inl (by simp)) harr⟩
  | ret => exact ⟨_, a1, w1, hq, .pass (x := .inLoop c) rfl (fun _ _ => .inl (by simp)) harr⟩
  | panic ch => exact ⟨_, a1, w1, hq, .pass (x := .inLoop c) rfl (fun _ _ => .inl (by simp)) harr⟩
  | outgrown => exact ⟨_, a1, w1, hq, .pass (x := .inLoop c) rfl (fun _ _ => .inl (by simp)) harr⟩

theorem CodPost.trans {n : Nat} {V : Nat → Prop} {m m1 : BMap} {S S1 S2 : St} {w w1 : World} {ex : Ex} {T2 : Tm} (h : Out P V m S w m1 S1 w1) {e : Exit} {a' : Act} {w' : World} (k : CodPost P n (fun X => V X ∨ (S.next ≤ X ∧ X < S1.next)) m1 S1 w1 ex T2 S2 e a' w') : CodPost P n V m S w ex T2 S2 e a' w' := by
  obtain ⟨h1, m', h2⟩ := k
  exact ⟨h1, m', After.trans h h2⟩
theorem Ahead.first {n : Nat} {V : Nat → Prop} {m : BMap} {T : Tm} {S S1 S2 : St} {a : Act} {w : World} (h : Ahead P n V m T S S2 a w) (g : Grown S1 S2) : Ahead P n V m T S S1 a w :=
  ⟨h.rel, h.size, h.defers, h.mem, fun X hX hb => h.acc X hX (g.acc X hb), fun X hX hb => h.fresh X hX (Nat.lt_of_lt_of_le hb g.next)⟩
theorem After.second {n : Nat} {V : Nat → Prop} {m m1 : BMap} {T T1 : Tm} {S S1 S2 : St} {a a1 : Act} {w w1 : World} (h : Ahead P n V m T S S2 a w) (k : After P n V m S w m1 T1 S1 a1 w1) : Ahead P n (fun X => V X ∨ (S.next ≤ X ∧ X < S1.next)) m1 T1 S1 S2 a1 w1 :=
  ⟨k.rel, k.size, k.defers, k.out.rel, step_acc k.out h.acc, step_fresh k.out h.fresh⟩

/-- One piece behind another. -/
theorem CodSim.seq {n : Nat} {c : Code} {T T1 : Tm} {S S1 : St} {ex : Ex} (h : CodSim P n c T S ex T1 S1) {T2 : Tm} {S2 : St} {ex2 : Ex} {next : (Exit → Act → World → Prop) → Act → World → Prop}
    (hn : ex = .normal → Grown S1 S2 ∧ ∀ (m : BMap) (V : Nat → Prop) (w : World) (a : Act), Ahead P n V m T1 S1 S2 a w → ∀ Q : Exit → Act → World → Prop, (∀ e a' w', CodPost P n V m S1 w ex2 T2 S2 e a' w' → Q e a' w') → next Q a w)
    (ho : ex ≠ .normal → ex2 = ex ∧ T2 = T1 ∧ S2 = S1) :
    Grown S S2 ∧ ∀ (m : BMap) (V : Nat → Prop) (w : World) (a : Act), Ahead P n V m T S S2 a w → ∀ Q : Exit → Act → World → Prop, (∀ e a' w', CodPost P n V m S w ex2 T2 S2 e a' w' → Q e a' w') → c.wp P (Exit.then (next Q) Q) a w := by
  obtain ⟨g1, s1⟩ := h
  by_cases hx : ex = .normal
  · obtain ⟨g2, s2⟩ := hn hx
    subst hx
    refine ⟨g1.trans g2, fun m V w a hA Q hq => wp_mono (s1 m V w a (hA.first g2)) fun e a' w' hp => ?_⟩
    obtain ⟨h1, m1, h2⟩ := hp
    cases e <;> try (exact h1.elim)
    exact s2 m1 _ w' a' (After.second hA h2) Q fun e a'' w'' hp => hq _ _ _ (CodPost.trans h2.out hp)
  · obtain ⟨rfl, rfl, rfl⟩ := ho hx
    refine ⟨g1, fun m V w a hA Q hq => wp_mono (s1 m V w a hA) fun e a' w' hp => ?_⟩
    have := hq e a' w' hp
    obtain ⟨h1, _⟩ := hp
    cases e with
    | normal => cases ex2 <;> first | exact absurd rfl hx | exact h1.elim
    | _ => exact this

theorem cSeq_some {a : Cod} {b : Tm → St → Cod} {ex2 : Ex} {T2 : Tm} {S2 : St} (h : cSeq a b = some (ex2, T2, S2)) : ∃ ex T1 S1, a = some (ex, T1, S1) ∧ (ex = .normal → b T1 S1 = some (ex2, T2, S2)) ∧ (ex ≠ .normal → ex2 = ex ∧ T2 = T1 ∧ S2 = S1) := by
  unfold cSeq at h
  split at h
  · exact ⟨_, _, _, rfl, fun _ => h, fun hn => absurd rfl hn⟩
  · cases h; exact ⟨_, _, _, rfl, (fun hn => by cases hn), fun _ => ⟨rfl, rfl, rfl⟩⟩
  · cases h; exact ⟨_, _, _, rfl, (fun hn => by cases hn), fun _ => ⟨rfl, rfl, rfl⟩⟩
  · cases h

/-- What is asked of a region that draws. -/
def DrawSim (P : Program) (call : CallF) : Prop :=
  ∀ (n id : Nat) (ops : Array Oper) (T T' : Tm) (S S' : St), statOk ops.toList = true → (drawC P n ops.toList (ops.toList.zip (masksOf ops.toList [])) 0).r call T S [] S.acc S.wr = some (T', S') → Tidy S → CodSim P n (.region id ops true) T S .normal T' S'

theorem loop_sim {call : CallF} {n : Nat} {c : Code} (body : ∀ {T T' : Tm} {S S' : St} {ex : Ex}, (codC P n c).r call T S = some (ex, T', S') → Tidy S → CodSim P n c T S ex T' S') :
    ∀ (f : Nat) {T T' : Tm} {S S' : St} {ex : Ex}, cLoop (codC P n c) call f T S = some (ex, T', S') → Tidy S →
      Grown S S' ∧ ∀ (m : BMap) (V : Nat → Prop) (w : World) (a : Act), Ahead P n V m T S S' a w → ∀ Q : Exit → Act → World → Prop, (∀ e a' w', CodPost P n V m S w ex T' S' e a' w' → Q e a' w') → InLoop P c Q a w
  | 0, T, T', S, S', ex, h, _ => by cases h
  | f + 1, T, T', S, S', ex, h, hS => by
    obtain ⟨ex1, T1, S1, h1, h2, h3⟩ := cSeq_some h
    have hb := body h1 hS
    obtain ⟨g, sim⟩ := hb.seq (next := InLoop P c) (fun hx => loop_sim body f (h2 hx) (hS.grown hb.1)) h3
    exact ⟨g, fun m V w a hA Q hq => InLoop.step (sim m V w a hA Q hq)⟩

theorem codC_sim (hP : PGood P) (hN : PNames P) (hm : P.follows .mixedOrders = true) {call : CallF} (hcall : CallOk P call) (hdraw : DrawSim P call) {n : Nat} : ∀ (c : Code) {T T' : Tm} {S S' : St} {ex : Ex},
    (codC P n c).r call T S = some (ex, T', S') → Tidy S → CodSim P n c T S ex T' S'
  | .skip, T, T', S, S', ex, h, hS => by
    cases h
    exact ⟨Grown.refl _, fun m V w a hA => wp_skip ⟨trivial, m, hA.rel, hA.size, hA.defers, Out.refl hA.mem⟩⟩
  | .label l, T, T', S, S', ex, h, hS => by
    cases h
    exact ⟨Grown.refl _, fun m V w a hA => wp_label ⟨trivial, m, hA.rel, hA.size, hA.defers, Out.refl hA.mem⟩⟩
  | .exit id, T, T', S, S', ex, h, hS => by
    cases h
    exact ⟨Grown.refl _, fun m V w a hA => wp_exit ⟨rfl, m, hA.rel, hA.size, hA.defers, Out.refl hA.mem⟩⟩
  | .ret, T, T', S, S', ex, h, hS => by
    cases h
    exact ⟨Grown.refl _, fun m V w a hA => wp_ret ⟨trivial, m, hA.rel, hA.size, hA.defers, Out.refl hA.mem⟩⟩
  | .region id ops draw, T, T', S, S', ex, h, hS => by
    have h : (regionC P n ops.toList draw).r call T S = some (ex, T', S') := h
    unfold regionC at h
    split at h
    · dsimp only at h
      unfold toNormal at h
      split at h
      · rename_i hr
        cases h
        obtain ⟨g, sim⟩ := regC_sim hP hN hcall ops.toList 0 rfl hr hS
        refine ⟨g, fun m V w a hA => wp_region ?_⟩
        have := sim m V w a (CodPost P n V m S w .normal T' S') hA fun m' a' w' hp => ⟨trivial, m', hp⟩
        rw [List.range_eq_range']
        simpa using this
      · cases h
    · split at h
      · rename_i hst
        dsimp only at h
        unfold toNormal at h
        split at h
        · rename_i hr
          cases h
          exact hdraw n id ops T T' S S' hst hr hS
        · cases h
      · cases h
  | .seq x y, T, T', S, S', ex, h, hS => by
    obtain ⟨ex1, T1, S1, h1, h2, h3⟩ := cSeq_some h
    have hb := codC_sim hP hN hm hcall hdraw x h1 hS
    obtain ⟨g, sim⟩ := hb.seq (next := fun Q => y.wp P Q) (fun hx => by
      obtain ⟨g2, s2⟩ := codC_sim hP hN hm hcall hdraw y (h2 hx) (hS.grown hb.1)
      exact ⟨g2, fun m V w a hA Q hq => wp_mono (s2 m V w a hA) hq⟩) h3
    exact ⟨g, fun m V w a hA => wp_seq (sim m V w a hA _ fun _ _ _ h => h)⟩
  | .cond x y z, T, T', S, S', ex, h, hS => by
    unfold codC at h
    split at h
    · rename_i gx hx
      dsimp only at h
      unfold cCond at h
      split at h
      · rename_i hb
        obtain ⟨g, s⟩ := codC_sim hP hN hm hcall hdraw y h hS
        refine ⟨g, fun m V w a hA => wp_cond_true ?_ (s m V w a hA)⟩
        have := opdC_rel hA.rel hx
        rw [hb] at this
        generalize a.eval x = e at this
        cases this; rfl
      · rename_i hb
        obtain ⟨g, s⟩ := codC_sim hP hN hm hcall hdraw z h hS
        refine ⟨g, fun m V w a hA => wp_cond_false ?_ (s m V w a hA)⟩
        have := opdC_rel hA.rel hx
        rw [hb] at this
        generalize a.eval x = e at this
        cases this; rfl
      · cases h
    · cases h
  | .block id x, T, T', S, S', ex, h, hS => by
    have h : cBlock id ((codC P n x).r call T S) = some (ex, T', S') := h
    have key : ∃ ex1, (codC P n x).r call T S = some (ex1, T', S') ∧ ((ex1 = .exit id ∧ ex = .normal) ∨ (ex1 = ex ∧ ex1 ≠ .exit id)) := by
      unfold cBlock at h
      split at h
      · rename_i i T1 S1 h1
        split at h
        · rename_i hi
          cases h
          exact ⟨_, h1, .inl ⟨by rw [Nat.eq_of_beq_eq_true hi], rfl⟩⟩
        · rename_i hi
          cases h
          exact ⟨_, h1, .inr ⟨rfl, fun he => by cases he; rw [Nat.beq_refl] at hi; cases hi⟩⟩
      · rename_i h1; cases h; exact ⟨_, h1, .inr ⟨rfl, fun he => by cases he⟩⟩
      · rename_i h1; cases h; exact ⟨_, h1, .inr ⟨rfl, fun he => by cases he⟩⟩
      · cases h
    obtain ⟨ex1, h1, hx⟩ := key
    obtain ⟨g, s⟩ := codC_sim hP hN hm hcall hdraw x h1 hS
    refine ⟨g, fun m V w a hA => wp_block (wp_mono (s m V w a hA) fun e a' w' hp => ?_)⟩
    obtain ⟨h2, m', h3⟩ := hp
    rcases hx with ⟨rfl, rfl⟩ | ⟨rfl, hne⟩
    · cases e <;> try (exact h2.elim)
      cases h2
      show (if id = id then CodPost P n V m S w .normal T' S' .normal a' w' else _)
      rw [if_pos rfl]
      exact ⟨trivial, m', h3⟩
    · cases e with
      | exit j =>
        show (if j = id then _ else CodPost P n V m S w _ T' S' (.exit j) a' w')
        split
        · rename_i hj
          subst hj
          cases ex1 <;> first | exact h2.elim | (cases h2; exact absurd rfl hne)
        · exact ⟨h2, m', h3⟩
      | _ => exact ⟨h2, m', h3⟩
  | .loop x, T, T', S, S', ex, h, hS => by
    obtain ⟨g, sim⟩ := loop_sim (fun h hS => codC_sim hP hN hm hcall hdraw x h hS) 1000000 h hS
    exact ⟨g, fun m V w a hA => (sim m V w a hA _ fun _ _ _ h => h).wp⟩
  | .rangeFunc _ _ _ _, T, T', S, S', ex, h, hS => by cases h
  | .scope x, T, T', S, S', ex, h, hS => by
    have h : (codC P n x).r call T S = some (ex, T', S') := h
    obtain ⟨g, s⟩ := codC_sim hP hN hm hcall hdraw x h hS
    refine ⟨g, fun m V w a hA => wp_scope_straight (wp_mono (s m V w a hA) fun e a' w' hp => ?_)⟩
    cases e with
    | goto l => cases ex <;> exact hp.1.elim
    | _ => exact hp
  | .goto _, T, T', S, S', ex, h, hS => by cases h
  | .refuse _, T, T', S, S', ex, h, hS => by cases h
end

end
end Go.Proofs.YtgkbjdphkmmmhaaDoor.Ev
