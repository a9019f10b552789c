/-
  Runs that the kernel carries out: an operation's run in the abstract memory tells its run in the real one. No program in sight.
-/
import Derived.Test.YtgkbjdphkmmmhaaDoorEvA
namespace Go.Proofs.YtgkbjdphkmmmhaaDoor.Ev
open Go
noncomputable section

/-! ### The steps of memory -/
theorem Rel.rd {P : Program} {V : Nat → Prop} {m : BMap} {S : St} {w : World} (h : Rel P V m S w) (b : Nat) : Out P V m S w m ⟨S.heap, S.next, bit S.acc b, S.wr⟩ w where
  ext := Ext.refl m
  dom := fun X h1 h2 => absurd h1 h2
  rel := ⟨fun X hv x hx => h.blk X (hv.resolve_right (fun h => by have := h.1; have := h.2; simp only at *; omega)) x hx, fun X Y hx hy => h.inj X Y (hx.resolve_right (fun h => by have := h.1; have := h.2; simp only at *; omega)) (hy.resolve_right (fun h => by have := h.1; have := h.2; simp only at *; omega)), h.low, h.bnd⟩
  grown := Grown.rd S b
  size := Nat.le_refl _
  os := rfl
  tape := rfl
  output := rfl
  keep := fun _ _ _ => rfl
  new := fun X p h1 h2 _ => by simp only at h2; omega

theorem Rel.lt {P : Program} {V : Nat → Prop} {m : BMap} {S : St} {w : World} (h : Rel P V m S w) {b : Nat} {x : ABlk} (hold : S.heap.get b = some x) : b < S.next := by
  rcases Nat.lt_or_ge b S.next with hl | hl
  · exact hl
  · rw [h.low b hl] at hold; cases hold

theorem Rel.of_put {P : Program} {V : Nat → Prop} {m : BMap} {S : St} {w w1 : World} (h : Rel P V m S w) {b : Nat} {p : Img} {old x : ABlk} (hb : V b) (hm : m b = some p) (hold : S.heap.get b = some old)
    (hsize : w1.heap.size = w.heap.size) (hrest : ∀ k, k ≠ p.blk → w1.heap[k]? = w.heap[k]?) (hos : w1.os = w.os) (htape : w1.tape = w.tape) (hout : w1.output = w.output) (hx : BR P m b x w1) :
    Out P V m S w m (S.put b (some x)) w1 := by
  have hlt : b < S.next := h.lt hold
  have hget : (S.put b (some x)).heap.get b = some x := Tr.get_set_eq 33 _ _ _ (by have := h.bnd; omega)
  have hne : ∀ X, X ≠ b → (S.put b (some x)).heap.get X = S.heap.get X := fun X hX => Tr.get_set_ne 33 _ _ _ _ hX
  have hnext : (S.put b (some x)).next = S.next := rfl
  have hsome : ∀ X, ((S.put b (some x)).heap.get X).isSome = (S.heap.get X).isSome := fun X => by
    by_cases hX : X = b
    · subst hX; rw [hget, hold]; rfl
    · rw [hne X hX]
  refine ⟨Ext.refl m, fun X h1 h2 => absurd h1 h2, ⟨?_, ?_, ?_, h.bnd⟩, Grown.put S b _ (by rw [hold]; rfl), Nat.le_of_eq hsize.symm, hos, htape, hout, ?_, fun X p h1 h2 _ => by rw [hnext] at h2; omega⟩
  · intro X hv y hy
    have hv : V X := hv.resolve_right (fun h => by rw [hnext] at h; omega)
    by_cases hX : X = b
    · subst hX
      rw [hget] at hy
      cases hy
      exact hx
    · rw [hne X hX] at hy
      have hB := h.blk X hv y hy
      obtain ⟨q, hc, _⟩ := hB.block
      refine hB.same hc (hrest q.blk ?_)
      intro he
      exact hX (h.inj X b hv hb (by rw [hy]; rfl) (by rw [hold]; rfl) _ _ hc hm he)
  · intro X Y hX hY gX gY
    rw [hsome] at gX gY
    exact h.inj X Y (hX.resolve_right (fun h => by rw [hnext] at h; omega)) (hY.resolve_right (fun h => by rw [hnext] at h; omega)) gX gY
  · intro X hX
    rw [hnext] at hX
    rw [hne X (by omega)]
    exact h.low X hX
  · intro k hk hw
    refine hrest k ?_
    intro he
    exact hw b p (by simp [St.put, bit_eq]) hm he.symm

def BMap.with (m : BMap) (X : Nat) (p : Img) : BMap := fun Y => if Y = X then some p else m Y
theorem Ext.with {m : BMap} {X : Nat} (h : m X = .none) (p : Img) : Ext m (m.with X p) := fun Y q hY => by
  unfold BMap.with
  split
  · rename_i he; rw [he, h] at hY; cases hY
  · exact hY
theorem BMap.with_self (m : BMap) (X : Nat) (p : Img) : m.with X p X = some p := by simp [BMap.with]
theorem BMap.with_ne (m : BMap) {X Y : Nat} (p : Img) (h : Y ≠ X) : m.with X p Y = m Y := by simp [BMap.with, h]

/-- A block more. -/
theorem Rel.of_new {P : Program} {V : Nat → Prop} {m : BMap} {S : St} {w w1 : World} (h : Rel P V m S w) {x : ABlk} {o : Obj} {p : Img} (hn : S.next < 8192) (hm : m S.next = .none) (hp : p.blk = w.heap.size)
    (hheap : w1.heap = w.heap.push o) (hos : w1.os = w.os) (htape : w1.tape = w.tape) (hout : w1.output = w.output)
    (hx : BR P (m.with S.next p) S.next x w1) :
    Out P V m S w (m.with S.next p) (S.new x) w1 := by
  have hget : (S.new x).heap.get S.next = some x := Tr.get_set_eq 33 _ _ _ (by omega)
  have hne : ∀ X, X ≠ S.next → (S.new x).heap.get X = S.heap.get X := fun X hX => Tr.get_set_ne 33 _ _ _ _ hX
  have hnext : (S.new x).next = S.next + 1 := rfl
  have hpush : ∀ k, k < w.heap.size → w1.heap[k]? = w.heap[k]? := fun k hk => by rw [hheap, Array.getElem?_push]; simp; omega
  have hold : ∀ X, X ≠ S.next → V X ∨ (S.next ≤ X ∧ X < (S.new x).next) → V X := fun X h1 h2 => h2.resolve_right (fun h => by rw [hnext] at h; omega)
  refine ⟨Ext.with hm _, ?_, ⟨?_, ?_, ?_, by rw [hnext]; omega⟩, Grown.new S x hn, by rw [hheap]; simp, hos, htape, hout, ?_, ?_⟩
  · intro X h1 h2
    by_cases hX : X = S.next
    · rw [hnext]; omega
    · rw [BMap.with_ne _ _ hX] at h2; exact absurd h1 h2
  · intro X hv y hy
    by_cases hX : X = S.next
    · subst hX
      rw [hget] at hy
      cases hy
      exact hx
    · rw [hne X hX] at hy
      have hB := (h.blk X (hold X hX hv) y hy).mono (Ext.with hm p)
      obtain ⟨q, hc, hl⟩ := (h.blk X (hold X hX hv) y hy).block
      refine BR.same (p := q) ?_ ?_ hB
      · rw [BMap.with_ne _ _ hX]; exact hc
      · exact hpush _ hl
  · have low : ∀ X q, X ≠ S.next → (V X ∨ (S.next ≤ X ∧ X < (S.new x).next)) → (S.heap.get X).isSome → m X = some q → q.blk < w.heap.size := by
      intro X q hX hv hs hmX
      obtain ⟨y, hy⟩ := Option.isSome_iff_exists.1 hs
      obtain ⟨c, hc, hl⟩ := (h.blk X (hold X hX hv) y hy).block
      rw [hmX] at hc
      cases hc
      exact hl
    intro X Y hX hY gX gY p1 q1 mX mY hpq
    by_cases eX : X = S.next
    · by_cases eY : Y = S.next
      · rw [eX, eY]
      · subst eX
        rw [BMap.with_self] at mX
        cases mX
        rw [BMap.with_ne _ _ eY] at mY
        rw [hne Y eY] at gY
        have := low Y _ eY hY gY mY
        omega
    · by_cases eY : Y = S.next
      · subst eY
        rw [BMap.with_self] at mY
        cases mY
        rw [BMap.with_ne _ _ eX] at mX
        rw [hne X eX] at gX
        have := low X _ eX hX gX mX
        omega
      · rw [BMap.with_ne _ _ eX] at mX
        rw [BMap.with_ne _ _ eY] at mY
        rw [hne X eX] at gX
        rw [hne Y eY] at gY
        exact h.inj X Y (hold X eX hX) (hold Y eY hY) gX gY _ _ mX mY hpq
  · intro X hX
    rw [hnext] at hX
    rw [hne X (by omega)]
    exact h.low X (by omega)
  · intro k hk hw
    exact hpush k hk
  · intro X q h1 h2 hmX
    rw [hnext] at h2
    have : X = S.next := by omega
    subst this
    rw [BMap.with_self] at hmX
    cases hmX
    exact .inl (Nat.le_of_eq hp.symm)

/-! ### Two runs side by side -/
inductive SemRel (P : Program) {α α' : Type} (R : BMap → α → α' → Prop) : BMap → Sem α → Sem α' → Prop
  | pure {m : BMap} {a : α} {a' : α'} (h : R m a a') : SemRel P R m (.pure a) (.pure a')
  | load {m : BMap} {md : Mode} {a a' : Addr} {k : Value → Sem α} {k' : Value → Sem α'} (ha : ARel m a a') (hk : ∀ v v', VRel m v v' → SemRel P R m (k v) (k' v')) : SemRel P R m (.load md a k) (.load md a' k')
  | store {m : BMap} {md : Mode} {a a' : Addr} {v v' : Value} {k : Sem α} {k' : Sem α'} (ha : ARel m a a') (hv : VRel m v v') (hk : SemRel P R m k k') : SemRel P R m (.store md a v k) (.store md a' v' k')
  | cells {m : BMap} {c c' : List Value} {e : TypeId} {k : Nat → Sem α} {k' : Nat → Sem α'} (hc : ∀ (i : Nat) (v : Value), c[i]? = some v → ∃ v', c'[i]? = some v' ∧ VRel m v v') (hk : ∀ m' r r', Ext m m' → m' r = some ⟨r', 0, c'.length, szOf P e⟩ → SemRel P R m' (k r) (k' r')) :
      SemRel P R m (.new (.cells ⟨c⟩ e (0, 0)) k) (.new (.cells ⟨c'⟩ e (0, 0)) k')
  | newMap {m : BMap} {es es' : List MapEntry} {cl cl' : Nat} {k : Nat → Sem α} {k' : Nat → Sem α'} (hc : ERels m es es') (hk : ∀ m' r r' p, Ext m m' → m' r = some p → p.blk = r' → SemRel P R m' (k r) (k' r')) :
      SemRel P R m (.new (.map ⟨es⟩ cl) k) (.new (.map ⟨es'⟩ cl') k')
  | getMap {m : BMap} {r r' : Nat} {p : Img} {k : Obj → Sem α} {k' : Obj → Sem α'} (hr : m r = some p) (hp : p.blk = r') (hk : ∀ es es' cl cl', ERels m es es' → SemRel P R m (k (.map ⟨es⟩ cl)) (k' (.map ⟨es'⟩ cl'))) :
      SemRel P R m (.getObj r k) (.getObj r' k')
  | setMap {m : BMap} {r r' : Nat} {p : Img} {es es' : List MapEntry} {cl cl' : Nat} {k : Sem α} {k' : Sem α'} (hr : m r = some p) (hp : p.blk = r') (he : ERels m es es') (hk : SemRel P R m k k') :
      SemRel P R m (.setObj r (.map ⟨es⟩ cl) k) (.setObj r' (.map ⟨es'⟩ cl') k')
  | programL {m : BMap} {k : Program → Sem α} {s' : Sem α'} (hk : SemRel P R m (k P) s') : SemRel P R m (.program k) s'
  | programR {m : BMap} {s : Sem α} {k' : Program → Sem α'} (hk : SemRel P R m s (k' P)) : SemRel P R m s (.program k')
  | markL {m : BMap} {x : Mark} {k : Sem α} {k' : Sem α'} (hk : SemRel P R m k k') : SemRel P R m (.mark x k) k'
  | markR {m : BMap} {x' : Mark} {k : Sem α} {k' : Sem α'} (hk : SemRel P R m k k') : SemRel P R m k (.mark x' k')
  | stuck {m : BMap} {s : Sem α} {s' : Sem α'} (hs : ∀ S, arun P s S = .none) : SemRel P R m s s'

theorem arun_grown {P : Program} {α : Type} : ∀ (s : Sem α) {S S' : St} {x : α}, arun P s S = some (x, S') → Grown S S'
  | .pure a, S, S', x, h => by simp only [arun] at h; cases h; exact Grown.refl _
  | .load md ⟨b, o, sp⟩ k, S, S', x, h => by
    cases sp with
    | some _ => simp only [arun] at h; cases h
    | none =>
      simp only [arun] at h
      split at h
      · split at h
        · rw [St.rd_eq] at h; exact (Grown.rd S b).trans (arun_grown _ h)
        · cases h
      · cases h
  | .store md ⟨b, o, sp⟩ v k, S, S', x, h => by
    simp only [arun] at h
    split at h
    · cases h
    · split at h
      · cases h
      · split at h
        · rename_i hget
          simp only [forceV_eq, forceN_eq] at h
          have h1 := (setL_some h).2
          rw [St.putK_eq] at h1
          exact (Grown.put S _ _ (by rw [hget]; rfl)).trans (arun_grown k h1)
        · cases h
  | .new o k, S, S', x, h => by
    unfold arun at h
    split at h
    · simp only [forceVs_eq] at h
      exact (Grown.new S _ (St.newK_some h).1).trans (arun_grown _ (St.newK_some h).2)
    · simp only [forceEs_eq] at h
      exact (Grown.new S _ (St.newK_some h).1).trans (arun_grown _ (St.newK_some h).2)
    · cases h
  | .getObj r k, S, S', x, h => by
    unfold arun at h
    split at h
    · rw [St.rd_eq] at h; exact (Grown.rd S r).trans (arun_grown _ h)
    · cases h
  | .setObj r o k, S, S', x, h => by
    unfold arun at h
    split at h
    · split at h
      · rename_i hget; rw [forceEs_eq, St.putK_eq] at h; exact (Grown.put S _ _ (by rw [hget]; rfl)).trans (arun_grown k h)
      · cases h
    · cases h
  | .program k, S, S', x, h => by simp only [arun] at h; exact arun_grown _ h
  | .mark _ k, S, S', x, h => by simp only [arun] at h; exact arun_grown k h
  | .shape _ _, _, _, _, h => by simp only [arun] at h; cases h
  | .freeze _ _ _, _, _, _, h => by simp only [arun] at h; cases h
  | .frozen _ _, _, _, _, h => by simp only [arun] at h; cases h
  | .choose _ _, _, _, _, h => by simp only [arun] at h; cases h
  | .sys _ _, _, _, _, h => by simp only [arun] at h; cases h
  | .halt _, _, _, _, h => by simp only [arun] at h; cases h

/-- What the rest of a run may ask of the state behind its first step. -/
theorem step_acc {P : Program} {V : Nat → Prop} {m m1 : BMap} {S S1 S' : St} {w w1 : World} (ho : Out P V m S w m1 S1 w1)
    (ha : ∀ X, X < S.next → S'.acc.testBit X = true → V X) : ∀ X, X < S1.next → S'.acc.testBit X = true → V X ∨ (S.next ≤ X ∧ X < S1.next) := fun X hX hb => by
  by_cases h : X < S.next
  · exact .inl (ha X h hb)
  · exact .inr ⟨by omega, hX⟩
theorem step_fresh {P : Program} {V : Nat → Prop} {m m1 : BMap} {S S1 S' : St} {w w1 : World} (ho : Out P V m S w m1 S1 w1)
    (hf : ∀ X, S.next ≤ X → X < S'.next → m X = .none) : ∀ X, S1.next ≤ X → X < S'.next → m1 X = .none := fun X hX hb => by
  have := ho.grown.next
  by_cases h : m1 X = .none
  · exact h
  · have := ho.dom X (hf X (by omega) hb) h
    omega

theorem arun_sim {P : Program} {α α' : Type} {R : BMap → α → α' → Prop} {m : BMap} {s : Sem α} {s' : Sem α'} (h : SemRel P R m s s') :
    ∀ {V : Nat → Prop} {S S' : St} {w : World} {x : α}, arun P s S = some (x, S') → Rel P V m S w → (∀ X, X < S.next → S'.acc.testBit X = true → V X) → (∀ X, S.next ≤ X → X < S'.next → m X = .none) →
      ∃ m' x' w', s'.run P w = .ok x' w' ∧ R m' x x' ∧ Out P V m S w m' S' w' := by
  induction h with
  | pure h =>
    intro V S S' w x he hr ha hf
    simp only [arun] at he
    cases he
    exact ⟨_, _, _, rfl, h, Out.refl hr⟩
  | @load m md a a' k k' hA hk ih =>
    intro V S S' w x he hr ha hf
    obtain ⟨b, o, sp⟩ := a
    obtain ⟨p, hm, hb', ho, hs1, hs2⟩ := hA
    simp only at hm ho hs1
    subst hs1
    simp only [arun] at he
    split at he
    · rename_i cs e hget
      split at he
      · rename_i v hv
        rw [St.rd_eq] at he
        have hg := arun_grown _ he
        have hlt : b < S.next := hr.lt hget
        have hVb : V b := ha b hlt (hg.acc b (by simp [bit_eq]))
        obtain ⟨q, c, h1, ⟨fr, h2, hnf⟩, _, _, h3⟩ := hr.blk b hVb _ hget
        rw [hm] at h1
        cases h1
        rw [getL_eq] at hv
        obtain ⟨v', hv', hvr⟩ := h3 o v hv
        have hstep := hr.rd b
        obtain ⟨m', x', w', hrun, hR, hO⟩ := ih v v' hvr he hstep.rel (step_acc hstep ha) (step_fresh hstep hf)
        refine ⟨m', x', w', ?_, hR, hstep.trans hO⟩
        have hcell : w.cell? a' = some v' := by
          unfold World.cell?
          rw [hb', h2]
          simp only [hs2, Option.isSome_none, Bool.false_eq_true, if_false, ho]
          exact hv'
        simp only [Sem.run, hcell]
        exact hrun
      · cases he
    · cases he
  | @store m md a a' v v' k k' hA hV hk ih =>
    intro V S S' w x he hr ha hf
    obtain ⟨b, o, sp⟩ := a
    obtain ⟨p, hm, hb', ho, hs1, hs2⟩ := hA
    simp only at hm ho hs1
    subst hs1
    simp only [arun] at he
    split at he
    · cases he
    · rename_i hflat
      split at he
      · rename_i cs e hget
        simp only [forceV_eq, forceN_eq] at he
        obtain ⟨hol, he⟩ := setL_some he
        rw [St.putK_eq] at he
        have hg := arun_grown _ he
        have hlt : b < S.next := hr.lt hget
        have hVb : V b := ha b hlt (hg.acc b (by simp [St.put, bit_eq]))
        obtain ⟨q, c, h1, ⟨fr, h2, hnf⟩, h4, h5, h3⟩ := hr.blk b hVb _ hget
        rw [hm] at h1
        cases h1
        obtain ⟨v0, hv0, _⟩ := h3 o (cs[o]) (List.getElem?_eq_getElem hol)
        have hoc : o + p.off < c.size := (Array.getElem?_eq_some_iff.1 hv0).1
        have hcell : w.cell? a' = some v0 := by
          unfold World.cell?
          rw [hb', h2]
          simp only [hs2, Option.isSome_none, Bool.false_eq_true, if_false, ho]
          exact hv0
        have hfr : w.frozen? a' = false := by
          unfold World.frozen?
          rw [hb', h2]
          exact hnf.not (by rw [ho]; exact hoc)
        have hset : (w.setCell a' v').heap = w.heap.modify a'.block fun | .cells c elem frozen => .cells (c.setIfInBounds a'.off v') elem frozen | o => o := by
          unfold World.setCell
          simp only [hs2, Option.isSome_none, Bool.false_eq_true, if_false]
          rfl
        have hstep : Out P V m S w m (S.put b (some (.cells (cs.set o v) e))) (w.setCell a' v') := by
          refine hr.of_put hVb hm hget ?_ ?_ rfl rfl rfl ?_
          · rw [hset, Array.size_modify]
          · intro j hj
            rw [hset, Array.getElem?_modify]
            rw [if_neg (fun h => hj (by rw [← h, hb']))]
          · refine ⟨p, c.setIfInBounds a'.off v', hm, ⟨fr, ?_, by simpa using hnf⟩, by simpa using h4, h5, ?_⟩
            · rw [hset, Array.getElem?_modify, if_pos hb', h2]
              rfl
            · intro i u hu
              rw [ho]
              by_cases hi : i = o
              · subst hi
                rw [List.getElem?_set_self hol] at hu
                cases hu
                exact ⟨v', by rw [Array.getElem?_setIfInBounds_self_of_lt hoc], hV⟩
              · rw [List.getElem?_set_ne (fun h => hi h.symm)] at hu
                obtain ⟨u', hu', hur⟩ := h3 i u hu
                exact ⟨u', by rw [Array.getElem?_setIfInBounds_ne (by omega)]; exact hu', hur⟩
        obtain ⟨m', x', w', hrun, hR, hO⟩ := ih he hstep.rel (step_acc hstep ha) (step_fresh hstep hf)
        refine ⟨m', x', w', ?_, hR, hstep.trans hO⟩
        rw [← hrun]
        have hfl : flatCell v' = true := by cases hV <;> first | rfl | simp [flatCell] at hflat
        cases v' <;> first | (simp [flatCell] at hfl; done) | (simp only [Sem.run, hcell, hfr]; rfl)
      · cases he
  | @cells m c c' e k k' hc hk ih =>
    intro V S S' w x he hr ha hf
    simp only [arun, forceVs_eq] at he
    obtain ⟨hn, he⟩ := St.newK_some he
    have hg := arun_grown _ he
    have hmn : m S.next = .none := hf S.next (Nat.le_refl _) (by have := hg.next; simp only [St.new] at this; omega)
    have hstep : Out P V m S w (m.with S.next ⟨w.heap.size, 0, c'.length, szOf P e⟩) (S.new (.cells c e)) { w with heap := w.heap.push (.cells ⟨c'⟩ e (0, 0)) } := by
      refine hr.of_new (o := .cells ⟨c'⟩ e (0, 0)) hn hmn rfl rfl rfl rfl rfl ⟨_, ⟨c'⟩, BMap.with_self _ _ _, ⟨(0, 0), by simp, .inl ⟨rfl, rfl⟩⟩, rfl, rfl, ?_⟩
      intro i v hv
      obtain ⟨v', h1, h2⟩ := hc i v hv
      exact ⟨v', by simpa using h1, h2.mono (Ext.with hmn _)⟩
    obtain ⟨m', x', w', hrun, hR, hO⟩ := ih _ _ _ (Ext.with hmn _) (BMap.with_self _ _ _) he hstep.rel (step_acc hstep ha) (step_fresh hstep hf)
    exact ⟨m', x', w', by rw [← hrun]; rfl, hR, hstep.trans hO⟩
  | @newMap m es es' cl cl' k k' hc hk ih =>
    intro V S S' w x he hr ha hf
    simp only [arun, forceEs_eq] at he
    obtain ⟨hn, he⟩ := St.newK_some he
    have hg := arun_grown _ he
    have hmn : m S.next = .none := hf S.next (Nat.le_refl _) (by have := hg.next; simp only [St.new] at this; omega)
    have hstep : Out P V m S w (m.with S.next ⟨w.heap.size, 0, 0, 0⟩) (S.new (.map es 0)) { w with heap := w.heap.push (.map ⟨es'⟩ cl') } := by
      exact hr.of_new (o := .map ⟨es'⟩ cl') hn hmn rfl rfl rfl rfl rfl ⟨_, es', cl', BMap.with_self _ _ _, by simp, hc.mono (Ext.with hmn _)⟩
    obtain ⟨m', x', w', hrun, hR, hO⟩ := ih _ _ _ _ (Ext.with hmn _) (BMap.with_self _ _ _) rfl he hstep.rel (step_acc hstep ha) (step_fresh hstep hf)
    exact ⟨m', x', w', by rw [← hrun]; rfl, hR, hstep.trans hO⟩
  | @getMap m r r' p k k' hm hp hk ih =>
    intro V S S' w x he hr ha hf
    unfold arun at he
    split at he
    · rename_i es cl hget
      rw [St.rd_eq] at he
      have hg := arun_grown _ he
      have hlt : r < S.next := hr.lt hget
      have hVb : V r := ha r hlt (hg.acc r (by simp [bit_eq]))
      obtain ⟨q, es', cl', h1, h2, h3⟩ := hr.blk r hVb _ hget
      rw [hm] at h1
      cases h1
      have hstep := hr.rd r
      obtain ⟨m', x', w', hrun, hR, hO⟩ := ih es es' cl cl' h3 he hstep.rel (step_acc hstep ha) (step_fresh hstep hf)
      refine ⟨m', x', w', ?_, hR, hstep.trans hO⟩
      subst hp
      simp only [Sem.run, h2]
      exact hrun
    · cases he
  | @setMap m r r' p es es' cl cl' k k' hm hp hE hk ih =>
    intro V S S' w x he hr ha hf
    simp only [arun] at he
    split at he
    · rename_i es0 cl0 hget
      rw [forceEs_eq, St.putK_eq] at he
      have hg := arun_grown _ he
      have hlt : r < S.next := hr.lt hget
      have hVb : V r := ha r hlt (hg.acc r (by simp [St.put, bit_eq]))
      obtain ⟨q, es1, cl1, h1, h2, h3⟩ := hr.blk r hVb _ hget
      rw [hm] at h1
      cases h1
      subst hp
      have hrl : p.blk < w.heap.size := (Array.getElem?_eq_some_iff.1 h2).1
      have hstep : Out P V m S w m (S.put r (some (.map es 0))) { w with heap := w.heap.setIfInBounds p.blk (.map ⟨es'⟩ cl') } := by
        refine hr.of_put hVb hm hget (by simp) ?_ rfl rfl rfl ?_
        · intro j hj
          exact Array.getElem?_setIfInBounds_ne (fun h => hj h.symm)
        · exact ⟨p, es', cl', hm, by simp only; rw [Array.getElem?_setIfInBounds_self_of_lt hrl], hE⟩
      obtain ⟨m', x', w', hrun, hR, hO⟩ := ih he hstep.rel (step_acc hstep ha) (step_fresh hstep hf)
      refine ⟨m', x', w', ?_, hR, hstep.trans hO⟩
      simp only [Sem.run, h2]
      exact hrun
    · cases he
  | programL hk ih =>
    intro V S S' w x he hr ha hf
    simp only [arun] at he
    exact ih he hr ha hf
  | programR hk ih => exact fun he hr ha hf => ih he hr ha hf
  | markL hk ih =>
    intro V S S' w x he hr ha hf
    simp only [arun] at he
    exact ih he hr ha hf
  | markR hk ih => exact fun he hr ha hf => ih he hr ha hf
  | stuck hs =>
    intro V S S' w x he hr ha hf
    rw [hs] at he
    cases he

/-! ### Both go on -/
theorem arun_new {P : Program} {α : Type} (o : Obj) (k : Nat → Sem α) (S : St) : arun P (.new o k) S = match o with
    | .cells ⟨c⟩ e (0, 0) => forceVs c fun c => S.newK (.cells c e) fun id S => arun P (k id) S
    | .map ⟨es⟩ _ => forceEs es fun es => S.newK (.map es 0) fun id S => arun P (k id) S
    | _ => .none := by (conv => lhs; unfold arun); rfl
theorem arun_getObj {P : Program} {α : Type} (r : Nat) (k : Obj → Sem α) (S : St) : arun P (.getObj r k) S = match S.heap.get r with
    | some (.map es cl) => S.rd r fun S => arun P (k (.map ⟨es⟩ cl)) S
    | _ => .none := by (conv => lhs; unfold arun); rfl
theorem arun_setObj {P : Program} {α : Type} (r : Nat) (o : Obj) (k : Sem α) (S : St) : arun P (.setObj r o k) S = match o with
    | .map ⟨es⟩ _ =>
      match S.heap.get r with
      | some (.map _ _) => forceEs es fun es => S.putK r (some (.map es 0)) fun S => arun P k S
      | _ => .none
    | _ => .none := rfl

theorem arun_bind {P : Program} {α β : Type} (f : α → Sem β) : ∀ (s : Sem α) (S : St), arun P (s.bind f) S = (arun P s S).bind fun p => arun P (f p.1) p.2
  | .pure a, S => rfl
  | .load md ⟨b, o, sp⟩ k, S => by
    cases sp with
    | some _ => rfl
    | none =>
      simp only [Sem.bind, arun]
      split
      · split
        · rw [St.rd_eq, St.rd_eq]; exact arun_bind f _ _
        · rfl
      · rfl
  | .store md ⟨b, o, sp⟩ v k, S => by
    simp only [Sem.bind, arun]
    split
    · rfl
    · cases sp with
      | some _ => rfl
      | none =>
        simp only
        split
        · simp only [forceV_eq, forceN_eq, setL_eq, St.putK_eq]
          split
          · exact arun_bind f _ _
          · rfl
        · rfl
  | .new o k, S => by
    simp only [Sem.bind]
    rw [arun_new, arun_new]
    split
    · simp only [forceVs_eq, St.newK_eq]
      split
      · exact arun_bind f _ _
      · rfl
    · simp only [forceEs_eq, St.newK_eq]
      split
      · exact arun_bind f _ _
      · rfl
    · rfl
  | .getObj r k, S => by
    simp only [Sem.bind]
    rw [arun_getObj, arun_getObj]
    split
    · simp only [St.rd_eq]; exact arun_bind f _ _
    · rfl
  | .setObj r o k, S => by
    simp only [Sem.bind]
    rw [arun_setObj, arun_setObj]
    split
    · split
      · simp only [forceEs_eq, St.putK_eq]; exact arun_bind f _ _
      · rfl
    · rfl
  | .program k, S => by simp only [Sem.bind, arun]; exact arun_bind f _ _
  | .mark _ k, S => by simp only [Sem.bind, arun]; exact arun_bind f _ _
  | .shape _ _, _ => rfl
  | .freeze _ _ _, _ => rfl
  | .frozen _ _, _ => rfl
  | .choose _ _, _ => rfl
  | .sys _ _, _ => rfl
  | .halt _, _ => rfl

theorem SemRel.bind {P : Program} {α α' β β' : Type} {R : BMap → α → α' → Prop} {R' : BMap → β → β' → Prop} {m : BMap} {s : Sem α} {s' : Sem α'} {f : α → Sem β} {f' : α' → Sem β'}
    (h : SemRel P R m s s') : (∀ m' a a', Ext m m' → R m' a a' → SemRel P R' m' (f a) (f' a')) → SemRel P R' m (s.bind f) (s'.bind f') := by
  induction h with
  | pure h => exact fun hf => hf _ _ _ (Ext.refl _) h
  | load ha hk ih => exact fun hf => .load ha fun v v' hv => ih v v' hv hf
  | store ha hv hk ih => exact fun hf => .store ha hv (ih hf)
  | cells hc hk ih => exact fun hf => .cells hc fun m' r r' he hm => ih m' r r' he hm fun m'' a a' h1 h2 => hf m'' a a' (he.trans h1) h2
  | newMap hc hk ih => exact fun hf => .newMap hc fun m' r r' p he hm hp => ih m' r r' p he hm hp fun m'' a a' h1 h2 => hf m'' a a' (he.trans h1) h2
  | getMap hr hp hk ih => exact fun hf => .getMap hr hp fun es es' cl cl' hE => ih es es' cl cl' hE hf
  | setMap hr hp he hk ih => exact fun hf => .setMap hr hp he (ih hf)
  | programL hk ih => exact fun hf => .programL (ih hf)
  | programR hk ih => exact fun hf => .programR (ih hf)
  | markL hk ih => exact fun hf => .markL (ih hf)
  | markR hk ih => exact fun hf => .markR (ih hf)
  | stuck hs => exact fun _ => .stuck fun S => by rw [arun_bind, hs]; rfl

theorem SemRel.mono {P : Program} {α α' : Type} {R R' : BMap → α → α' → Prop} {m : BMap} {s : Sem α} {s' : Sem α'} (h : SemRel P R m s s') (hr : ∀ m' a a', Ext m m' → R m' a a' → R' m' a a') : SemRel P R' m s s' := by
  induction h with
  | pure h => exact .pure (hr _ _ _ (Ext.refl _) h)
  | load ha hk ih => exact .load ha fun v v' hv => ih v v' hv hr
  | store ha hv hk ih => exact .store ha hv (ih hr)
  | cells hc hk ih => exact .cells hc fun m' r r' he hm => ih m' r r' he hm fun m'' a a' h1 h2 => hr m'' a a' (he.trans h1) h2
  | newMap hc hk ih => exact .newMap hc fun m' r r' p he hm hp => ih m' r r' p he hm hp fun m'' a a' h1 h2 => hr m'' a a' (he.trans h1) h2
  | getMap hr' hp hk ih => exact .getMap hr' hp fun es es' cl cl' hE => ih es es' cl cl' hE hr
  | setMap hr' hp he hk ih => exact .setMap hr' hp he (ih hr)
  | programL hk ih => exact .programL (ih hr)
  | programR hk ih => exact .programR (ih hr)
  | markL hk ih => exact .markL (ih hr)
  | markR hk ih => exact .markR (ih hr)
  | stuck hs => exact .stuck hs

theorem SemRel.halt {P : Program} {α α' : Type} {R : BMap → α → α' → Prop} {m : BMap} {h : Halt} {s' : Sem α'} : SemRel P R m (.halt h : Sem α) s' := .stuck fun _ => rfl

/-- A run that touches no memory. -/
inductive Still (P : Program) {α : Type} (Q : α → Prop) : Sem α → Prop
  | pure {a : α} (h : Q a) : Still P Q (.pure a)
  | program {k : Program → Sem α} (h : Still P Q (k P)) : Still P Q (.program k)
  | mark {x : Mark} {k : Sem α} (h : Still P Q k) : Still P Q (.mark x k)
  | halt (h : Halt) : Still P Q (.halt h)
theorem Still.bind {P : Program} {α β : Type} {Q : α → Prop} {Q' : β → Prop} {s : Sem α} {f : α → Sem β} (h : Still P Q s) : (∀ a, Q a → Still P Q' (f a)) → Still P Q' (s.bind f) := by
  induction h with
  | pure h => exact fun hf => hf _ h
  | program h ih => exact fun hf => .program (ih hf)
  | mark h ih => exact fun hf => .mark (ih hf)
  | halt h => exact fun _ => .halt h
theorem Still.rel {P : Program} {α : Type} {Q : α → Prop} {R : BMap → α → α → Prop} {s : Sem α} (h : Still P Q s) (m : BMap) (hq : ∀ a, Q a → R m a a) : SemRel P R m s s := by
  induction h with
  | pure h => exact .pure (hq _ h)
  | program h ih => exact .programL (.programR ih)
  | mark h ih => exact .markL (.markR ih)
  | halt h => exact .halt
theorem Still.next {P : Program} {α β β' : Type} {Q : α → Prop} {R : BMap → β → β' → Prop} {m : BMap} {s : Sem α} {f : α → Sem β} {f' : α → Sem β'} (h : Still P Q s) :
    (∀ a, Q a → SemRel P R m (f a) (f' a)) → SemRel P R m (s.bind f) (s.bind f') := by
  induction h with
  | pure h => exact fun hf => hf _ h
  | program h ih => exact fun hf => .programL (.programR (ih hf))
  | mark h ih => exact fun hf => .markL (.markR (ih hf))
  | halt h => exact fun _ => .halt
theorem Still.left {P : Program} {α β β' : Type} {Q : α → Prop} {R : BMap → β → β' → Prop} {m : BMap} {s : Sem α} {f : α → Sem β} {s' : Sem β'} (h : Still P Q s) :
    (∀ a, Q a → SemRel P R m (f a) s') → SemRel P R m (s.bind f) s' := by
  induction h with
  | pure h => exact fun hf => hf _ h
  | program h ih => exact fun hf => .programL (ih hf)
  | mark h ih => exact fun hf => .markL (ih hf)
  | halt h => exact fun _ => .halt

/-- A run that touches no memory, carried out. -/
def srun (P : Program) {α : Type} : Sem α → Option α
  | .pure a => some a
  | .program k => srun P (k P)
  | .mark _ k => srun P k
  | _ => .none
theorem srun_run {P : Program} {α : Type} : ∀ {s : Sem α} {a : α}, srun P s = some a → ∀ w, s.run P w = .ok a w
  | .pure a, b, h, w => by simp only [srun] at h; cases h; rfl
  | .program k, b, h, w => by simp only [srun] at h; simp only [Sem.run]; exact srun_run h w
  | .mark _ k, b, h, w => by simp only [srun] at h; simp only [Sem.run]; exact srun_run h w

theorem srun_bind {P : Program} {α β : Type} (f : α → Sem β) : ∀ (s : Sem α), srun P (s.bind f) = (srun P s).bind fun a => srun P (f a)
  | .pure a => rfl
  | .program k => by simp only [Sem.bind, srun]; exact srun_bind f _
  | .mark _ k => by simp only [Sem.bind, srun]; exact srun_bind f _
  | .load .. => rfl
  | .store .. => rfl
  | .new .. => rfl
  | .shape .. => rfl
  | .freeze .. => rfl
  | .frozen .. => rfl
  | .getObj .. => rfl
  | .setObj .. => rfl
  | .choose .. => rfl
  | .sys .. => rfl
  | .halt .. => rfl
theorem srun_right {P : Program} {α β β' : Type} {R : BMap → β → β' → Prop} {m : BMap} {t : Sem β} {f' : α → Sem β'} : ∀ {s : Sem α} {a : α}, srun P s = some a → SemRel P R m t (f' a) → SemRel P R m t (s.bind f')
  | .pure a, b, h, hs => by simp only [srun] at h; cases h; exact hs
  | .program k, b, h, hs => by simp only [srun] at h; exact .programR (srun_right h hs)
  | .mark _ k, b, h, hs => by simp only [srun] at h; exact .markR (srun_right h hs)

end
end Go.Proofs.YtgkbjdphkmmmhaaDoor.Ev
