/-
  Runs that the kernel carries out: a call whose run is known already (a run of its own, of the blocks that it needs). No program in sight.
-/
import Derived.Test.YtgkbjdphkmmmhaaDoorEvZ
namespace Go.Proofs.YtgkbjdphkmmmhaaDoor.Ev
open Go
noncomputable section

/-! ### Equality, by the kernel -/
def eqBs : List UInt8 → List UInt8 → Bool
  | [], [] => true
  | a :: l, b :: l' => match Nat.beq a.toNat b.toNat with
    | true => eqBs l l'
    | false => false
  | _, _ => false
theorem eqBs_eq : ∀ {l l' : List UInt8}, eqBs l l' = true → l = l'
  | [], [], _ => rfl
  | a :: l, b :: l', h => by
    unfold eqBs at h
    split at h
    · rename_i h1
      rw [UInt8.toNat_inj.1 (Nat.eq_of_beq_eq_true h1), eqBs_eq h]
    · cases h
  | [], _ :: _, h => by cases h
  | _ :: _, [], h => by cases h
def eqAd : Option Addr → Option Addr → Bool
  | .none, .none => true
  | some ⟨b, o, .none⟩, some ⟨b', o', .none⟩ => Nat.beq b b' && Nat.beq o o'
  | _, _ => false
theorem eqAd_eq {a b : Option Addr} (h : eqAd a b = true) : a = b := by
  unfold eqAd at h
  split at h
  · rfl
  · simp only [Bool.and_eq_true] at h
    rw [Nat.eq_of_beq_eq_true h.1, Nat.eq_of_beq_eq_true h.2]
  · cases h
def eq1 : Value → Value → Bool
  | .bool true, .bool true => true
  | .bool false, .bool false => true
  | .int k a, .int k' b => decide (k = k') && decide (a = b)
  | .string ⟨⟨s⟩⟩, .string ⟨⟨t⟩⟩ => eqBs s t
  | .pointer a, .pointer b => eqAd a b
  | .slice a n c, .slice b n' c' => eqAd a b && Nat.beq n n' && Nat.beq c c'
  | .map .none, .map .none => true
  | .float .f32 a, .float .f32 b => Nat.beq a b
  | _, _ => false
theorem eq1_eq {a b : Value} (h : eq1 a b = true) : a = b := by
  unfold eq1 at h
  split at h
  · rfl
  · rfl
  · simp only [Bool.and_eq_true, decide_eq_true_eq] at h
    rw [h.1, h.2]
  · rw [eqBs_eq h]
  · rw [eqAd_eq h]
  · simp only [Bool.and_eq_true] at h
    rw [eqAd_eq h.1.1, Nat.eq_of_beq_eq_true h.1.2, Nat.eq_of_beq_eq_true h.2]
  · rfl
  · rw [Nat.eq_of_beq_eq_true h]
  · cases h
def eqL : List Value → List Value → Bool
  | [], [] => true
  | a :: l, b :: l' => match eq1 a b with
    | true => eqL l l'
    | false => false
  | _, _ => false
theorem eqL_eq : ∀ {l l' : List Value}, eqL l l' = true → l = l'
  | [], [], _ => rfl
  | a :: l, b :: l', h => by
    unfold eqL at h
    split at h
    · rename_i h1
      rw [eq1_eq h1, eqL_eq h]
    · cases h
  | [], _ :: _, h => by cases h
  | _ :: _, [], h => by cases h
def eqV : Value → Value → Bool
  | .agg ⟨l⟩, .agg ⟨l'⟩ => eqL l l'
  | a, b => eq1 a b
theorem eqV_eq {a b : Value} (h : eqV a b = true) : a = b := by
  unfold eqV at h
  split at h
  · rw [eqL_eq h]
  · exact eq1_eq h
def eqVL : List Value → List Value → Bool
  | [], [] => true
  | a :: l, b :: l' => match eqV a b with
    | true => eqVL l l'
    | false => false
  | _, _ => false
theorem eqVL_eq : ∀ {l l' : List Value}, eqVL l l' = true → l = l'
  | [], [], _ => rfl
  | a :: l, b :: l', h => by
    unfold eqVL at h
    split at h
    · rename_i h1
      rw [eqV_eq h1, eqVL_eq h]
    · cases h
  | [], _ :: _, h => by cases h
  | _ :: _, [], h => by cases h
def eqT : Value → Value → Bool
  | .tuple ⟨l⟩, .tuple ⟨l'⟩ => eqVL l l'
  | a, b => eqV a b
theorem eqT_eq {a b : Value} (h : eqT a b = true) : a = b := by
  unfold eqT at h
  split at h
  · rw [eqVL_eq h]
  · exact eqV_eq h

/-! ### Blocks -/
def allSame (T : Tr ABlk) : Gls → Bool
  | [] => true
  | (X, cs, e) :: l => match T.get X with
    | some (.cells cs' e') => match Nat.beq e' e && eqL cs' cs with
      | true => allSame T l
      | false => false
    | _ => false
theorem allSame_get {T : Tr ABlk} : ∀ {l : Gls}, allSame T l = true → ∀ X cs e, (X, cs, e) ∈ l → T.get X = some (.cells cs e)
  | [], _, X, cs, e, hm => by cases hm
  | (Y, ds, e0) :: l, h, X, cs, e, hm => by
    unfold allSame at h
    split at h
    · rename_i cs' e' hg
      split at h
      · rename_i hc
        simp only [Bool.and_eq_true] at hc
        rcases List.mem_cons.1 hm with hm | hm
        · cases hm
          rw [hg, Nat.eq_of_beq_eq_true hc.1, eqL_eq hc.2]
        · exact allSame_get h X cs e hm
      · cases h
    · cases h
def within (lo hi : Nat) : Gls → Bool
  | [] => true
  | (X, _, _) :: l => match Nat.ble lo X && Nat.blt X hi with
    | true => within lo hi l
    | false => false
theorem within_mem {lo hi : Nat} : ∀ {l : Gls}, within lo hi l = true → ∀ X cs e, (X, cs, e) ∈ l → lo ≤ X ∧ X < hi
  | [], _, X, cs, e, hm => by cases hm
  | (Y, ds, e0) :: l, h, X, cs, e, hm => by
    unfold within at h
    split at h
    · rename_i hc
      simp only [Bool.and_eq_true] at hc
      rcases List.mem_cons.1 hm with hm | hm
      · cases hm
        exact ⟨Nat.le_of_ble_eq_true hc.1, blt_true hc.2⟩
      · exact within_mem h X cs e hm
    · cases h
theorem glHeap_in : ∀ (l : Gls) (T : Tr ABlk) (X : Nat) (x : ABlk), (∀ X cs e, (X, cs, e) ∈ l → X < 8192) → (glHeap l T).get X = some x → (∃ cs e, (X, cs, e) ∈ l ∧ x = .cells cs e) ∨ T.get X = some x
  | [], T, X, x, _, h => .inr h
  | (Y, cs, e) :: l, T, X, x, hb, h => by
    unfold glHeap at h
    rcases glHeap_in l _ X x (fun X cs e hm => hb X cs e (List.mem_cons_of_mem _ hm)) h with ⟨cs', e', h1, h2⟩ | h1
    · exact .inl ⟨cs', e', List.mem_cons_of_mem _ h1, h2⟩
    · by_cases hX : X = Y
      · subst hX
        rw [Tr.get_set_eq 33 _ _ _ (by have := hb X cs e List.mem_cons_self; omega)] at h1
        cases h1
        exact .inl ⟨cs, e, List.mem_cons_self, rfl⟩
      · rw [Tr.get_set_ne 33 _ _ _ _ hX] at h1
        exact .inr h1
theorem glHeap_other : ∀ (l : Gls) (T : Tr ABlk) (X : Nat), (∀ cs e, (X, cs, e) ∉ l) → (glHeap l T).get X = T.get X
  | [], T, X, _ => rfl
  | (Y, cs, e) :: l, T, X, h => by
    unfold glHeap
    have hX : X ≠ Y := fun he => by subst he; exact h cs e List.mem_cons_self
    rw [glHeap_other l _ X (fun cs' e' hm => h cs' e' (List.mem_cons_of_mem _ hm)), Tr.get_set_ne 33 _ _ _ _ hX]
def accAll : Gls → Nat → Nat
  | [], a => a
  | (X, _, _) :: l, a => forceN (bit a X) fun a => accAll l a
theorem accAll_bit : ∀ (l : Gls) (a X : Nat), (accAll l a).testBit X = true ↔ a.testBit X = true ∨ ∃ cs e, (X, cs, e) ∈ l
  | [], a, X => by simp [accAll]
  | (Y, cs, e) :: l, a, X => by
    unfold accAll
    rw [forceN_eq, accAll_bit l, bit_eq]
    simp only [Bool.or_eq_true, decide_eq_true_eq, List.mem_cons]
    constructor
    · rintro ((h | rfl) | ⟨cs', e', h⟩)
      · exact .inl h
      · exact .inr ⟨cs, e, .inl rfl⟩
      · exact .inr ⟨cs', e', .inr h⟩
    · rintro (h | ⟨cs', e', h | h⟩)
      · exact .inl (.inl h)
      · cases h; exact .inl (.inr rfl)
      · exact .inr ⟨cs', e', h⟩

/-! ### A run that is known -/
structure Memo where
  g : FuncId
  args : List Value
  small : Gls
  next : Nat
  v : Value
  res : Gls
  next' : Nat
def Memo.fn (M : Memo) (args : List Value) (S : St) : Option (Value × St) :=
  match Nat.beq S.next M.next with
  | false => .none
  | true => match eqVL args M.args with
    | false => .none
    | true => match allSame S.heap M.small with
      | false => .none
      | true => forceN (accAll M.small S.acc) fun acc => some (M.v, ⟨glHeap M.res S.heap, M.next', acc, S.wr⟩)
def Memo.run (P : Program) (ov : Ov) (f : Nat) (M : Memo) : Bool :=
  match within 0 M.next M.small && within M.next M.next' M.res && Nat.ble M.next M.next' && Nat.ble M.next' 8192 with
  | false => false
  | true => match evCallO P ov f M.g M.args ⟨glHeap M.small Tr.empty, M.next, 0, 0⟩ with
    | some (v, S') => eqT v M.v && Nat.beq S'.next M.next' && allSame S'.heap M.res && Nat.beq (Nat.mod S'.wr (Nat.pow 2 M.next)) 0
    | .none => false

theorem memo_ok {P : Program} (hP : PGood P) (hN : PNames P) (hm : P.follows .mixedOrders = true) {ov : Ov} (hO : OvOk P ov) {f : Nat} {M : Memo} (hrun : M.run P ov f = true) (args : List Value) (S : St) (v : Value) (S' : St) (he : M.fn args S = some (v, S')) (hS : Tidy S) : Grown S S' ∧
    ∀ (m : BMap) (V : Nat → Prop) (w : World) (args' : List Value), Gl m → VRels m args args' → Rel P V m S w → (∀ X, X < S.next → S'.acc.testBit X = true → V X) → (∀ X, S.next ≤ X → X < S'.next → m X = .none) →
      ∃ fn, P.funcs[M.g]? = some fn ∧ fn.body.isSome = true ∧ Calls P M.g ⟨args'⟩ w (CPost P V m S w v S') := by
  unfold Memo.fn at he
  split at he
  · cases he
  rename_i hnx
  split at he
  · cases he
  rename_i hargs
  split at he
  · cases he
  rename_i hsm
  rw [forceN_eq] at he
  cases he
  obtain rfl := eqVL_eq hargs
  have hn : S.next = M.next := Nat.eq_of_beq_eq_true hnx
  unfold Memo.run at hrun
  split at hrun
  · cases hrun
  rename_i hck
  simp only [Bool.and_eq_true] at hck
  obtain ⟨⟨⟨w1, w2⟩, w3⟩, w4⟩ := hck
  have w3 := Nat.le_of_ble_eq_true w3
  have w4 := Nat.le_of_ble_eq_true w4
  split at hrun
  rotate_left
  · cases hrun
  rename_i v0 S0' hev
  simp only [Bool.and_eq_true] at hrun
  obtain ⟨⟨⟨r1, r2⟩, r3⟩, r4⟩ := hrun
  obtain rfl := eqT_eq r1
  have r2 : S0'.next = M.next' := Nat.eq_of_beq_eq_true r2
  have r4 := Nat.eq_of_beq_eq_true r4
  have hw0 : ∀ X, X < M.next → S0'.wr.testBit X = false := fun X hX => by
    have h1 : (S0'.wr % 2 ^ M.next).testBit X = (decide (X < M.next) && S0'.wr.testBit X) := Nat.testBit_mod_two_pow _ _ _
    have h2 : S0'.wr % 2 ^ M.next = 0 := r4
    rw [h2, Nat.zero_testBit, decide_eq_true hX, Bool.true_and] at h1
    exact h1.symm
  have hb1 : ∀ X cs e, (X, cs, e) ∈ M.small → X < M.next := fun X cs e hx => (within_mem w1 X cs e hx).2
  have hb2 : ∀ X cs e, (X, cs, e) ∈ M.res → M.next ≤ X ∧ X < M.next' := fun X cs e hx => within_mem w2 X cs e hx
  have hsame := allSame_get hsm
  have hres := allSame_get r3
  -- the small heap
  have hs0 : ∀ X x, (glHeap M.small Tr.empty).get X = some x → ∃ cs e, (X, cs, e) ∈ M.small ∧ x = .cells cs e := by
    intro X x hx
    rcases glHeap_in M.small Tr.empty X x (fun X cs e hm => by have := hb1 X cs e hm; omega) hx with h | h
    · exact h
    · rw [Tr.get_empty] at h; cases h
  have hT0 : Tidy ⟨glHeap M.small Tr.empty, M.next, 0, 0⟩ := by
    refine ⟨fun X hX => ?_, by show M.next ≤ 8192; omega, fun X hX => by simp at hX⟩
    cases hg : (glHeap M.small Tr.empty).get X with
    | none => rfl
    | some x =>
      obtain ⟨cs, e, h1, -⟩ := hs0 X x hg
      have := hb1 X cs e h1
      have hX : M.next ≤ X := hX
      omega
  obtain ⟨G0, C0⟩ := evCallO_ok hP hN hm (fun _ h => draw_ok hP hN hm h) hO f M.g M.args _ _ S0' hev hT0
  have hwtop : ∀ X, S0'.wr.testBit X = true → M.next ≤ X ∧ X < M.next' := fun X hX => by
    have h1 := G0.top hT0.low (fun Y hY => by simp at hY) X hX
    refine ⟨?_, by omega⟩
    rcases Nat.lt_or_ge X M.next with h | h
    · rw [hw0 X h] at hX; cases hX
    · exact h
  have hnot : ∀ X, X < M.next ∨ M.next' ≤ X → ∀ cs e, (X, cs, e) ∉ M.res := fun X hX cs e hx => by have := hb2 X cs e hx; omega
  have hacc : ∀ X, (accAll M.small S.acc).testBit X = true ↔ S.acc.testBit X = true ∨ ∃ cs e, (X, cs, e) ∈ M.small := fun X => accAll_bit _ _ X
  have hG : Grown S ⟨glHeap M.res S.heap, M.next', accAll M.small S.acc, S.wr⟩ := {
    next := by show S.next ≤ M.next'; omega
    acc := fun X h => (hacc X).2 (.inl h)
    wr := fun _ h => h
    heap := fun X hX _ => glHeap_other _ _ _ (hnot X (.inl (by omega)))
    live := fun X _ h => .inl h
    low := fun hl X hX => by
      have hX : M.next' ≤ X := hX
      show (glHeap M.res S.heap).get X = .none
      rw [glHeap_other _ _ _ (hnot X (.inr hX))]
      exact hl X (by omega)
    bnd := fun _ => w4
    sub := fun hs X hX => (hacc X).2 (.inl (hs X hX))
    top := fun _ ht X hX => by have := ht X hX; show X < M.next'; omega }
  refine ⟨hG, fun m V w args' hgl hv hr ha hf => ?_⟩
  have hr0 : Rel P (fun X => V X ∨ (glHeap M.small Tr.empty).get X = .none) m ⟨glHeap M.small Tr.empty, M.next, 0, 0⟩ w := by
    have old : ∀ X x, (V X ∨ (glHeap M.small Tr.empty).get X = .none) → (glHeap M.small Tr.empty).get X = some x → V X ∧ S.heap.get X = some x := by
      intro X x hX hx
      obtain ⟨cs, e, h1, rfl⟩ := hs0 X x hx
      refine ⟨?_, hsame X cs e h1⟩
      rcases hX with h | h
      · exact h
      · rw [hx] at h; cases h
    refine ⟨fun X hX x hx => ?_, fun X Y hX hY gX gY => ?_, hT0.low, hT0.bnd⟩
    · obtain ⟨h1, h2⟩ := old X x hX hx
      exact hr.blk X h1 x h2
    · obtain ⟨x, hx⟩ := Option.isSome_iff_exists.1 gX
      obtain ⟨y, hy⟩ := Option.isSome_iff_exists.1 gY
      obtain ⟨h1, h2⟩ := old X x hX hx
      obtain ⟨h3, h4⟩ := old Y y hY hy
      exact hr.inj X Y h1 h3 (by rw [h2]; rfl) (by rw [h4]; rfl)
  obtain ⟨fn, hfn, hbody, hcall⟩ := C0 m _ w args' hgl hv hr0 (fun X hX hb => by
      cases hg : (glHeap M.small Tr.empty).get X with
      | none => exact .inr rfl
      | some x =>
        obtain ⟨cs, e, h1, -⟩ := hs0 X x hg
        exact .inl (ha X (by have hX : X < M.next := hX; omega) ((hacc X).2 (.inr ⟨cs, e, h1⟩))))
    (fun X h1 h2 => hf X (by have h1 : M.next ≤ X := h1; omega) (by rw [r2] at h2; exact h2))
  refine ⟨fn, hfn, hbody, hcall.mono ?_⟩
  rintro e w' ⟨m', v', rfl, hv', O⟩
  refine ⟨m', v', rfl, hv', ?_⟩
  have hkeep : ∀ b, b < w.heap.size → w'.heap[b]? = w.heap[b]? := fun b hb => O.keep b hb (fun X p hX hp => by
    obtain ⟨h1, h2⟩ := hwtop X hX
    rw [hf X (by omega) h2] at hp
    cases hp)
  have hnew : ∀ X p, M.next ≤ X → X < M.next' → m' X = some p → w.heap.size ≤ p.blk := fun X p h1 h2 h3 => by
    rcases O.new X p h1 (by rw [r2]; exact h2) h3 with h | ⟨Y, q, h4, h5, -⟩
    · exact h
    · obtain ⟨h6, h7⟩ := hwtop Y h4
      rw [hf Y (by omega) h7] at h5
      cases h5
  have old : ∀ X x, V X → S.heap.get X = some x → BR P m' X x w' ∧ ∃ p, m X = some p ∧ p.blk < w.heap.size := by
    intro X x hX hx
    have hB := hr.blk X hX x hx
    obtain ⟨p, h1, h2⟩ := hB.block
    exact ⟨BR.same (O.ext X p h1) (hkeep p.blk h2) (hB.mono O.ext), p, h1, h2⟩
  have get : ∀ X x, (glHeap M.res S.heap).get X = some x → (M.next ≤ X ∧ X < M.next' ∧ S0'.heap.get X = some x) ∨ (X < M.next ∧ S.heap.get X = some x) := by
    intro X x hx
    rcases glHeap_in M.res S.heap X x (fun X cs e hm => by have := hb2 X cs e hm; omega) hx with ⟨cs, e, h1, rfl⟩ | h
    · have := hb2 X cs e h1
      exact .inl ⟨this.1, this.2, hres X cs e h1⟩
    · refine .inr ⟨?_, h⟩
      rcases Nat.lt_or_ge X M.next with h1 | h1
      · exact h1
      · rw [hr.low X (by omega)] at h; cases h
  have vold : ∀ X, X < M.next → (V X ∨ (S.next ≤ X ∧ X < M.next')) → V X := fun X h1 h2 => h2.resolve_right (fun h => by omega)
  refine {
    ext := O.ext
    dom := fun X h1 h2 => by
      have := O.dom X h1 h2
      rw [r2] at this
      exact ⟨by have h3 : M.next ≤ X := this.1; omega, this.2⟩
    rel := ?_
    grown := hG
    size := O.size
    os := O.os
    tape := O.tape
    output := O.output
    keep := fun b hb _ => hkeep b hb
    new := fun X p h1 h2 h3 => .inl (hnew X p (by omega) h2 h3) }
  refine ⟨fun X hX x hx => ?_, fun X Y hX hY gX gY p q hp hq hpq => ?_, hG.low hS.low, w4⟩
  · rcases get X x hx with ⟨h1, h2, h3⟩ | ⟨h1, h2⟩
    · exact O.rel.blk X (.inr ⟨h1, by rw [r2]; exact h2⟩) x h3
    · exact (old X x (vold X h1 hX) h2).1
  · obtain ⟨x, hx⟩ := Option.isSome_iff_exists.1 gX
    obtain ⟨y, hy⟩ := Option.isSome_iff_exists.1 gY
    rcases get X x hx with ⟨h1, h2, h3⟩ | ⟨h1, h2⟩ <;> rcases get Y y hy with ⟨h4, h5, h6⟩ | ⟨h4, h5⟩
    · exact O.rel.inj X Y (.inr ⟨h1, by rw [r2]; exact h2⟩) (.inr ⟨h4, by rw [r2]; exact h5⟩) (by rw [h3]; rfl) (by rw [h6]; rfl) p q hp hq hpq
    · obtain ⟨-, q', h7, h8⟩ := old Y y (vold Y h4 hY) h5
      have h9 := O.ext Y q' h7
      rw [hq] at h9; cases h9
      have := hnew X p h1 h2 hp
      omega
    · obtain ⟨-, q', h7, h8⟩ := old X x (vold X h1 hX) h2
      have h9 := O.ext X q' h7
      rw [hp] at h9; cases h9
      have := hnew Y q h4 h5 hq
      omega
    · obtain ⟨-, p', h7, -⟩ := old X x (vold X h1 hX) h2
      obtain ⟨-, q', h8, -⟩ := old Y y (vold Y h4 hY) h5
      have h9 := O.ext X p' h7
      have h10 := O.ext Y q' h8
      rw [hp] at h9; cases h9
      rw [hq] at h10; cases h10
      exact hr.inj X Y (vold X h1 hX) (vold Y h4 hY) (by rw [h2]; rfl) (by rw [h5]; rfl) p q h7 h8 hpq

/-- Known runs beside what stood already. -/
def memoOv (ov : Ov) (M : Memo) : Ov := fun g => match Nat.beq g M.g with
  | true => some M.fn
  | false => ov g
theorem memoOv_ok {P : Program} (hP : PGood P) (hN : PNames P) (hm : P.follows .mixedOrders = true) {ov ov' : Ov} (hO : OvOk P ov) (hO' : OvOk P ov') {f : Nat} {M : Memo} (hrun : M.run P ov f = true) : OvOk P (memoOv ov' M) := by
  intro g h hov
  unfold memoOv at hov
  split at hov
  · rename_i hg
    cases hov
    obtain rfl := Nat.eq_of_beq_eq_true hg
    exact fun args S v S' he hS => memo_ok hP hN hm hO hrun args S v S' he hS
  · exact hO' g h hov
end
end Go.Proofs.YtgkbjdphkmmmhaaDoor.Ev
