/-
  Runs that the kernel carries out: one answer that stands for the known runs of a family. No program in sight.
-/
import Derived.Test.YtgkbjdphkmmmhaaDoorEvMemo
namespace Go.Proofs.YtgkbjdphkmmmhaaDoor.Ev
open Go
noncomputable section

/-! ### What a known run says, without the run -/
structure Says1 (P : Program) (g : FuncId) (args : List Value) (small : Gls) (next : Nat) (v : Value) (res : Gls) (next' : Nat) : Prop where
  le : next ≤ next' ∧ next' ≤ 8192
  low : ∀ X cs e, (X, cs, e) ∈ small → X < next
  new : ∀ X cs e, (X, cs, e) ∈ res → next ≤ X ∧ X < next'
  call : ∀ (m : BMap) (V : Nat → Prop) (w : World) (args' : List Value), Gl m → VRels m args args' → Rel P V m ⟨glHeap small Tr.empty, next, 0, 0⟩ w →
    (∀ X cs e, (X, cs, e) ∈ small → V X) → (∀ X, next ≤ X → X < next' → m X = .none) → ∃ fn, P.funcs[g]? = some fn ∧ fn.body.isSome = true ∧ Calls P g ⟨args'⟩ w fun e w' =>
      ∃ m' v', e = .returned v' ∧ VRel m' v v' ∧ Ext m m' ∧ (∀ X, m X = .none → m' X ≠ .none → next ≤ X ∧ X < next') ∧ w.heap.size ≤ w'.heap.size ∧ w'.os = w.os ∧ w'.tape = w.tape ∧ w'.output = w.output ∧
        (∀ b, b < w.heap.size → w'.heap[b]? = w.heap[b]?) ∧ (∀ X p, next ≤ X → X < next' → m' X = some p → w.heap.size ≤ p.blk) ∧
        (∀ X cs e, (X, cs, e) ∈ res → BR P m' X (.cells cs e) w') ∧
        (∀ X Y, (∃ cs e, (X, cs, e) ∈ res) → (∃ cs e, (Y, cs, e) ∈ res) → ∀ p q, m' X = some p → m' Y = some q → p.blk = q.blk → X = Y)

theorem small_get {small : Gls} (hlt : ∀ X cs e, (X, cs, e) ∈ small → X < 8192) {X : Nat} {x : ABlk} (h : (glHeap small Tr.empty).get X = some x) : ∃ cs e, (X, cs, e) ∈ small ∧ x = .cells cs e := by
  rcases glHeap_in small Tr.empty X x hlt h with h | h
  · exact h
  · rw [Tr.get_empty] at h; cases h

theorem memo_says {P : Program} (hP : PGood P) (hN : PNames P) (hm : P.follows .mixedOrders = true) {ov : Ov} (hO : OvOk P ov) {f : Nat} {M : Memo} (hrun : M.run P ov f = true) : Says1 P M.g M.args M.small M.next M.v M.res M.next' := by
  unfold Memo.run at hrun
  split at hrun
  · cases hrun
  rename_i hck
  simp only [Bool.and_eq_true] at hck
  obtain ⟨⟨⟨w1, w2⟩, w3⟩, w4⟩ := hck
  have w3 := Nat.le_of_ble_eq_true w3
  have w4 := Nat.le_of_ble_eq_true w4
  split at hrun
  rotate_left
  · cases hrun
  rename_i v0 S0' hev
  simp only [Bool.and_eq_true] at hrun
  obtain ⟨⟨⟨r1, r2⟩, r3⟩, r4⟩ := hrun
  obtain rfl := eqT_eq r1
  have r2 : S0'.next = M.next' := Nat.eq_of_beq_eq_true r2
  have r4 := Nat.eq_of_beq_eq_true r4
  have hw0 : ∀ X, X < M.next → S0'.wr.testBit X = false := fun X hX => by
    have h1 : (S0'.wr % 2 ^ M.next).testBit X = (decide (X < M.next) && S0'.wr.testBit X) := Nat.testBit_mod_two_pow _ _ _
    have h2 : S0'.wr % 2 ^ M.next = 0 := r4
    rw [h2, Nat.zero_testBit, decide_eq_true hX, Bool.true_and] at h1
    exact h1.symm
  have hb1 : ∀ X cs e, (X, cs, e) ∈ M.small → X < M.next := fun X cs e hx => (within_mem w1 X cs e hx).2
  have hb2 : ∀ X cs e, (X, cs, e) ∈ M.res → M.next ≤ X ∧ X < M.next' := fun X cs e hx => within_mem w2 X cs e hx
  have hres := allSame_get r3
  have hs0 : ∀ X x, (glHeap M.small Tr.empty).get X = some x → ∃ cs e, (X, cs, e) ∈ M.small ∧ x = .cells cs e := fun X x hx => small_get (fun X cs e hm => by have := hb1 X cs e hm; omega) hx
  have hT0 : Tidy ⟨glHeap M.small Tr.empty, M.next, 0, 0⟩ := by
    refine ⟨fun X hX => ?_, by show M.next ≤ 8192; omega, fun X hX => by simp at hX⟩
    cases hg : (glHeap M.small Tr.empty).get X with
    | none => rfl
    | some x =>
      obtain ⟨cs, e, h1, -⟩ := hs0 X x hg
      have := hb1 X cs e h1
      have hX : M.next ≤ X := hX
      omega
  obtain ⟨G0, C0⟩ := evCallO_ok hP hN hm (fun _ h => draw_ok hP hN hm h) hO f M.g M.args _ _ S0' hev hT0
  have hwtop : ∀ X, S0'.wr.testBit X = true → M.next ≤ X ∧ X < M.next' := fun X hX => by
    have h1 := G0.top hT0.low (fun Y hY => by simp at hY) X hX
    refine ⟨?_, by omega⟩
    rcases Nat.lt_or_ge X M.next with h | h
    · rw [hw0 X h] at hX; cases hX
    · exact h
  refine ⟨⟨w3, w4⟩, hb1, hb2, fun m V w args' hgl hv hr ha hf => ?_⟩
  have hr0 : Rel P (fun X => V X ∨ (glHeap M.small Tr.empty).get X = .none) m ⟨glHeap M.small Tr.empty, M.next, 0, 0⟩ w := by
    have old : ∀ X x, (V X ∨ (glHeap M.small Tr.empty).get X = .none) → (glHeap M.small Tr.empty).get X = some x → V X := fun X x hX hx => by
      rcases hX with h | h
      · exact h
      · rw [hx] at h; cases h
    refine ⟨fun X hX x hx => hr.blk X (old X x hX hx) x hx, fun X Y hX hY gX gY => ?_, hT0.low, hT0.bnd⟩
    obtain ⟨x, hx⟩ := Option.isSome_iff_exists.1 gX
    obtain ⟨y, hy⟩ := Option.isSome_iff_exists.1 gY
    exact hr.inj X Y (old X x hX hx) (old Y y hY hy) gX gY
  obtain ⟨fn, hfn, hbody, hcall⟩ := C0 m _ w args' hgl hv hr0 (fun X hX hb => by
      cases hg : (glHeap M.small Tr.empty).get X with
      | none => exact .inr rfl
      | some x =>
        obtain ⟨cs, e, h1, -⟩ := hs0 X x hg
        exact .inl (ha X cs e h1))
    (fun X h1 h2 => hf X h1 (by rw [r2] at h2; exact h2))
  refine ⟨fn, hfn, hbody, hcall.mono ?_⟩
  rintro e w' ⟨m', v', rfl, hv', O⟩
  refine ⟨m', v', rfl, hv', O.ext, fun X h1 h2 => ?_, O.size, O.os, O.tape, O.output, ?_, ?_, ?_, ?_⟩
  · have := O.dom X h1 h2
    rw [r2] at this
    exact this
  · exact fun b hb => O.keep b hb (fun X p hX hp => by
      obtain ⟨h1, h2⟩ := hwtop X hX
      rw [hf X h1 h2] at hp
      cases hp)
  · intro X p h1 h2 h3
    rcases O.new X p h1 (by rw [r2]; exact h2) h3 with h | ⟨Y, q, h4, h5, -⟩
    · exact h
    · obtain ⟨h6, h7⟩ := hwtop Y h4
      rw [hf Y h6 h7] at h5
      cases h5
  · intro X cs e hx
    exact O.rel.blk X (.inr ⟨(hb2 X cs e hx).1, by rw [r2]; exact (hb2 X cs e hx).2⟩) _ (hres X cs e hx)
  · rintro X Y ⟨cs, e, hX⟩ ⟨ds, e', hY⟩
    exact O.rel.inj X Y (.inr ⟨(hb2 X cs e hX).1, by rw [r2]; exact (hb2 X cs e hX).2⟩) (.inr ⟨(hb2 Y ds e' hY).1, by rw [r2]; exact (hb2 Y ds e' hY).2⟩)
      (by rw [hres X cs e hX]; rfl) (by rw [hres Y ds e' hY]; rfl)

/-! ### A value that says less -/
def itvHas (n a b : Nat) : Bool := Nat.beq (Nat.div n 4294967296) 0 && (Nat.ble (itvLo n) a && Nat.ble b (itvHi n))
def gen1 (X Q : Nat) (u u' : Value) : Bool :=
  match u' with
  | .float .f32 n => match u with
    | .int .i64 (.ofNat r) => itvHas n r r
    | .float .f32 k => Nat.beq (Nat.div k 4294967296) 0 && itvHas n (itvLo k) (itvHi k)
    | _ => false
  | .slice (some ⟨b', o', .none⟩) n' c' => match u with
    | .slice (some ⟨b, o, .none⟩) n c => (Nat.beq o o' && (Nat.beq n n' && Nat.beq c c')) && (Nat.beq b b' || (Nat.beq b X && Nat.beq b' Q))
    | _ => false
  | u' => eq1 u u'
theorem itvHas_rel {m : BMap} {n a b : Nat} (h : itvHas n a b = true) {z : Int} (h1 : (a : Int) ≤ z) (h2 : z ≤ (b : Int)) : VRel m (.float .f32 n) (.int .i64 z) := by
  unfold itvHas at h
  simp only [Bool.and_eq_true] at h
  have e := Nat.eq_of_beq_eq_true h.1
  have l1 := Nat.le_of_ble_eq_true h.2.1
  have l2 := Nat.le_of_ble_eq_true h.2.2
  have := VRel.itv (m := m) (n := n) (z := z) ⟨by omega, by omega⟩
  have e2 : itvKind n = .i64 := by unfold itvKind; rw [e]; rfl
  rw [e2] at this
  exact this
theorem gen1_rel {m m' : BMap} (hE : Ext m m') {X Q : Nat} (hQ : ∀ p, m X = some p → m' Q = some p) {u u' z : Value} (h : gen1 X Q u u' = true) (hr : VRel m u z) : VRel m' u' z := by
  unfold gen1 at h
  split at h
  · split at h
    · cases hr
      exact itvHas_rel h (Int.le_refl _) (Int.le_refl _)
    · simp only [Bool.and_eq_true] at h
      rename_i k
      cases hr with | itv hz =>
      have e2 : itvKind k = .i64 := by unfold itvKind; rw [Nat.eq_of_beq_eq_true h.1]; rfl
      rw [e2]
      exact itvHas_rel h.2 hz.1 hz.2
    · cases h
  · split at h
    · simp only [Bool.and_eq_true, Bool.or_eq_true] at h
      obtain ⟨⟨h1, h2, h3⟩, h4⟩ := h
      cases Nat.eq_of_beq_eq_true h1
      cases Nat.eq_of_beq_eq_true h2
      cases Nat.eq_of_beq_eq_true h3
      rcases h4 with h4 | ⟨h4, h5⟩
      · cases Nat.eq_of_beq_eq_true h4
        exact hr.mono hE
      · cases Nat.eq_of_beq_eq_true h4
        cases Nat.eq_of_beq_eq_true h5
        cases hr with | slice hc ha hf =>
        refine .slice hc (ha.imp ?_ id) fun hb => (hf hb).imp id ?_
        · rintro ⟨p, h1, h2⟩
          exact ⟨p, hQ p h1, h2⟩
        · rintro ⟨p, h1, h2⟩
          exact ⟨p, hQ p h1, h2⟩
    · cases h
  · rw [← eq1_eq h]
    exact hr.mono hE
def genL (X Q : Nat) : List Value → List Value → Bool
  | [], [] => true
  | a :: l, b :: l' => match gen1 X Q a b with
    | true => genL X Q l l'
    | false => false
  | _, _ => false
theorem genL_get {X Q : Nat} : ∀ {l l' : List Value}, genL X Q l l' = true → ∀ (i : Nat) (u' : Value), l'[i]? = some u' → ∃ u, l[i]? = some u ∧ gen1 X Q u u' = true
  | [], [], _, i, u', h => by simp at h
  | a :: l, b :: l', h, i, u', hi => by
    unfold genL at h
    split at h
    · rename_i hg
      cases i with
      | zero => simp at hi; subst hi; exact ⟨a, rfl, hg⟩
      | succ i => exact genL_get h i u' hi
    · cases h
  | [], _ :: _, h, _, _, _ => by cases h
  | _ :: _, [], h, _, _, _ => by cases h
theorem gen_BR {P : Program} {m m' : BMap} (hE : Ext m m') {X Q : Nat} (hQ : ∀ p, m X = some p → m' Q = some p) {cs cs' : List Value} {e : TypeId} (h : genL X Q cs cs' = true) {Y Y' : Nat} (hY : ∀ p, m Y = some p → m' Y' = some p) {w : World}
    (hr : BR P m Y (.cells cs e) w) : BR P m' Y' (.cells cs' e) w := by
  obtain ⟨p, c, h1, h2, h3, h4, h5⟩ := hr
  refine ⟨p, c, hY p h1, h2, h3, h4, fun i u' hu => ?_⟩
  obtain ⟨u, g1, g2⟩ := genL_get h i u' hu
  obtain ⟨z, g3, g4⟩ := h5 i u g1
  exact ⟨z, g3, gen1_rel hE hQ g2 g4⟩

/-! ### An answer for each number between two bounds -/
structure GMemo where
  g : FuncId
  args : List Value
  rest : Gls
  B : Nat
  cs : List Value
  e : TypeId
  i : Nat
  R : Nat
  next : Nat
  v : Value
  res : Gls
  Q : Nat
  next' : Nat
/-- One of the family. -/
structure GOne where
  r : Nat
  X : Nat
  next' : Nat
  res : Gls
def GMemo.at (M : GMemo) (I : GOne) : Memo := ⟨M.g, M.args, M.rest ++ [(M.B, M.cs.set M.i (.int .i64 (.ofNat I.r)), M.e)], M.next, M.v, I.res, I.next'⟩
def genRes (X Q : Nat) : Gls → Gls → Bool
  | [], [] => true
  | (Y, cs, e) :: l, (Y', cs', e') :: l' => match (Nat.beq e e' && ((Nat.beq Y Y' && !Nat.beq Y X) || (Nat.beq Y X && Nat.beq Y' Q))) && genL X Q cs cs' with
    | true => genRes X Q l l'
    | false => false
  | _, _ => false
theorem genRes_mem {X Q : Nat} : ∀ {l l' : Gls}, genRes X Q l l' = true → ∀ Y' cs' e', (Y', cs', e') ∈ l' → ∃ Y cs, (Y, cs, e') ∈ l ∧ genL X Q cs cs' = true ∧ ((Y = Y' ∧ Y ≠ X) ∨ (Y = X ∧ Y' = Q))
  | [], [], _, Y', cs', e', h => by cases h
  | (Y, cs, e) :: l, (Z, ds, d) :: l', h, Y', cs', e', hm => by
    unfold genRes at h
    split at h
    · rename_i hc
      simp only [Bool.and_eq_true, Bool.or_eq_true, Bool.not_eq_true'] at hc
      obtain ⟨⟨h1, h2⟩, h3⟩ := hc
      rcases List.mem_cons.1 hm with hm | hm
      · cases hm
        cases Nat.eq_of_beq_eq_true h1
        refine ⟨Y, cs, List.mem_cons_self, h3, ?_⟩
        rcases h2 with ⟨h2, h4⟩ | ⟨h2, h4⟩
        · exact .inl ⟨Nat.eq_of_beq_eq_true h2, fun e => by subst e; rw [Nat.beq_refl] at h4; cases h4⟩
        · exact .inr ⟨Nat.eq_of_beq_eq_true h2, Nat.eq_of_beq_eq_true h4⟩
      · obtain ⟨Y, cs, g1, g2⟩ := genRes_mem h Y' cs' e' hm
        exact ⟨Y, cs, List.mem_cons_of_mem _ g1, g2⟩
    · cases h
  | [], _ :: _, h, _, _, _, _ => by cases h
  | _ :: _, [], h, _, _, _, _ => by cases h
def GMemo.has (M : GMemo) (I : GOne) : Bool := (Nat.ble I.next' M.Q && (Nat.blt M.Q M.next' && Nat.ble M.next' 8192)) && (genRes I.X M.Q I.res M.res && (within M.next I.next' I.res && (Nat.ble M.next I.X && Nat.blt I.X I.next')))
def GMemo.fits (M : GMemo) : Bool := (within 0 M.next M.rest && Nat.blt M.B M.next) && (within M.next M.next' M.res && (Nat.beq (Nat.div M.R 4294967296) 0 && (match getL M.cs M.i with | some (.float .f32 n) => Nat.beq n M.R | _ => false)))
theorem glHeap_snoc : ∀ (l : Gls) (b : Nat × List Value × TypeId) (T : Tr ABlk), glHeap (l ++ [b]) T = Tr.set 33 (glHeap l T) b.1 (some (.cells b.2.1 b.2.2))
  | [], (g, cs, e), T => rfl
  | (g, cs, e) :: l, b, T => by
    show glHeap (l ++ [b]) _ = _
    rw [glHeap_snoc l b]
    rfl
theorem gmemo_says {P : Program} {M : GMemo} (hM : M.fits = true) (hall : ∀ r : Nat, itvLo M.R ≤ r → r ≤ itvHi M.R → ∃ I : GOne, I.r = r ∧ M.has I = true ∧ Says1 P M.g M.args (M.at I).small M.next M.v I.res I.next') (hne : itvLo M.R ≤ itvHi M.R) :
    Says1 P M.g M.args (M.rest ++ [(M.B, M.cs, M.e)]) M.next M.v M.res M.next' := by
  unfold GMemo.fits at hM
  simp only [Bool.and_eq_true] at hM
  obtain ⟨⟨f1, f2⟩, f3, f4, f5⟩ := hM
  have f2 := blt_true f2
  have f4 := Nat.eq_of_beq_eq_true f4
  have hcell : M.cs[M.i]? = some (.float .f32 M.R) := by
    rw [getL_eq] at f5
    split at f5
    · rename_i n hn
      rw [hn, Nat.eq_of_beq_eq_true f5]
    · cases f5
  have hil : M.i < M.cs.length := (List.getElem?_eq_some_iff.1 hcell).1
  have key : ∀ I : GOne, M.has I = true → (I.next' ≤ M.Q ∧ M.Q < M.next' ∧ M.next' ≤ 8192) ∧ genRes I.X M.Q I.res M.res = true ∧ (∀ X cs e, (X, cs, e) ∈ I.res → M.next ≤ X ∧ X < I.next') ∧ M.next ≤ I.X ∧ I.X < I.next' := by
    intro I h
    unfold GMemo.has at h
    simp only [Bool.and_eq_true] at h
    exact ⟨⟨Nat.le_of_ble_eq_true h.1.1, blt_true h.1.2.1, Nat.le_of_ble_eq_true h.1.2.2⟩, h.2.1, fun X cs e hx => within_mem h.2.2.1 X cs e hx, Nat.le_of_ble_eq_true h.2.2.2.1, blt_true h.2.2.2.2⟩
  obtain ⟨I0, -, h0, s0⟩ := hall _ (Nat.le_refl _) hne
  have k0 := key I0 h0
  have hlow : ∀ cs X ds e, (X, ds, e) ∈ M.rest ++ [(M.B, cs, M.e)] → X < M.next := by
    intro cs X ds e hx
    rcases List.mem_append.1 hx with hx | hx
    · exact (within_mem f1 X ds e hx).2
    · simp only [List.mem_singleton, Prod.mk.injEq] at hx
      rw [hx.1]; exact f2
  refine ⟨⟨by have := s0.le.1; omega, k0.1.2.2⟩, hlow M.cs, fun X cs e hx => within_mem f3 X cs e hx, fun m V w args' hgl hv hr ha hf => ?_⟩
  have hget : ∀ cs X, (glHeap (M.rest ++ [(M.B, cs, M.e)]) Tr.empty).get X = if X = M.B then some (.cells cs M.e) else (glHeap M.rest Tr.empty).get X := by
    intro cs X
    rw [glHeap_snoc]
    by_cases h : X = M.B
    · subst h
      rw [if_pos rfl]
      exact Tr.get_set_eq 33 _ _ _ (by have := s0.le; omega)
    · rw [if_neg h]
      exact Tr.get_set_ne 33 _ _ _ _ h
  -- the number
  have hBV : V M.B := ha M.B M.cs M.e (List.mem_append.2 (.inr (List.mem_singleton.2 rfl)))
  have hB := hr.blk M.B hBV (.cells M.cs M.e) (by show (glHeap _ _).get _ = _; rw [hget, if_pos rfl])
  obtain ⟨p, c, b1, b2, b3, b4, b5⟩ := hB
  obtain ⟨zv, c1, c2⟩ := b5 M.i _ hcell
  obtain ⟨z, rfl, hz⟩ : ∃ z, zv = .int .i64 z ∧ ItvIs M.R z := by
    cases c2 with | itv h =>
    refine ⟨_, ?_, h⟩
    unfold itvKind
    rw [f4]
    rfl
  obtain ⟨I, hIr, hI, hS⟩ := hall z.toNat (by have := hz.1; omega) (by have := hz.2; omega)
  have hzI : z = Int.ofNat I.r := by rw [hIr]; have := hz.1; simp only [Int.ofNat_eq_natCast]; omega
  obtain ⟨⟨k1, k2, k3⟩, k4, k5, k6⟩ := key I hI
  have hr1 : Rel P V m ⟨glHeap (M.at I).small Tr.empty, M.next, 0, 0⟩ w := by
    have gz : ∀ X, (glHeap (M.at I).small Tr.empty).get X = if X = M.B then some (.cells (M.cs.set M.i (.int .i64 (.ofNat I.r))) M.e) else (glHeap M.rest Tr.empty).get X := hget _
    have gs : ∀ X, ((glHeap (M.at I).small Tr.empty).get X).isSome = ((glHeap (M.rest ++ [(M.B, M.cs, M.e)]) Tr.empty).get X).isSome := fun X => by
      rw [gz, hget]
      split <;> rfl
    refine ⟨fun X hX x hx => ?_, fun X Y hX hY gX gY => ?_, fun X hX => ?_, hr.bnd⟩
    · have hx1 : (glHeap (M.at I).small Tr.empty).get X = some x := hx
      rw [gz] at hx1
      split at hx1
      · rename_i h
        subst h
        cases hx1
        refine ⟨p, c, b1, b2, b3, b4, fun i u hu => ?_⟩
        by_cases hi : i = M.i
        · subst hi
          rw [List.getElem?_set_self hil] at hu
          cases hu
          exact ⟨_, c1, by rw [hzI]; exact .int _ _⟩
        · rw [List.getElem?_set_ne (fun h => hi h.symm)] at hu
          exact b5 i u hu
      · rename_i h
        exact hr.blk X hX x (by show (glHeap _ _).get X = _; rw [hget, if_neg h]; exact hx1)
    · have gX : ((glHeap (M.at I).small Tr.empty).get X).isSome = true := gX
      have gY : ((glHeap (M.at I).small Tr.empty).get Y).isSome = true := gY
      rw [gs] at gX gY
      exact hr.inj X Y hX hY gX gY
    · have h1 := gs X
      have h2 : (glHeap (M.rest ++ [(M.B, M.cs, M.e)]) Tr.empty).get X = .none := hr.low X hX
      rw [h2] at h1
      show (glHeap (M.at I).small Tr.empty).get X = .none
      cases hg : (glHeap (M.at I).small Tr.empty).get X with
      | none => rfl
      | some x => rw [hg] at h1; cases h1
  obtain ⟨fn, hfn, hbody, hcall⟩ := hS.call m V w args' hgl hv hr1 (fun X cs e hx => by
      rcases List.mem_append.1 hx with hx | hx
      · exact ha X cs e (List.mem_append.2 (.inl hx))
      · simp only [List.mem_singleton, Prod.mk.injEq] at hx
        rw [hx.1]; exact hBV)
    (fun X h1 h2 => hf X h1 (by omega))
  refine ⟨fn, hfn, hbody, hcall.mono ?_⟩
  rintro e w' ⟨m', v', rfl, g1, g2, g3, g4, g5, g6, g7, g8, g9, g10, g11⟩
  -- the block's other number
  have hQn : m' M.Q = .none := by
    cases h : m' M.Q with
    | none => rfl
    | some q =>
      have := g3 M.Q (hf M.Q (by have := hS.le; omega) k2) (by rw [h]; simp)
      omega
  let m'' : BMap := fun Y => if Y = M.Q then m' I.X else m' Y
  have hE : Ext m' m'' := fun Y q hY => by
    show (if Y = M.Q then m' I.X else m' Y) = _
    rw [if_neg (fun h => by subst h; rw [hQn] at hY; cases hY)]
    exact hY
  have hQ : ∀ q, m' I.X = some q → m'' M.Q = some q := fun q hq => by
    show (if M.Q = M.Q then m' I.X else m' M.Q) = _
    rw [if_pos rfl]; exact hq
  have hne' : ∀ Y, Y ≠ M.Q → m'' Y = m' Y := fun Y h => if_neg h
  have img : ∀ Y', (∃ cs e, (Y', cs, e) ∈ M.res) → ∃ Y, (∃ cs e, (Y, cs, e) ∈ I.res) ∧ m'' Y' = m' Y ∧ ((Y = Y' ∧ Y ≠ I.X) ∨ (Y = I.X ∧ Y' = M.Q)) := by
    rintro Y' ⟨cs, e, hy⟩
    obtain ⟨Y, ds, h1, h2, h3⟩ := genRes_mem k4 Y' cs e hy
    refine ⟨Y, ⟨ds, e, h1⟩, ?_, h3⟩
    rcases h3 with ⟨rfl, h3⟩ | ⟨rfl, rfl⟩
    · exact hne' Y (by have := k5 Y ds e h1; omega)
    · exact if_pos rfl
  refine ⟨m'', v', rfl, g1.mono hE, g2.trans hE, fun Y h1 h2 => ?_, g4, g5, g6, g7, g8, fun Y q h1 h2 h3 => ?_, fun Y cs e hy => ?_, fun Y Z hY hZ p q hp hq hpq => ?_⟩
  · by_cases h : Y = M.Q
    · rw [h]; have := hS.le; omega
    · rw [hne' Y h] at h2
      have := g3 Y h1 h2
      omega
  · by_cases h : Y = M.Q
    · subst h
      have h3 : m' I.X = some q := by
        have h4 : m'' M.Q = m' I.X := if_pos rfl
        rw [← h4]; exact h3
      exact g9 I.X q k6.1 k6.2 h3
    · rw [hne' Y h] at h3
      by_cases h5 : Y < I.next'
      · exact g9 Y q h1 h5 h3
      · have := g3 Y (hf Y h1 h2) (by rw [h3]; simp)
        omega
  · obtain ⟨Y0, ds, h1, h2, h3⟩ := genRes_mem k4 Y cs e hy
    refine gen_BR hE hQ h2 (Y := Y0) (fun q hq => ?_) (g10 Y0 ds e h1)
    rcases h3 with ⟨rfl, h3⟩ | ⟨rfl, rfl⟩
    · exact hE _ _ hq
    · exact hQ q hq
  · obtain ⟨Y0, y1, y2, y3⟩ := img Y hY
    obtain ⟨Z0, z1, z2, z3⟩ := img Z hZ
    rw [y2] at hp
    rw [z2] at hq
    have := g11 Y0 Z0 y1 z1 p q hp hq hpq
    rcases y3 with ⟨rfl, y3⟩ | ⟨rfl, rfl⟩ <;> rcases z3 with ⟨rfl, z3⟩ | ⟨rfl, rfl⟩
    · exact this
    · exact absurd this y3
    · exact absurd this.symm z3
    · rfl

/-! ### An answer that stands for a call -/
def allInst (T : Tr ABlk) : Gls → Bool
  | [] => true
  | (X, cs, e) :: l => match T.get X with
    | some (.cells cs' e') => match Nat.beq e' e && genL 0 0 cs' cs with
      | true => allInst T l
      | false => false
    | _ => false
theorem allInst_get {T : Tr ABlk} : ∀ {l : Gls}, allInst T l = true → ∀ X cs e, (X, cs, e) ∈ l → ∃ cs', T.get X = some (.cells cs' e) ∧ genL 0 0 cs' cs = true
  | [], _, X, cs, e, hm => by cases hm
  | (Y, ds, e0) :: l, h, X, cs, e, hm => by
    unfold allInst at h
    split at h
    · rename_i cs' e' hg
      split at h
      · rename_i hc
        simp only [Bool.and_eq_true] at hc
        rcases List.mem_cons.1 hm with hm | hm
        · cases hm
          exact ⟨cs', by rw [hg, Nat.eq_of_beq_eq_true hc.1], hc.2⟩
        · exact allInst_get h X cs e hm
      · cases h
    · cases h
def sayFn (args0 : List Value) (small : Gls) (next : Nat) (v : Value) (res : Gls) (next' : Nat) (args : List Value) (S : St) : Option (Value × St) :=
  match Nat.beq S.next next with
  | false => .none
  | true => match eqVL args args0 with
    | false => .none
    | true => match allInst S.heap small with
      | false => .none
      | true => forceN (accAll small S.acc) fun acc => some (v, ⟨glHeap res S.heap, next', acc, S.wr⟩)
theorem says_ok {P : Program} {g : FuncId} {args0 : List Value} {small : Gls} {next : Nat} {v0 : Value} {res : Gls} {next' : Nat} (hS1 : Says1 P g args0 small next v0 res next') (args : List Value) (S : St) (v : Value) (S' : St)
    (he : sayFn args0 small next v0 res next' args S = some (v, S')) (hS : Tidy S) : Grown S S' ∧
    ∀ (m : BMap) (V : Nat → Prop) (w : World) (args' : List Value), Gl m → VRels m args args' → Rel P V m S w → (∀ X, X < S.next → S'.acc.testBit X = true → V X) → (∀ X, S.next ≤ X → X < S'.next → m X = .none) →
      ∃ fn, P.funcs[g]? = some fn ∧ fn.body.isSome = true ∧ Calls P g ⟨args'⟩ w (CPost P V m S w v S') := by
  unfold sayFn at he
  split at he
  · cases he
  rename_i hnx
  split at he
  · cases he
  rename_i hargs
  split at he
  · cases he
  rename_i hsm
  rw [forceN_eq] at he
  cases he
  obtain rfl := eqVL_eq hargs
  have hn : S.next = next := Nat.eq_of_beq_eq_true hnx
  obtain ⟨w3, w4⟩ := hS1.le
  have hb1 := hS1.low
  have hb2 := hS1.new
  have hsame := allInst_get hsm
  have hs0 : ∀ X x, (glHeap small Tr.empty).get X = some x → ∃ cs e, (X, cs, e) ∈ small ∧ x = .cells cs e := fun X x hx => small_get (fun X cs e hm => by have := hb1 X cs e hm; omega) hx
  have hnot : ∀ X, X < next ∨ next' ≤ X → ∀ cs e, (X, cs, e) ∉ res := fun X hX cs e hx => by have := hb2 X cs e hx; omega
  have hacc : ∀ X, (accAll small S.acc).testBit X = true ↔ S.acc.testBit X = true ∨ ∃ cs e, (X, cs, e) ∈ small := fun X => accAll_bit _ _ X
  have hG : Grown S ⟨glHeap res S.heap, next', accAll small S.acc, S.wr⟩ := {
    next := by show S.next ≤ next'; omega
    acc := fun X h => (hacc X).2 (.inl h)
    wr := fun _ h => h
    heap := fun X hX _ => glHeap_other _ _ _ (hnot X (.inl (by omega)))
    live := fun X _ h => .inl h
    low := fun hl X hX => by
      have hX : next' ≤ X := hX
      show (glHeap res S.heap).get X = .none
      rw [glHeap_other _ _ _ (hnot X (.inr hX))]
      exact hl X (by omega)
    bnd := fun _ => w4
    sub := fun hs X hX => (hacc X).2 (.inl (hs X hX))
    top := fun _ ht X hX => by have := ht X hX; show X < next'; omega }
  refine ⟨hG, fun m V w args' hgl hv hr ha hf => ?_⟩
  have hV : ∀ X cs e, (X, cs, e) ∈ small → V X := fun X cs e hx => ha X (by have := hb1 X cs e hx; omega) ((hacc X).2 (.inr ⟨cs, e, hx⟩))
  have hr0 : Rel P V m ⟨glHeap small Tr.empty, next, 0, 0⟩ w := by
    refine ⟨fun X hX x hx => ?_, fun X Y hX hY gX gY => ?_, fun X hX => ?_, by show next ≤ 8192; omega⟩
    · obtain ⟨cs, e, h1, rfl⟩ := hs0 X x hx
      obtain ⟨cs', h2, h3⟩ := hsame X cs e h1
      exact gen_BR (Ext.refl m) (fun _ h => h) h3 (fun _ h => h) (hr.blk X hX _ h2)
    · obtain ⟨x, hx⟩ := Option.isSome_iff_exists.1 gX
      obtain ⟨y, hy⟩ := Option.isSome_iff_exists.1 gY
      obtain ⟨cs, e, h1, -⟩ := hs0 X x hx
      obtain ⟨ds, e', h2, -⟩ := hs0 Y y hy
      obtain ⟨_, h3, -⟩ := hsame X cs e h1
      obtain ⟨_, h4, -⟩ := hsame Y ds e' h2
      exact hr.inj X Y hX hY (by rw [h3]; rfl) (by rw [h4]; rfl)
    · cases hg : (glHeap small Tr.empty).get X with
      | none => rfl
      | some x =>
        obtain ⟨cs, e, h1, -⟩ := hs0 X x hg
        have := hb1 X cs e h1
        have hX : next ≤ X := hX
        omega
  obtain ⟨fn, hfn, hbody, hcall⟩ := hS1.call m V w args' hgl hv hr0 hV (fun X h1 h2 => hf X (by omega) h2)
  refine ⟨fn, hfn, hbody, hcall.mono ?_⟩
  rintro e w' ⟨m', v', rfl, hv', g2, g3, g4, g5, g6, g7, g8, g9, g10, g11⟩
  refine ⟨m', v', rfl, hv', ?_⟩
  have old : ∀ X x, V X → S.heap.get X = some x → BR P m' X x w' ∧ ∃ p, m X = some p ∧ p.blk < w.heap.size := by
    intro X x hX hx
    have hB := hr.blk X hX x hx
    obtain ⟨p, h1, h2⟩ := hB.block
    exact ⟨BR.same (g2 X p h1) (g8 p.blk h2) (hB.mono g2), p, h1, h2⟩
  have get : ∀ X x, (glHeap res S.heap).get X = some x → (∃ cs e, (X, cs, e) ∈ res ∧ x = .cells cs e) ∨ (X < next ∧ S.heap.get X = some x) := by
    intro X x hx
    rcases glHeap_in res S.heap X x (fun X cs e hm => by have := hb2 X cs e hm; omega) hx with h | h
    · exact .inl h
    · refine .inr ⟨?_, h⟩
      rcases Nat.lt_or_ge X next with h1 | h1
      · exact h1
      · rw [hr.low X (by omega)] at h; cases h
  have vold : ∀ X, X < next → (V X ∨ (S.next ≤ X ∧ X < next')) → V X := fun X h1 h2 => h2.resolve_right (fun h => by omega)
  refine {
    ext := g2
    dom := fun X h1 h2 => by
      have := g3 X h1 h2
      exact ⟨by omega, this.2⟩
    rel := ?_
    grown := hG
    size := g4
    os := g5
    tape := g6
    output := g7
    keep := fun b hb _ => g8 b hb
    new := fun X p h1 h2 h3 => .inl (g9 X p (by omega) h2 h3) }
  refine ⟨fun X hX x hx => ?_, fun X Y hX hY gX gY p q hp hq hpq => ?_, hG.low hS.low, w4⟩
  · rcases get X x hx with ⟨cs, e, h1, rfl⟩ | ⟨h1, h2⟩
    · exact g10 X cs e h1
    · exact (old X x (vold X h1 hX) h2).1
  · obtain ⟨x, hx⟩ := Option.isSome_iff_exists.1 gX
    obtain ⟨y, hy⟩ := Option.isSome_iff_exists.1 gY
    rcases get X x hx with ⟨cs, e, h1, -⟩ | ⟨h1, h2⟩ <;> rcases get Y y hy with ⟨ds, e', h4, -⟩ | ⟨h4, h5⟩
    · exact g11 X Y ⟨cs, e, h1⟩ ⟨ds, e', h4⟩ p q hp hq hpq
    · obtain ⟨-, q', h7, h8⟩ := old Y y (vold Y h4 hY) h5
      have h9 := g2 Y q' h7
      rw [hq] at h9; cases h9
      have := g9 X p (hb2 X cs e h1).1 (hb2 X cs e h1).2 hp
      omega
    · obtain ⟨-, q', h7, h8⟩ := old X x (vold X h1 hX) h2
      have h9 := g2 X q' h7
      rw [hp] at h9; cases h9
      have := g9 Y q (hb2 Y ds e' h4).1 (hb2 Y ds e' h4).2 hq
      omega
    · obtain ⟨-, p', h7, -⟩ := old X x (vold X h1 hX) h2
      obtain ⟨-, q', h8, -⟩ := old Y y (vold Y h4 hY) h5
      have h9 := g2 X p' h7
      have h10 := g2 Y q' h8
      rw [hp] at h9; cases h9
      rw [hq] at h10; cases h10
      exact hr.inj X Y (vold X h1 hX) (vold Y h4 hY) (by rw [h2]; rfl) (by rw [h5]; rfl) p q h7 h8 hpq

/-- The family's answer beside what stood already. -/
def GMemo.fn (M : GMemo) : List Value → St → Option (Value × St) := sayFn M.args (M.rest ++ [(M.B, M.cs, M.e)]) M.next M.v M.res M.next'
def gmemoOv (ov : Ov) (M : GMemo) : Ov := fun g => match Nat.beq g M.g with
  | true => some M.fn
  | false => ov g
theorem gmemoOv_ok {P : Program} {ov : Ov} (hO : OvOk P ov) {M : GMemo} (hS : Says1 P M.g M.args (M.rest ++ [(M.B, M.cs, M.e)]) M.next M.v M.res M.next') : OvOk P (gmemoOv ov M) := by
  intro g h hov
  unfold gmemoOv at hov
  split at hov
  · rename_i hg
    cases hov
    obtain rfl := Nat.eq_of_beq_eq_true hg
    exact fun args S v S' he hS' => says_ok hS args S v S' he hS'
  · exact hO g h hov
/-- Two known runs of one function. -/
def memo2Ov (ov : Ov) (M N : Memo) : Ov := fun g => match Nat.beq g M.g && Nat.beq g N.g with
  | true => some fun args S => match M.fn args S with
    | some r => some r
    | .none => N.fn args S
  | false => ov g
theorem memo2Ov_ok {P : Program} (hP : PGood P) (hN : PNames P) (hm : P.follows .mixedOrders = true) {ov ov' : Ov} (hO : OvOk P ov) (hO' : OvOk P ov') {f : Nat} {M N : Memo} (hM : M.run P ov f = true) (hR : N.run P ov f = true) : OvOk P (memo2Ov ov' M N) := by
  intro g h hov
  unfold memo2Ov at hov
  split at hov
  · rename_i hg
    simp only [Bool.and_eq_true] at hg
    cases hov
    have g1 := Nat.eq_of_beq_eq_true hg.1
    have g2 := Nat.eq_of_beq_eq_true hg.2
    intro args S v S' he hS
    dsimp only at he
    split at he
    · rename_i r hr
      cases he
      rw [g1]
      exact memo_ok hP hN hm hO hM args S v S' hr hS
    · rw [g2]
      exact memo_ok hP hN hm hO hR args S v S' he hS
  · exact hO' g h hov
/-- An argument of which bounds are known: one byte. -/
def itvU8 (lo hi : Nat) : Value := .float .f32 (lo + 65536 * hi + 4294967296)
theorem itvU8_rel {m : BMap} {lo hi : Nat} {z : Int} (h1 : (lo : Int) ≤ z) (h2 : z ≤ (hi : Int)) (h3 : hi < 65536) (h4 : lo ≤ hi) : VRel m (itvU8 lo hi) (.int .u8 z) := by
  have e1 : itvLo (lo + 65536 * hi + 4294967296) = lo := by show (lo + 65536 * hi + 4294967296) % 65536 = lo; omega
  have e2 : itvHi (lo + 65536 * hi + 4294967296) = hi := by show (lo + 65536 * hi + 4294967296) / 65536 % 65536 = hi; omega
  have e3 : itvKind (lo + 65536 * hi + 4294967296) = .u8 := by
    unfold itvKind
    rw [show Nat.div (lo + 65536 * hi + 4294967296) 4294967296 = 1 from by show (lo + 65536 * hi + 4294967296) / 4294967296 = 1; omega]
    rfl
  have := VRel.itv (m := m) (n := lo + 65536 * hi + 4294967296) (z := z) ⟨by rw [e1]; exact h1, by rw [e2]; exact h2⟩
  rw [e3] at this
  exact this
end
end Go.Proofs.YtgkbjdphkmmmhaaDoor.Ev
