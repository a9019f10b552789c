/-
  Runs that the kernel carries out: calls. No program in sight.
-/
import Derived.Test.YtgkbjdphkmmmhaaDoorEvJ
import Derived.Below
namespace Go.Proofs.YtgkbjdphkmmmhaaDoor.Ev
open Go
noncomputable section

section
variable {P : Program} {m : BMap}

theorem nthF_eq : ∀ (l : List Func) (n : Nat), nthF l n = l[n]?
  | [], _ => rfl
  | o :: os, n => by
    unfold nthF
    simp only [forceN_eq]
    cases n with
    | zero => rfl
    | succ n => exact nthF_eq os n

/-! ### The first slots -/
theorem initC_some {k : Tm → Option (Value × St)} : ∀ {vs : List Value} {i : Nat} {T : Tm} {r : Value × St}, initC k vs i T = some r → i + vs.length ≤ 512 →
    ∃ T', k T' = some r ∧ ∀ u, tget T' u = if i ≤ u ∧ u < i + vs.length then (vs[u - i]?).getD undef else tget T u
  | [], i, T, r, h, hl => ⟨T, h, fun u => by rw [if_neg (by simp only [List.length_nil]; omega)]⟩
  | v :: vs, i, T, r, h, hl => by
    unfold initC at h
    rw [setC_eq, forceN_eq] at h
    simp only [List.length_cons] at hl
    obtain ⟨T', h1, h2⟩ := initC_some h (by omega)
    refine ⟨T', h1, fun u => ?_⟩
    rw [h2 u, tget_tput (by omega)]
    simp only [List.length_cons]
    by_cases h3 : u = i
    · subst h3
      rw [if_neg (by omega), if_pos rfl, if_pos (by omega)]
      simp
    · by_cases h4 : i + 1 ≤ u ∧ u < i + 1 + vs.length
      · rw [if_pos h4, if_pos (by omega), show u - i = (u - (i + 1)) + 1 by omega]
        rfl
      · rw [if_neg h4, if_neg h3, if_neg (by omega)]
theorem tget_all (u : Nat) : tget noTm u = undef := by
  rw [tget_eq]
  unfold noTm
  simp only [get16_all]
  split
  · rfl
  · split <;> rfl

/-! ### Reading leaves the world alone -/
theorem Still.same {α : Type} {Q : α → Prop} {s : Sem α} (h : Still P Q s) : ∀ {w w' : World} {x : α}, s.run P w = .ok x w' → w' = w := by
  induction h with
  | pure h => intro w w' x he; cases he; rfl
  | program h ih => intro w w' x he; exact ih he
  | mark h ih => intro w w' x he; exact ih he
  | halt h => intro w w' x he; cases he
theorem bind_ok {α β : Type} {s : Sem α} {f : α → Sem β} {w w' : World} {y : β} (h : (s.bind f).run P w = .ok y w') : ∃ x w1, s.run P w = .ok x w1 ∧ (f x).run P w1 = .ok y w' := by
  have e : (s.bind f).run P w = (s.run P w).andThen fun a w' => (f a).run P w' := run_bind s f w
  rw [e] at h
  cases hs : s.run P w with
  | ok x w1 => rw [hs] at h; exact ⟨x, w1, rfl, h⟩
  | halt x w1 => rw [hs] at h; cases h
theorem loadCellsFrom_same {a : Addr} : ∀ (n i : Nat) {acc x : Array Value} {w w' : World}, (loadCellsFrom a i n acc).run P w = .ok x w' → w' = w
  | 0, i, acc, x, w, w', h => by cases h; rfl
  | n + 1, i, acc, x, w, w', h => by
    have h : Sem.run P (.load .plain (a.add i) fun v => loadCellsFrom a (i + 1) n (acc.push v)) w = .ok x w' := h
    simp only [Sem.run] at h
    split at h
    · exact loadCellsFrom_same n (i + 1) h
    · split at h
      · exact loadCellsFrom_same n (i + 1) h
      · cases h
theorem loadVar_same {t : TypeId} {a : Addr} {x : Value} {w w' : World} (h : (loadVar t a).run P w = .ok x w') : w' = w := by
  have h : ((isAgg t).bind fun b => if b = true then (sizeOf t).bind fun n => (loadCells a n).bind fun c => .pure (.agg c) else load a).run P w = .ok x w' := h
  obtain ⟨b, w1, h1, h2⟩ := bind_ok h
  cases (still_isAgg t).same h1
  split at h2
  · obtain ⟨n, w2, h3, h4⟩ := bind_ok h2
    cases (still_sizeOf t).same h3
    obtain ⟨c, w3, h5, h6⟩ := bind_ok h4
    cases loadCellsFrom_same _ _ h5
    cases h6
    rfl
  · have h2 : Sem.run P (.load .plain a .pure) w = .ok x w' := h2
    simp only [Sem.run] at h2
    split at h2
    · cases h2; rfl
    · split at h2
      · cases h2; rfl
      · cases h2

/-! ### The results -/
def oneResult (tmps : Array Value) : ResultVar → Sem Value
  | .tmp t => pure (tmps.getD t undef)
  | .cell a t => do loadVar t (← asAddr (tmps.getD a undef))
theorem evRs_some {β : Type} {V : Nat → Prop} {T : Tm} {a : Act} {w : World} : ∀ {rs : List ResultVar} {m : BMap} {V : Nat → Prop} {S S' : St} {k : List Value → St → Option (β × St)} {y : β}, evRs P T rs S k = some (y, S') → TRel m T a → Rel P V m S w →
    (∀ vs S1, k vs S1 = some (y, S') → Grown S1 S') → (∀ X, X < S.next → S'.acc.testBit X = true → V X) → (∀ X, S.next ≤ X → X < S'.next → m X = .none) →
    ∃ m' vs vs' S1, k vs S1 = some (y, S') ∧ VRels m' vs vs' ∧ Out P V m S w m' S1 w ∧ (mapL (oneResult a.tmps) rs).run P w = .ok vs' w
  | [], m, V, S, S', k, y, h, hT, hr, hg, ha, hf => ⟨m, [], [], S, h, .nil, Out.refl hr, rfl⟩
  | .tmp t :: rs, m, V, S, S', k, y, h, hT, hr, hg, ha, hf => by
    obtain ⟨m', vs, vs', S1, h1, h2, h3, h4⟩ := evRs_some (V := V) (k := fun vs S => k ((getC t).g T :: vs) S) h hT hr (fun vs S1 h => hg _ _ h) ha hf
    refine ⟨m', _, a.tmps.getD t undef :: vs', S1, h1, .cons ((hT t).mono h3.ext) h2, h3, ?_⟩
    unfold mapL
    show Sem.run P ((mapL (oneResult a.tmps) rs).bind _) w = _
    have e : ((mapL (oneResult a.tmps) rs).bind fun ys => (.pure (a.tmps.getD t undef :: ys) : Sem (List Value))).run P w = ((mapL (oneResult a.tmps) rs).run P w).andThen fun ys w' => .ok (a.tmps.getD t undef :: ys) w' := run_bind _ _ w
    rw [e, h4]
    rfl
  | .cell c t :: rs, m, V, S, S', k, y, h, hT, hr, hg, ha, hf => by
    obtain ⟨v, S1, h1, h2⟩ := then2_some h
    have h1' := fLoad_some h1
    have gr1 := arun_grown _ h1'
    -- what the rest does to the abstract memory
    have grow : ∀ {rs : List ResultVar} {S : St} {k : List Value → St → Option (β × St)} {y : β}, evRs P T rs S k = some (y, S') → (∀ vs S1, k vs S1 = some (y, S') → Grown S1 S') → Grown S S' := by
      intro rs
      induction rs with
      | nil => intro S k y h hg; exact hg _ _ h
      | cons r rs ih =>
        intro S k y h hg
        cases r with
        | tmp t => exact ih (k := fun vs S => k ((getC t).g T :: vs) S) h (fun vs S1 h => hg _ _ h)
        | cell c t =>
          obtain ⟨v, S1, h1, h2⟩ := then2_some h
          exact (arun_grown _ (fLoad_some h1)).trans (ih (k := fun vs S => k (v :: vs) S) h2 (fun vs S1 h => hg _ _ h))
    have gr2 : Grown S1 S' := grow (k := fun vs S => k (v :: vs) S) h2 (fun vs S1 h => hg _ _ h)
    obtain ⟨m1, v', w1, h3, h4, h5⟩ := arun_sim (sr_loadAt t (hT c)) h1' hr (fun X hX hb => ha X hX (gr2.acc X hb)) (fun X hX hb => hf X hX (Nat.lt_of_lt_of_le hb gr2.next))
    -- the address
    have hp : ∃ ad, a.eval (.tmp c) = .pointer (some ad) := by
      have hx := hT c
      unfold fLoad at h1
      split at h1
      · rename_i hx2
        have hx2 : tget T c = _ := hx2
        rw [hx2] at hx
        generalize a.eval (.tmp c) = e at hx
        cases hx
        exact ⟨_, rfl⟩
      · cases h1
    obtain ⟨ad, had⟩ := hp
    have hrun : (loadVar t ad).run P w = .ok v' w1 := by rw [had] at h3; exact h3
    cases loadVar_same hrun
    obtain ⟨m', vs, vs', S2, h6, h7, h8, h9⟩ := evRs_some (V := fun _ => False) (k := fun vs S => k (v :: vs) S) h2 (hT.mono h5.ext) h5.rel (fun vs S1 h => hg _ _ h) (step_acc h5 ha) (step_fresh h5 hf)
    refine ⟨m', _, v' :: vs', S2, h6, .cons (h4.mono h8.ext) h7, h5.trans h8, ?_⟩
    have e0 : (oneResult a.tmps (.cell c t)).run P w = .ok v' w := by
      have hd : a.tmps.getD c undef = .pointer (some ad) := by rw [← had]; rfl
      show Sem.run P (asAddr (a.tmps.getD c undef) >>= fun a => loadVar t a) w = _
      rw [hd]
      exact hrun
    unfold mapL
    have e : ((oneResult a.tmps (.cell c t)).bind fun y => (mapL (oneResult a.tmps) rs).bind fun ys => (.pure (y :: ys) : Sem (List Value))).run P w =
      ((oneResult a.tmps (.cell c t)).run P w).andThen fun y w' => ((mapL (oneResult a.tmps) rs).bind fun ys => (.pure (y :: ys) : Sem (List Value))).run P w' := run_bind _ _ w
    rw [e, e0]
    simp only [Result.andThen]
    have e2 : ((mapL (oneResult a.tmps) rs).bind fun ys => (.pure (v' :: ys) : Sem (List Value))).run P w = ((mapL (oneResult a.tmps) rs).run P w).andThen fun ys w' => .ok (v' :: ys) w' := run_bind _ _ w
    rw [e2, h9]
    rfl

theorem results_run {fn : Func} {tmps : Array Value} {w : World} {vs' : List Value} (h : (mapL (oneResult tmps) fn.results.toList).run P w = .ok vs' w) :
    (results fn tmps).run P w = .ok (tupled vs') w := by
  unfold results
  rw [run_bind]
  show ((fn.results.mapM (oneResult tmps)).run P w).andThen _ = _
  rw [mapM_mapL]
  have e1 : ((mapL (oneResult tmps) fn.results.toList).bind fun ys => (.pure ys.toArray : Sem (Array Value))).run P w = .ok vs'.toArray w := by
    have e2 : ((mapL (oneResult tmps) fn.results.toList).bind fun ys => (.pure ys.toArray : Sem (Array Value))).run P w = ((mapL (oneResult tmps) fn.results.toList).run P w).andThen fun ys w' => .ok ys.toArray w' := run_bind _ _ w
    rw [e2, h]; rfl
  rw [e1]
  simp only [Result.andThen]
  match vs' with
  | [] => rfl
  | [v] => rfl
  | v :: u :: vs => rfl

theorem retV_some {vs : List Value} {S S' : St} {v : Value} (h : retV vs S = some (v, S')) : S' = S ∧ v = tupled vs := by
  unfold retV at h
  rw [forceV_eq] at h
  cases h
  exact ⟨rfl, rfl⟩

/-- What stands for a function does what it does. -/
def OvOk (P : Program) (ov : Ov) : Prop := ∀ g h, ov g = some h → ∀ args S v S', h args S = some (v, S') → Tidy S → Grown S S' ∧
    ∀ (m : BMap) (V : Nat → Prop) (w : World) (args' : List Value), Gl m → VRels m args args' → Rel P V m S w → (∀ X, X < S.next → S'.acc.testBit X = true → V X) → (∀ X, S.next ≤ X → X < S'.next → m X = .none) →
      ∃ fn, P.funcs[g]? = some fn ∧ fn.body.isSome = true ∧ Calls P g ⟨args'⟩ w (CPost P V m S w v S')
theorem noOv_ok (P : Program) : OvOk P noOv := fun g h e => by cases e
theorem evCallO_ok (hP : PGood P) (hN : PNames P) (hm : P.follows .mixedOrders = true) (hD : ∀ call, CallOk P call → DrawSim P call) {ov : Ov} (hO : OvOk P ov) : ∀ f, CallOk P (evCallO P ov f)
  | 0 => fun g args S v S' h _ => by cases h
  | f + 1 => fun g args S v S' h hS => by
    have ih := evCallO_ok hP hN hm hD hO f
    unfold evCallO at h
    split at h
    · rename_i ho hov; exact hO _ _ hov _ _ _ _ h hS
    have h : (funC P g).f (evCallO P ov f) args S = some (v, S') := h
    unfold funC at h
    split at h
    · cases h
    · rename_i fn hfn
      rw [nthF_eq, Array.getElem?_toList] at hfn
      split at h
      · cases h
      · rename_i c hc
        dsimp only at h
        split at h
        · rename_i hb
          simp only [Bool.and_eq_true] at hb
          have hl := Nat.le_of_ble_eq_true hb.1
          have hn := Nat.le_of_ble_eq_true hb.2
          rw [lenL_eq] at hl
          obtain ⟨T, h1, hT⟩ := initC_some h (by omega)
          -- the body
          have body : ∃ ex T1 S1, (codC P fn.ntmps c).r (evCallO P ov f) T S = some (ex, T1, S1) ∧ (ex = .normal ∨ ex = .ret) ∧ evRs P T1 fn.results.toList S1 retV = some (v, S') := by
            unfold finish at h1
            split at h1
            · exact ⟨_, _, _, by assumption, .inl rfl, h1⟩
            · exact ⟨_, _, _, by assumption, .inr rfl, h1⟩
            · cases h1
          obtain ⟨ex, T1, S1, h2, hex, h3⟩ := body
          obtain ⟨g1, sim⟩ := codC_sim hP hN hm ih (hD _ ih) c h2 hS
          have g2 : Grown S1 S' := by
            have grow : ∀ {rs : List ResultVar} {S : St} {k : List Value → St → Option (Value × St)} {y : Value}, evRs P T1 rs S k = some (y, S') → (∀ vs S1, k vs S1 = some (y, S') → Grown S1 S') → Grown S S' := by
              intro rs
              induction rs with
              | nil => intro S k y h hg; exact hg _ _ h
              | cons r rs ih =>
                intro S k y h hg
                cases r with
                | tmp t => exact ih (k := fun vs S => k ((getC t).g T1 :: vs) S) h (fun vs S1 h => hg _ _ h)
                | cell c t =>
                  obtain ⟨v, S1, h1, h2⟩ := then2_some h
                  exact (arun_grown _ (fLoad_some h1)).trans (ih (k := fun vs S => k (v :: vs) S) h2 (fun vs S1 h => hg _ _ h))
            exact grow h3 fun vs S1 h => by obtain ⟨rfl, _⟩ := retV_some h; exact Grown.refl _
          refine ⟨g1.trans g2, fun m V w args' hgl hargs hr ha hf => ⟨fn, hfn, by rw [hc]; rfl, ?_⟩⟩
          have hal := hargs.length
          refine calls_of_wp hfn hc ?_
          have hA : Ahead P fn.ntmps V m T S S' { tmps := ⟨args'⟩ ++ Array.replicate (fn.ntmps - (⟨args'⟩ : Array Value).size) undef, defers := [] } w := by
            refine ⟨⟨hgl, fun t => ?_⟩, ?_, rfl, hr, ha, hf⟩
            · rw [hT t]
              have e : Act.eval { tmps := ⟨args'⟩ ++ Array.replicate (fn.ntmps - (⟨args'⟩ : Array Value).size) undef, defers := [] } (.tmp t) = (args'[t]?).getD undef := by
                simp only [Act.eval, Array.getD_eq_getD_getElem?]
                by_cases ht : t < args'.length
                · rw [Array.getElem?_append_left (by simpa using ht)]
                  simp
                · rw [Array.getElem?_append_right (by simpa using ht), List.getElem?_eq_none (by omega)]
                  cases hx : (Array.replicate (fn.ntmps - (⟨args'⟩ : Array Value).size) undef)[t - (⟨args'⟩ : Array Value).size]? with
                  | none => rfl
                  | some u =>
                    rw [Array.getElem?_replicate] at hx
                    split at hx
                    · cases hx; rfl
                    · cases hx
              rw [e]
              by_cases ht : t < args.length
              · rw [if_pos (by omega), Nat.sub_zero]
                obtain ⟨v', h4, h5⟩ := hargs.get (List.getElem?_eq_getElem ht)
                rw [h4, List.getElem?_eq_getElem ht]
                exact h5
              · rw [if_neg (by omega), tget_all, List.getElem?_eq_none (by omega)]
                exact .tuple .nil
            · simp; omega
          refine wp_mono (sim m V w _ (hA.first g2)) fun e a' w' hp => ?_
          obtain ⟨h4, m1, h5⟩ := hp
          have hA2 := After.second hA h5
          obtain ⟨m', vs, vs', S2, h6, h7, h8, h9⟩ := evRs_some (V := fun _ => False) h3 hA2.rel hA2.mem (fun vs S1 h => by obtain ⟨rfl, _⟩ := retV_some h; exact Grown.refl _) hA2.acc hA2.fresh
          obtain ⟨rfl, rfl⟩ := retV_some h6
          have fin : a'.defers = [] ∧ ∃ v, (results fn a'.tmps).run P w' = .ok v w' ∧ CPost P V m S w (tupled vs) S' (.returned v) w' := by
            refine ⟨h5.defers, _, results_run h9, m', _, rfl, ?_, h5.out.trans h8⟩
            cases h7 with
            | nil => exact .tuple .nil
            | cons a b =>
              cases b with
              | nil => exact a
              | cons c d => exact .tuple (.cons a (.cons c d))
          rcases hex with rfl | rfl
          · cases e <;> first | exact h4.elim | exact fin
          · cases e <;> first | exact h4.elim | exact fin
        · cases h

/-! ### A run from the beginning -/
theorem glHeap_get (X : Nat) : ∀ (gl : Gls) (T : Tr ABlk), (∀ x ∈ gl, x.1 < 64) → (glHeap gl T).get X = T.get X ∨ ∃ x ∈ gl, x.1 = X ∧ (glHeap gl T).get X = some (.cells x.2.1 x.2.2)
  | [], T, _ => .inl rfl
  | (g, cs, e) :: l, T, h => by
    have hg : g < 64 := h (g, cs, e) (by simp)
    unfold glHeap
    rcases glHeap_get X l (Tr.set 33 T g (some (.cells cs e))) (fun x hx => h x (by simp [hx])) with h1 | ⟨x, hx, h1, h2⟩
    · by_cases hX : X = g
      · subst hX
        rw [Tr.get_set_eq 33 _ _ _ (by omega)] at h1
        exact .inr ⟨(X, cs, e), by simp, rfl, h1⟩
      · rw [Tr.get_set_ne 33 _ _ _ _ hX] at h1
        exact .inl h1
    · exact .inr ⟨x, by simp [hx], h1, h2⟩
theorem SG_get {gl : Gls} (hg : ∀ x ∈ gl, x.1 < 64) (X : Nat) : (SG gl).heap.get X = .none ∨ ∃ x ∈ gl, x.1 = X ∧ (SG gl).heap.get X = some (.cells x.2.1 x.2.2) := by
  rcases glHeap_get X gl Tr.empty hg with h | h
  · left; exact h.trans (Tr.get_empty X)
  · exact .inr h
theorem tidyG {gl : Gls} (hg : ∀ x ∈ gl, x.1 < 64) : Tidy (SG gl) := by
  refine ⟨fun X hX => ?_, by show (64 : Nat) ≤ 8192; decide, fun X h => by simp [SG] at h⟩
  have hX : 64 ≤ X := hX
  rcases SG_get hg X with h | ⟨x, hx, h1, _⟩
  · exact h
  · have := hg x hx; omega
/-- Where the package variables lie, and above them what m says. -/
def mG (P : Program) (gl : Gls) (m : BMap) : BMap := fun X =>
  if X < 64 then match gl.find? fun x => x.1 == X with
    | some x => some ⟨X, 0, x.2.1.length, szOf P x.2.2⟩
    | .none => some ⟨X, 0, 0, 0⟩
  else m X
theorem mG_lt {gl : Gls} {m : BMap} {X : Nat} (h : X < 64) : ∃ p, mG P gl m X = some p ∧ p.blk = X ∧ p.off = 0 := by
  unfold mG
  rw [if_pos h]
  split <;> exact ⟨_, rfl, rfl, rfl⟩
theorem mG_ge {gl : Gls} {m : BMap} {X : Nat} (h : 64 ≤ X) : mG P gl m X = m X := by unfold mG; rw [if_neg (by omega)]
theorem mG_gl {gl : Gls} {m : BMap} : Gl (mG P gl m) := fun _ h => mG_lt h
/-- What is asked of the package variables that are known. -/
def GlsAt (gl : Gls) (w : World) : Prop := ∀ x ∈ gl, w.heap[x.1]? = some (.cells ⟨x.2.1⟩ x.2.2 (0, 0))
def glsOk : Gls → Bool
  | [] => true
  | x :: l => Nat.blt x.1 64 && x.2.1.all flat1 && l.all (fun y => !(x.1 == y.1)) && glsOk l
theorem glsOk_lt : ∀ {gl : Gls}, glsOk gl = true → ∀ x ∈ gl, x.1 < 64 ∧ x.2.1.all flat1 = true
  | y :: l, h, x, hx => by
    unfold glsOk at h
    simp only [Bool.and_eq_true] at h
    rcases List.mem_cons.1 hx with rfl | hx
    · exact ⟨blt_true h.1.1.1, h.1.1.2⟩
    · exact glsOk_lt h.2 x hx
theorem glsOk_find : ∀ {gl : Gls}, glsOk gl = true → ∀ x ∈ gl, gl.find? (fun y => y.1 == x.1) = some x
  | y :: l, h, x, hx => by
    unfold glsOk at h
    simp only [Bool.and_eq_true] at h
    rcases List.mem_cons.1 hx with rfl | hx
    · simp
    · have h1 := List.all_eq_true.1 h.1.2 x hx
      simp only [Bool.not_eq_true'] at h1
      rw [List.find?_cons, h1]
      exact glsOk_find h.2 x hx
theorem relG {gl : Gls} (hg : glsOk gl = true) (m : BMap) {w : World} (hw : GlsAt gl w) : Rel P (fun X => X < 64) (mG P gl m) (SG gl) w := by
  have hlt : ∀ x ∈ gl, x.1 < 64 := fun x hx => (glsOk_lt hg x hx).1
  refine ⟨fun X hX x hx => ?_, fun X Y hX hY _ _ p q hp hq hpq => ?_, (tidyG hlt).low, (tidyG hlt).bnd⟩
  · rcases SG_get hlt X with h | ⟨y, hy, h1, h2⟩
    · rw [h] at hx; cases hx
    · rw [h2] at hx
      cases hx
      have hX : X < 64 := hX
      refine ⟨⟨X, 0, y.2.1.length, szOf P y.2.2⟩, ⟨y.2.1⟩, ?_, ⟨(0, 0), by subst h1; exact hw y hy, .inl ⟨rfl, rfl⟩⟩, rfl, rfl, fun i v hv => ⟨v, by simpa using hv, flat1_rel (List.all_eq_true.1 (glsOk_lt hg y hy).2 v (List.mem_of_getElem? hv))⟩⟩
      unfold mG
      rw [if_pos hX]
      subst h1
      rw [glsOk_find hg y hy]
  · obtain ⟨p', h1, h2, _⟩ := mG_lt (P := P) (gl := gl) (m := m) hX
    obtain ⟨q', h3, h4, _⟩ := mG_lt (P := P) (gl := gl) (m := m) hY
    rw [h1] at hp; rw [h3] at hq
    cases hp; cases hq
    omega

/-- **A call that the kernel has carried out does so in every world, whatever is left open.** -/
theorem run_calls_gen (hP : PGood P) (hN : PNames P) (hm : P.follows .mixedOrders = true) (hD : ∀ call, CallOk P call → DrawSim P call) {ov : Ov} (hO : OvOk P ov) {gl : Gls} (hg : glsOk gl = true) {f : Nat} {g : FuncId} {args args' : List Value} {v : Value} {S' : St} (he : evCallO P ov f g args (SG gl) = some (v, S'))
    {m0 : BMap} (hm0 : ∀ X, X < symAt → m0 X = .none) (hn : S'.next ≤ symAt) (hw : ∀ X, (X < 64 ∨ symAt ≤ X) → S'.wr.testBit X = false) (hargs : VRels (mG P gl m0) args args') (hv : flat v = true) (w : World) (hgw : GlsAt gl w) : Calls P g ⟨args'⟩ w fun e w' => e = .returned v ∧ RowKit.Below w.heap.size w w' := by
  obtain ⟨_, h⟩ := evCallO_ok hP hN hm hD hO f g args (SG gl) v S' he (tidyG fun x hx => (glsOk_lt hg x hx).1)
  obtain ⟨fn, h1, h2, h3⟩ := h (mG P gl m0) (fun X => X < 64) w args' mG_gl hargs (relG hg m0 hgw) (fun X hX _ => hX) (fun X hX h => by rw [mG_ge hX]; exact hm0 X (Nat.lt_of_lt_of_le h hn))
  refine h3.mono fun e w' hp => ?_
  obtain ⟨m', v', rfl, h4, h5⟩ := hp
  rw [flat_eq hv h4]
  exact ⟨rfl, h5.os, h5.tape, h5.output, h5.size, fun k hk => h5.keep k hk fun X p h h' => by
    rcases Nat.lt_or_ge X 64 with hX | hX
    · rw [hw X (.inl hX)] at h; cases h
    · rcases Nat.lt_or_ge X symAt with hX2 | hX2
      · rw [mG_ge hX, hm0 X hX2] at h'; cases h'
      · rw [hw X (.inr hX2)] at h; cases h⟩
end

end
end Go.Proofs.YtgkbjdphkmmmhaaDoor.Ev
