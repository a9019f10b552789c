/-
  Runs that the kernel carries out: what is made ready does what the operation does. No program in sight.
-/
import Derived.Test.YtgkbjdphkmmmhaaDoorEvG
namespace Go.Proofs.YtgkbjdphkmmmhaaDoor.Ev
open Go
noncomputable section

/-! ### Slots -/
def tput (t : Nat) (v : Value) (T : Tm) : Tm :=
  if t < 256 then ⟨put16 (t / 16) (put16 (t % 16) v ((get16 (t / 16)).g T.lo)) T.lo, T.hi⟩
  else ⟨T.lo, put16 (t / 16 - 16) (put16 (t % 16) v ((get16 (t / 16 - 16)).g T.hi)) T.hi⟩
theorem setC_eq {β : Type} (t : Nat) (v : Value) (T : Tm) (k : Tm → β) : (setC t).s v T k = k (tput t v T) := by
  obtain ⟨lo, hi⟩ := T
  unfold setC tput
  split
  · rename_i h
    rw [if_pos (blt_true h)]
    show (set16 (t % 16)).s v _ _ = _
    rw [set16_eq]
    show (set16 (t / 16)).s _ _ _ = _
    rw [set16_eq]
    rfl
  · rename_i h
    have := blt_false h
    rw [if_neg (by omega)]
    show (set16 (t % 16)).s v _ _ = _
    rw [set16_eq]
    show (set16 (t / 16 - 16)).s _ _ _ = _
    rw [set16_eq]
    rfl
theorem tget_eq (T : Tm) (t : Nat) : tget T t = if t < 256 then (get16 (t % 16)).g ((get16 (t / 16)).g T.lo) else if t < 512 then (get16 (t % 16)).g ((get16 (t / 16 - 16)).g T.hi) else undef := by
  unfold tget getC
  split
  · rename_i h; rw [if_pos (blt_true h)]; rfl
  · rename_i h
    have := blt_false h
    rw [if_neg (by omega)]
    split
    · rename_i h; rw [if_pos (blt_true h)]; rfl
    · rename_i h
      have := blt_false h
      rw [if_neg (by omega)]
theorem tget_tput {t : Nat} (ht : t < 512) (v : Value) (T : Tm) (u : Nat) : tget (tput t v T) u = if u = t then v else tget T u := by
  rw [tget_eq, tget_eq]
  unfold tput
  by_cases h : u = t
  · subst h
    rw [if_pos rfl]
    by_cases h1 : u < 256
    · rw [if_pos h1, if_pos h1]
      dsimp only
      rw [get16_put (by omega), get16_put (by omega)]
    · rw [if_neg h1, if_neg h1, if_pos ht]
      dsimp only
      rw [get16_put (by omega), get16_put (by omega)]
  · rw [if_neg h]
    by_cases h1 : t < 256
    · rw [if_pos h1]
      dsimp only
      by_cases h2 : u < 256
      · rw [if_pos h2, if_pos h2]
        by_cases h3 : u / 16 = t / 16
        · rw [h3, get16_put (by omega), get16_put_ne (by omega) (by omega) (by omega)]
        · rw [get16_put_ne (by omega) (by omega) h3]
      · rw [if_neg h2, if_neg h2]
    · rw [if_neg h1]
      dsimp only
      by_cases h2 : u < 256
      · rw [if_pos h2, if_pos h2]
      · rw [if_neg h2, if_neg h2]
        by_cases h4 : u < 512
        · rw [if_pos h4, if_pos h4]
          by_cases h3 : u / 16 - 16 = t / 16 - 16
          · rw [h3, get16_put (by omega), get16_put_ne (by omega) (by omega) (by omega)]
          · rw [get16_put_ne (by omega) (by omega) h3]
        · rw [if_neg h4, if_neg h4]

theorem put_same {a : Act} {d : Nat} (v : Value) (h : d < a.tmps.size) : (a.put (some d) v).eval (.tmp d) = v := by
  simp [Act.put, Act.eval, h]
theorem put_other {a : Act} {x : Option Nat} {t : Nat} (v : Value) (h : x ≠ some t) : (a.put x v).eval (.tmp t) = a.eval (.tmp t) := by
  cases x with
  | none => rfl
  | some d =>
    have : d ≠ t := fun e => h (by rw [e])
    simp [Act.put, Act.eval, Array.getElem?_setIfInBounds_ne this]
theorem put_size (a : Act) (x : Option Nat) (v : Value) : (a.put x v).tmps.size = a.tmps.size := by
  cases x <;> simp [Act.put]
theorem put_defers (a : Act) (x : Option Nat) (v : Value) : (a.put x v).defers = a.defers := by
  cases x <;> simp [Act.put]

/-- A value laid into a slot, or none. -/
def tputO (d : Option Nat) (v : Value) (T : Tm) : Tm := match d with | some d => tput d v T | .none => T
theorem putC_some {n : Nat} {d : Option Nat} {v : Value} {T : Tm} {k : Tm → Reg} {r : Tm × St} (h : (putC n d).p v T k = some r) : k (tputO d v T) = some r ∧ ∀ t, d = some t → t < n ∧ t < 512 := by
  unfold putC at h
  split at h
  · exact ⟨h, fun t h => by cases h⟩
  · rename_i t
    split at h
    · rename_i hb
      simp only [Bool.and_eq_true] at hb
      dsimp only at h
      rw [setC_eq] at h
      exact ⟨h, fun t h => by cases h; exact ⟨blt_true hb.1, blt_true hb.2⟩⟩
    · cases h
theorem TRel.put {m : BMap} {T : Tm} {a : Act} (hT : TRel m T a) {d : Option Nat} {v v' : Value} (hv : VRel m v v') {n : Nat} (hn : a.tmps.size = n) (hd : ∀ t, d = some t → t < n ∧ t < 512) : TRel m (tputO d v T) (a.put d v') := by
  refine ⟨hT.gl, fun t => ?_⟩
  cases d with
  | none => exact hT t
  | some d =>
    obtain ⟨h1, h2⟩ := hd d rfl
    unfold tputO
    dsimp only
    rw [tget_tput h2]
    by_cases ht : t = d
    · subst ht
      rw [if_pos rfl, put_same _ (by omega)]
      exact hv
    · rw [if_neg ht, put_other _ (fun h => ht (by cases h; rfl))]
      exact hT t

section
variable {P : Program} {m : BMap}

/-! ### Operands -/
theorem opdC_evO {β : Type} {T : Tm} {x : Operand} {g : GetC} (h : opdC x = ⟨some g⟩) (k : Value → Option β) : evO T x k = k (g.g T) := by
  unfold opdC at h
  split at h
  · cases h; rfl
  · split at h
    · rename_i hf
      cases h
      unfold evO
      dsimp only
      rw [hf]
    · cases h
  · cases h; rfl
  · split at h
    · rename_i hb
      cases h
      unfold evO
      dsimp only
      rw [hb]
    · cases h
theorem opdC_rel {T : Tm} {a : Act} (hT : TRel m T a) {x : Operand} {g : GetC} (h : opdC x = ⟨some g⟩) : VRel m (g.g T) (a.eval x) := by
  obtain ⟨v, h1, h2⟩ := evO_some (k := fun v => some v) hT (opdC_evO h _)
  cases h1
  exact h2
theorem un_some {x : Operand} {f : Value → St → Option (Value × St)} {call : CallF} {T : Tm} {S : St} {r : Value × St} (h : (un x f).r call T S = some r) : evO T x (fun v => f v S) = some r := by
  unfold un at h
  split at h
  · rename_i g hg; rw [opdC_evO hg]; exact h
  · cases h
theorem bi_some {x y : Operand} {f : Value → Value → St → Option (Value × St)} {call : CallF} {T : Tm} {S : St} {r : Value × St} (h : (bi x y f).r call T S = some r) : evO T x (fun v => evO T y fun u => f v u S) = some r := by
  unfold bi at h
  split at h
  · rename_i g h' hg hh; rw [opdC_evO hg, opdC_evO hh]; exact h
  · cases h
theorem forced_eq (o : Option (Value × St)) : forced o = o := by
  cases o with
  | none => rfl
  | some p => obtain ⟨v, S⟩ := p; simp [forced]
theorem getPs_some {T : Tm} : ∀ {ps : List (Nat × Operand)} {gs : List (Nat × GetC)}, getPs ps = some gs → ∀ {β : Type} (k : List (Nat × Value) → Option β), evPs T ps k = k (getPv T gs)
  | [], gs, h, β, k => by cases h; rfl
  | (n, x) :: ps, gs, h, β, k => by
    unfold getPs at h
    split at h
    · rename_i g gs' hg hgs
      cases h
      unfold evPs
      rw [opdC_evO hg, getPs_some hgs]
      rfl
    · cases h
theorem getsC_some {T : Tm} : ∀ {xs : List Operand} {gs : List GetC}, getsC xs = some gs → ∀ {β : Type} (k : List Value → Option β), evOs T xs k = k (getsV T gs)
  | [], gs, h, β, k => by cases h; rfl
  | x :: xs, gs, h, β, k => by
    unfold getsC at h
    split at h
    · rename_i g gs' hg hgs
      cases h
      unfold evOs
      rw [opdC_evO hg, getsC_some hgs]
      rfl
    · cases h
theorem buildC_some {f : List (Nat × Value) → St → Option (Value × St)} {ps : List (Nat × Operand)} {call : CallF} {T : Tm} {S : St} {r : Value × St} (h : (buildC f ps).r call T S = some r) : evPs T ps (fun ps => f ps S) = some r := by
  unfold buildC at h
  split at h
  · rename_i gs hg; rw [getPs_some hg]; exact h
  · cases h
theorem evPs_map {β γ : Type} {T : Tm} : ∀ {xs : List (Nat × Operand)} {k : List (Nat × Value) → Option β} {k' : List (Nat × Value) → Option γ} {y : β} {z : γ}, evPs T xs k = some y → (∀ v, k v = some y → k' v = some z) → evPs T xs k' = some z
  | [], k, k', y, z, h, hk => hk _ h
  | (n, x) :: xs, k, k', y, z, h, hk => evO_map h fun v hv => evPs_map hv fun vs hvs => hk _ hvs

/-! ### What an operation, a call aside, does -/
def isCallV : Op → Bool
  | .call ⟨.value _, _, _⟩ => true
  | _ => false
theorem binF_some {op : BinOp} {t : TypeId} {x y : Operand} {a b : Value} {S : St} {r : Value × St} (h : binF P op t x y a b S = some r) : aBin P op t x y a b S = some r := by
  unfold binF at h
  rw [forced_eq] at h
  exact fBin_some h
theorem idxF_some {t : TypeId} {v u : Value} {S : St} {r : Value × St} (h : idxF P t v u S = some r) : ∃ k i, u = .int k i ∧ aIdx P t v k i S = some r := by
  unfold idxF at h
  split at h
  · rename_i k i
    refine ⟨k, i, rfl, ?_⟩
    rcases orElse_some h with h | h
    · exact fIndex_some h
    · rw [forced_eq] at h; exact h
  · cases h
theorem opC_aOp {o : Oper} (hc : isCallV o.op = false) {call : CallF} {T : Tm} {S : St} {r : Value × St} (h : (opC P o).r call T S = some r) (hlow : ∀ X, S.next ≤ X → S.heap.get X = .none) (hbnd : S.next ≤ 8192) : aOp P T o S = some r := by
  obtain ⟨dst, op, ty, pos, after, guard⟩ := o
  unfold opC at h
  cases op <;> dsimp only at h
  case move x => exact un_some h
  case assign x => exact un_some h
  case pick c x y =>
    unfold pickC at h
    split at h
    · rename_i gc ga gb h1 h2 h3
      show oPick T c x y S = some r
      unfold oPick
      rw [opdC_evO h1]
      dsimp only at h
      unfold pickF at h
      split at h
      · rename_i hb; rw [hb]; show evO T x _ = _; rw [opdC_evO h2]; exact h
      · rename_i hb; rw [hb]; show evO T y _ = _; rw [opdC_evO h3]; exact h
      · cases h
    · cases h
  case alloc e => exact fAlloc_some h
  case box e x => exact evO_map (un_some h) fun v hv => fBox_some hv
  case load t x => exact evO_map (un_some h) fun v hv => fLoad_some hv
  case store t x y => exact evO_map (bi_some h) fun v hv => evO_map hv fun u hu => fStore_some hu hlow hbnd
  case nilCheck x =>
    show oNil T x S = some r
    unfold oNil
    exact evO_map (un_some h) fun v hv => hv
  case binOp op t x y yt => exact evO_map (bi_some h) fun v hv => evO_map hv fun u hu => binF_some hu
  case fieldAddr s x f => exact evO_map (un_some h) fun v hv => fField_some hv
  case extract x i => exact evO_map (un_some h) fun v hv => fExtract_some hv
  case indexAddr t x i =>
    show (evO T x fun v => evI T i fun k i => aIdx P t v k i S) = some r
    refine evO_map (bi_some h) fun v hv => ?_
    show evO T i _ = some r
    refine evO_map hv fun u hu => ?_
    obtain ⟨k, j, rfl, h1⟩ := idxF_some hu
    exact h1
  case build t ps => exact evPs_map (buildC_some h) fun v hv => (orElse_some hv).elim fBuild_some fun h => by rw [forced_eq] at h; exact h
  case buildSlice t len ps => exact evPs_map (buildC_some h) fun v hv => fBuildSlice_some hv
  case makeSlice t l c =>
    show (evO T l fun l' => evO T c fun c' => aMk P t (sameOp l c) l' c' S) = some r
    refine evO_map (bi_some h) fun v hv => ?_
    refine evO_map hv fun u hu => ?_
    rcases orElse_some hu with hu | hu
    · obtain ⟨kl, il, kc, ic, rfl, rfl, h3⟩ := fMakeSlice_some hu
      exact h3
    · rw [forced_eq] at hu; exact hu
  case unOp op t x =>
    cases op
    case not => exact evO_map (un_some h) fun v hv => fNot_some hv
    all_goals (unfold slowC at h; dsimp only at h; rw [forced_eq] at h; exact h)
  case call c =>
    obtain ⟨callee, args, ts⟩ := c
    cases callee with
    | builtin b =>
      dsimp only at h
      unfold builtinC at h
      split at h
      · rename_i x hx
        show evOs T args.toList (fun vs => aBuiltin P .len ts.toList ty vs S) = _
        rw [hx]
        refine evO_map (un_some h) fun v hv => ?_
        unfold lenF at hv
        rw [forced_eq] at hv
        exact (orElse_some hv).elim fLen_some id
      · dsimp only at h
        rw [forced_eq] at h
        exact h
    | value f => cases hc
    | invoke r n => unfold slowC at h; dsimp only at h; rw [forced_eq] at h; exact h
  all_goals (unfold slowC at h; dsimp only at h; rw [forced_eq] at h; exact h)

/-! ### What an operation does to the abstract memory -/
theorem evO_ex {β : Type} {T : Tm} {x : Operand} {k : Value → Option β} {y : β} (h : evO T x k = some y) : ∃ v, k v = some y := by
  unfold evO at h
  split at h
  · exact ⟨_, h⟩
  · split at h
    · exact ⟨_, h⟩
    · cases h
  · exact ⟨_, h⟩
  · split at h
    · exact ⟨_, h⟩
    · cases h
theorem evI_ex {β : Type} {T : Tm} {x : Operand} {k : IntKind → Int → Option β} {y : β} (h : evI T x k = some y) : ∃ kd i, k kd i = some y := by
  obtain ⟨v, hv⟩ := evO_ex h
  split at hv
  · exact ⟨_, _, hv⟩
  · cases hv
theorem evB_ex {β : Type} {T : Tm} {x : Option Operand} {d : Nat} {k : Nat → Option β} {y : β} (h : evB T x d k = some y) : ∃ n, k n = some y := by
  unfold evB at h
  split at h
  · exact ⟨_, h⟩
  · obtain ⟨_, _, hi⟩ := evI_ex h
    split at hi
    · exact ⟨_, hi⟩
    · cases hi
theorem evOs_ex {β : Type} {T : Tm} : ∀ {xs : List Operand} {k : List Value → Option β} {y : β}, evOs T xs k = some y → ∃ v, k v = some y
  | [], k, y, h => ⟨_, h⟩
  | x :: xs, k, y, h => by
    obtain ⟨v, hv⟩ := evO_ex h
    obtain ⟨vs, hvs⟩ := evOs_ex hv
    exact ⟨_, hvs⟩
theorem evPs_ex {β : Type} {T : Tm} : ∀ {xs : List (Nat × Operand)} {k : List (Nat × Value) → Option β} {y : β}, evPs T xs k = some y → ∃ v, k v = some y
  | [], k, y, h => ⟨_, h⟩
  | (n, x) :: xs, k, y, h => by
    obtain ⟨v, hv⟩ := evO_ex h
    obtain ⟨vs, hvs⟩ := evPs_ex hv
    exact ⟨_, hvs⟩
theorem flatOut_grown {o : Option Value} {S S' : St} {v : Value} (h : flatOut o S = some (v, S')) : Grown S S' := by
  obtain ⟨_, _, rfl⟩ := flatOut_some h
  exact Grown.refl _
theorem aBuiltin_grown {S S' : St} {b : Builtin} {ts : List TypeId} {ty : TypeId} {vs : List Value} {v : Value} (he : aBuiltin P b ts ty vs S = some (v, S')) : Grown S S' := by
  unfold aBuiltin at he
  split at he
  · exact arun_grown _ he
  · split at he
    · split at he
      · exact append_grown he
      · cases he
    · cases he
  · exact arun_grown _ he
  · split at he
    · exact flatOut_grown he
    · cases he
  · split at he
    · exact flatOut_grown he
    · cases he
  · exact arun_grown _ he
  · cases he
theorem aOp_grown {T : Tm} {o : Oper} {S S' : St} {v : Value} (he : aOp P T o S = some (v, S')) : Grown S S' := by
  obtain ⟨dst, op, ty, pos, after, guard⟩ := o
  unfold aOp at he
  cases op <;> dsimp only at he
  case move x => obtain ⟨u, h⟩ := evO_ex he; cases h; exact Grown.refl _
  case assign x => obtain ⟨u, h⟩ := evO_ex he; cases h; exact Grown.refl _
  case pick c x y =>
    obtain ⟨u, h⟩ := evO_ex he
    split at h
    · obtain ⟨u, h⟩ := evO_ex h; cases h; exact Grown.refl _
    · obtain ⟨u, h⟩ := evO_ex h; cases h; exact Grown.refl _
    · cases h
  case alloc e => exact arun_grown _ he
  case box e x => obtain ⟨u, h⟩ := evO_ex he; exact arun_grown _ h
  case build t ps => obtain ⟨u, h⟩ := evPs_ex he; exact arun_grown _ h
  case buildSlice t len ps => obtain ⟨u, h⟩ := evPs_ex he; exact arun_grown _ h
  case load t x => obtain ⟨u, h⟩ := evO_ex he; exact arun_grown _ h
  case store t x y => obtain ⟨u, h⟩ := evO_ex he; obtain ⟨u, h⟩ := evO_ex h; exact arun_grown _ (done_some h).1
  case nilCheck x =>
    obtain ⟨u, h⟩ := evO_ex he
    split at h
    · cases h; exact Grown.refl _
    · cases h
  case binOp op t x y yt =>
    obtain ⟨u, h⟩ := evO_ex he; obtain ⟨u2, h⟩ := evO_ex h
    unfold aBin at h
    split at h
    · exact flatOut_grown h
    · split at h
      · split at h
        · split at h
          · cases h; exact Grown.refl _
          · cases h; exact Grown.refl _
          · cases h
        · split at h
          · cases h; exact Grown.refl _
          · cases h
      · cases h
  case unOp op t x =>
    obtain ⟨u, h⟩ := evO_ex he
    split at h
    · exact flatOut_grown h
    · cases h
  case convert s d x =>
    obtain ⟨u, h⟩ := evO_ex he
    split at h
    · exact flatOut_grown h
    · split at h
      · cases h; exact Grown.refl _
      · unfold strConv at h
        split at h
        · split at h
          · obtain ⟨_, S1, h1, g1, _, _⟩ := aCells_grown h
            split at h1
            · cases h1; exact g1
            · cases h1
          · cases h
        · split at h
          · split at h
            · rw [forceVs_eq] at h
              obtain ⟨hn, h⟩ := St.newK_some h
              cases h
              exact Grown.new _ _ hn
            · cases h
          · cases h
        · split at h
          · split at h
            · split at h
              · rename_i hg
                split at h
                · rw [St.putK_eq] at h
                  cases h
                  exact Grown.put _ _ _ (by rw [hg]; rfl)
                · cases h
              · cases h
            · cases h
          · cases h
        · cases h
  case makeFunc fn f c => obtain ⟨u, h⟩ := evOs_ex he; obtain ⟨u, h⟩ := evOs_ex h; cases h; exact Grown.refl _
  case makeMap t r => cases r with
    | none => exact arun_grown _ he
    | some x => cases he
  case makeSlice t l c =>
    obtain ⟨_, h⟩ := evO_ex he; obtain ⟨_, h⟩ := evO_ex h
    unfold aMk at h
    split at h
    · exact arun_grown _ h
    · split at h
      · exact arun_grown _ h
      · cases h
    · cases h
  case slice t x lo hi mx => cases mx with
    | some y => cases he
    | none =>
      obtain ⟨u, h⟩ := evO_ex he
      split at h
      · obtain ⟨_, h⟩ := evB_ex h; obtain ⟨_, h⟩ := evB_ex h
        split at h
        · split at h
          · exact slice_grown (P := P) h
          · cases h
        · cases h
      · obtain ⟨_, h⟩ := evB_ex h; obtain ⟨_, h⟩ := evB_ex h
        split at h
        · split at h
          · cases h; exact Grown.refl _
          · cases h
        · cases h
      · cases h
  case fieldAddr s x f => obtain ⟨u, h⟩ := evO_ex he; exact arun_grown _ h
  case field t x f => obtain ⟨u, h⟩ := evO_ex he; exact arun_grown _ h
  case indexAddr t x i =>
    obtain ⟨u, h⟩ := evO_ex he; obtain ⟨_, _, h⟩ := evI_ex h
    unfold aIdx at h
    split at h <;> exact arun_grown _ h
  case index t x i => obtain ⟨u, h⟩ := evO_ex he; obtain ⟨_, _, h⟩ := evI_ex h; exact arun_grown _ h
  case lookup t x i ok =>
    obtain ⟨u, h⟩ := evO_ex he; obtain ⟨u2, h⟩ := evO_ex h
    exact arun_grown _ h
  case mapUpdate t x k y =>
    obtain ⟨u, h⟩ := evO_ex he; obtain ⟨u2, h⟩ := evO_ex h; obtain ⟨u3, h⟩ := evO_ex h
    exact arun_grown _ (done_some h).1
  case extract x i => obtain ⟨u, h⟩ := evO_ex he; exact arun_grown _ h
  case range t x =>
    obtain ⟨u, h⟩ := evO_ex he
    unfold aRange at h
    split at h
    · obtain ⟨hn, h⟩ := St.newK_some h; cases h; exact Grown.new _ _ hn
    · cases h
  case next x b =>
    obtain ⟨u, h⟩ := evO_ex he
    unfold aNext at h
    split at h
    · split at h
      · rename_i hg
        split at h
        · simp only [forceN_eq, St.putK_eq] at h; cases h; exact Grown.put _ _ _ (by rw [hg]; rfl)
        · rw [St.rd_eq] at h; cases h; exact Grown.rd _ _
      · cases h
    · cases h
  case call c =>
    obtain ⟨callee, args, ts⟩ := c
    cases callee with
    | builtin b => obtain ⟨u, h⟩ := evOs_ex he; exact aBuiltin_grown h
    | value f => cases he
    | invoke r n => cases he
  all_goals cases he

/-! ### Calls of functions -/
/-- What a call that was carried out has shown. -/
def CPost (P : Program) (V : Nat → Prop) (m : BMap) (S : St) (w : World) (v : Value) (S' : St) (e : Ending) (w' : World) : Prop :=
  ∃ m' v', e = .returned v' ∧ VRel m' v v' ∧ Out P V m S w m' S' w'
/-- The abstract memory is in order. -/
structure Tidy (S : St) : Prop where
  low : ∀ X, S.next ≤ X → S.heap.get X = .none
  bnd : S.next ≤ 8192
  sub : ∀ X, S.wr.testBit X = true → S.acc.testBit X = true
def CallOk (P : Program) (call : CallF) : Prop :=
  ∀ g args S v S', call g args S = some (v, S') → Tidy S → Grown S S' ∧
    ∀ (m : BMap) (V : Nat → Prop) (w : World) (args' : List Value), Gl m → VRels m args args' → Rel P V m S w → (∀ X, X < S.next → S'.acc.testBit X = true → V X) → (∀ X, S.next ≤ X → X < S'.next → m X = .none) →
      ∃ fn, P.funcs[g]? = some fn ∧ fn.body.isSome = true ∧ Calls P g ⟨args'⟩ w (CPost P V m S w v S')
structure PNames (P : Program) : Prop where
  name : ∀ (f : FuncId) (fn : Func), P.funcs[f]? = some fn → (fn.name == "runtime.NumGoroutine") = false

theorem Left.upon {o : Oper} {a : Act} {w w' : World} {v' : Value} {next : Act → World → Prop} {Q : Exit → Act → World → Prop} (h : Left P (execOp a.eval o) w v' w') (hn : next (a.put o.dst v') w') : o.wp P a w next Q := by
  unfold Oper.wp
  rcases h with h | ⟨h, rfl⟩
  · rw [h]; exact hn
  · rw [h]; exact hn

theorem call_upon (hN : PNames P) {dst : Option Tmp} {f : Operand} {args : Array Operand} {ts : Array TypeId} {ty : TypeId} {pos : String} {after : Array Edge} {guard : Option (Nat × Bool)} {a : Act} {w : World} {next : Act → World → Prop} {Q : Exit → Act → World → Prop}
    {g : FuncId} {first captured : Array Value} (hf : a.eval f = .func (.func g) first captured) {fn : Func} (hg : P.funcs[g]? = some fn) (hb : fn.body.isSome = true)
    (h : Calls P g ((first ++ args.map a.eval) ++ captured) w fun | .returned v, w'' => next (a.put dst v) w'' | .panicked chain, w'' => Q (.panic chain) a w'' | .outgrown, _ => LetsOut Q) :
    Oper.wp P ⟨dst, .call ⟨.value f, args, ts⟩, ty, pos, after, guard⟩ a w next Q := by
  unfold Oper.wp
  have e : (execOp a.eval ⟨dst, .call ⟨.value f, args, ts⟩, ty, pos, after, guard⟩).run P w = .ok (.enter g ((first ++ args.map a.eval) ++ captured)) w := by
    show Sem.run P (resolve a.eval ⟨.value f, args, ts⟩ ty >>= fun d => invoke d.target d.args) w = _
    rw [run_bind]
    have e1 : (resolve a.eval ⟨.value f, args, ts⟩ ty).run P w = .ok { target := .fn (.func g) captured, args := first ++ args.map a.eval } w := by
      show Sem.run P (Deferred.ofValue (a.eval f) (args.map a.eval)) w = _
      rw [hf]
      rfl
    rw [e1]
    show Sem.run P (callFunc g ((first ++ args.map a.eval) ++ captured)) w = _
    unfold callFunc
    show Sem.run P (.program _) w = _
    simp only [Sem.run]
    show Sem.run P (match P.funcs[g]? with | .none => _ | some fn => _) w = _
    rw [hg]
    show Sem.run P (if (fn.name == "runtime.NumGoroutine") = true then _ else if fn.body.isNone = true then _ else _) w = _
    rw [if_neg (by rw [hN.name g fn hg]; simp), if_neg (by rw [Option.isNone_iff_eq_none]; intro h0; rw [h0] at hb; cases hb)]
    rfl
  rw [e]
  exact h

/-- One operation. -/
theorem opC_sim (hP : PGood P) (hN : PNames P) {call : CallF} (hcall : CallOk P call) {T : Tm} {o : Oper} {S S' : St} {v : Value} (he : (opC P o).r call T S = some (v, S')) (hS : Tidy S) :
    Grown S S' ∧ ∀ (m : BMap) (V : Nat → Prop) (w : World) (a : Act) (next : Act → World → Prop) (Q : Exit → Act → World → Prop), TRel m T a → Rel P V m S w → (∀ X, X < S.next → S'.acc.testBit X = true → V X) → (∀ X, S.next ≤ X → X < S'.next → m X = .none) →
      (∀ m' v' w', VRel m' v v' → Out P V m S w m' S' w' → next (a.put o.dst v') w') → o.wp P a w next Q := by
  by_cases hc : isCallV o.op = true
  · obtain ⟨dst, op, ty, pos, after, guard⟩ := o
    cases op <;> try (cases hc; done)
    rename_i c
    obtain ⟨callee, args, ts⟩ := c
    cases callee <;> try (cases hc; done)
    rename_i f
    -- the function and the arguments
    have key : ∃ (g : FuncId) (first captured : List Value) (vs : List Value), call g (first ++ vs ++ captured) S = some (v, S') ∧ ∀ (m : BMap) (a : Act), TRel m T a →
        ∃ first' captured', a.eval f = .func (.func g) ⟨first'⟩ ⟨captured'⟩ ∧ VRels m (first ++ vs ++ captured) (first' ++ args.toList.map a.eval ++ captured') := by
      have h : (callC f args.toList).r call T S = some (v, S') := he
      unfold callC at h
      split at h
      · rename_i g gs hgs
        refine ⟨g, [], [], getsV T gs, by simpa using h, fun m a hT => ⟨[], [], rfl, ?_⟩⟩
        obtain ⟨vs, h1, h2⟩ := evOs_some (k := fun v => some v) hT (getsC_some hgs _)
        cases h1
        simpa using h2
      · rename_i f' o' gs hnf hgs
        split at h
        · rename_i hh hop
          dsimp only at h
          unfold callV at h
          split at h
          · rename_i g first captured hfv
            refine ⟨g, first, captured, getsV T gs, h, fun m a hT => ?_⟩
            obtain ⟨vs, h1, h2⟩ := evOs_some (k := fun v => some v) hT (getsC_some hgs _)
            cases h1
            have hf := opdC_rel hT hop
            rw [hfv] at hf
            generalize a.eval _ = ef at hf ⊢
            cases hf with
            | func hf1 hf2 => exact ⟨_, _, rfl, (hf1.append h2).append hf2⟩
          · cases h
        · cases h
      · cases h
    obtain ⟨g, first, captured, vs, hcl, hrel⟩ := key
    obtain ⟨hg, hcalls⟩ := hcall _ _ _ _ _ hcl hS
    refine ⟨hg, fun m V w a next Q hT hr ha hf hn => ?_⟩
    obtain ⟨first', captured', h1, h2⟩ := hrel m a hT
    obtain ⟨fn, h3, h4, h5⟩ := hcalls m V w _ hT.gl h2 hr ha hf
    refine call_upon hN h1 h3 h4 ?_
    have e : ((⟨first'⟩ : Array Value) ++ args.map a.eval) ++ (⟨captured'⟩ : Array Value) = ⟨first' ++ args.toList.map a.eval ++ captured'⟩ := by
      apply Array.ext'; simp
    rw [e]
    refine h5.mono fun e w' hp => ?_
    obtain ⟨m', v', rfl, h6, h7⟩ := hp
    exact hn m' v' w' h6 h7
  · have hc : isCallV o.op = false := by simpa using hc
    have ha := opC_aOp hc he hS.low hS.bnd
    refine ⟨aOp_grown ha, fun m V w a next Q hT hr hac hf hn => ?_⟩
    obtain ⟨m', v', w', h1, h2, h3⟩ := aOp_sim hP ha hT hr hac hf
    exact h1.upon (hn m' v' w' h2 h3)
end

end
end Go.Proofs.YtgkbjdphkmmmhaaDoor.Ev
