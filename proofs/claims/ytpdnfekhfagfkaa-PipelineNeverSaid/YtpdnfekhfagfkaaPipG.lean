/-
  Chapter 19: cache.Each.
-/
import Derived.Test.YtpdnfekhfagfkaaPipF
import Derived.Test.YtpdnfekhfagfkaaRegAnyC
namespace Go.Proofs.Ytpdnfekhfagfkaa
open Go.RowKit PI

theorem caLines_snoc (ways : Int) : ∀ (r : List Int) (S : List (List Int)) (x : Int), caLines ways S (r ++ [x]) =
    ((caLines ways S r).1.set (x.toNat % (caLines ways S r).1.length) (useL ways ((caLines ways S r).1.getD (x.toNat % (caLines ways S r).1.length) []) x),
     (caLines ways S r).2 + (if x ∈ (caLines ways S r).1.getD (x.toNat % (caLines ways S r).1.length) [] then 0 else 1))
  | [], S, x => by simp [caLines]
  | y :: r, S, x => by
    rw [List.cons_append, caLines, caLines_snoc ways r, caLines]
    simp only
    rw [Int.add_assoc]
theorem caLines_len (ways : Int) : ∀ (r : List Int) (S : List (List Int)), (caLines ways S r).1.length = S.length
  | [], _ => rfl
  | x :: r, S => by rw [caLines]; simp only; rw [caLines_len ways r, List.length_set]
theorem caStep_len (line ways : Int) (S : List (List Int)) (f : Fe) : (caStep line ways S f).1.length = S.length := by
  unfold caStep; split
  · rfl
  · exact caLines_len _ _ _
theorem caRun_snoc (line ways : Int) : ∀ (l : List Fe) (S : List (List Int)) (f : Fe), caRun line ways S (l ++ [f]) = ((caStep line ways (caRun line ways S l).1 f).1, (caRun line ways S l).2 ++ [(caStep line ways (caRun line ways S l).1 f).2])
  | [], _, _ => rfl
  | g :: l, S, f => by rw [List.cons_append, caRun, caRun_snoc line ways l, caRun]; rfl
theorem caRun_slen (line ways : Int) : ∀ (l : List Fe) (S : List (List Int)), (caRun line ways S l).1.length = S.length
  | [], _ => rfl
  | f :: l, S => by rw [caRun]; simp only; rw [caRun_slen line ways l, caStep_len]
theorem useL_len (ways : Int) (s : List Int) (x : Int) : (useL ways s x).length ≤ ways.toNat := by unfold useL; simp; omega
theorem touched_nn {most size : Int} {f : Fe} : ∀ x ∈ touched most size f, 0 ≤ x ∧ x ≤ 2097152 := by
  intro x hx
  unfold touched at hx
  split at hx
  · rename_i h
    obtain ⟨k, hk, rfl⟩ := List.mem_map.1 hx
    have hk := List.mem_range.1 hk
    have hd0 : 0 ≤ f.addr / size := Int.ediv_nonneg (by omega) (by omega)
    have e1 : 0 ≤ (f.addr + f.size - 1) / size := Int.ediv_nonneg (by omega) (by omega)
    have e2 : (f.addr + f.size - 1) / size ≤ f.addr + f.size - 1 := Int.ediv_le_self _ (by omega)
    omega
  · simp at hx

/-- What no set's numbers lie in. -/
def offX (sv ov : Value) (b : Nat) : Prop := some b = sv.ownBlock ∨ some b = ov.ownBlock

def CaInv (line ways : Int) (S0 : List (List Int)) (l : List Fe) (sv : Value) (base : Nat) (W : World) (t6 t21 : Value) (w : World) : Prop :=
  ∃ (k : Nat) (q : Option Addr) (c : Nat) (hs : List Sl), t21 = .int .i64 k ∧ k ≤ l.length ∧ t6 = .slice q k c ∧ Own intEnc 1 3 W.heap.size w (.slice q k c) (caRun line ways S0 (l.take k)).2 ∧
    Own Sl.enc 1 40 base w sv hs ∧ SetsAt (offX sv (.slice q k c)) w hs (caRun line ways S0 (l.take k)).1 ∧ Keep (fun b => some b = sv.ownBlock ∨ W.heap.size ≤ b) W w

def CaIn (ways : Int) (S : List (List Int)) (L : List Int) (sv ov : Value) (base : Nat) (W : World) (t9 t33 : Value) (w : World) : Prop :=
  ∃ (j : Nat) (hs : List Sl), t33 = .int .i64 j ∧ j ≤ L.length ∧ t9 = .int .i64 (caLines ways S (L.take j)).2 ∧ Own Sl.enc 1 40 base w sv hs ∧ SetsAt (offX sv ov) w hs (caLines ways S (L.take j)).1 ∧ Keep (fun b => some b = sv.ownBlock) W w

theorem run_field61 (w : World) (v : Value) : (Instr.field 61 (.agg #[v]) 0).run Try.prog w = .ok v w := by
  simp [Instr.field, part, asAgg, run_underlying Try.underlying61, Try.isAgg59]
/-- A field of a struct value. -/
theorem wpList_fieldV {P : Program} {ops : Array Oper} {rest : List Oper} {o : Oper} {a : Act} {w : World} {Q : Exit → Act → World → Prop} (hg : o.guard = none) (t : TypeId) (x : Operand) (f : Nat) (ho : o.op = .field t x f) (u v : Value) (hx : a.eval x = u) (hr : (Instr.field t u f).run P w = .ok v w)
    (h : wpList P ops Q rest (a.put o.dst v) w) : wpList P ops Q (o :: rest) a w := by
  refine wpList_plain hg fun K hK => ?_
  unfold Oper.wp execOp
  simp only [ho, hx, hr, Sem.run_bind, Sem.run_pure, Result.andThen_ok]
  exact hK _ _ h

theorem Try.sizeModel : (Try.prog.info? 27).map (·.size) = some 12 := by kernel_rfl
/-- A model boxed: its cells. -/
theorem mo_cell {w : World} {g : Nat} {m : Mod} {fr : Nat × Nat} (h : w.heap[g]? = some (.cells (moEnc m).toArray 27 fr)) (i : Nat) (v : Value) (hv : (moEnc m)[i]? = some v) : w.cell? ⟨g, i, none⟩ = some v := by
  have := cell_of_row _ _ i (moEnc m).toArray _ _ h
  simp only [List.getElem?_toArray] at this
  rw [hv] at this
  exact this

theorem SetsAt.move {X X' T : Nat → Prop} {w w' : World} {hs : List Sl} {S : List (List Int)} (h : SetsAt X w hs S) (k : Keep T w w') (ht : ∀ b, b < w.heap.size → T b → X b) (hx : ∀ b, b < w.heap.size → X' b → X b) : SetsAt X' w' hs S := by
  refine ⟨h.1, fun i s xs h1 h2 => ?_⟩
  obtain ⟨a, b, c⟩ := h.2 i s xs h1 h2
  refine ⟨a, b, ?_⟩
  rcases c with c | ⟨g, o, c1, c2, c3, c4⟩
  · exact .inl c
  · exact .inr ⟨g, o, c1, fun h => c2 (hx g c3 h), Nat.lt_of_lt_of_le c3 k.size, c4.keep k fun h => c2 (ht g c3 h)⟩
theorem sl_cell {base : Nat} {w : World} {g n c : Nat} {xs : List Sl} (h : Own Sl.enc 1 40 base w (.slice (some ⟨g, 0, none⟩) n c) xs) {i : Nat} {s : Sl} (hi : xs[i]? = some s) : w.cell? ⟨g, i, none⟩ = some s.val := by
  obtain ⟨-, -, -, hsl, -⟩ := h.reads Sl.enc_len
  rcases hsl with hs | ⟨b, o, hb, hs⟩
  · rw [hs] at hi; simp at hi
  · cases hb
    have h2 := hs.range hi
    have := h2 0 s.val rfl
    simpa using this

theorem sets_push {sv ov nv : Value} {T : Nat → Prop} {u w7 : World} {hs : List Sl} {S : List (List Int)} (h : SetsAt (offX sv ov) u hs S) (hk : Keep T u w7) (hd : ∀ k, some k ≠ ov.ownBlock → k < u.heap.size → w7.heap[k]? = u.heap[k]?) (he : nv.ownBlock = ov.ownBlock ∨ nv.ownBlock = some u.heap.size) : SetsAt (offX sv nv) w7 hs S :=
  h.move (T := fun b => some b = ov.ownBlock) ⟨hk.os, hk.tape, hk.output, hk.size, fun k hlt hs => hd k hs hlt⟩ (fun b _ hb => .inr hb) fun b hb hx => by
    rcases hx with hx | hx
    · exact .inl hx
    · rcases he with he | he
      · exact .inr (hx.trans he)
      · have : some b = some u.heap.size := hx.trans he
        cases this
        omega

/-- What use answers, in a world behind. -/
def UseK (ways : Int) (xs : List Int) (x : Int) (W : World) (w : World) (v : Value) : Prop :=
  ∃ p' c', v = .tuple #[.slice p' (useL ways xs x).length c', .bool (decide (x ∈ xs))] ∧ Own intEnc 1 3 W.heap.size w (.slice p' (useL ways xs x).length c') (useL ways xs x)
def UseS (ways : Int) (xs : List Int) (x : Int) (W : World) (w : World) (v : Value) : Prop :=
  ∃ p' c', v = .slice p' (useL ways xs x).length c' ∧ Own intEnc 1 3 W.heap.size w (.slice p' (useL ways xs x).length c') (useL ways xs x)
theorem UseK.keep {ways : Int} {xs : List Int} {x : Int} {W w w' : World} {v : Value} (h : UseK ways xs x W w v) (k : Keep None w w') : UseK ways xs x W w' v := by
  obtain ⟨p, c, h1, h2⟩ := h
  exact ⟨p, c, h1, h2.keep k (fun _ _ => id)⟩
theorem UseS.keep {ways : Int} {xs : List Int} {x : Int} {W w w' : World} {v : Value} (h : UseS ways xs x W w v) (k : Keep None w w') : UseS ways xs x W w' v := by
  obtain ⟨p, c, h1, h2⟩ := h
  exact ⟨p, c, h1, h2.keep k (fun _ _ => id)⟩

set_option maxRecDepth 100000 in
set_option maxHeartbeats 2000000 in
theorem caeach_calls (m : Mod) (p : Option Addr) (l : List Fe) (c : Nat) (w : World) (h : SliceV feEnc 3 w p l) (hl : l.length ≤ 1000) (hok : ∀ f ∈ l, FeOk f) (hw : 1 ≤ m.sets → 1 ≤ m.ways ∧ m.ways ≤ 900) :
    Calls Try.prog 15 #[moVal m, .slice p l.length c] w (OwnPost intEnc 1 3 (misses m l) w) := by
  obtain ⟨i5, hi5, hv0, hv1, hv2⟩ := info_parts Try.infoInt
  have HS := Lib.hid h
  have HOK := Lib.hid hok
  have HWY := Lib.hid hw
  clear h hok hw
  have HM : Hid (misses m l = (caRun m.line m.ways (caNew m.sets) l).2) := Lib.hid rfl
  have HBX : Hid (∃ W : World, Keep None w W ∧ W = w.alloc (.cells (moEnc m).toArray 27) ∧ W.heap[w.heap.size]? = some (.cells (moEnc m).toArray 27 (0, 0))) :=
    Lib.hid ⟨_, (Keep.refl None w).alloc _, rfl, heap_alloc_new _ _⟩
  obtain ⟨W0, hKW, hWe, ho1⟩ := HBX.out
  have HK0 := Lib.hid hKW
  have HWE : Hid (w.alloc (.cells #[.int .i64 m.step, .int .i64 m.mis, .int .i64 m.miss, .int .i64 m.fault, .int .i64 m.call, .int .i64 m.ind, .int .i64 m.line, .int .i64 m.sets, .int .i64 m.ways, .int .i64 m.page, .int .i64 m.res, .int .i64 m.pred] 27) = W0) := Lib.hid hWe.symm
  have HB0 := Lib.hid ho1
  have q7 := mo_cell ho1 7 _ rfl
  have hwW := heap_lt ho1
  clear HBX hKW hWe ho1
  unfold moVal moEnc
  have hcn : ∀ x ∈ caNew m.sets, x = [] := by
    intro x hx; unfold caNew at hx; split at hx
    · exact (List.mem_replicate.1 hx).2
    · simp at hx
  have hcl : (caNew m.sets).length ≤ 1024 ∧ (0 < (caNew m.sets).length → 1 ≤ m.sets) := by
    unfold caNew; split <;> simp <;> omega
  go_enter Try.func15, Try.ntmps15
  go_upto_region 1 with (fail)
  rw [HWE.out]
  go_wp2_with (first
    | ((with_reducible (show wpList _ _ _ (⟨some 18, _, _, _, _, none⟩ :: _) _ _)); go_loud (refine wpList_fieldV rfl 61 _ 0 rfl _ _ rfl (run_field61 _ _) ?_))
    | (go_at_call 25; go_loud (refine (canew_calls m.sets W0).mono ?_; rintro e W ⟨ps, cs, rfl, hos, hkS⟩; have HOS := Lib.hid hos; have HKS := Lib.hid hkS; clear hos hkS)))
  have hs0 := HK0.out.size
  have hsW := HKS.out.size
  have HSN0 : Hid (SetsAt (offX (.slice ps (caNew m.sets).length cs) (.slice none 0 0)) W ((caNew m.sets).map fun _ => nilSl) (caNew m.sets)) := Lib.hid (SetsAt.new _ W m.sets)
  have hwS : 0 < (caNew m.sets).length → 1 ≤ m.ways ∧ m.ways ≤ 900 := fun h => HWY.out (hcl.2 h)
  have hcl1 := hcl.1
  clear hcn hcl q7
  generalize caNew m.sets = S0 at *
  have HLT : Hid (∀ g, some g = (Value.slice ps S0.length cs).ownBlock → W0.heap.size ≤ g ∧ g < W.heap.size) := Lib.hid (fun g hg => World.ownsRow.lt HOS.out g hg.symm)
  have HBM : Hid (∀ w', Keep (fun b => some b = (Value.slice ps S0.length cs).ownBlock ∨ W.heap.size ≤ b) W w' → w'.heap[w.heap.size]? = some (.cells (moEnc m).toArray 27 (0, 0))) := Lib.hid (fun w' hk => hk.obj (HKS.out.obj HB0.out id) (by
    intro hb
    rcases hb with hb | hb
    · have := HLT.out _ hb; omega
    · omega))
  have HOF : Hid (∀ w', Keep (fun b => some b = (Value.slice ps S0.length cs).ownBlock ∨ W.heap.size ≤ b) W w' → SliceV feEnc 3 w' p l) := Lib.hid (fun w' hk => slice_old feEnc_len (by omega) HS.out (Keep.refl None w) (((HK0.out.trans HKS.out).weaken (fun _ _ h => h.elim)).andThen (hk.weaken (T := (w.heap.size ≤ ·)) (by
    intro b hb h
    rcases h with h | h
    · have := HLT.out _ h; show w.heap.size ≤ b; omega
    · show w.heap.size ≤ b; omega)) (fun _ _ h => h)))
  go_loopw [6, 21] (CaInv m.line m.ways S0 l (.slice ps S0.length cs) W0.heap.size W) (fun _ i _ => l.length - (intOf i).toNat)
  case atStart => exact ⟨0, none, 0, _, by simp, by omega, rfl, Own.nil _ _ _ _ _, HOS.out, HSN0.out, Keep.refl _ _⟩
  case round =>
    rename World => wo
    obtain ⟨k, q, cq, hs, rfl, hk, rfl, hint, hown, hset, hkr⟩ := hrel
    have hbs := hkr.size
    by_cases hlt : k < l.length
    · obtain ⟨f, hf⟩ : ∃ f, l[k]? = some f := ⟨l[k], List.getElem?_eq_getElem hlt⟩
      have hfo := HOK.out f (List.mem_of_getElem? hf)
      rcases HOF.out wo hkr with hsl | ⟨pb, po, rfl, hsl⟩
      · rw [hsl] at hlt; simp at hlt
      have HRG := Lib.hid (hsl.range hf)
      have hslen := caRun_slen m.line m.ways (l.take k) S0
      have hblen : (caRun m.line m.ways S0 (l.take k)).2.length = k := (caRun_len _ _ (l.take k) S0).trans (by rw [List.length_take]; omega)
      have hsn : caRun m.line m.ways S0 (l.take (k + 1)) = _ := (congrArg (caRun m.line m.ways S0) (take_snoc hf)).trans (caRun_snoc _ _ _ _ _)
      generalize hT : (caRun m.line m.ways S0 (l.take k)).1 = S1 at *
      generalize hB : (caRun m.line m.ways S0 (l.take k)).2 = B at *
      have HSN := Lib.hid hsn
      have HI := Lib.hid hint
      have HO := Lib.hid hown
      have HST := Lib.hid hset
      have HKR := Lib.hid hkr
      clear hsn hint hown hset hkr hf hsl hT hB
      obtain ⟨fa, fs, fk⟩ := f
      obtain ⟨hf0, hf1, hf2, hf3⟩ := hfo
      simp only at hf0 hf1 hf2 hf3
      go_upto_region 6 with (first
        | ((with_reducible (show wpList _ _ _ (⟨_, .load 37 (.tmp 23), _, _, _, none⟩ :: _) _ _)); go_loud (refine wpList_loadEl rfl 37 _ rfl _ _ rfl _ _ HRG.out (feEnc_len _) Try.underlying37 rfl Try.sizeFetch (.agg #[.int .i64 fa, .int .i64 fs, .int .i64 fk]) rfl ?_))
        | ((with_reducible (show wpList _ _ _ (⟨_, .store 37 (.tmp 8) _, _, _, _, none⟩ :: _) _ _)); go_loud (refine wpList_storeObj rfl 37 _ _ rfl wo.heap.size rfl [.int .i64 0, .int .i64 0, .int .i64 0] [.int .i64 fa, .int .i64 fs, .int .i64 fk] rfl _ (by simp) (heap_alloc_new _ _) 3 Try.sizeFetch rfl (by simp [Value.oneCell']) ?_; intro w2 hres2 hk2 hs2; have HR2 := Lib.hid hres2; have HK2 := Lib.hid (((Keep.refl None wo).alloc _).andThen hk2 (by intro k h1 h2; omega)); clear hres2 hk2 hs2)))
      have hs2 := HK2.out.size
      by_cases hz : S0.length = 0
      · have HCS : caStep m.line m.ways S1 ⟨fa, fs, fk⟩ = (S1, 0) := by unfold caStep; rw [if_pos (by omega)]
        have hz' : ¬ (0 : Int) < (S0.length : Int) := by omega
        clear hz
        go_wp2_with ((at_builtin; go_loud (refine wpList_pushAt rfl _ _ 40 rfl W.heap.size _ i5 _ 8 Try.underlying40 hi5 hv0 hv1 hv2 rfl (by decide) intEnc_len (.slice q k cq) B rfl ((HI.out.keep HK2.out (fun _ _ => id)).keep (S := None) ((Keep.refl _ _).alloc _) (fun _ _ => id)) (0) w2.heap.size 1 rfl _ (heap_alloc_new _ _) rfl rfl (by simp [Value.oneCell']) (by omega) (by omega) (by simp; omega) ?_; intro p7 c7 w7 hown7 hk7 hd7 he7; have HO7 := Lib.hid hown7; have HK7 := Lib.hid hk7; have HD7 := Lib.hid hd7; have HE7 := Lib.hid he7; clear hown7 hk7 hd7 he7)))
        go_roundw
        case rel =>
          have hrel2 : CaInv m.line m.ways S0 l (.slice ps S0.length cs) W0.heap.size W (.slice p7 (k + 1) c7) (.int .i64 ((k : Int) + 1)) w7 := by
            refine ⟨k + 1, p7, c7, hs, by simp, by omega, rfl, ?_, ?_, ?_, (HKR.out.trans ((HK2.out.alloc _).weaken (fun _ _ q => q.elim))).trans (HK7.out.weaken fun _ _ h => .inr h)⟩
            · rw [HSN.out, HCS]; have := HO7.out; rw [hblen] at this; exact this
            · exact own_apart ((HO.out.keep HK2.out (fun _ _ => id)).keep (S := None) ((Keep.refl _ _).alloc _) (fun _ _ => id)) ((HI.out.keep HK2.out (fun _ _ => id)).keep (S := None) ((Keep.refl _ _).alloc _) (fun _ _ => id)) (by decide) HK7.out HD7.out
            · rw [HSN.out, HCS]
              have := hblen ▸ HE7.out
              exact sets_push ((HST.out.keep HK2.out (fun _ _ h => h.elim)).keep (T := None) ((Keep.refl _ _).alloc _) (fun _ _ h => h.elim)) HK7.out HD7.out this
          first | exact hrel2 | ((repeat apply Exists.intro); exact ⟨hrel2, rfl⟩)
        case measure => simp [intOf]; omega
      · have q6 := mo_cell (HBM.out w2 (HKR.out.trans (HK2.out.weaken (fun _ _ h => h.elim)))) 6 _ rfl
        go_wp2_with (first
          | ((with_reducible (show wpList _ _ _ (⟨_, .load 37 (.tmp 8), _, _, _, none⟩ :: _) _ _)); go_loud (refine wpList_loadEl (enc := listEnc) (size := 3) rfl 37 _ rfl _ _ rfl _ _ (range_of_obj HR2.out) rfl Try.underlying37 rfl Try.sizeFetch (.agg #[.int .i64 fa, .int .i64 fs, .int .i64 fk]) rfl ?_))
          | (go_at_call 17; go_loud (refine (touched_calls m.line ⟨fa, fs, fk⟩ w2 hf3).mono ?_; rintro e w3 ⟨pL, cL, rfl, hoL, hkL⟩; have HOL := Lib.hid hoL; have HKL := Lib.hid hkL; clear hoL hkL)))
        have HCS := Lib.hid (show caStep m.line m.ways S1 ⟨fa, fs, fk⟩ = caLines m.ways S1 (touched 4096 m.line ⟨fa, fs, fk⟩) from by unfold caStep; rw [if_neg (by omega)])
        have HNN := Lib.hid (touched_nn (most := 4096) (size := m.line) (f := ⟨fa, fs, fk⟩))
        have hLl : (touched 4096 m.line ⟨fa, fs, fk⟩).length ≤ 1000 := by have := touched_len 4096 m.line ⟨fa, fs, fk⟩; simp only at this; omega
        obtain ⟨g, rfl, hgw⟩ := HOS.out.row Sl.enc_len (by simp; omega)
        have hwy := hwS (by omega)
        have hs3 := HKL.out.size
        generalize touched 4096 m.line ⟨fa, fs, fk⟩ = L at *
        have hgl := HLT.out g rfl
        have HLA : Hid (∀ gL, (Value.slice pL L.length cL).ownBlock = some gL → gL ≠ g) := Lib.hid (fun gL h e => by have := World.ownsRow.lt HOL.out gL h; omega)
        clear HLT
        go_loopw [9, 33] (CaIn m.ways S1 L (.slice (some ⟨g, 0, none⟩) S0.length cs) (.slice q k cq) W0.heap.size w3) (fun _ i _ => L.length - (intOf i).toNat)
        case atStart => exact ⟨0, hs, by simp, by omega, rfl, (HO.out.keep HK2.out (fun _ _ => id)).keep HKL.out (fun _ _ => id), (HST.out.keep HK2.out (fun _ _ h => h.elim)).keep HKL.out (fun _ _ h => h.elim), Keep.refl _ _⟩
        case round =>
          obtain ⟨j, ht, rfl, hj, rfl, howj, hsetj, hkj⟩ := hrel
          have hbj := hkj.size
          by_cases hlt2 : j < L.length
          · have hLj := getD_at hlt2
            have hx := HNN.out _ (List.mem_of_getElem? hLj)
            obtain ⟨gL, rfl, hgL⟩ := HOL.out.row intEnc_len (by omega)
            have q8 := (own_cell (HOL.out.keep hkj (fun b h1 h2 => HLA.out b h1 (Option.some.inj h2))) hlt2).1
            have hsn2 : caLines m.ways S1 (L.take (j + 1)) = _ := (congrArg (caLines m.ways S1) (take_snoc hLj)).trans (caLines_snoc _ _ _ _)
            have hln2 := (caLines_len m.ways (L.take j) S1).trans hslen
            have hnn := caLines_nn m.ways (L.take j) S1
            rw [List.length_take] at hnn
            generalize (caLines m.ways S1 (L.take j)).1 = S2 at *
            generalize (caLines m.ways S1 (L.take j)).2 = cnt at *
            generalize L.getD j 0 = x at *
            rw [hln2] at hsn2
            have q9 := tmod_nat hx.1 S0.length
            have q10 : ((S0.length : Int) == 0) = false := by rw [beq_eq_false_iff_ne]; omega
            have hmm := Nat.mod_lt x.toNat (show 0 < S0.length by omega)
            generalize x.toNat % S0.length = mm at *
            have hmt : mm < ht.length := by rw [hsetj.1]; omega
            obtain ⟨s, hs'⟩ : ∃ s, ht[mm]? = some s := ⟨ht[mm], List.getElem?_eq_getElem hmt⟩
            obtain ⟨xs, hxs⟩ : ∃ xs, S2[mm]? = some xs := ⟨S2[mm], List.getElem?_eq_getElem (by omega)⟩
            have hgd : S2.getD mm [] = xs := by rw [List.getD_eq_getElem?_getD, hxs]; rfl
            rw [hgd] at hsn2
            obtain ⟨hsn, hxl, -⟩ := hsetj.2 mm s xs hs' hxs
            obtain ⟨sp, sn, sc⟩ := s
            simp only at hsn
            subst hsn
            have HSC : Hid (∀ w', Keep None wr w' → w'.cell? ⟨g, mm, none⟩ = some (.slice sp xs.length sc)) := Lib.hid (fun w' hk => sl_cell (howj.keep hk (fun _ _ => id)) hs')
            have HSL := Lib.hid (hsetj.slice hs' hxs)
            have HOWJ := Lib.hid howj
            have HSETJ := Lib.hid hsetj
            have HKJ := Lib.hid hkj
            have HSN2 := Lib.hid hsn2
            have HBM2 : Hid (∀ w', Keep None wr w' → w'.heap[w.heap.size]? = some (.cells (moEnc m).toArray 27 (0, 0))) := Lib.hid (fun w' hk => HBM.out w' (((HKR.out.trans (HK2.out.weaken (fun _ _ h => h.elim))).trans (HKL.out.weaken (fun _ _ h => h.elim))).trans ((hkj.weaken (fun _ _ h => .inl h)).trans (hk.weaken (fun _ _ h => h.elim)))))
            clear hLj hsn2 howj hsetj hkj hs' hxs hgd HNN
            go_upto_region 12 with (fail)
            refine region_anyV [isV (.slice (some ⟨g, 0, none⟩) S0.length cs), isV (.int .i64 mm), isV (.pointer (some ⟨g, mm, none⟩)), isV (.slice sp xs.length sc), isV (.pointer (some ⟨w.heap.size, 8, none⟩)), isV (.int .i64 m.ways), isV (.int .i64 x), UseK m.ways xs x wr, UseK m.ways xs x wr, UseS m.ways xs x wr, isV (.bool (decide (x ∈ xs))), UseS m.ways xs x wr]
              (Keep None wr) (Keep None) 67 12 (by kernel_rfl) (by decide) (by kernel_rfl) (by kernel_rfl) (by kernel_rfl) rfl ?_ (by kernel_rfl) ?_ (Keep.refl None wr).drew ?_ ?_
            · intro i w1 w2 v h1 h2
              match i with
              | 0 | 1 | 2 | 3 | 4 | 5 | 6 | 10 => exact h1
              | 7 | 8 => exact UseK.keep h1 h2
              | 9 | 11 => exact UseS.keep h1 h2
              | _ + 12 => trivial
            · intro i w o ho hi
              match i with
              | 12 => trivial
              | _ + 13 => trivial
            · refine ⟨?_, ?_, ?_, ?_, ?_, ?_, ?_, ?_, ?_, ?_, ?_, ?_, trivial⟩
              · exact sv_ev [(5, .slice (some ⟨g, 0, none⟩) S0.length cs)] (by simp only [List.forall_mem_singleton]; exact vdep_f rfl rfl) rfl _ (by simp only [List.forall_mem_singleton]; intro a w' h1 hI; go_simp) (fun _ => Keep.refl None _) (fun _ => rfl)
              · exact sv_ev [(12, .int .i64 mm)] (by simp only [List.forall_mem_singleton]; exact vdep_f rfl rfl) rfl _ (by simp only [List.forall_mem_singleton]; intro a w' h1 hI; go_simp) (fun _ => Keep.refl None _) (fun _ => rfl)
              · exact sv_ev [(42, .slice (some ⟨g, 0, none⟩) S0.length cs), (43, .int .i64 mm)] (by simp only [List.forall_mem_cons, List.forall_mem_nil, and_true]; exact ⟨vdep_e 0 rfl rfl (fun _ _ h => h), vdep_e 1 rfl rfl (fun _ _ h => h), by simp⟩) rfl _ (by simp only [List.forall_mem_cons]; rintro a w' ⟨h1, h2, -⟩ hI; go_simp) (fun _ => Keep.refl None _) (fun _ => rfl)
              · exact sv_ev [(44, .pointer (some ⟨g, mm, none⟩))] (by simp only [List.forall_mem_singleton]; exact vdep_e 2 rfl rfl (fun _ _ h => h)) rfl _ (by simp only [List.forall_mem_singleton]; intro a w' h1 hI; have q11 := HSC.out w' hI; go_simp) (fun _ => Keep.refl None _) (fun _ => rfl)
              · exact sv_ev [(2, .pointer (some ⟨w.heap.size, 0, none⟩))] (by simp only [List.forall_mem_singleton]; exact vdep_f rfl rfl) rfl _ (by simp only [List.forall_mem_singleton]; intro a w' h1 hI; go_simp) (fun _ => Keep.refl None _) (fun _ => rfl)
              · exact sv_ev [(46, .pointer (some ⟨w.heap.size, 8, none⟩))] (by simp only [List.forall_mem_singleton]; exact vdep_e 4 rfl rfl (fun _ _ h => h)) rfl _ (by simp only [List.forall_mem_singleton]; intro a w' h1 hI; have q11 := mo_cell (HBM2.out w' hI) 8 _ rfl; go_simp) (fun _ => Keep.refl None _) (fun _ => rfl)
              · exact sv_ev [(11, .int .i64 x)] (by simp only [List.forall_mem_singleton]; exact vdep_f rfl rfl) rfl _ (by simp only [List.forall_mem_singleton]; intro a w' h1 hI; go_simp) (fun _ => Keep.refl None _) (fun _ => rfl)
              · refine sv_call [(45, .slice sp xs.length sc), (47, .int .i64 m.ways), (48, .int .i64 x)] (by simp only [List.forall_mem_cons, List.forall_mem_nil, and_true]; exact ⟨vdep_e 3 rfl rfl (fun _ _ h => h), vdep_e 5 rfl rfl (fun _ _ h => h), vdep_e 6 rfl rfl (fun _ _ h => h), by simp⟩) rfl 26 #[.slice sp xs.length sc, .int .i64 m.ways, .int .i64 x] (by simp only [List.forall_mem_cons]; rintro a w' ⟨h1, h2, h3, -⟩; go_simp) ?_
                intro w' hI
                refine (use_calls sp xs sc m.ways x w' (HSL.out.keep hI (fun _ _ => id)) hxl hwy.1).mono ?_
                rintro e w5 ⟨p', c', rfl, ho, hk⟩
                exact ⟨_, rfl, Keep.trans hI hk, hk, p', c', rfl, ho.lower hI.size⟩
              · refine sv_pass 7 49 rfl rfl rfl ?_ (fun _ => Keep.refl None _)
                intro a w' v hv he hI
                exact ⟨v, by go_simp, hv⟩
              · refine sv_pass 8 41 rfl rfl rfl ?_ (fun _ => Keep.refl None _)
                rintro a w' v ⟨p', c', rfl, ho⟩ he hI
                exact ⟨.slice p' (useL m.ways xs x).length c', by go_simp, p', c', rfl, ho⟩
              · refine sv_pass 8 41 rfl rfl rfl ?_ (fun _ => Keep.refl None _)
                rintro a w' v ⟨p', c', rfl, ho⟩ he hI
                exact ⟨.bool (decide (x ∈ xs)), by go_simp, rfl⟩
              · refine sv_pass 9 50 rfl rfl rfl ?_ (fun _ => Keep.refl None _)
                intro a w' v hv he hI
                exact ⟨v, by go_simp, hv⟩
            intro f' w5 hkinds hI
            obtain ⟨p9, c9, k9, hou⟩ : UseS m.ways xs x wr w5 (f' 13) := hkinds 11 _ 13 (by omega) rfl rfl
            have k10 : f' 51 = .bool (decide (x ∈ xs)) := hkinds 10 _ 51 (by omega) rfl rfl
            have HOU := Lib.hid hou
            have HK5 := Lib.hid hI
            simp only [putsOf, Act.put, List.take_succ_cons, List.take_zero, List.drop_succ_cons, List.drop_zero, List.setIfInBounds_toArray, List.set_cons_zero, List.set_cons_succ, k9, k10]
            clear hkinds k9 k10 hou hI
            have hul : (useL m.ways xs x).length ≤ 900 := by have := useL_len m.ways xs x; omega
            have hbk := HK5.out.size
            have hgw := hgl
            have hb1 := HI.out
            have hoff : ∀ b, wr.heap.size ≤ b → ¬ offX (.slice (some ⟨g, 0, none⟩) S0.length cs) (.slice q k cq) b := by
              intro b h1 h2
              rcases h2 with h2 | h2
              · have h3 : b = g := Option.some.inj h2; omega
              · have := (World.ownsRow.lt hb1 b h2.symm).2; omega
            clear hb1
            have hou5 : useL m.ways xs x = [] ∨ ∃ b, p9 = some ⟨b, 0, none⟩ ∧ wr.heap.size ≤ b ∧ b < w5.heap.size ∧ SlAt intEnc 1 w5 b 0 (useL m.ways xs x) := by
              rcases Nat.eq_zero_or_pos (useL m.ways xs x).length with h | h
              · exact .inl (List.eq_nil_of_length_eq_zero h)
              · obtain ⟨b, hb, -⟩ := HOU.out.row intEnc_len h
                have hlt := World.ownsRow.lt HOU.out b (by rw [hb]; rfl)
                rcases (HOU.out.reads intEnc_len).2.2.2.1 with hn | ⟨b', o', hb2, hsl⟩
                · rw [hn] at h; simp at h
                · cases hb.symm.trans hb2
                  exact .inr ⟨b, hb, hlt.1, hlt.2, hsl⟩
            have hht : ht.length = S0.length := by rw [HSETJ.out.1, hln2]
            have HOW5 : Hid (Own Sl.enc 1 40 W0.heap.size w5 (.slice (some ⟨g, 0, none⟩) ht.length cs) ht) := Lib.hid (by rw [hht]; exact HOWJ.out.keep HK5.out (fun _ _ => id))
            by_cases hb : x ∈ xs
            · simp only [hb, decide_true]
              go_wp2_with ((with_reducible (show wpList _ _ _ (⟨_, .store 40 (.tmp 55) _, _, _, _, none⟩ :: _) _ _)); go_loud (refine wpList_storeOwn rfl 40 _ _ rfl g mm rfl ⟨p9, (useL m.ways xs x).length, c9⟩ _ rfl rfl Sl.enc_len HOW5.out mm hmt (by simp) (by kernel_rfl) (by simp [Sl.enc, Sl.val, Value.oneCell']) ?_; intro w6 hown6 hk6 hs6; have HO6 := Lib.hid hown6; have HK6 := Lib.hid hk6; clear hown6 hk6 hs6))
              go_roundw
              case rel =>
                have hrel2 : CaIn m.ways S1 L (.slice (some ⟨g, 0, none⟩) S0.length cs) (.slice q k cq) W0.heap.size w3 (.int .i64 (cnt)) (.int .i64 ((j : Int) + 1)) w6 := by
                  refine ⟨j + 1, ht.set mm ⟨p9, (useL m.ways xs x).length, c9⟩, by simp, by omega, ?_, ?_, ?_, ?_⟩
                  · rw [HSN2.out]; simp [hb]
                  · have := HO6.out; rw [hht] at this; exact this
                  · rw [HSN2.out]
                    refine (((HSETJ.out.keep HK5.out (fun _ _ h => h.elim)).keep HK6.out (fun b _ h => .inl (congrArg some h))).set rfl hul ?_)
                    rcases hou5 with h | ⟨b, h1, h2, h3, h4⟩
                    · exact .inl h
                    · exact .inr ⟨b, 0, h1, hoff b h2, Nat.lt_of_lt_of_le h3 HK6.out.size, h4.keep HK6.out (fun h => by have h5 : b = g := h; omega)⟩
                  · exact ((HKJ.out.trans (HK5.out.weaken (fun _ _ h => h.elim))).trans (HK6.out.weaken (fun b _ h => congrArg some h)))
                first | exact hrel2 | ((repeat apply Exists.intro); exact ⟨hrel2, rfl⟩)
              case measure => simp [intOf]; omega
            · simp only [hb, decide_false]
              go_wp2_with ((with_reducible (show wpList _ _ _ (⟨_, .store 40 (.tmp 55) _, _, _, _, none⟩ :: _) _ _)); go_loud (refine wpList_storeOwn rfl 40 _ _ rfl g mm rfl ⟨p9, (useL m.ways xs x).length, c9⟩ _ rfl rfl Sl.enc_len HOW5.out mm hmt (by simp) (by kernel_rfl) (by simp [Sl.enc, Sl.val, Value.oneCell']) ?_; intro w6 hown6 hk6 hs6; have HO6 := Lib.hid hown6; have HK6 := Lib.hid hk6; clear hown6 hk6 hs6))
              go_roundw
              case rel =>
                have hrel2 : CaIn m.ways S1 L (.slice (some ⟨g, 0, none⟩) S0.length cs) (.slice q k cq) W0.heap.size w3 (.int .i64 (cnt + 1)) (.int .i64 ((j : Int) + 1)) w6 := by
                  refine ⟨j + 1, ht.set mm ⟨p9, (useL m.ways xs x).length, c9⟩, by simp, by omega, ?_, ?_, ?_, ?_⟩
                  · rw [HSN2.out]; simp [hb]
                  · have := HO6.out; rw [hht] at this; exact this
                  · rw [HSN2.out]
                    refine (((HSETJ.out.keep HK5.out (fun _ _ h => h.elim)).keep HK6.out (fun b _ h => .inl (congrArg some h))).set rfl hul ?_)
                    rcases hou5 with h | ⟨b, h1, h2, h3, h4⟩
                    · exact .inl h
                    · exact .inr ⟨b, 0, h1, hoff b h2, Nat.lt_of_lt_of_le h3 HK6.out.size, h4.keep HK6.out (fun h => by have h5 : b = g := h; omega)⟩
                  · exact ((HKJ.out.trans (HK5.out.weaken (fun _ _ h => h.elim))).trans (HK6.out.weaken (fun b _ h => congrArg some h)))
                first | exact hrel2 | ((repeat apply Exists.intro); exact ⟨hrel2, rfl⟩)
              case measure => simp [intOf]; omega
          · obtain rfl : j = L.length := by omega
            rw [List.take_length] at hsetj ⊢
            have HIW : Hid (Own intEnc 1 3 W.heap.size wr (.slice q k cq) B) := Lib.hid (((HI.out.keep HK2.out (fun _ _ => id)).keep HKL.out (fun _ _ => id)).keep hkj (fun b h1 h2 => by have h3 : b = g := Option.some.inj h2; have := (World.ownsRow.lt HI.out b h1).1; omega))
            have HOWJ := Lib.hid howj
            have HSETJ := Lib.hid hsetj
            have HKJ : Hid (Keep (fun b => some b = (Value.slice (some ⟨g, 0, none⟩) S0.length cs).ownBlock ∨ W.heap.size ≤ b) W wr) := Lib.hid (((HKR.out.trans (HK2.out.weaken (fun _ _ h => h.elim))).trans (HKL.out.weaken (fun _ _ h => h.elim))).trans (hkj.weaken (fun _ _ h => .inl h)))
            clear howj hsetj hkj
            go_wp2_with ((at_builtin; go_loud (refine wpList_pushAt rfl _ _ 40 rfl W.heap.size _ i5 _ 8 Try.underlying40 hi5 hv0 hv1 hv2 rfl (by decide) intEnc_len (.slice q k cq) B rfl (HIW.out.keep (S := None) ((Keep.refl _ _).alloc _) (fun _ _ => id)) (caLines m.ways S1 L).2 wr.heap.size 1 rfl _ (heap_alloc_new _ _) rfl rfl (by simp [Value.oneCell']) (by omega) (by omega) (by simp; omega) ?_; intro p7 c7 w7 hown7 hk7 hd7 he7; have HO7 := Lib.hid hown7; have HK7 := Lib.hid hk7; have HD7 := Lib.hid hd7; have HE7 := Lib.hid he7; clear hown7 hk7 hd7 he7)))
            go_roundw
            case rel =>
              have hrel2 : CaInv m.line m.ways S0 l (.slice (some ⟨g, 0, none⟩) S0.length cs) W0.heap.size W (.slice p7 (k + 1) c7) (.int .i64 ((k : Int) + 1)) w7 := by
                refine ⟨k + 1, p7, c7, ht, by simp, by omega, rfl, ?_, ?_, ?_, (HKJ.out.alloc _).trans (HK7.out.weaken fun _ _ h => .inr h)⟩
                · rw [HSN.out, HCS.out]; have := HO7.out; rw [hblen] at this; exact this
                · exact own_apart (HOWJ.out.keep (S := None) ((Keep.refl _ _).alloc _) (fun _ _ => id)) (HIW.out.keep (S := None) ((Keep.refl _ _).alloc _) (fun _ _ => id)) (by decide) HK7.out HD7.out
                · rw [HSN.out, HCS.out]
                  have := hblen ▸ HE7.out
                  exact sets_push (HSETJ.out.keep (T := None) ((Keep.refl _ _).alloc _) (fun _ _ h => h.elim)) HK7.out HD7.out this
              first | exact hrel2 | ((repeat apply Exists.intro); exact ⟨hrel2, rfl⟩)
            case measure => simp [intOf]; omega
    · obtain rfl : k = l.length := by omega
      have HI := Lib.hid hint
      have HKR := Lib.hid hkr
      clear hint hown hset hkr
      go_wp2_with (fail)
      go_ret
      have hb := HI.out
      rw [List.take_length, ← HM.out] at hb
      have hlw := misses_len m l
      refine ⟨q, cq, by rw [hlw]; rfl, by rw [hlw]; exact hb.lower (by omega), (((HK0.out.trans HKS.out).weaken (fun _ _ h => h.elim)).andThen HKR.out (fun b h1 h2 => by
        rcases h2 with h2 | h2
        · have := HLT.out b h2; omega
        · omega))⟩

end Go.Proofs.Ytpdnfekhfagfkaa
