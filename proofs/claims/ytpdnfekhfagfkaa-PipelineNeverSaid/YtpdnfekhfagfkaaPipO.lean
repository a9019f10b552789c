/-
  Chapter 19: the law PipelineNever, walked.
-/
import Derived.Test.YtpdnfekhfagfkaaPipN
namespace Go.Proofs.Ytpdnfekhfagfkaa
open Go.RowKit PI

set_option maxRecDepth 100000 in
set_option maxHeartbeats 2000000 in
theorem awake_calls (w : World) : Calls Try.prog 4 #[] w fun e w' => e = .returned (.bool true) ∧ Keep None w w' := by
  have hcc : ∀ (g c : Nat) (W : World), W.heap[g]? = some (.cells #[.int .i64 0, .int .i64 2, .int .i64 0, .int .i64 2, .int .i64 2, .int .i64 0] 37 (0, 0)) →
      Calls Try.prog 9 #[.agg #[.int .i64 1, .int .i64 0, .int .i64 0, .int .i64 0, .int .i64 0, .int .i64 0, .int .i64 0, .int .i64 0, .int .i64 0, .int .i64 0, .int .i64 0, .int .i64 0], .slice (some ⟨g, 0, none⟩) 2 c] W fun e w' => (∃ x : Me, e = .returned (meVal x) ∧ x.cyc = 2 ∧ x.steps = 2) ∧ Keep None W w' := by
    intro g c W hg
    have ha : Arr feEnc 37 W g [⟨0, 2, 0⟩, ⟨2, 2, 0⟩] := hg
    refine (cost_calls ⟨1, 0, 0, 0, 0, 0, 0, 0, 0, 0, 0, 0⟩ (some ⟨g, 0, none⟩) [⟨0, 2, 0⟩, ⟨2, 2, 0⟩] c W (.inr ⟨g, 0, rfl, ha.slAt feEnc_len⟩) (by simp) ?_ ?_).mono ?_
    · intro f hf
      simp only [List.mem_cons, List.not_mem_nil, or_false] at hf
      rcases hf with rfl | rfl <;> (unfold FeOk; simp only; omega)
    · exact ⟨by simp only; omega, by simp only; omega, by simp only; omega, by simp only; omega, by simp only; omega, by simp only; omega, by simp only; omega, by simp only; omega⟩
    · rintro e w' ⟨⟨x, rfl, h1, h2⟩, hk⟩
      exact ⟨⟨x, rfl, h1.trans (by decide), by simpa using h2⟩, hk⟩
  have HCC := Lib.hid hcc
  clear hcc
  go_enter Try.func4, Try.ntmps4
  go_upto_region 2 with (first
    | (go_at_call 9; go_loud (refine (HCC.out w.heap.size 2 _ (heap_alloc_new _ _)).mono ?_; rintro e w2 ⟨⟨x, rfl, hx1, hx2⟩, hk2⟩; have HK2 := Lib.hid hk2; clear hk2))
    | ((with_reducible (show wpList _ _ _ (⟨_, .store 33 (.tmp 1) _, _, _, _, none⟩ :: _) _ _)); go_loud (refine wpList_storeObj rfl 33 _ _ rfl w2.heap.size rfl (meEnc ⟨0, 0, 0, 0, 0, 0, 0, 0, 0, 0⟩) (meEnc x) rfl _ rfl (heap_alloc_new _ _) 10 Try.sizeMeasure rfl (by simp [Value.oneCell', meEnc]) ?_; intro w5 hres5 hk5 hs5; have HR5 := Lib.hid hres5; have HK5 := Lib.hid (((Keep.refl None w2).alloc _).andThen hk5 (by intro k h1 h2; omega)); clear hres5 hk5 hs5)))
  simp only [Act.put]
  have r3 := me_cell HR5.out 3 _ rfl
  have r2 := me_cell HR5.out 2 _ rfl
  rw [hx1] at r3
  rw [hx2] at r2
  clear hx1 hx2
  go_wp2_with (fail)
  go_ret
  exact ⟨rfl, (((Keep.refl None w).alloc _).trans HK2.out).trans HK5.out⟩

/-- A struct stored over a block just made. -/
theorem keep_any {S : Nat → Prop} {w w' : World} (k : Keep None w w') : Keep S w w' := k.weaken (fun _ _ h => h.elim)

theorem slice_keep2 {w W : World} {p : Option Addr} {l : List Fe} {B : Nat} {T : Nat → Prop} (h : SliceV feEnc 3 w p l) (hf : From B p) (k : Keep T w W) (hT : ∀ x, B ≤ x → x < w.heap.size → ¬ T x) : SliceV feEnc 3 W p l := by
  rcases h with h | ⟨b, o, rfl, h⟩
  · exact .inl h
  · by_cases hl : l = []
    · exact .inl hl
    · obtain ⟨y, hy⟩ : ∃ y, l[0]? = some y := ⟨l[0]'(List.length_pos_iff.2 hl), List.getElem?_eq_getElem _⟩
      have hb := World.block_lt_of_cell? w _ (h 0 y hy 0 _ rfl)
      exact .inr ⟨b, o, rfl, h.keep k (hT b (hf _ rfl) hb)⟩
/-- A model that costs at least as much. -/
def Dear (B : Int) (m d : Mod) : Prop := (m.step ≤ d.step ∧ d.step ≤ B) ∧ (m.mis ≤ d.mis ∧ d.mis ≤ B) ∧ (m.miss ≤ d.miss ∧ d.miss ≤ B) ∧ (m.fault ≤ d.fault ∧ d.fault ≤ B) ∧ (m.call ≤ d.call ∧ d.call ≤ B) ∧ m.ind = d.ind ∧ m.line = d.line ∧ m.sets = d.sets ∧ m.ways = d.ways ∧ m.page = d.page ∧ m.res = d.res ∧ m.pred = d.pred
/-- A number raised by less than nine. -/
def Plus (v : Int) (_ : World) (u : Value) : Prop := ∃ d, u = .int .i64 (v + d) ∧ 0 ≤ d ∧ d < 9
/-- A measure of so many cycles. -/
def CostV (C : Int) (_ : World) (v : Value) : Prop := ∃ x : Me, v = meVal x ∧ x.cyc = C
theorem run_fieldMe (w : World) (x : Me) : (Instr.field 33 (meVal x) 3).run Try.prog w = .ok (.int .i64 x.cyc) w := by
  simp [Instr.field, part, asAgg, meVal, meEnc, run_underlying Try.underlying33, Try.isAgg3]
theorem run_fieldOp (a : Act) (w : World) (x : Me) {t : Tmp} (o : Oper) (h : (a.tmps[t]?).getD undef = meVal x) (ho : o.op = .field 33 (.tmp t) 3) : (execOp a.eval o).run Try.prog w = .ok (.value (.int .i64 x.cyc)) w := by
  have e : a.eval (.tmp t) = meVal x := (eval_tmp _ _).trans h
  unfold execOp
  simp only [ho, e, run_fieldMe, Sem.run_bind, Sem.run_pure, Result.andThen_ok]
/-- The choices go on; all else is as it was. -/
def CodesOn (b bl : Nat) (W w : World) : Prop := (∃ r, CodesAt w b bl r) ∧ Keep (fun x => x = b) W w

set_option maxRecDepth 100000 in
set_option maxHeartbeats 8000000 in
theorem law_calls (p : Option Addr) (bs : List Int) (cap : Nat) (more : Int) (w : World) (h : SliceV byteEnc 1 w p bs) (hv : ∀ x ∈ bs, (0 : Int) ≤ x ∧ x ≤ 255) (hcap : bs.length ≤ cap) (hm0 : 0 ≤ more) (hm1 : more ≤ 255) :
    Calls Try.prog 3 #[.slice p bs.length cap, .int .u8 more] w fun e w' => e = .returned (.bool true) ∧ Keep None w w' := by
  have HNEW : Hid (∀ W, Keep None w W → Calls Try.prog 5 #[.slice p bs.length cap, .int .i64 300] W (NewPost (bs.take 300) W)) := Lib.hid (fun W hk => new_calls p bs cap 300 W (h.keep hk (fun _ _ => id)) hv (by omega) hcap)
  clear h hv
  go_enter Try.func3, Try.ntmps3
  go_upto_region 4 with (first
    | (go_at_call 4; go_loud (refine (awake_calls _).mono ?_; rintro e w1 ⟨rfl, hk1⟩; have HK1 := Lib.hid hk1; clear hk1))
    | (go_at_call 5; go_loud (refine (HNEW.out _ HK1.out).mono ?_; rintro e w2 ⟨b, bl, rfl, hb, hc2, hk2, -⟩; have HC2 := Lib.hid hc2; have HK2 := Lib.hid (HK1.out.trans hk2); clear hc2 hk2)))
  have hbw := HK1.out.size
  have hbl := HC2.out.lt
  go_upto_region 5 with (first
    | (go_at_call 6; go_loud (refine (model_calls b bl _ _ HC2.out).mono ?_; rintro e w3 ⟨m, r3, rfl, hmo, hs1, hs2, hs3, hs4, hs5, hc3, hk3⟩; have HMO := Lib.hid hmo; have HC3 := Lib.hid hc3; have HK3 := Lib.hid hk3; clear hmo hc3 hk3))
    | ((with_reducible (show wpList _ _ _ (⟨_, .store 27 (.tmp 6) _, _, _, _, none⟩ :: _) _ _)); go_loud (refine wpList_storeObj rfl 27 _ _ rfl w3.heap.size rfl (moEnc ⟨0, 0, 0, 0, 0, 0, 0, 0, 0, 0, 0, 0⟩) (moEnc m) rfl _ rfl (heap_alloc_new _ _) 12 Try.sizeModel rfl (by simp [Value.oneCell', moEnc]) ?_; intro w4 hres hk hs; have HB4 := Lib.hid hres; have HKN4 := Lib.hid (((Keep.refl None w3).alloc _).andThen hk (by intro k h1 h2; omega)); clear hres hk hs)))
  simp only [Act.put]
  have hz3 := HK3.out.size
  have hz4 := HKN4.out.size
  have HC4 := Lib.hid (HC3.out.keep HKN4.out id id)
  go_upto_region 6 with (go_at_call 7; go_loud (refine (trace_calls b bl 50 _ _ HC4.out (by omega)).mono ?_; rintro e w5 ⟨l, p5, c5, r5, rfl, hl5, hok5, ho5, hc5, hk5⟩; have HOK := Lib.hid hok5; have HO5 := Lib.hid ho5; have HC5 := Lib.hid hc5; have HK5 := Lib.hid hk5; clear hok5 ho5 hc5 hk5))
  have hg6 : w3.heap.size < w4.heap.size := heap_lt HB4.out
  have HB5 := Lib.hid (HK5.out.obj HB4.out (show ¬ w3.heap.size = b by omega))
  have HKA : Hid (Keep (fun x => w.heap.size ≤ x) w w5) := Lib.hid ((((keep_any HK2.out).trans (HK3.out.weaken (fun x _ h => by have h2 : x = b := h; show w.heap.size ≤ x; omega))).trans (keep_any HKN4.out)).trans (HK5.out.weaken (fun x _ h => by have h2 : x = b := h; show w.heap.size ≤ x; omega)))
  generalize hg : w3.heap.size = g6 at *
  have hwg : w.heap.size ≤ g6 := by omega
  have hz5 := HK5.out.size
  have HGB := Lib.hid (show g6 ≠ b by omega)
  have HGL := Lib.hid (show g6 ≠ bl by omega)
  have HRO : Hid (SliceV feEnc 3 w5 p5 l) := Lib.hid ((HO5.out.reads feEnc_len).2.2.2.1)
  have hfr := (HO5.out.reads feEnc_len).2.2.2.2
  have HFR := Lib.hid hfr
  clear hg hfr HC2 HC3 HC4 HB4 HKN4 HNEW HK1 HK2 HK3
  go_upto_region 7 with (first
    | ((with_reducible (show wpList _ _ _ (⟨_, .load 27 (.tmp 6), _, _, _, none⟩ :: _) _ _)); go_loud (refine wpList_loadEl (enc := listEnc) (size := 12) rfl 27 _ rfl _ _ rfl _ _ (range_of_obj HB5.out) rfl Try.underlying27 rfl Try.sizeModel (moVal m) rfl ?_))
    | ((with_reducible (show wpList _ _ _ (⟨_, .store 27 (.tmp 8) _, _, _, _, none⟩ :: _) _ _)); go_loud (refine wpList_storeObj rfl 27 _ _ rfl w5.heap.size rfl (moEnc ⟨0, 0, 0, 0, 0, 0, 0, 0, 0, 0, 0, 0⟩) (moEnc m) rfl _ rfl (heap_alloc_new _ _) 12 Try.sizeModel rfl (by simp [Value.oneCell', moEnc]) ?_; intro w6 hres hk hs; have HB6 := Lib.hid hres; have HKN6 := Lib.hid (((Keep.refl None w5).alloc _).andThen hk (by intro k h1 h2; omega)); clear hres hk hs)))
  simp only [Act.put]
  have q2 := mo_cell HB6.out 2 _ rfl
  have q2' := cells_free HB6.out 2
  have hz6 := HKN6.out.size
  have hg8 : w5.heap.size < w6.heap.size := heap_lt HB6.out
  generalize hg : w5.heap.size = g8 at *
  go_upto_region 8 with (fail)
  have HB8 : Hid ((w6.setCell ⟨g8, 2, none⟩ (.int .i64 0)).heap[g8]? = some (.cells (moEnc { m with miss := 0 }).toArray 27 (0, 0))) := Lib.hid (cell_put HB6.out 2 _)
  have HKT : Hid (Keep (fun x => x = b ∨ g8 ≤ x) w5 (w6.setCell ⟨g8, 2, none⟩ (.int .i64 0))) := Lib.hid ((keep_any HKN6.out).trans ((keep_set w6 g8 2 _).weaken (fun x _ h => .inr (by have h2 : x = g8 := h; omega))))
  have HC7 : Hid (CodesAt (w6.setCell ⟨g8, 2, none⟩ (.int .i64 0)) b bl r5) := Lib.hid ((HC5.out.keep HKN6.out id id).keep (keep_set w6 g8 2 _) (by omega) (by omega))
  have hg87 : g8 < (w6.setCell ⟨g8, 2, none⟩ (.int .i64 0)).heap.size := heap_lt HB8.out
  have hg0 := Lib.hid hg
  clear q2 q2' HB6 HKN6 HC5 hz6 hg8 hg
  generalize World.setCell _ _ _ = w7 at *
  go_upto_region 9 with (first
    | ((with_reducible (show wpList _ _ _ (⟨_, .load 27 (.tmp 8), _, _, _, none⟩ :: _) _ _)); go_loud (refine wpList_loadEl (enc := listEnc) (size := 12) rfl 27 _ rfl _ _ rfl _ _ (range_of_obj HB8.out) rfl Try.underlying27 rfl Try.sizeModel (moVal { m with miss := 0 }) rfl ?_))
    | ((with_reducible (show wpList _ _ _ (⟨_, .store 27 (.tmp 9) _, _, _, _, none⟩ :: _) _ _)); go_loud (refine wpList_storeObj rfl 27 _ _ rfl w7.heap.size rfl (moEnc ⟨0, 0, 0, 0, 0, 0, 0, 0, 0, 0, 0, 0⟩) (moEnc { m with miss := 0 }) rfl _ rfl (heap_alloc_new _ _) 12 Try.sizeModel rfl (by simp [Value.oneCell', moEnc]) ?_; intro w9 hres hk hs; have HB9 := Lib.hid hres; have HKN9 := Lib.hid (((Keep.refl None w7).alloc _).andThen hk (by intro k h1 h2; omega)); clear hres hk hs)))
  simp only [Act.put]
  have q7 := mo_cell HB9.out 7 _ rfl
  have q7' := cells_free HB9.out 7
  have q6 := mo_cell HB9.out 6 _ rfl
  have q6' := cells_free HB9.out 6
  have hg97 : w7.heap.size < w9.heap.size := heap_lt HB9.out
  have hz78 : w5.heap.size ≤ w7.heap.size := HKT.out.size
  generalize hg : w7.heap.size = g9 at *
  have hg89 : g8 < g9 := by omega
  go_upto_region 10 with (fail)
  have HBN : Hid (((w9.setCell ⟨g9, 7, none⟩ (.int .i64 0)).setCell ⟨g9, 6, none⟩ (.int .i64 0)).heap[g9]? = some (.cells (moEnc { m with miss := 0, line := 0, sets := 0 }).toArray 27 (0, 0))) := Lib.hid (cell_put (cell_put HB9.out 7 _) 6 _)
  have hkn : Keep (fun x => x = g9) w9 ((w9.setCell ⟨g9, 7, none⟩ (.int .i64 0)).setCell ⟨g9, 6, none⟩ (.int .i64 0)) := (keep_set w9 g9 7 _).trans (keep_set _ g9 6 _)
  have hkn2 := (keep_any (S := fun x => x = g9) HKN9.out).trans hkn
  have HBF : Hid (((w9.setCell ⟨g9, 7, none⟩ (.int .i64 0)).setCell ⟨g9, 6, none⟩ (.int .i64 0)).heap[g8]? = some (.cells (moEnc { m with miss := 0 }).toArray 27 (0, 0))) := Lib.hid (hkn2.obj HB8.out (by omega))
  have HKT : Hid (Keep (fun x => x = b ∨ g8 ≤ x) w5 ((w9.setCell ⟨g9, 7, none⟩ (.int .i64 0)).setCell ⟨g9, 6, none⟩ (.int .i64 0))) := Lib.hid (HKT.out.trans (hkn2.weaken (fun x _ h => .inr (by have h2 : x = g9 := h; omega))))
  have HC9 : Hid (CodesAt ((w9.setCell ⟨g9, 7, none⟩ (.int .i64 0)).setCell ⟨g9, 6, none⟩ (.int .i64 0)) b bl r5) := Lib.hid (HC7.out.keep hkn2 (by omega) (by omega))
  have HBM := Lib.hid (HKT.out.obj HB5.out (by omega))
  clear q7 q7' q6 q6' hkn hkn2 HB9 HKN9 HB8 HC7 hg
  generalize World.setCell _ _ _ = wA at *
  have hzA := HKT.out.size
  have hgA9 : g9 < wA.heap.size := heap_lt HBN.out
  go_upto_region 11 with (first
    | ((with_reducible (show wpList _ _ _ (⟨_, .load 27 (.tmp 6), _, _, _, none⟩ :: _) _ _)); go_loud (refine wpList_loadEl (enc := listEnc) (size := 12) rfl 27 _ rfl _ _ rfl _ _ (range_of_obj HBM.out) rfl Try.underlying27 rfl Try.sizeModel (moVal m) rfl ?_))
    | ((with_reducible (show wpList _ _ _ (⟨_, .store 27 (.tmp 10) _, _, _, _, none⟩ :: _) _ _)); go_loud (refine wpList_storeObj rfl 27 _ _ rfl wA.heap.size rfl (moEnc ⟨0, 0, 0, 0, 0, 0, 0, 0, 0, 0, 0, 0⟩) (moEnc m) rfl _ rfl (heap_alloc_new _ _) 12 Try.sizeModel rfl (by simp [Value.oneCell', moEnc]) ?_; intro wB hres hk hs; have HBB := Lib.hid hres; have HKNB := Lib.hid (((Keep.refl None wA).alloc _).andThen hk (by intro k h1 h2; omega)); clear hres hk hs)))
  simp only [Act.put]
  have q0 := mo_cell HBB.out 0 _ rfl
  have q0' := cells_free HBB.out 0
  have hgAB : wA.heap.size < wB.heap.size := heap_lt HBB.out
  generalize hg : wA.heap.size = g10 at *
  have hmo := HMO.out
  have hmo1 := hmo.step
  go_upto_region 12 with (fail)
  have hmo2 := hmo.ind
  have HKT5 := HKT
  have HGT : Hid (¬ g10 = b) := Lib.hid (by omega)
  have HGU : Hid (¬ g10 = bl) := Lib.hid (by omega)
  have HD : Hid (∃ d, Dear 355 m d ∧ (wB.setCell ⟨g10, 0, none⟩ (.int .i64 (m.step + more))).heap[g10]? = some (.cells (moEnc d).toArray 27 (0, 0))) := Lib.hid ⟨{ m with step := m.step + more }, ⟨⟨by simp only; omega, by simp only; omega⟩, ⟨by simp only; omega, by simp only; omega⟩, ⟨by simp only; omega, by simp only; omega⟩, ⟨by simp only; omega, by simp only; omega⟩, ⟨by simp only; omega, by simp only; omega⟩, rfl, rfl, rfl, rfl, rfl, rfl, rfl⟩, cell_put HBB.out 0 _⟩
  have HCC : Hid (∃ r, CodesAt (wB.setCell ⟨g10, 0, none⟩ (.int .i64 (m.step + more))) b bl r) := Lib.hid ⟨r5, (HC9.out.keep HKNB.out id id).keep (keep_set wB g10 0 _) (fun e => HGT.out e.symm) (fun e => HGU.out e.symm)⟩
  have HKT : Hid (Keep (fun x => x = b ∨ g10 ≤ x) wA (wB.setCell ⟨g10, 0, none⟩ (.int .i64 (m.step + more)))) := Lib.hid ((keep_any HKNB.out).trans ((keep_set wB g10 0 _).weaken (fun x _ h => .inr (by have h2 : x = g10 := h; omega))))
  have HGG := Lib.hid hg
  clear q0 q0' HBB HKNB hg HC9 hmo hmo1 hmo2
  generalize World.setCell _ _ _ = WW at *
  obtain ⟨mD, hD, hDo⟩ := HD.out
  have hDs : mD.mis ≤ 355 := hD.2.1.2
  have hDl : m.mis ≤ mD.mis := hD.2.1.1
  have hDz : 0 ≤ m.mis := HMO.out.mis.1
  have HDO := Lib.hid hDo
  have HDD := Lib.hid hD
  obtain ⟨rr, hcr⟩ := HCC.out
  have HCR := Lib.hid hcr
  clear hD hDo hcr
  refine region_anyV [isV (.pointer (some ⟨g10, 1, none⟩)), isV (.int .i64 mD.mis), isV (.pointer (some ⟨b, 0, none⟩)), Bel 9, Plus mD.mis]
    (CodesOn b bl WW) (Keep (fun x => x = b)) 75 5 (by kernel_rfl) (by decide) (by kernel_rfl) (by kernel_rfl) (by kernel_rfl) rfl ?_ (by kernel_rfl) ?_ ⟨⟨rr, HCR.out.keep ((Keep.refl None _).drew) id id⟩, (Keep.refl _ _).drew⟩ ?_ ?_
  · intro i w1 w2 v h1 h2
    match i with
    | 0 | 1 | 2 | 3 | 4 => exact h1
    | _ + 5 => trivial
  · intro i w o ho hi
    match i with
    | 5 | 6 => trivial
    | _ + 7 => trivial
  · refine ⟨?_, ?_, ?_, ?_, ?_, trivial⟩
    · exact sv_ev [(10, .pointer (some ⟨g10, 0, none⟩))] (by simp only [List.forall_mem_singleton]; exact vdep_f rfl rfl) rfl _ (by simp only [List.forall_mem_singleton]; intro a w' h1 hI; go_simp) (fun _ => Keep.refl _ _) (fun _ => rfl)
    · exact sv_ev [(31, .pointer (some ⟨g10, 1, none⟩))] (by simp only [List.forall_mem_singleton]; exact vdep_e 0 rfl rfl (fun _ _ h => h)) rfl _ (by simp only [List.forall_mem_singleton]; intro a w' h1 hI; have q11 := mo_cell (Keep.obj hI.2 HDO.out HGT.out) 1 _ rfl; go_simp) (fun _ => Keep.refl _ _) (fun _ => rfl)
    · exact sv_ev [(5, .pointer (some ⟨b, 0, none⟩))] (by simp only [List.forall_mem_singleton]; exact vdep_f rfl rfl) rfl _ (by simp only [List.forall_mem_singleton]; intro a w' h1 hI; go_simp) (fun _ => Keep.refl _ _) (fun _ => rfl)
    · refine sv_call [(33, .pointer (some ⟨b, 0, none⟩))] (by simp only [List.forall_mem_singleton]; exact vdep_e 2 rfl rfl (fun _ _ h => h)) rfl 8 #[.pointer (some ⟨b, 0, none⟩), .int .i64 9] (by simp only [List.forall_mem_singleton]; intro a w' h1; go_simp) ?_
      rintro w' ⟨⟨r2, h2⟩, hk⟩
      refine (next_some b bl 9 r2 w' h2 (by omega) (by omega)).mono ?_
      rintro e w5 ⟨x, r3, rfl, hx1, hx2, hc, hk2⟩
      exact ⟨_, rfl, ⟨⟨r3, hc⟩, hk.trans hk2⟩, hk2, x, rfl, hx1, hx2⟩
    · refine sv_pass2W (vw_free rfl) 1 32 3 34 rfl rfl rfl rfl ?_ (fun _ => Keep.refl _ _)
      rintro a w' v v' rfl ⟨x, rfl, hx1, hx2⟩ e1 e2 hI
      have hwr : IntKind.i64.wrap (mD.mis + x) = mD.mis + x := IntWalk.i64_in _ (by omega)
      exact ⟨.int .i64 (mD.mis + x), (by first | (go_simp; done) | (go_simp; exact hwr)), x, rfl, hx1, hx2⟩
  intro f' wv hkinds hI
  obtain ⟨dx, kd, hd1, hd2⟩ : Plus mD.mis wv (f' 35) := hkinds 4 _ 35 (by omega) rfl rfl
  obtain ⟨⟨rv, hcv⟩, hkv⟩ := hI
  have hbo := hkv.obj HDO.out HGT.out
  have c0 := mo_cell hbo 1 _ rfl
  have f0 := cells_free hbo 1
  have HD : Hid (∃ d, Dear 364 m d ∧ (wv.setCell ⟨g10, 1, none⟩ (.int .i64 (mD.mis + dx))).heap[g10]? = some (.cells (moEnc d).toArray 27 (0, 0))) := Lib.hid (by
    obtain ⟨h1, h2, h3, h4, h5, h6⟩ := HDD.out
    refine ⟨{ mD with mis := mD.mis + dx }, ⟨?_, ?_, ?_, ?_, ?_, h6⟩, cell_put hbo 1 _⟩ <;> (simp only; omega))
  have HCC : Hid (∃ r, CodesAt (wv.setCell ⟨g10, 1, none⟩ (.int .i64 (mD.mis + dx))) b bl r) := Lib.hid ⟨rv, hcv.keep (keep_set wv g10 1 _) (fun e => HGT.out e.symm) (fun e => HGU.out e.symm)⟩
  have HKT : Hid (Keep (fun x => x = b ∨ g10 ≤ x) wA (wv.setCell ⟨g10, 1, none⟩ (.int .i64 (mD.mis + dx)))) := Lib.hid ((HKT.out.trans (hkv.weaken (fun _ _ h => .inl h))).trans ((keep_set wv g10 1 _).weaken (fun x _ h => .inr (by have h2 : x = g10 := h; omega))))
  simp only [putsOf, Act.put, List.take_succ_cons, List.take_zero, List.drop_succ_cons, List.drop_zero, List.setIfInBounds_toArray, List.set_cons_zero, List.set_cons_succ, kd]
  clear hkinds kd hcv hkv hbo HCR HDD HDO
  go_upto_region 13 with (fail)
  clear c0 f0
  generalize World.setCell _ _ _ = WW at *
  obtain ⟨mD, hD, hDo⟩ := HD.out
  have hDs : mD.miss ≤ 364 := hD.2.2.1.2
  have hDl : m.miss ≤ mD.miss := hD.2.2.1.1
  have hDz : 0 ≤ m.miss := HMO.out.miss.1
  have HDO := Lib.hid hDo
  have HDD := Lib.hid hD
  obtain ⟨rr, hcr⟩ := HCC.out
  have HCR := Lib.hid hcr
  clear hD hDo hcr
  refine region_anyV [isV (.pointer (some ⟨g10, 2, none⟩)), isV (.int .i64 mD.miss), isV (.pointer (some ⟨b, 0, none⟩)), Bel 9, Plus mD.miss]
    (CodesOn b bl WW) (Keep (fun x => x = b)) 75 5 (by kernel_rfl) (by decide) (by kernel_rfl) (by kernel_rfl) (by kernel_rfl) rfl ?_ (by kernel_rfl) ?_ ⟨⟨rr, HCR.out.keep ((Keep.refl None _).drew) id id⟩, (Keep.refl _ _).drew⟩ ?_ ?_
  · intro i w1 w2 v h1 h2
    match i with
    | 0 | 1 | 2 | 3 | 4 => exact h1
    | _ + 5 => trivial
  · intro i w o ho hi
    match i with
    | 5 | 6 => trivial
    | _ + 7 => trivial
  · refine ⟨?_, ?_, ?_, ?_, ?_, trivial⟩
    · exact sv_ev [(10, .pointer (some ⟨g10, 0, none⟩))] (by simp only [List.forall_mem_singleton]; exact vdep_f rfl rfl) rfl _ (by simp only [List.forall_mem_singleton]; intro a w' h1 hI; go_simp) (fun _ => Keep.refl _ _) (fun _ => rfl)
    · exact sv_ev [(37, .pointer (some ⟨g10, 2, none⟩))] (by simp only [List.forall_mem_singleton]; exact vdep_e 0 rfl rfl (fun _ _ h => h)) rfl _ (by simp only [List.forall_mem_singleton]; intro a w' h1 hI; have q11 := mo_cell (Keep.obj hI.2 HDO.out HGT.out) 2 _ rfl; go_simp) (fun _ => Keep.refl _ _) (fun _ => rfl)
    · exact sv_ev [(5, .pointer (some ⟨b, 0, none⟩))] (by simp only [List.forall_mem_singleton]; exact vdep_f rfl rfl) rfl _ (by simp only [List.forall_mem_singleton]; intro a w' h1 hI; go_simp) (fun _ => Keep.refl _ _) (fun _ => rfl)
    · refine sv_call [(39, .pointer (some ⟨b, 0, none⟩))] (by simp only [List.forall_mem_singleton]; exact vdep_e 2 rfl rfl (fun _ _ h => h)) rfl 8 #[.pointer (some ⟨b, 0, none⟩), .int .i64 9] (by simp only [List.forall_mem_singleton]; intro a w' h1; go_simp) ?_
      rintro w' ⟨⟨r2, h2⟩, hk⟩
      refine (next_some b bl 9 r2 w' h2 (by omega) (by omega)).mono ?_
      rintro e w5 ⟨x, r3, rfl, hx1, hx2, hc, hk2⟩
      exact ⟨_, rfl, ⟨⟨r3, hc⟩, hk.trans hk2⟩, hk2, x, rfl, hx1, hx2⟩
    · refine sv_pass2W (vw_free rfl) 1 38 3 40 rfl rfl rfl rfl ?_ (fun _ => Keep.refl _ _)
      rintro a w' v v' rfl ⟨x, rfl, hx1, hx2⟩ e1 e2 hI
      have hwr : IntKind.i64.wrap (mD.miss + x) = mD.miss + x := IntWalk.i64_in _ (by omega)
      exact ⟨.int .i64 (mD.miss + x), (by first | (go_simp; done) | (go_simp; exact hwr)), x, rfl, hx1, hx2⟩
  intro f' wv hkinds hI
  obtain ⟨dx, kd, hd1, hd2⟩ : Plus mD.miss wv (f' 41) := hkinds 4 _ 41 (by omega) rfl rfl
  obtain ⟨⟨rv, hcv⟩, hkv⟩ := hI
  have hbo := hkv.obj HDO.out HGT.out
  have c0 := mo_cell hbo 2 _ rfl
  have f0 := cells_free hbo 2
  have HD : Hid (∃ d, Dear 373 m d ∧ (wv.setCell ⟨g10, 2, none⟩ (.int .i64 (mD.miss + dx))).heap[g10]? = some (.cells (moEnc d).toArray 27 (0, 0))) := Lib.hid (by
    obtain ⟨h1, h2, h3, h4, h5, h6⟩ := HDD.out
    refine ⟨{ mD with miss := mD.miss + dx }, ⟨?_, ?_, ?_, ?_, ?_, h6⟩, cell_put hbo 2 _⟩ <;> (simp only; omega))
  have HCC : Hid (∃ r, CodesAt (wv.setCell ⟨g10, 2, none⟩ (.int .i64 (mD.miss + dx))) b bl r) := Lib.hid ⟨rv, hcv.keep (keep_set wv g10 2 _) (fun e => HGT.out e.symm) (fun e => HGU.out e.symm)⟩
  have HKT : Hid (Keep (fun x => x = b ∨ g10 ≤ x) wA (wv.setCell ⟨g10, 2, none⟩ (.int .i64 (mD.miss + dx)))) := Lib.hid ((HKT.out.trans (hkv.weaken (fun _ _ h => .inl h))).trans ((keep_set wv g10 2 _).weaken (fun x _ h => .inr (by have h2 : x = g10 := h; omega))))
  simp only [putsOf, Act.put, List.take_succ_cons, List.take_zero, List.drop_succ_cons, List.drop_zero, List.setIfInBounds_toArray, List.set_cons_zero, List.set_cons_succ, kd]
  clear hkinds kd hcv hkv hbo HCR HDD HDO
  go_upto_region 14 with (fail)
  clear c0 f0
  generalize World.setCell _ _ _ = WW at *
  obtain ⟨mD, hD, hDo⟩ := HD.out
  have hDs : mD.fault ≤ 373 := hD.2.2.2.1.2
  have hDl : m.fault ≤ mD.fault := hD.2.2.2.1.1
  have hDz : 0 ≤ m.fault := HMO.out.fault.1
  have HDO := Lib.hid hDo
  have HDD := Lib.hid hD
  obtain ⟨rr, hcr⟩ := HCC.out
  have HCR := Lib.hid hcr
  clear hD hDo hcr
  refine region_anyV [isV (.pointer (some ⟨g10, 3, none⟩)), isV (.int .i64 mD.fault), isV (.pointer (some ⟨b, 0, none⟩)), Bel 9, Plus mD.fault]
    (CodesOn b bl WW) (Keep (fun x => x = b)) 75 5 (by kernel_rfl) (by decide) (by kernel_rfl) (by kernel_rfl) (by kernel_rfl) rfl ?_ (by kernel_rfl) ?_ ⟨⟨rr, HCR.out.keep ((Keep.refl None _).drew) id id⟩, (Keep.refl _ _).drew⟩ ?_ ?_
  · intro i w1 w2 v h1 h2
    match i with
    | 0 | 1 | 2 | 3 | 4 => exact h1
    | _ + 5 => trivial
  · intro i w o ho hi
    match i with
    | 5 | 6 => trivial
    | _ + 7 => trivial
  · refine ⟨?_, ?_, ?_, ?_, ?_, trivial⟩
    · exact sv_ev [(10, .pointer (some ⟨g10, 0, none⟩))] (by simp only [List.forall_mem_singleton]; exact vdep_f rfl rfl) rfl _ (by simp only [List.forall_mem_singleton]; intro a w' h1 hI; go_simp) (fun _ => Keep.refl _ _) (fun _ => rfl)
    · exact sv_ev [(43, .pointer (some ⟨g10, 3, none⟩))] (by simp only [List.forall_mem_singleton]; exact vdep_e 0 rfl rfl (fun _ _ h => h)) rfl _ (by simp only [List.forall_mem_singleton]; intro a w' h1 hI; have q11 := mo_cell (Keep.obj hI.2 HDO.out HGT.out) 3 _ rfl; go_simp) (fun _ => Keep.refl _ _) (fun _ => rfl)
    · exact sv_ev [(5, .pointer (some ⟨b, 0, none⟩))] (by simp only [List.forall_mem_singleton]; exact vdep_f rfl rfl) rfl _ (by simp only [List.forall_mem_singleton]; intro a w' h1 hI; go_simp) (fun _ => Keep.refl _ _) (fun _ => rfl)
    · refine sv_call [(45, .pointer (some ⟨b, 0, none⟩))] (by simp only [List.forall_mem_singleton]; exact vdep_e 2 rfl rfl (fun _ _ h => h)) rfl 8 #[.pointer (some ⟨b, 0, none⟩), .int .i64 9] (by simp only [List.forall_mem_singleton]; intro a w' h1; go_simp) ?_
      rintro w' ⟨⟨r2, h2⟩, hk⟩
      refine (next_some b bl 9 r2 w' h2 (by omega) (by omega)).mono ?_
      rintro e w5 ⟨x, r3, rfl, hx1, hx2, hc, hk2⟩
      exact ⟨_, rfl, ⟨⟨r3, hc⟩, hk.trans hk2⟩, hk2, x, rfl, hx1, hx2⟩
    · refine sv_pass2W (vw_free rfl) 1 44 3 46 rfl rfl rfl rfl ?_ (fun _ => Keep.refl _ _)
      rintro a w' v v' rfl ⟨x, rfl, hx1, hx2⟩ e1 e2 hI
      have hwr : IntKind.i64.wrap (mD.fault + x) = mD.fault + x := IntWalk.i64_in _ (by omega)
      exact ⟨.int .i64 (mD.fault + x), (by first | (go_simp; done) | (go_simp; exact hwr)), x, rfl, hx1, hx2⟩
  intro f' wv hkinds hI
  obtain ⟨dx, kd, hd1, hd2⟩ : Plus mD.fault wv (f' 47) := hkinds 4 _ 47 (by omega) rfl rfl
  obtain ⟨⟨rv, hcv⟩, hkv⟩ := hI
  have hbo := hkv.obj HDO.out HGT.out
  have c0 := mo_cell hbo 3 _ rfl
  have f0 := cells_free hbo 3
  have HD : Hid (∃ d, Dear 382 m d ∧ (wv.setCell ⟨g10, 3, none⟩ (.int .i64 (mD.fault + dx))).heap[g10]? = some (.cells (moEnc d).toArray 27 (0, 0))) := Lib.hid (by
    obtain ⟨h1, h2, h3, h4, h5, h6⟩ := HDD.out
    refine ⟨{ mD with fault := mD.fault + dx }, ⟨?_, ?_, ?_, ?_, ?_, h6⟩, cell_put hbo 3 _⟩ <;> (simp only; omega))
  have HCC : Hid (∃ r, CodesAt (wv.setCell ⟨g10, 3, none⟩ (.int .i64 (mD.fault + dx))) b bl r) := Lib.hid ⟨rv, hcv.keep (keep_set wv g10 3 _) (fun e => HGT.out e.symm) (fun e => HGU.out e.symm)⟩
  have HKT : Hid (Keep (fun x => x = b ∨ g10 ≤ x) wA (wv.setCell ⟨g10, 3, none⟩ (.int .i64 (mD.fault + dx)))) := Lib.hid ((HKT.out.trans (hkv.weaken (fun _ _ h => .inl h))).trans ((keep_set wv g10 3 _).weaken (fun x _ h => .inr (by have h2 : x = g10 := h; omega))))
  simp only [putsOf, Act.put, List.take_succ_cons, List.take_zero, List.drop_succ_cons, List.drop_zero, List.setIfInBounds_toArray, List.set_cons_zero, List.set_cons_succ, kd]
  clear hkinds kd hcv hkv hbo HCR HDD HDO
  go_upto_region 15 with (fail)
  clear c0 f0
  generalize World.setCell _ _ _ = WW at *
  obtain ⟨mD, hD, hDo⟩ := HD.out
  have hDs : mD.call ≤ 382 := hD.2.2.2.2.1.2
  have hDl : m.call ≤ mD.call := hD.2.2.2.2.1.1
  have hDz : 0 ≤ m.call := HMO.out.call.1
  have HDO := Lib.hid hDo
  have HDD := Lib.hid hD
  obtain ⟨rr, hcr⟩ := HCC.out
  have HCR := Lib.hid hcr
  clear hD hDo hcr
  refine region_anyV [isV (.pointer (some ⟨g10, 4, none⟩)), isV (.int .i64 mD.call), isV (.pointer (some ⟨b, 0, none⟩)), Bel 9, Plus mD.call]
    (CodesOn b bl WW) (Keep (fun x => x = b)) 75 5 (by kernel_rfl) (by decide) (by kernel_rfl) (by kernel_rfl) (by kernel_rfl) rfl ?_ (by kernel_rfl) ?_ ⟨⟨rr, HCR.out.keep ((Keep.refl None _).drew) id id⟩, (Keep.refl _ _).drew⟩ ?_ ?_
  · intro i w1 w2 v h1 h2
    match i with
    | 0 | 1 | 2 | 3 | 4 => exact h1
    | _ + 5 => trivial
  · intro i w o ho hi
    match i with
    | 5 | 6 => trivial
    | _ + 7 => trivial
  · refine ⟨?_, ?_, ?_, ?_, ?_, trivial⟩
    · exact sv_ev [(10, .pointer (some ⟨g10, 0, none⟩))] (by simp only [List.forall_mem_singleton]; exact vdep_f rfl rfl) rfl _ (by simp only [List.forall_mem_singleton]; intro a w' h1 hI; go_simp) (fun _ => Keep.refl _ _) (fun _ => rfl)
    · exact sv_ev [(49, .pointer (some ⟨g10, 4, none⟩))] (by simp only [List.forall_mem_singleton]; exact vdep_e 0 rfl rfl (fun _ _ h => h)) rfl _ (by simp only [List.forall_mem_singleton]; intro a w' h1 hI; have q11 := mo_cell (Keep.obj hI.2 HDO.out HGT.out) 4 _ rfl; go_simp) (fun _ => Keep.refl _ _) (fun _ => rfl)
    · exact sv_ev [(5, .pointer (some ⟨b, 0, none⟩))] (by simp only [List.forall_mem_singleton]; exact vdep_f rfl rfl) rfl _ (by simp only [List.forall_mem_singleton]; intro a w' h1 hI; go_simp) (fun _ => Keep.refl _ _) (fun _ => rfl)
    · refine sv_call [(51, .pointer (some ⟨b, 0, none⟩))] (by simp only [List.forall_mem_singleton]; exact vdep_e 2 rfl rfl (fun _ _ h => h)) rfl 8 #[.pointer (some ⟨b, 0, none⟩), .int .i64 9] (by simp only [List.forall_mem_singleton]; intro a w' h1; go_simp) ?_
      rintro w' ⟨⟨r2, h2⟩, hk⟩
      refine (next_some b bl 9 r2 w' h2 (by omega) (by omega)).mono ?_
      rintro e w5 ⟨x, r3, rfl, hx1, hx2, hc, hk2⟩
      exact ⟨_, rfl, ⟨⟨r3, hc⟩, hk.trans hk2⟩, hk2, x, rfl, hx1, hx2⟩
    · refine sv_pass2W (vw_free rfl) 1 50 3 52 rfl rfl rfl rfl ?_ (fun _ => Keep.refl _ _)
      rintro a w' v v' rfl ⟨x, rfl, hx1, hx2⟩ e1 e2 hI
      have hwr : IntKind.i64.wrap (mD.call + x) = mD.call + x := IntWalk.i64_in _ (by omega)
      exact ⟨.int .i64 (mD.call + x), (by first | (go_simp; done) | (go_simp; exact hwr)), x, rfl, hx1, hx2⟩
  intro f' wv hkinds hI
  obtain ⟨dx, kd, hd1, hd2⟩ : Plus mD.call wv (f' 53) := hkinds 4 _ 53 (by omega) rfl rfl
  obtain ⟨⟨rv, hcv⟩, hkv⟩ := hI
  have hbo := hkv.obj HDO.out HGT.out
  have c0 := mo_cell hbo 4 _ rfl
  have f0 := cells_free hbo 4
  have HD : Hid (∃ d, Dear 391 m d ∧ (wv.setCell ⟨g10, 4, none⟩ (.int .i64 (mD.call + dx))).heap[g10]? = some (.cells (moEnc d).toArray 27 (0, 0))) := Lib.hid (by
    obtain ⟨h1, h2, h3, h4, h5, h6⟩ := HDD.out
    refine ⟨{ mD with call := mD.call + dx }, ⟨?_, ?_, ?_, ?_, ?_, h6⟩, cell_put hbo 4 _⟩ <;> (simp only; omega))
  have HCC : Hid (∃ r, CodesAt (wv.setCell ⟨g10, 4, none⟩ (.int .i64 (mD.call + dx))) b bl r) := Lib.hid ⟨rv, hcv.keep (keep_set wv g10 4 _) (fun e => HGT.out e.symm) (fun e => HGU.out e.symm)⟩
  have HKT : Hid (Keep (fun x => x = b ∨ g10 ≤ x) wA (wv.setCell ⟨g10, 4, none⟩ (.int .i64 (mD.call + dx)))) := Lib.hid ((HKT.out.trans (hkv.weaken (fun _ _ h => .inl h))).trans ((keep_set wv g10 4 _).weaken (fun x _ h => .inr (by have h2 : x = g10 := h; omega))))
  simp only [putsOf, Act.put, List.take_succ_cons, List.take_zero, List.drop_succ_cons, List.drop_zero, List.setIfInBounds_toArray, List.set_cons_zero, List.set_cons_succ, kd]
  clear hkinds kd hcv hkv hbo HCR HDD HDO
  go_upto_region 16 with (fail)
  clear c0 f0
  generalize World.setCell _ _ _ = WW at *
  obtain ⟨mD, hD, hDo⟩ := HD.out
  have HBX10 := Lib.hid hDo
  have hmo := HMO.out
  have hmo1 := hmo.step; have hmo2 := hmo.mis; have hmo3 := hmo.miss; have hmo4 := hmo.fault; have hmo5 := hmo.call; have hmo6 := hmo.ind
  obtain ⟨d1, d2, d3, d4, d5, d6, d7, d8, d9, d10, d11, d12⟩ := hD
  have HMF : Hid (MoOk { m with miss := 0 }) := Lib.hid ⟨hmo.step, hmo.mis, by simp only; omega, hmo.fault, hmo.call, hmo.ind, hmo.ways, hmo.res⟩
  have HMN : Hid (MoOk { m with miss := 0, line := 0, sets := 0 }) := Lib.hid ⟨hmo.step, hmo.mis, by simp only; omega, hmo.fault, hmo.call, hmo.ind, fun h => by simp only at h; omega, hmo.res⟩
  have HMD : Hid (MoOk mD) := Lib.hid ⟨by omega, by omega, by omega, by omega, by omega, by omega, by rw [← d8, ← d9]; exact hmo.ways, by rw [← d11]; exact hmo.res⟩
  have hfree : cost { m with miss := 0, line := 0, sets := 0 } l = cost { m with miss := 0 } l := cost_free l rfl rfl rfl rfl rfl rfl rfl rfl rfl rfl
  have hmore : cost m l ≤ cost mD l := cost_more l (B := 1000) (fun f hf => (HOK.out f hf).2.2.2) d1.1 d2.1 d3.1 d4.1 d5.1 (by omega) d7 d8 d9 d10 d11 d12
  have HBX6 := Lib.hid (HKT.out.obj HBM.out (by have := HGB.out; omega))
  have HBX8 := Lib.hid (HKT.out.obj HBF.out (by omega))
  have HBX9 := Lib.hid (HKT.out.obj HBN.out (by omega))
  have hsl : SliceV feEnc 3 WW p5 l := slice_keep2 HRO.out HFR.out (HKT5.out.trans (HKT.out.weaken (fun x _ h => by rcases h with h | h; exact .inl h; exact .inr (by omega)))) (by intro x hx1 hx2 h; have := hg0.out; omega)
  have HCF : Hid (∀ W, Keep None WW W → Calls Try.prog 9 #[moVal { m with miss := 0 }, .slice p5 l.length c5] W fun e w' => (∃ x : Me, e = .returned (meVal x) ∧ x.cyc = cost { m with miss := 0 } l ∧ x.steps = l.length) ∧ Keep None W w') := Lib.hid (fun W hk => cost_calls _ p5 l c5 W (hsl.keep hk (fun _ _ => id)) (by omega) HOK.out HMF.out)
  have HCN : Hid (∀ W, Keep None WW W → Calls Try.prog 9 #[moVal { m with miss := 0, line := 0, sets := 0 }, .slice p5 l.length c5] W fun e w' => (∃ x : Me, e = .returned (meVal x) ∧ x.cyc = cost { m with miss := 0 } l ∧ x.steps = l.length) ∧ Keep None W w') := Lib.hid (fun W hk => by rw [← hfree]; exact cost_calls _ p5 l c5 W (hsl.keep hk (fun _ _ => id)) (by omega) HOK.out HMN.out)
  have HCD : Hid (∀ W, Keep None WW W → Calls Try.prog 9 #[moVal mD, .slice p5 l.length c5] W fun e w' => (∃ x : Me, e = .returned (meVal x) ∧ x.cyc = cost mD l ∧ x.steps = l.length) ∧ Keep None W w') := Lib.hid (fun W hk => cost_calls _ p5 l c5 W (hsl.keep hk (fun _ _ => id)) (by omega) HOK.out HMD.out)
  have HCM : Hid (∀ W, Keep None WW W → Calls Try.prog 9 #[moVal m, .slice p5 l.length c5] W fun e w' => (∃ x : Me, e = .returned (meVal x) ∧ x.cyc = cost m l ∧ x.steps = l.length) ∧ Keep None W w') := Lib.hid (fun W hk => cost_calls _ p5 l c5 W (hsl.keep hk (fun _ _ => id)) (by omega) HOK.out HMO.out)
  clear hfree hsl hDo hmo hmo1 hmo2 hmo3 hmo4 hmo5 hmo6 d1 d2 d3 d4 d5 d6 d7 d8 d9 d10 d11 d12
  generalize cost { m with miss := 0 } l = C1 at *
  generalize cost mD l = CD at *
  generalize cost m l = CM at *
  refine region_anyV [isV (moVal { m with miss := 0 }), isV (.slice p5 l.length c5), CostV C1, isV (.int .i64 C1), isV (moVal { m with miss := 0, line := 0, sets := 0 }), isV (.slice p5 l.length c5), CostV C1, isV (.int .i64 C1), isV (.bool true), isV (.bool true), isV (moVal mD), isV (.slice p5 l.length c5), CostV CD, isV (.int .i64 CD), isV (moVal m), isV (.slice p5 l.length c5), CostV CM, isV (.int .i64 CM), isV (.bool true), isV (.bool true)]
    (Keep None WW) (Keep None) 75 20 (by kernel_rfl) (by decide) (by kernel_rfl) (by kernel_rfl) (by kernel_rfl) rfl ?_ (by kernel_rfl) ?_ (Keep.refl None _).drew ?_ ?_
  · intro i w1 w2 v h1 h2
    match i with
    | 0 | 1 | 2 | 3 | 4 | 5 | 6 | 7 | 8 | 9 | 10 | 11 | 12 | 13 | 14 | 15 | 16 | 17 | 18 | 19 => exact h1
    | _ + 20 => trivial
  · intro i w o ho hi
    match i with
    | 20 => trivial
    | _ + 21 => trivial
  · refine ⟨?_, ?_, ?_, ?_, ?_, ?_, ?_, ?_, ?_, ?_, ?_, ?_, ?_, ?_, ?_, ?_, ?_, ?_, ?_, ?_, trivial⟩
    · exact sv_loadW (vw_free rfl) 27 g8 0 (moEnc { m with miss := 0 }) rfl (vdep_f rfl rfl) (fun w' hI => range_of_obj (Keep.obj hI HBX8.out id)) _ Try.underlying27 rfl 12 Try.sizeModel rfl (fun _ => Keep.refl None _) (fun _ => rfl)
    · exact sv_evW (vw_free rfl) [(7, .slice p5 l.length c5)] (by simp only [List.forall_mem_singleton]; exact vdep_f rfl rfl) _ (by simp only [List.forall_mem_singleton]; intro a w' h1 hI; go_simp) (fun _ => Keep.refl None _) (fun _ => rfl)
    · refine sv_callW (vw_free rfl) [(55, moVal { m with miss := 0 }), (56, .slice p5 l.length c5)] (by simp only [List.forall_mem_cons, List.forall_mem_nil, and_true]; exact ⟨vdep_e 0 rfl rfl (fun _ _ h => h), vdep_e 1 rfl rfl (fun _ _ h => h), by simp⟩) 9 #[moVal { m with miss := 0 }, .slice p5 l.length c5] (by simp only [List.forall_mem_cons]; rintro a w' ⟨h1, h2, -⟩; go_simp) ?_
      intro w' hI
      refine (HCF.out w' hI).mono ?_
      rintro e wc ⟨⟨x, rfl, hx1, -⟩, hk⟩
      exact ⟨_, rfl, Keep.trans hI hk, hk, x, rfl, hx1⟩
    · refine sv_passW (vw_free rfl) 2 57 rfl rfl ?_ (fun _ => Keep.refl None _)
      rintro a w' v ⟨x, rfl, hx⟩ e1 hI
      exact ⟨.int .i64 x.cyc, run_fieldOp a w' x _ e1 rfl, by rw [hx]; rfl⟩
    · exact sv_loadW (vw_free rfl) 27 g9 0 (moEnc { m with miss := 0, line := 0, sets := 0 }) rfl (vdep_f rfl rfl) (fun w' hI => range_of_obj (Keep.obj hI HBX9.out id)) _ Try.underlying27 rfl 12 Try.sizeModel rfl (fun _ => Keep.refl None _) (fun _ => rfl)
    · exact sv_evW (vw_free rfl) [(7, .slice p5 l.length c5)] (by simp only [List.forall_mem_singleton]; exact vdep_f rfl rfl) _ (by simp only [List.forall_mem_singleton]; intro a w' h1 hI; go_simp) (fun _ => Keep.refl None _) (fun _ => rfl)
    · refine sv_callW (vw_free rfl) [(59, moVal { m with miss := 0, line := 0, sets := 0 }), (60, .slice p5 l.length c5)] (by simp only [List.forall_mem_cons, List.forall_mem_nil, and_true]; exact ⟨vdep_e 4 rfl rfl (fun _ _ h => h), vdep_e 5 rfl rfl (fun _ _ h => h), by simp⟩) 9 #[moVal { m with miss := 0, line := 0, sets := 0 }, .slice p5 l.length c5] (by simp only [List.forall_mem_cons]; rintro a w' ⟨h1, h2, -⟩; go_simp) ?_
      intro w' hI
      refine (HCN.out w' hI).mono ?_
      rintro e wc ⟨⟨x, rfl, hx1, -⟩, hk⟩
      exact ⟨_, rfl, Keep.trans hI hk, hk, x, rfl, hx1⟩
    · refine sv_passW (vw_free rfl) 6 61 rfl rfl ?_ (fun _ => Keep.refl None _)
      rintro a w' v ⟨x, rfl, hx⟩ e1 hI
      exact ⟨.int .i64 x.cyc, run_fieldOp a w' x _ e1 rfl, by rw [hx]; rfl⟩
    · exact sv_evW (vw_free rfl) [(58, .int .i64 C1), (62, .int .i64 C1)] (by simp only [List.forall_mem_cons, List.forall_mem_nil, and_true]; exact ⟨vdep_e 3 rfl rfl (fun _ _ h => h), vdep_e 7 rfl rfl (fun _ _ h => h), by simp⟩) (.bool true) (by simp only [List.forall_mem_cons]; rintro a w' ⟨h1, h2, -⟩ hI; go_simp) (fun _ => Keep.refl None _) (fun _ => rfl)
    · exact sv_evW (vw_free rfl) [(63, .bool true)] (by simp only [List.forall_mem_singleton]; exact vdep_e 8 rfl rfl (fun _ _ h => h)) _ (by simp only [List.forall_mem_singleton]; intro a w' h1 hI; go_simp) (fun _ => Keep.refl None _) (fun _ => rfl)
    · exact sv_loadW (vw_on 9 64 true rfl rfl rfl (fun _ _ h => h)) 27 g10 0 (moEnc mD) rfl (vdep_f rfl rfl) (fun w' hI => range_of_obj (Keep.obj hI HBX10.out id)) _ Try.underlying27 rfl 12 Try.sizeModel rfl (fun _ => Keep.refl None _) (fun _ => rfl)
    · exact sv_evW (vw_on 9 64 true rfl rfl rfl (fun _ _ h => h)) [(7, .slice p5 l.length c5)] (by simp only [List.forall_mem_singleton]; exact vdep_f rfl rfl) _ (by simp only [List.forall_mem_singleton]; intro a w' h1 hI; go_simp) (fun _ => Keep.refl None _) (fun _ => rfl)
    · refine sv_callW (vw_on 9 64 true rfl rfl rfl (fun _ _ h => h)) [(65, moVal mD), (66, .slice p5 l.length c5)] (by simp only [List.forall_mem_cons, List.forall_mem_nil, and_true]; exact ⟨vdep_e 10 rfl rfl (fun _ _ h => h), vdep_e 11 rfl rfl (fun _ _ h => h), by simp⟩) 9 #[moVal mD, .slice p5 l.length c5] (by simp only [List.forall_mem_cons]; rintro a w' ⟨h1, h2, -⟩; go_simp) ?_
      intro w' hI
      refine (HCD.out w' hI).mono ?_
      rintro e wc ⟨⟨x, rfl, hx1, -⟩, hk⟩
      exact ⟨_, rfl, Keep.trans hI hk, hk, x, rfl, hx1⟩
    · refine sv_passW (vw_on 9 64 true rfl rfl rfl (fun _ _ h => h)) 12 67 rfl rfl ?_ (fun _ => Keep.refl None _)
      rintro a w' v ⟨x, rfl, hx⟩ e1 hI
      exact ⟨.int .i64 x.cyc, run_fieldOp a w' x _ e1 rfl, by rw [hx]; rfl⟩
    · exact sv_loadW (vw_on 9 64 true rfl rfl rfl (fun _ _ h => h)) 27 g6 0 (moEnc m) rfl (vdep_f rfl rfl) (fun w' hI => range_of_obj (Keep.obj hI HBX6.out id)) _ Try.underlying27 rfl 12 Try.sizeModel rfl (fun _ => Keep.refl None _) (fun _ => rfl)
    · exact sv_evW (vw_on 9 64 true rfl rfl rfl (fun _ _ h => h)) [(7, .slice p5 l.length c5)] (by simp only [List.forall_mem_singleton]; exact vdep_f rfl rfl) _ (by simp only [List.forall_mem_singleton]; intro a w' h1 hI; go_simp) (fun _ => Keep.refl None _) (fun _ => rfl)
    · refine sv_callW (vw_on 9 64 true rfl rfl rfl (fun _ _ h => h)) [(69, moVal m), (70, .slice p5 l.length c5)] (by simp only [List.forall_mem_cons, List.forall_mem_nil, and_true]; exact ⟨vdep_e 14 rfl rfl (fun _ _ h => h), vdep_e 15 rfl rfl (fun _ _ h => h), by simp⟩) 9 #[moVal m, .slice p5 l.length c5] (by simp only [List.forall_mem_cons]; rintro a w' ⟨h1, h2, -⟩; go_simp) ?_
      intro w' hI
      refine (HCM.out w' hI).mono ?_
      rintro e wc ⟨⟨x, rfl, hx1, -⟩, hk⟩
      exact ⟨_, rfl, Keep.trans hI hk, hk, x, rfl, hx1⟩
    · refine sv_passW (vw_on 9 64 true rfl rfl rfl (fun _ _ h => h)) 16 71 rfl rfl ?_ (fun _ => Keep.refl None _)
      rintro a w' v ⟨x, rfl, hx⟩ e1 hI
      exact ⟨.int .i64 x.cyc, run_fieldOp a w' x _ e1 rfl, by rw [hx]; rfl⟩
    · exact sv_evW (vw_on 9 64 true rfl rfl rfl (fun _ _ h => h)) [(68, .int .i64 CD), (72, .int .i64 CM)] (by simp only [List.forall_mem_cons, List.forall_mem_nil, and_true]; exact ⟨vdep_e 13 rfl rfl (fun _ _ h => h), vdep_e 17 rfl rfl (fun _ _ h => h), by simp⟩) (.bool true) (by simp only [List.forall_mem_cons]; rintro a w' ⟨h1, h2, -⟩ hI; go_simp) (fun _ => Keep.refl None _) (fun _ => rfl)
    · exact sv_evW (vw_free rfl) [(64, .bool true), (73, .bool true)] (by simp only [List.forall_mem_cons, List.forall_mem_nil, and_true]; exact ⟨vdep_e 9 rfl rfl (fun _ _ h => h), vdep_e 18 rfl rfl (fun _ _ h => h), by simp⟩) (.bool true) (by simp only [List.forall_mem_cons]; rintro a w' ⟨h1, h2, -⟩ hI; go_simp) (fun _ => Keep.refl None _) (fun _ => rfl)
  intro f' wv hkinds hI
  have k19 : f' 74 = .bool true := hkinds 19 _ 74 (by omega) rfl rfl
  simp only [putsOf, Act.put, List.take_succ_cons, List.take_zero, List.drop_succ_cons, List.drop_zero, List.setIfInBounds_toArray, List.set_cons_zero, List.set_cons_succ, k19]
  have HKV := Lib.hid hI
  clear hkinds k19 hI
  go_wp2_with (fail)
  go_ret
  refine ⟨rfl, ?_⟩
  have h1 : Keep (fun x => w.heap.size ≤ x) w wv := ((HKA.out.trans (HKT5.out.weaken (fun x _ h => by show w.heap.size ≤ x; omega))).trans (HKT.out.weaken (fun x _ h => by show w.heap.size ≤ x; omega))).trans (keep_any HKV.out)
  exact (Keep.refl None w).andThen h1 (fun x h2 h3 => by have h4 : w.heap.size ≤ x := h3; omega)

end Go.Proofs.Ytpdnfekhfagfkaa
