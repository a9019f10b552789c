/-
  Chapter 19: pipeline.each: the measures of fetches.
-/
import Derived.Test.YtpdnfekhfagfkaaPipK
namespace Go.Proofs.Ytpdnfekhfagfkaa
open Go.RowKit PI

theorem Try.infoMe : (Try.prog.info? 33).map (fun i => (i.zero, i.size, i.bytes)) = some (some (meVal ⟨0, 0, 0, 0, 0, 0, 0, 0, 0, 0⟩), 10, 80) := by kernel_rfl
/-- The measure of a fetch. -/
def meOf (m : Mod) (f : Fe) (b : Bool) (ms fa : Int) : Me :=
  ⟨if isCall f then 1 else 0, if f.kind == 5 then 1 else 0, 1, cyc m f b ms fa, if f.kind == 1 || f.kind == 2 then 1 else 0, if b then 1 else 0, if 0 < m.sets then ((touched 4096 m.line f).length : Int) else 0, ms, fa, 0⟩
def meL (m : Mod) : List Fe → List Bool → List Int → List Int → List Me
  | f :: l, b :: bs, a :: zs, c :: cs => meOf m f b a c :: meL m l bs zs cs
  | _, _, _, _ => []
theorem meL_len (m : Mod) : ∀ (l : List Fe) (bs : List Bool) (zs cs : List Int), bs.length = l.length → zs.length = l.length → cs.length = l.length → (meL m l bs zs cs).length = l.length
  | [], _, _, _, _, _, _ => by simp [meL]
  | f :: l, b :: bs, a :: zs, c :: cs, h1, h2, h3 => by
    simp only [List.length_cons, Nat.add_right_cancel_iff] at h1 h2 h3
    simp [meL, meL_len m l bs zs cs h1 h2 h3]
  | _ :: _, [], _, _, h, _, _ => by simp at h
  | _ :: _, _ :: _, [], _, _, h, _ => by simp at h
  | _ :: _, _ :: _, _ :: _, [], _, _, h => by simp at h
theorem meL_snoc (m : Mod) : ∀ (k : Nat) (l : List Fe) (bs : List Bool) (zs cs : List Int) (f : Fe) (b : Bool) (a c : Int), l[k]? = some f → bs[k]? = some b → zs[k]? = some a → cs[k]? = some c →
    meL m (l.take (k + 1)) bs zs cs = meL m (l.take k) bs zs cs ++ [meOf m f b a c]
  | 0, f :: l, b :: bs, a :: zs, c :: cs, f', b', a', c', h1, h2, h3, h4 => by
    simp only [List.getElem?_cons_zero, Option.some.injEq] at h1 h2 h3 h4
    subst h1 h2 h3 h4
    simp [meL]
  | k + 1, f :: l, b :: bs, a :: zs, c :: cs, f', b', a', c', h1, h2, h3, h4 => by
    simp only [List.getElem?_cons_succ] at h1 h2 h3 h4
    have := meL_snoc m k l bs zs cs f' b' a' c' h1 h2 h3 h4
    simp [meL, this]
  | _, [], _, _, _, _, _, _, _, h, _, _, _ => by simp at h
  | _, _ :: _, [], _, _, _, _, _, _, _, h, _, _ => by simp at h
  | _, _ :: _, _ :: _, [], _, _, _, _, _, _, _, h, _ => by simp at h
  | _, _ :: _, _ :: _, _ :: _, [], _, _, _, _, _, _, _, h => by simp at h
theorem meL_takelen (m : Mod) (k : Nat) (l : List Fe) (bs : List Bool) (zs cs : List Int) (h1 : bs.length = l.length) (h2 : zs.length = l.length) (h3 : cs.length = l.length) (hk : k ≤ l.length) : (meL m (l.take k) bs zs cs).length = k := by
  induction k with
  | zero => simp [meL]
  | succ k ih =>
    rw [meL_snoc m k l bs zs cs _ _ _ _ (List.getElem?_eq_getElem (by omega)) (List.getElem?_eq_getElem (by omega)) (List.getElem?_eq_getElem (by omega)) (List.getElem?_eq_getElem (by omega)), List.length_append, ih (by omega)]
    rfl

/-- What a model's numbers are bounded by. -/
structure MoOk (m : Mod) : Prop where
  step : 0 ≤ m.step ∧ m.step ≤ 1000
  mis : 0 ≤ m.mis ∧ m.mis ≤ 1000
  miss : 0 ≤ m.miss ∧ m.miss ≤ 1000
  fault : 0 ≤ m.fault ∧ m.fault ≤ 1000
  call : 0 ≤ m.call ∧ m.call ≤ 1000
  ind : 0 ≤ m.ind ∧ m.ind ≤ 1000
  ways : 1 ≤ m.sets → 1 ≤ m.ways ∧ m.ways ≤ 900
  res : m.res ≤ 900

/-- A slice that a call has made, in a world behind. -/
def OwnK {α : Type} (enc : α → List Value) (size : Nat) (e : TypeId) (base : Nat) (xs : List α) (w : World) (v : Value) : Prop :=
  ∃ p c, v = .slice p xs.length c ∧ Own enc size e base w (.slice p xs.length c) xs
theorem OwnK.keep {α : Type} {enc : α → List Value} {size : Nat} {e : TypeId} {base : Nat} {xs : List α} {w w' : World} {v : Value} (h : OwnK enc size e base xs w v) (k : Keep None w w') : OwnK enc size e base xs w' v := by
  obtain ⟨p, c, h1, h2⟩ := h
  exact ⟨p, c, h1, h2.keep k (fun _ _ => id)⟩

theorem el_cell {α : Type} (enc : α → List Value) {val : α → Value} (he : ∀ x, enc x = [val x]) {e : TypeId} {base : Nat} {w : World} {g n c : Nat} {xs : List α} (h : Own enc 1 e base w (.slice (some ⟨g, 0, none⟩) n c) xs) {i : Nat} {x : α} (hi : xs[i]? = some x) : w.cell? ⟨g, i, none⟩ = some (val x) := by
  obtain ⟨-, -, -, hsl, -⟩ := h.reads (fun y => by rw [he]; rfl)
  rcases hsl with hs | ⟨b, o, hb, hs⟩
  · rw [hs] at hi; simp at hi
  · cases hb
    have h2 := hs.range hi
    have := h2 0 (val x) (by rw [he]; rfl)
    simpa using this
theorem cell_put {w : World} {g : Nat} {C : Array Value} {e : TypeId} {fr : Nat × Nat} (h : w.heap[g]? = some (.cells C e fr)) (i : Nat) (v : Value) : (w.setCell ⟨g, i, none⟩ v).heap[g]? = some (.cells (C.setIfInBounds i v) e fr) := by
  simp [World.setCell, Array.getElem?_modify, h]
theorem cells_free {w : World} {g : Nat} {C : Array Value} {e : TypeId} (h : w.heap[g]? = some (.cells C e (0, 0))) (i : Nat) : w.frozen? ⟨g, i, none⟩ = false := by simp [World.frozen?, h]
/-- What the rounds of pipeline.each keep. -/
def EaInv (m : Mod) (l : List Fe) (base : Nat) (w0 : World) (t8 t24 : Value) (w : World) : Prop :=
  ∃ (k : Nat) (q : Option Addr) (c : Nat), t24 = .int .i64 k ∧ k ≤ l.length ∧ t8 = .slice q k c ∧ Own meEnc 10 33 base w (.slice q k c) (meL m (l.take k) (wrongs m.pred l) (misses m l) (faults m l)) ∧ Keep (base ≤ ·) w0 w

set_option maxRecDepth 100000 in
set_option maxHeartbeats 4000000 in
theorem each_calls (m : Mod) (p : Option Addr) (l : List Fe) (c : Nat) (w : World) (h : SliceV feEnc 3 w p l) (hl : l.length ≤ 900) (hok : ∀ f ∈ l, FeOk f) (hm : MoOk m) :
    Calls Try.prog 11 #[moVal m, .slice p l.length c] w (OwnPost meEnc 10 33 (meL m l (wrongs m.pred l) (misses m l) (faults m l)) w) := by
  obtain ⟨im, him, hv0, hv1, hv2⟩ := info_parts Try.infoMe
  have HS := Lib.hid h
  have HOK := Lib.hid hok
  have HMO := Lib.hid hm
  clear h hok hm
  have hlw := wrongs_len m.pred l
  have hlm := misses_len m l
  have hlf := faults_len m l
  unfold moVal moEnc
  go_enter Try.func11, Try.ntmps11
  go_upto_region 1 with (fail)
  generalize hw0 : World.alloc _ _ = W0
  have hk0 : Keep None w W0 := by rw [← hw0]; exact (Keep.refl _ _).alloc _
  have hm0 : W0.heap[w.heap.size]? = some (.cells (moEnc m).toArray 27 (0, 0)) := by rw [← hw0]; exact heap_alloc_new _ _
  have hs0 : w.heap.size < W0.heap.size := by rw [← hw0]; simp
  have HM0 := Lib.hid hm0
  have HK0 := Lib.hid hk0
  clear hw0 hm0 hk0
  refine region_anyV [isV (.pointer (some ⟨w.heap.size, 11, none⟩)), isV (.int .i64 m.pred), isV (.slice p l.length c), OwnK boolEnc 1 4 W0.heap.size (wrongs m.pred l), isV (moVal m), isV (.slice p l.length c), OwnK intEnc 1 3 W0.heap.size (misses m l), isV (moVal m), isV (.slice p l.length c), OwnK intEnc 1 3 W0.heap.size (faults m l), OwnK boolEnc 1 4 W0.heap.size (wrongs m.pred l), OwnK intEnc 1 3 W0.heap.size (misses m l)]
    (Keep None W0) (Keep None) 75 12 (by kernel_rfl) (by decide) (by kernel_rfl) (by kernel_rfl) (by kernel_rfl) rfl ?_ (by kernel_rfl) ?_ (Keep.refl None W0).drew ?_ ?_
  · intro i w1 w2 v h1 h2
    match i with
    | 0 | 1 | 2 | 4 | 5 | 7 | 8 => exact h1
    | 3 | 10 => exact OwnK.keep h1 h2
    | 6 | 11 => exact OwnK.keep h1 h2
    | 9 => exact OwnK.keep h1 h2
    | _ + 12 => trivial
  · intro i w o ho hi
    match i with
    | 12 => trivial
    | _ + 13 => trivial
  · refine ⟨?_, ?_, ?_, ?_, ?_, ?_, ?_, ?_, ?_, ?_, ?_, ?_, trivial⟩
    · exact sv_ev [(2, .pointer (some ⟨w.heap.size, 0, none⟩))] (by simp only [List.forall_mem_singleton]; exact vdep_f rfl rfl) rfl _ (by simp only [List.forall_mem_singleton]; intro a w' h1 hI; go_simp) (fun _ => Keep.refl None _) (fun _ => rfl)
    · exact sv_ev [(12, .pointer (some ⟨w.heap.size, 11, none⟩))] (by simp only [List.forall_mem_singleton]; exact vdep_e 0 rfl rfl (fun _ _ h => h)) rfl _ (by simp only [List.forall_mem_singleton]; intro a w' h1 hI; have q11 := mo_cell (Keep.obj hI HM0.out id) 11 _ rfl; go_simp) (fun _ => Keep.refl None _) (fun _ => rfl)
    · exact sv_ev [(1, .slice p l.length c)] (by simp only [List.forall_mem_singleton]; exact vdep_f rfl rfl) rfl _ (by simp only [List.forall_mem_singleton]; intro a w' h1 hI; go_simp) (fun _ => Keep.refl None _) (fun _ => rfl)
    · refine sv_call [(13, .int .i64 m.pred), (14, .slice p l.length c)] (by simp only [List.forall_mem_cons, List.forall_mem_nil, and_true]; exact ⟨vdep_e 1 rfl rfl (fun _ _ h => h), vdep_e 2 rfl rfl (fun _ _ h => h), by simp⟩) rfl 14 #[.int .i64 m.pred, .slice p l.length c] (by simp only [List.forall_mem_cons]; rintro a w' ⟨h1, h2, -⟩; go_simp) ?_
      intro w' hI
      refine (preach_calls m.pred p l c w' (HS.out.keep (HK0.out.trans hI) (fun _ _ => id)) (by omega) HOK.out).mono ?_
      rintro e w5 ⟨p', c', rfl, ho, hk⟩
      exact ⟨_, rfl, Keep.trans hI hk, hk, p', c', rfl, ho.lower hI.size⟩
    · exact sv_load 27 w.heap.size 0 (moEnc m) rfl (vdep_f rfl rfl) rfl (fun w' hI => range_of_obj (Keep.obj hI HM0.out id)) _ Try.underlying27 rfl 12 Try.sizeModel rfl (fun _ => Keep.refl None _) (fun _ => rfl)
    · exact sv_ev [(1, .slice p l.length c)] (by simp only [List.forall_mem_singleton]; exact vdep_f rfl rfl) rfl _ (by simp only [List.forall_mem_singleton]; intro a w' h1 hI; go_simp) (fun _ => Keep.refl None _) (fun _ => rfl)
    · refine sv_call [(16, moVal m), (17, .slice p l.length c)] (by simp only [List.forall_mem_cons, List.forall_mem_nil, and_true]; exact ⟨vdep_e 4 rfl rfl (fun _ _ h => h), vdep_e 5 rfl rfl (fun _ _ h => h), by simp⟩) rfl 15 #[moVal m, .slice p l.length c] (by simp only [List.forall_mem_cons]; rintro a w' ⟨h1, h2, -⟩; go_simp) ?_
      intro w' hI
      refine (caeach_calls m p l c w' (HS.out.keep (HK0.out.trans hI) (fun _ _ => id)) (by omega) HOK.out HMO.out.ways).mono ?_
      rintro e w5 ⟨p', c', rfl, ho, hk⟩
      exact ⟨_, rfl, Keep.trans hI hk, hk, p', c', rfl, ho.lower hI.size⟩
    · exact sv_load 27 w.heap.size 0 (moEnc m) rfl (vdep_f rfl rfl) rfl (fun w' hI => range_of_obj (Keep.obj hI HM0.out id)) _ Try.underlying27 rfl 12 Try.sizeModel rfl (fun _ => Keep.refl None _) (fun _ => rfl)
    · exact sv_ev [(1, .slice p l.length c)] (by simp only [List.forall_mem_singleton]; exact vdep_f rfl rfl) rfl _ (by simp only [List.forall_mem_singleton]; intro a w' h1 hI; go_simp) (fun _ => Keep.refl None _) (fun _ => rfl)
    · refine sv_call [(19, moVal m), (20, .slice p l.length c)] (by simp only [List.forall_mem_cons, List.forall_mem_nil, and_true]; exact ⟨vdep_e 7 rfl rfl (fun _ _ h => h), vdep_e 8 rfl rfl (fun _ _ h => h), by simp⟩) rfl 16 #[moVal m, .slice p l.length c] (by simp only [List.forall_mem_cons]; rintro a w' ⟨h1, h2, -⟩; go_simp) ?_
      intro w' hI
      refine (pgeach_calls m p l c w' (HS.out.keep (HK0.out.trans hI) (fun _ _ => id)) (by omega) HOK.out HMO.out.res).mono ?_
      rintro e w5 ⟨p', c', rfl, ho, hk⟩
      exact ⟨_, rfl, Keep.trans hI hk, hk, p', c', rfl, ho.lower hI.size⟩
    · refine sv_pass 3 15 rfl rfl rfl ?_ (fun _ => Keep.refl None _)
      intro a w' v hv he hI
      exact ⟨v, by go_simp, hv⟩
    · refine sv_pass 6 18 rfl rfl rfl ?_ (fun _ => Keep.refl None _)
      intro a w' v hv he hI
      exact ⟨v, by go_simp, hv⟩
  intro f' w5 hkinds hI
  obtain ⟨p5, c5, k5, ho5⟩ : OwnK boolEnc 1 4 W0.heap.size (wrongs m.pred l) w5 (f' 5) := hkinds 10 _ 5 (by omega) rfl rfl
  obtain ⟨p6, c6, k6, ho6⟩ : OwnK intEnc 1 3 W0.heap.size (misses m l) w5 (f' 6) := hkinds 11 _ 6 (by omega) rfl rfl
  obtain ⟨p7, c7, k7, ho7⟩ : OwnK intEnc 1 3 W0.heap.size (faults m l) w5 (f' 21) := hkinds 9 _ 21 (by omega) rfl rfl
  rw [hlw] at k5 ho5
  rw [hlm] at k6 ho6
  rw [hlf] at k7 ho7
  have HLW := Lib.hid hlw
  have HLM := Lib.hid hlm
  have HLF := Lib.hid hlf
  clear hlw hlm hlf
  have HO5 := Lib.hid ho5
  have HO6 := Lib.hid ho6
  have HO7 := Lib.hid ho7
  have HK5 := Lib.hid hI
  simp only [putsOf, Act.put, List.take_succ_cons, List.take_zero, List.drop_succ_cons, List.drop_zero, List.setIfInBounds_toArray, List.set_cons_zero, List.set_cons_succ, k5, k6, k7]
  clear hkinds k5 k6 k7 ho5 ho6 ho7 hI
  go_wp2_with (fail)
  have hz5 := HK5.out.size
  go_loopw [8, 24] (EaInv m l w5.heap.size w5) (fun _ i _ => l.length - (intOf i).toNat)
  case atStart => exact ⟨0, none, 0, by simp, by omega, rfl, Own.nil _ _ _ _ _, Keep.refl _ _⟩
  case round =>
    obtain ⟨k, q, cq, rfl, hk, rfl, hown, hkr⟩ := hrel
    have hzr := hkr.size
    have HOWN := Lib.hid hown
    have HKR := Lib.hid hkr
    clear hown hkr
    by_cases hlt : k < l.length
    · obtain ⟨f, hf⟩ : ∃ f, l[k]? = some f := ⟨l[k], List.getElem?_eq_getElem hlt⟩
      have hfo := HOK.out f (List.mem_of_getElem? hf)
      have HKW : Hid (Keep (W0.heap.size ≤ ·) w wr) := Lib.hid (((HK0.out.trans HK5.out).weaken (fun _ _ h => h.elim)).trans (HKR.out.weaken (fun x _ h => by have h2 : w5.heap.size ≤ x := h; show W0.heap.size ≤ x; omega)))
      rcases slice_old feEnc_len (by omega) HS.out (Keep.refl None w) (HKW.out.weaken (T := (w.heap.size ≤ ·)) (fun x _ h => by have h2 : W0.heap.size ≤ x := h; show w.heap.size ≤ x; omega)) with hsl | ⟨pb, po, rfl, hsl⟩
      · rw [hsl] at hlt; simp at hlt
      have HRG := Lib.hid (hsl.range hf)
      obtain ⟨b, hb⟩ : ∃ b, (wrongs m.pred l)[k]? = some b := ⟨_, List.getElem?_eq_getElem (by rw [HLW.out]; exact hlt)⟩
      obtain ⟨ms, hms⟩ : ∃ b, (misses m l)[k]? = some b := ⟨_, List.getElem?_eq_getElem (by rw [HLM.out]; exact hlt)⟩
      obtain ⟨fu, hfu⟩ : ∃ b, (faults m l)[k]? = some b := ⟨_, List.getElem?_eq_getElem (by rw [HLF.out]; exact hlt)⟩
      have HSN := Lib.hid (meL_snoc m k l _ _ _ f b ms fu hf hb hms hfu)
      have hml := meL_takelen m k l _ _ _ HLW.out HLM.out HLF.out (Nat.le_of_lt hlt)
      have hmsb := misses_nn (m := m) (l := l) (B := 1000) (fun f hf => (HOK.out f hf).2.2.2) ms (List.mem_of_getElem? hms)
      have hfub := faults_nn (m := m) (l := l) (B := 1000) (fun f hf => (HOK.out f hf).2.2.2) fu (List.mem_of_getElem? hfu)
      obtain ⟨g5, rfl, hg5⟩ := HO5.out.row boolEnc_len (by rw [HLW.out]; omega)
      obtain ⟨g6, rfl, hg6⟩ := HO6.out.row intEnc_len (by rw [HLM.out]; omega)
      obtain ⟨g7, rfl, hg7⟩ := HO7.out.row intEnc_len (by rw [HLF.out]; omega)
      have HC5 : Hid (∀ W, Keep None wr W → W.cell? ⟨g5, k, none⟩ = some (.bool b)) := Lib.hid (fun W hk => el_cell boolEnc (fun _ => rfl) (HO5.out.keep (HKR.out.trans (hk.weaken (fun _ _ h => h.elim))) (fun x h1 h2 => by have := (World.ownsRow.lt HO5.out x h1).2; have h3 : w5.heap.size ≤ x := h2; omega)) hb)
      have HC6 : Hid (∀ W, Keep None wr W → W.cell? ⟨g6, k, none⟩ = some (.int .i64 ms)) := Lib.hid (fun W hk => el_cell intEnc (fun _ => rfl) (HO6.out.keep (HKR.out.trans (hk.weaken (fun _ _ h => h.elim))) (fun x h1 h2 => by have := (World.ownsRow.lt HO6.out x h1).2; have h3 : w5.heap.size ≤ x := h2; omega)) hms)
      have HC7 : Hid (∀ W, Keep None wr W → W.cell? ⟨g7, k, none⟩ = some (.int .i64 fu)) := Lib.hid (fun W hk => el_cell intEnc (fun _ => rfl) (HO7.out.keep (HKR.out.trans (hk.weaken (fun _ _ h => h.elim))) (fun x h1 h2 => by have := (World.ownsRow.lt HO7.out x h1).2; have h3 : w5.heap.size ≤ x := h2; omega)) hfu)
      have HMB : Hid (∀ W, Keep None wr W → W.heap[w.heap.size]? = some (.cells (moEnc m).toArray 27 (0, 0))) := Lib.hid (fun W hk => (HK5.out.trans ((Keep.refl None _))).obj HM0.out id |> fun h => (HKR.out.trans (hk.weaken (fun _ _ h => h.elim))).obj h (show ¬ w5.heap.size ≤ w.heap.size by omega))
      generalize hls : meL m (l.take k) (wrongs m.pred l) (misses m l) (faults m l) = ls at *
      have HLS := Lib.hid hls
      clear hls
      clear hsl hf hb hms hfu
      obtain ⟨fa, fs, fk⟩ := f
      obtain ⟨hf0, hf1, hf2, hf3⟩ := hfo
      simp only at hf0 hf1 hf2 hf3
      go_upto_region 6 with (first
        | ((with_reducible (show wpList _ _ _ (⟨_, .load 37 (.tmp 27), _, _, _, none⟩ :: _) _ _)); go_loud (refine wpList_loadEl rfl 37 _ rfl _ _ rfl _ _ HRG.out (feEnc_len _) Try.underlying37 rfl Try.sizeFetch (.agg #[.int .i64 fa, .int .i64 fs, .int .i64 fk]) rfl ?_))
        | ((with_reducible (show wpList _ _ _ (⟨_, .store 37 (.tmp 10) _, _, _, _, none⟩ :: _) _ _)); go_loud (refine wpList_storeObj rfl 37 _ _ rfl wr.heap.size rfl [.int .i64 0, .int .i64 0, .int .i64 0] [.int .i64 fa, .int .i64 fs, .int .i64 fk] rfl _ (by simp) (heap_alloc_new _ _) 3 Try.sizeFetch rfl (by simp [Value.oneCell']) ?_; intro w2 hres2 hk2 hs2; have HR2 := Lib.hid hres2; have HK2 := Lib.hid (((Keep.refl None wr).alloc _).andThen hk2 (by intro k h1 h2; omega)); clear hres2 hk2 hs2)))
      have hs2 := HK2.out.size
      have c6 := HC6.out w2 HK2.out
      have c7 := HC7.out w2 HK2.out
      have d6 := HC6.out _ (HK2.out.alloc (.cells #[.int .i64 0, .int .i64 0, .int .i64 0, .int .i64 0, .int .i64 0, .int .i64 0, .int .i64 0, .int .i64 0, .int .i64 0, .int .i64 0] 33))
      have d7 := HC7.out _ (HK2.out.alloc (.cells #[.int .i64 0, .int .i64 0, .int .i64 0, .int .i64 0, .int .i64 0, .int .i64 0, .int .i64 0, .int .i64 0, .int .i64 0, .int .i64 0] 33))
      simp only [Act.put]
      go_cut [11] (fun t wx => t = .pointer (some ⟨w2.heap.size, 0, none⟩) ∧ wx.heap[w2.heap.size]? = some (.cells (meEnc ⟨0, 0, 1, 0, 0, 0, 0, ms, fu, 0⟩).toArray 33 (0, 0)) ∧ Keep None w2 wx)
      case first =>
        go_region
        all_goals (go_wp2_with (fail); go_meet; case rel => exact ⟨rfl, heap_alloc_new _ _, ((Keep.refl None _).alloc _).drew⟩)
      case rest =>
        obtain ⟨rfl, hx3, hk3⟩ := hcut
        have hwb : wr.heap.size < w2.heap.size := heap_lt HR2.out
        generalize w2.heap.size = bx at *
        have HK3 := Lib.hid (HK2.out.trans hk3)
        have HR3 := Lib.hid (hk3.obj HR2.out id)
        have HX3 := Lib.hid hx3
        have r2 := cell_of_row _ _ 2 _ _ _ HR3.out
        have x0 := me_cell hx3 0 _ rfl
        have x1 := me_cell hx3 1 _ rfl
        have x4 := me_cell hx3 4 _ rfl
        have y0 := cells_free hx3 0
        have y1 := cells_free hx3 1
        have y4 := cells_free hx3 4
        clear hx3 hk3 c6 c7 d6 d7 hs2 HR2 HK2
        go_upto_block 2 with (fail)
        go_cut [] (fun wx => wx.heap[bx]? = some (.cells (meEnc ⟨if isCall ⟨fa, fs, fk⟩ then 1 else 0, if fk == 5 then 1 else 0, 1, 0, if fk == 1 || fk == 2 then 1 else 0, 0, 0, ms, fu, 0⟩).toArray 33 (0, 0)) ∧ Keep (fun x => x = bx) wc wx)
        case first =>
          by_cases h1 : fk = 1
          · subst h1
            go_wp2_with (fail)
            go_meet
            case rel => exact ⟨cell_put HX3.out 4 _, keep_set _ _ _ _⟩
          have e1 : (fk == 1) = false := by simpa using h1
          by_cases h2 : fk = 2
          · subst h2
            go_wp2_with (fail)
            go_meet
            case rel => exact ⟨cell_put HX3.out 4 _, keep_set _ _ _ _⟩
          have e2 : (fk == 2) = false := by simpa using h2
          by_cases h5 : fk = 5
          · subst h5
            go_wp2_with (fail)
            go_meet
            case rel => exact ⟨cell_put (cell_put HX3.out 0 _) 1 _, (keep_set _ _ _ _).trans (keep_set _ _ _ _)⟩
          have e5 : (fk == 5) = false := by simpa using h5
          by_cases h3 : fk = 3
          · subst h3
            go_wp2_with (fail)
            go_meet
            case rel => exact ⟨cell_put HX3.out 0 _, keep_set _ _ _ _⟩
          have e3 : (fk == 3) = false := by simpa using h3
          go_wp2_with (fail)
          go_meet
          case rel => exact ⟨by simp only [isCall, e1, e2, e3, e5]; exact HX3.out, Keep.refl _ _⟩
        case rest =>
          rename World => w6
          obtain ⟨hx6, hk6⟩ := hcut
          have HK6 : Hid (Keep None wr w6) := Lib.hid (HK3.out.andThen hk6 (fun x h1 h2 => by have h3 : x = bx := h2; omega))
          have HR6 := Lib.hid (hk6.obj HR3.out (show ¬ wr.heap.size = bx by omega))
          obtain ⟨A, hA⟩ : ∃ A : Int, (if isCall ⟨fa, fs, fk⟩ then (1 : Int) else 0) = A := ⟨_, rfl⟩
          obtain ⟨I, hI⟩ : ∃ I : Int, (if fk == 5 then (1 : Int) else 0) = I := ⟨_, rfl⟩
          obtain ⟨B, hB⟩ : ∃ B : Int, (if fk == 1 || fk == 2 then (1 : Int) else 0) = B := ⟨_, rfl⟩
          rw [hA, hI, hB] at hx6
          have hA1 : 0 ≤ A ∧ A ≤ 1 := by rw [← hA]; split <;> omega
          have hI1 : 0 ≤ I ∧ I ≤ 1 := by rw [← hI]; split <;> omega
          have HEA := Lib.hid hA
          have HEI := Lib.hid hI
          have HEB := Lib.hid hB
          have HX6 := Lib.hid hx6
          have x5 := me_cell hx6 5 _ rfl
          have y5 := cells_free hx6 5
          have c5 := HC5.out w6 HK6.out
          clear hA hI hB hx6 hk6 r2 x0 x1 x4 y0 y1 y4 HK3 HR3 HX3
          go_upto_if 54 with (fail)
          go_cut [] (fun wx => wx.heap[bx]? = some (.cells (meEnc ⟨A, I, 1, 0, B, if b then 1 else 0, 0, ms, fu, 0⟩).toArray 33 (0, 0)) ∧ Keep (fun x => x = bx) w6 wx)
          case first =>
            cases b with
            | true =>
              go_wp2_with (fail)
              go_meet
              case rel => exact ⟨cell_put HX6.out 5 _, keep_set _ _ _ _⟩
            | false =>
              go_wp2_with (fail)
              go_meet
              case rel => exact ⟨HX6.out, Keep.refl _ _⟩
          case rest =>
            rename World => w7
            obtain ⟨hx7, hk7⟩ := hcut
            have HK7 : Hid (Keep None wr w7) := Lib.hid (HK6.out.andThen hk7 (fun x h1 h2 => by have h3 : x = bx := h2; omega))
            have HR7 := Lib.hid (hk7.obj HR6.out (show ¬ wr.heap.size = bx by omega))
            obtain ⟨M, hM⟩ : ∃ M : Int, (if b then (1 : Int) else 0) = M := ⟨_, rfl⟩
            rw [hM] at hx7
            have hM1 : 0 ≤ M ∧ M ≤ 1 := by rw [← hM]; split <;> omega
            have HEM := Lib.hid hM
            have HX7 := Lib.hid hx7
            have HM7 := Lib.hid (HMB.out w7 HK7.out)
            have m6 := mo_cell HM7.out 6 _ rfl
            have m7 := mo_cell HM7.out 7 _ rfl
            have hbx7 : bx < w7.heap.size := heap_lt hx7
            clear hM hx7 hk7 x5 y5 c5 HK6 HR6 HX6
            go_upto_if 58 with (fail)
            go_cut [] (fun wx => wx.heap[bx]? = some (.cells (meEnc ⟨A, I, 1, 0, B, M, if 0 < m.sets then ((touched 4096 m.line ⟨fa, fs, fk⟩).length : Int) else 0, ms, fu, 0⟩).toArray 33 (0, 0)) ∧ Keep (fun x => x = bx) w7 wx)
            case first =>
              by_cases hset : 0 < m.sets
              · have HIF : Hid ((if 0 < m.sets then ((touched 4096 m.line ⟨fa, fs, fk⟩).length : Int) else 0) = ((touched 4096 m.line ⟨fa, fs, fk⟩).length : Int)) := Lib.hid (if_pos hset)
                go_wp2_with (first
                  | ((with_reducible (show wpList _ _ _ (⟨_, .load 37 (.tmp 10), _, _, _, none⟩ :: _) _ _)); go_loud (refine wpList_loadEl (enc := listEnc) (size := 3) rfl 37 _ rfl _ _ rfl _ _ (range_of_obj HR7.out) rfl Try.underlying37 rfl Try.sizeFetch (.agg #[.int .i64 fa, .int .i64 fs, .int .i64 fk]) rfl ?_))
                  | (go_at_call 17; go_loud (refine (touched_calls m.line ⟨fa, fs, fk⟩ w7 hf3).mono ?_; rintro e w8 ⟨pL, cL, rfl, hoL, hkL⟩; have x6 := me_cell (hkL.obj HX7.out id) 6 _ rfl; have y6 := cells_free (hkL.obj HX7.out id) 6; have HX8 := Lib.hid (hkL.obj HX7.out id); have HKL := Lib.hid hkL; clear hoL hkL)))
                go_meet
                case rel => exact ⟨by rw [HIF.out]; exact cell_put HX8.out 6 _, (HKL.out.weaken (fun _ _ h => h.elim)).trans (keep_set _ _ _ _)⟩
              · have HIF : Hid ((if 0 < m.sets then ((touched 4096 m.line ⟨fa, fs, fk⟩).length : Int) else 0) = 0) := Lib.hid (if_neg hset)
                go_wp2_with (fail)
                go_meet
                case rel => exact ⟨by rw [HIF.out]; exact HX7.out, Keep.refl _ _⟩
            case rest =>
              rename World => w9
              obtain ⟨hx9, hk9⟩ := hcut
              have HK9 : Hid (Keep None wr w9) := Lib.hid (HK7.out.andThen hk9 (fun x h1 h2 => by have h3 : x = bx := h2; omega))
              have hmo := HMO.out
              have htl := touched_len 4096 m.line ⟨fa, fs, fk⟩
              simp only at htl
              obtain ⟨E, hE⟩ : ∃ E : Int, (if 0 < m.sets then ((touched 4096 m.line ⟨fa, fs, fk⟩).length : Int) else 0) = E := ⟨_, rfl⟩
              rw [hE] at hx9
              have HEE := Lib.hid hE
              have hib : inB (pairs m ⟨A, I, 1, 0, B, M, E, ms, fu, 0⟩) := by
                intro x hx
                simp only [pairs, List.mem_cons, List.not_mem_nil, or_false] at hx
                have := hmo.step; have := hmo.mis; have := hmo.miss; have := hmo.fault; have := hmo.call; have := hmo.ind
                rcases hx with rfl | rfl | rfl | rfl | rfl | rfl <;> simp only <;> omega
              have hcc := cycles_calls m ⟨A, I, 1, 0, B, M, E, ms, fu, 0⟩ w9 hib
              have hcv : psum (pairs m ⟨A, I, 1, 0, B, M, E, ms, fu, 0⟩) = cyc m ⟨fa, fs, fk⟩ b ms fu := by
                rw [pairs_sum]
                simp only
                unfold cyc
                rw [← HEM.out, ← HEA.out, ← HEI.out]
                simp only
                cases b <;> cases isCall ⟨fa, fs, fk⟩ <;> cases (fk == 5) <;> simp <;> omega
              rw [hcv] at hcc
              have HCC := Lib.hid hcc
              have HX9 := Lib.hid hx9
              have HM9 := Lib.hid (HMB.out w9 HK9.out)
              have HME : Hid (meOf m ⟨fa, fs, fk⟩ b ms fu = ⟨A, I, 1, cyc m ⟨fa, fs, fk⟩ b ms fu, B, M, E, ms, fu, 0⟩) := Lib.hid (by unfold meOf; rw [HEM.out, HEA.out, HEE.out]; simp only; rw [HEI.out, HEB.out])
              have hbx9 : bx < w9.heap.size := heap_lt hx9
              clear hE hib hcv hcc hx9 hk9 hmo htl m6 m7 HK7 HR7 HX7 HM7
              generalize cyc m ⟨fa, fs, fk⟩ b ms fu = C at *
              go_upto_region 20 with (first
                | ((with_reducible (show wpList _ _ _ (⟨_, .load 27 (.tmp 2), _, _, _, none⟩ :: _) _ _)); go_loud (refine wpList_loadEl (enc := listEnc) (size := 12) rfl 27 _ rfl _ _ rfl _ _ (range_of_obj HM9.out) rfl Try.underlying27 rfl Try.sizeModel (moVal m) rfl ?_))
                | ((with_reducible (show wpList _ _ _ (⟨some 66, .load 33 (.tmp 11), _, _, _, none⟩ :: _) _ _)); go_loud (refine wpList_loadEl rfl 33 _ rfl _ _ rfl _ _ (range_of_obj HX9.out) (meEnc_len _) Try.underlying33 rfl Try.sizeMeasure (meVal ⟨A, I, 1, 0, B, M, E, ms, fu, 0⟩) rfl ?_))
                | (go_at_call 18; go_loud (refine HCC.out.mono ?_; rintro e w10 ⟨rfl, hk10⟩; have x3 := me_cell (hk10.obj HX9.out id) 3 _ rfl; have y3 := cells_free (hk10.obj HX9.out id) 3; have HX10 := Lib.hid (hk10.obj HX9.out id); have HK10 := Lib.hid hk10; clear hk10)))
              have hx11 : (w10.setCell ⟨bx, 3, none⟩ (.int .i64 C)).heap[bx]? = some (.cells (meEnc ⟨A, I, 1, C, B, M, E, ms, fu, 0⟩).toArray 33 (0, 0)) := cell_put HX10.out 3 _
              have hk11 : Keep None wr (w10.setCell ⟨bx, 3, none⟩ (.int .i64 C)) := (HK9.out.trans HK10.out).andThen (keep_set w10 bx 3 _) (fun x h1 h2 => by have h3 : x = bx := h2; omega)
              generalize World.setCell _ _ _ = w11 at *
              have hz11 := hk11.size
              have HX11 := Lib.hid hx11
              have HK11 := Lib.hid hk11
              clear hx11 hk11 HX10 HK10 x3 y3 HX9 HM9 HK9 HCC
              go_wp2_with (first
                | ((with_reducible (show wpList _ _ _ (⟨_, .load 33 (.tmp 11), _, _, _, none⟩ :: _) _ _)); go_loud (refine wpList_loadEl rfl 33 _ rfl _ _ rfl _ _ (range_of_obj HX11.out) (meEnc_len _) Try.underlying33 rfl Try.sizeMeasure (.agg #[.int .i64 A, .int .i64 I, .int .i64 1, .int .i64 C, .int .i64 B, .int .i64 M, .int .i64 E, .int .i64 ms, .int .i64 fu, .int .i64 0]) rfl ?_))
                | (at_builtin; go_loud (refine wpList_pushAt rfl _ _ 42 rfl w5.heap.size _ im _ 80 Try.underlying42 him hv0 hv1 hv2 rfl (by decide) meEnc_len (.slice q k cq) _ rfl ((HOWN.out.keep HK11.out (fun _ _ => id)).keep (S := None) ((Keep.refl _ _).alloc _) (fun _ _ => id)) ⟨A, I, 1, C, B, M, E, ms, fu, 0⟩ w11.heap.size 1 rfl _ (heap_alloc_new _ _) rfl rfl (by simp [Value.oneCell']) (by omega) (by omega) (by simp; omega) ?_; intro p8 c8 w12 hown12 hk12 _ _; have HO12 := Lib.hid hown12; have HK12 := Lib.hid hk12; clear hown12 hk12)))
              go_roundw
              case rel =>
                have hrel2 : EaInv m l w5.heap.size w5 (.slice p8 (k + 1) c8) (.int .i64 ((k : Int) + 1)) w12 := by
                  refine ⟨k + 1, p8, c8, by simp, by omega, rfl, ?_, ((HKR.out.trans (HK11.out.weaken (fun _ _ h => h.elim))).alloc _).trans HK12.out⟩
                  rw [HSN.out, HME.out]
                  have := HO12.out
                  rw [hml] at this
                  exact this
                first | exact hrel2 | ((repeat apply Exists.intro); exact ⟨hrel2, rfl⟩)
              case measure => simp [intOf]; omega
    · obtain rfl : k = l.length := by omega
      go_wp2_with (fail)
      go_ret
      have ho := HOWN.out
      rw [List.take_length] at ho
      have hml := meL_len m l _ _ _ HLW.out HLM.out HLF.out
      refine ⟨q, cq, by rw [hml]; rfl, by rw [hml]; exact ho.lower (by have := HK0.out.size; omega), (HK0.out.trans HK5.out).andThen HKR.out (fun x h1 h2 => by have h3 : w5.heap.size ≤ x := h2; omega)⟩

end Go.Proofs.Ytpdnfekhfagfkaa
