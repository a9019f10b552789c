/-
  Chapter 23: the reference's Counts.
-/
import Derived.Test.YtlhmajjmhkjcoaaCountsA
import Derived.Test.YtlhmajjmhkjcoaaShapeRef
namespace Go.Proofs.Ytlhmajjmhkjcoaa
open Go.RowKit

/-- The links that are counted. -/
def LinkSum (l : List Lk) (f : Nat) (w8 : World) (s i : Value) (w : World) : Prop :=
  ∃ j : Nat, i = .int .i64 j ∧ j ≤ l.length ∧ s = .int .i64 (calls (l.take j) f) ∧ calls (l.take j) f ≤ 1099511627776 ∧ Keep None w8 w

/-- The rows that are done, and no call is too often counted. -/
def RowInvB (l : List Lk) (p : Int) (rows : List (List Int)) (ob lo : Nat) (w7 : World) (i : Value) (w : World) : Prop :=
  RowInv l p rows ob lo w7 i w ∧ ∀ k : Nat, i = .int .i64 k → ¬ overL l p k

set_option maxRecDepth 100000 in
set_option maxHeartbeats 8000000 in
theorem refCounts_calls (ok : Nat → Prop) (v : Value) (n : Nat) (ps : List Pl) (p q : Option Addr) (c d : Nat) (h : Hits) (P : Int) (w : World) (hi : ImgV w v n ps) (hh : HitsAt ok w p q h) (hP : i64 P) :
    Calls Try.prog 18 #[v, hitsVal p c q d h, .int .i64 P] w (CountsPost (countsR (shapeL n ps) h P) w) := by
  obtain ⟨i1, hi1, hy0, hy1, hy2⟩ := info_parts Try.infoInt
  obtain ⟨i5, hi5, hv0, hv1, hv2⟩ := info_parts Try.infoEdge
  obtain ⟨i8, hi8, hz0, hz1, hz2⟩ := info_parts Try.infoFc
  unfold i64 at hP
  obtain ⟨hP0, hP1⟩ := hP
  have ln := hi.ln
  have hii := hi
  obtain ⟨⟨p0, n0, c0, p1, c1, p2, n2, c2, p3, n3, c3, k4, k5, p6, n6, c6, p7, c7, rfl, -⟩, -, -, -⟩ := hii
  obtain ⟨rows, lk, u, o⟩ := h
  have nb := hh.nb
  have nl := hh.nl
  simp only at nb nl
  simp only [hitsVal]
  have HBX : Hid (∃ W : World, Keep None w W ∧ W = ((w.alloc (.cells #[.slice p0 n0 c0, .slice p1 n c1, .slice p2 n2 c2, .slice p3 n3 c3, .int .i64 k4, .int .i64 k5, .slice p6 n6 c6, .slice p7 ps.length c7] 29)).alloc (.cells #[.slice p rows.length c, .slice q lk.length d, .int .i64 u, .int .i64 o] 40)).alloc (.cells #[.slice none 0 0] 54) ∧
      W.heap[w.heap.size]? = some (.cells #[.slice p0 n0 c0, .slice p1 n c1, .slice p2 n2 c2, .slice p3 n3 c3, .int .i64 k4, .int .i64 k5, .slice p6 n6 c6, .slice p7 ps.length c7] 29 (0, 0)) ∧ W.heap[w.heap.size + 1]? = some (.cells #[.slice p rows.length c, .slice q lk.length d, .int .i64 u, .int .i64 o] 40 (0, 0)) ∧ W.heap[w.heap.size + 1 + 1]? = some (.cells #[.slice none 0 0] 54 (0, 0)) ∧ w.heap.size + 3 ≤ W.heap.size) :=
    Lib.hid ⟨_, (((Keep.refl None w).alloc _).alloc _).alloc _, rfl, (((Keep.refl None _).alloc _).alloc _).obj (heap_alloc_new _ _) id, ((Keep.refl None _).alloc _).obj (alloc_at (by simp)) id, alloc_at (by simp), by simp⟩
  obtain ⟨W, hKW, hWe, ho1, ho2, ho3, hsW⟩ := HBX.out
  have HK := Lib.hid hKW
  have HWE := Lib.hid hWe.symm
  have O1 := Lib.hid ho1
  have O2 := Lib.hid ho2
  have O3 := Lib.hid ho3
  have HH := Lib.hid (hh.still hKW)
  have HSHAPE := Lib.hid (refShape_calls _ n ps W (hi.keep hKW))
  have hsl := shapeL_len n ps
  have hsm := fun x hx => (shape_small (n := n) (ps := ps) x hx).2
  generalize shapeL n ps = sh at *
  have HSN := Lib.hid hsl
  have HSM := Lib.hid hsm
  have hsn : sh.length ≤ 1000000 := by omega
  clear HBX hKW hWe ho1 ho2 ho3 hi hh hsl hsm
  by_cases hp1 : P < 1
  · have HR := Lib.hid (err1 (sh := sh) (h := ⟨rows, lk, u, o⟩) (.inl hp1))
    go_enter Try.func18, Try.ntmps18
    go_wp2_with (first
      | ((with_reducible (show wpList _ _ _ (⟨_, .load 29 _, _, _, _, none⟩ :: _) _ _)); (try rw [HWE.out]); refine wpList_loadEl (enc := listEnc) (size := 8) rfl 29 _ rfl _ _ rfl [.slice p0 n0 c0, .slice p1 n c1, .slice p2 n2 c2, .slice p3 n3 c3, .int .i64 k4, .int .i64 k5, .slice p6 n6 c6, .slice p7 ps.length c7] _ (range_of_obj O1.out) rfl Try.underlying29 rfl Try.sizeImg (.agg #[.slice p0 n0 c0, .slice p1 n c1, .slice p2 n2 c2, .slice p3 n3 c3, .int .i64 k4, .int .i64 k5, .slice p6 n6 c6, .slice p7 ps.length c7]) rfl ?_)
      | (go_at_call 40; (try rw [HWE.out]); refine HSHAPE.out.mono ?_; rintro e w1 ⟨psh, csh, rfl, hsl1, hk1, hfr1⟩; have HSL1 := Lib.hid hsl1; have HK1 := Lib.hid hk1; clear hsl1 hk1 hfr1)
      | ((with_reducible (show wpList _ _ _ (⟨_, .store 54 (.tmp 6) _, _, _, _, none⟩ :: _) _ _)); (refine wpList_storeObj rfl 54 _ _ rfl (w.heap.size + 1 + 1) rfl [.slice none 0 0] [.slice none 0 0] rfl _ (by simp) (HK1.out.obj O3.out (by first | exact id | (simp; omega))) 1 Try.sizeCounts rfl (by simp [Value.oneCell']) ?_); intro w9 hres hk9 hs9; have HRES := Lib.hid hres; have HK9 := Lib.hid hk9; clear hres hk9 hs9))
    (refine bodyPost_ret (results_obj_tmp rfl rfl _ _ (range_of_obj HRES.out) Try.underlying54 rfl 1 Try.sizeCounts rfl) rfl ?_; show CountsPost _ _ _ _; rw [HR.out]; exact ⟨none, 0, [], rfl, rfl, ⟨.inl rfl, by simp, by simp⟩, by simp, (HK.out.trans HK1.out).andThen HK9.out (by intro k h1 h2; omega)⟩)
  by_cases hp2 : 1099511627776 < P
  · have HR := Lib.hid (err1 (sh := sh) (h := ⟨rows, lk, u, o⟩) (.inr hp2))
    go_enter Try.func18, Try.ntmps18
    go_wp2_with (first
      | ((with_reducible (show wpList _ _ _ (⟨_, .load 29 _, _, _, _, none⟩ :: _) _ _)); (try rw [HWE.out]); refine wpList_loadEl (enc := listEnc) (size := 8) rfl 29 _ rfl _ _ rfl [.slice p0 n0 c0, .slice p1 n c1, .slice p2 n2 c2, .slice p3 n3 c3, .int .i64 k4, .int .i64 k5, .slice p6 n6 c6, .slice p7 ps.length c7] _ (range_of_obj O1.out) rfl Try.underlying29 rfl Try.sizeImg (.agg #[.slice p0 n0 c0, .slice p1 n c1, .slice p2 n2 c2, .slice p3 n3 c3, .int .i64 k4, .int .i64 k5, .slice p6 n6 c6, .slice p7 ps.length c7]) rfl ?_)
      | (go_at_call 40; (try rw [HWE.out]); refine HSHAPE.out.mono ?_; rintro e w1 ⟨psh, csh, rfl, hsl1, hk1, hfr1⟩; have HSL1 := Lib.hid hsl1; have HK1 := Lib.hid hk1; clear hsl1 hk1 hfr1)
      | ((with_reducible (show wpList _ _ _ (⟨_, .store 54 (.tmp 6) _, _, _, _, none⟩ :: _) _ _)); (refine wpList_storeObj rfl 54 _ _ rfl (w.heap.size + 1 + 1) rfl [.slice none 0 0] [.slice none 0 0] rfl _ (by simp) (HK1.out.obj O3.out (by first | exact id | (simp; omega))) 1 Try.sizeCounts rfl (by simp [Value.oneCell']) ?_); intro w9 hres hk9 hs9; have HRES := Lib.hid hres; have HK9 := Lib.hid hk9; clear hres hk9 hs9))
    (refine bodyPost_ret (results_obj_tmp rfl rfl _ _ (range_of_obj HRES.out) Try.underlying54 rfl 1 Try.sizeCounts rfl) rfl ?_; show CountsPost _ _ _ _; rw [HR.out]; exact ⟨none, 0, [], rfl, rfl, ⟨.inl rfl, by simp, by simp⟩, by simp, (HK.out.trans HK1.out).andThen HK9.out (by intro k h1 h2; omega)⟩)
  have hPP : 1 ≤ P ∧ P ≤ 1099511627776 := by omega
  cases hf : fitsB sh ⟨rows, lk, u, o⟩ with
  | false =>
    have HR := Lib.hid (err2 hPP hf)
    have HF := Lib.hid hf
    clear hf
    go_enter Try.func18, Try.ntmps18
    go_wp2_with (first
      | ((with_reducible (show wpList _ _ _ (⟨_, .load 29 _, _, _, _, none⟩ :: _) _ _)); (try rw [HWE.out]); refine wpList_loadEl (enc := listEnc) (size := 8) rfl 29 _ rfl _ _ rfl [.slice p0 n0 c0, .slice p1 n c1, .slice p2 n2 c2, .slice p3 n3 c3, .int .i64 k4, .int .i64 k5, .slice p6 n6 c6, .slice p7 ps.length c7] _ (range_of_obj O1.out) rfl Try.underlying29 rfl Try.sizeImg (.agg #[.slice p0 n0 c0, .slice p1 n c1, .slice p2 n2 c2, .slice p3 n3 c3, .int .i64 k4, .int .i64 k5, .slice p6 n6 c6, .slice p7 ps.length c7]) rfl ?_)
      | (go_at_call 40; (try rw [HWE.out]); refine HSHAPE.out.mono ?_; rintro e w1 ⟨psh, csh, rfl, hsl1, hk1, hfr1⟩; have HSL1 := Lib.hid hsl1; have HK1 := Lib.hid hk1; clear hsl1 hk1 hfr1)
      | ((with_reducible (show wpList _ _ _ (⟨some 28, .load 40 _, _, _, _, none⟩ :: _) _ _)); refine wpList_loadEl (enc := listEnc) (size := 4) rfl 40 _ rfl _ _ rfl [.slice p rows.length c, .slice q lk.length d, .int .i64 u, .int .i64 o] _ (by first | exact range_of_obj (HK2.out.obj O2.out id) | exact range_of_obj (HK1.out.obj O2.out id)) rfl Try.underlying40 rfl Try.sizeHits (.agg #[.slice p rows.length c, .slice q lk.length d, .int .i64 u, .int .i64 o]) rfl ?_)
      | (go_at_call 41; refine (refFits_calls ok psh csh sh p q c d ⟨rows, lk, u, o⟩ w1 HSL1.out (HH.out.still HK1.out) hsn).mono ?_; rintro e w2 ⟨rfl, hk2⟩; rw [HF.out]; have HK2 := Lib.hid (HK1.out.trans hk2); have HK12 := Lib.hid hk2; clear hk2)
      | ((with_reducible (show wpList _ _ _ (⟨_, .store 54 (.tmp 6) _, _, _, _, none⟩ :: _) _ _)); (refine wpList_storeObj rfl 54 _ _ rfl (w.heap.size + 1 + 1) rfl [.slice none 0 0] [.slice none 0 0] rfl _ (by simp) (HK2.out.obj O3.out (by first | exact id | (simp; omega))) 1 Try.sizeCounts rfl (by simp [Value.oneCell']) ?_); intro w9 hres hk9 hs9; have HRES := Lib.hid hres; have HK9 := Lib.hid hk9; clear hres hk9 hs9))
    (refine bodyPost_ret (results_obj_tmp rfl rfl _ _ (range_of_obj HRES.out) Try.underlying54 rfl 1 Try.sizeCounts rfl) rfl ?_; show CountsPost _ _ _ _; rw [HR.out]; exact ⟨none, 0, [], rfl, rfl, ⟨.inl rfl, by simp, by simp⟩, by simp, (HK.out.trans HK2.out).andThen HK9.out (by intro k h1 h2; omega)⟩)
  | true =>
  cases hn : allB nonnegB ⟨rows, lk, u, o⟩ with
  | false =>
    have HR := Lib.hid (err3 hPP hf hn)
    have HF := Lib.hid hf
    have HN := Lib.hid hn
    clear hf hn
    go_enter Try.func18, Try.ntmps18
    go_wp2_with (first
      | ((with_reducible (show wpList _ _ _ (⟨_, .load 29 _, _, _, _, none⟩ :: _) _ _)); (try rw [HWE.out]); refine wpList_loadEl (enc := listEnc) (size := 8) rfl 29 _ rfl _ _ rfl [.slice p0 n0 c0, .slice p1 n c1, .slice p2 n2 c2, .slice p3 n3 c3, .int .i64 k4, .int .i64 k5, .slice p6 n6 c6, .slice p7 ps.length c7] _ (range_of_obj O1.out) rfl Try.underlying29 rfl Try.sizeImg (.agg #[.slice p0 n0 c0, .slice p1 n c1, .slice p2 n2 c2, .slice p3 n3 c3, .int .i64 k4, .int .i64 k5, .slice p6 n6 c6, .slice p7 ps.length c7]) rfl ?_)
      | (go_at_call 40; (try rw [HWE.out]); refine HSHAPE.out.mono ?_; rintro e w1 ⟨psh, csh, rfl, hsl1, hk1, hfr1⟩; have HSL1 := Lib.hid hsl1; have HK1 := Lib.hid hk1; clear hsl1 hk1 hfr1)
      | ((with_reducible (show wpList _ _ _ (⟨some 28, .load 40 _, _, _, _, none⟩ :: _) _ _)); refine wpList_loadEl (enc := listEnc) (size := 4) rfl 40 _ rfl _ _ rfl [.slice p rows.length c, .slice q lk.length d, .int .i64 u, .int .i64 o] _ (by first | exact range_of_obj (HK2.out.obj O2.out id) | exact range_of_obj (HK1.out.obj O2.out id)) rfl Try.underlying40 rfl Try.sizeHits (.agg #[.slice p rows.length c, .slice q lk.length d, .int .i64 u, .int .i64 o]) rfl ?_)
      | (go_at_call 41; refine (refFits_calls ok psh csh sh p q c d ⟨rows, lk, u, o⟩ w1 HSL1.out (HH.out.still HK1.out) hsn).mono ?_; rintro e w2 ⟨rfl, hk2⟩; rw [HF.out]; have HK2 := Lib.hid (HK1.out.trans hk2); have HK12 := Lib.hid hk2; clear hk2)
      | ((with_reducible (show wpList _ _ _ (⟨some 33, .load 40 _, _, _, _, none⟩ :: _) _ _)); refine wpList_loadEl (enc := listEnc) (size := 4) rfl 40 _ rfl _ _ rfl [.slice p rows.length c, .slice q lk.length d, .int .i64 u, .int .i64 o] _ (by first | exact range_of_obj (HK2.out.obj O2.out id) | exact range_of_obj (HK1.out.obj O2.out id)) rfl Try.underlying40 rfl Try.sizeHits (.agg #[.slice p rows.length c, .slice q lk.length d, .int .i64 u, .int .i64 o]) rfl ?_)
      | (go_at_call 42; refine (negative_calls ok p q c d ⟨rows, lk, u, o⟩ w2 (HH.out.still HK2.out)).mono ?_; rintro e w3 ⟨rfl, hk3⟩; rw [HN.out]; have HK3 := Lib.hid (HK2.out.trans hk3); have HK13 := Lib.hid (HK12.out.trans hk3); clear hk3)
      | ((with_reducible (show wpList _ _ _ (⟨_, .store 54 (.tmp 6) _, _, _, _, none⟩ :: _) _ _)); (refine wpList_storeObj rfl 54 _ _ rfl (w.heap.size + 1 + 1) rfl [.slice none 0 0] [.slice none 0 0] rfl _ (by simp) (HK3.out.obj O3.out (by first | exact id | (simp; omega))) 1 Try.sizeCounts rfl (by simp [Value.oneCell']) ?_); intro w9 hres hk9 hs9; have HRES := Lib.hid hres; have HK9 := Lib.hid hk9; clear hres hk9 hs9))
    (refine bodyPost_ret (results_obj_tmp rfl rfl _ _ (range_of_obj HRES.out) Try.underlying54 rfl 1 Try.sizeCounts rfl) rfl ?_; show CountsPost _ _ _ _; rw [HR.out]; exact ⟨none, 0, [], rfl, rfl, ⟨.inl rfl, by simp, by simp⟩, by simp, (HK.out.trans HK3.out).andThen HK9.out (by intro k h1 h2; omega)⟩)
  | true =>
  obtain ⟨hlens, hlc⟩ := fits_links hf
  obtain ⟨hnb, hnl⟩ := nonneg_parts hn
  simp only at hlens hlc hnb hnl
  have HE4 := Lib.hid (fun ho => err4 (sh := sh) (h := ⟨rows, lk, u, o⟩) hPP hf hn ho)
  have HE0 := Lib.hid (fun ho hr => fine4 (sh := sh) (h := ⟨rows, lk, u, o⟩) hPP hf hn ho hr)
  have HF := Lib.hid hf
  have HN := Lib.hid hn
  have hrl : rows.length = sh.length := by rw [← hlens, lensI_len]
  have HRL := Lib.hid hrl
  have HLENS := Lib.hid hlens
  have HR256 : Hid (∀ row ∈ rows, row.length ≤ 256) := Lib.hid (fun row hr => by
    have h1 : ((row.length : Int)) ∈ sh := by rw [← hlens]; exact List.mem_map.2 ⟨row, hr, rfl⟩
    have := HSM.out _ h1
    omega)
  have HLC := Lib.hid hlc
  have HNB := Lib.hid hnb
  have HNL := Lib.hid hnl
  simp only at HE4 HE0
  have b1 : Hid (∀ W' : World, Keep None W W' → W'.cell? ⟨w.heap.size + 1, 0, none⟩ = some (.slice p rows.length c) ∧ W'.cell? ⟨w.heap.size + 1, 1, none⟩ = some (.slice q lk.length d)) := Lib.hid (fun W' hk => by
    have h2 := hk.obj O2.out id
    simp [World.cell?, h2])
  clear hf hn hlens hrl hlc hnb hnl
  go_enter Try.func18, Try.ntmps18
  go_upto_region 9 with (first
    | ((with_reducible (show wpList _ _ _ (⟨_, .load 29 _, _, _, _, none⟩ :: _) _ _)); (try rw [HWE.out]); refine wpList_loadEl (enc := listEnc) (size := 8) rfl 29 _ rfl _ _ rfl [.slice p0 n0 c0, .slice p1 n c1, .slice p2 n2 c2, .slice p3 n3 c3, .int .i64 k4, .int .i64 k5, .slice p6 n6 c6, .slice p7 ps.length c7] _ (range_of_obj O1.out) rfl Try.underlying29 rfl Try.sizeImg (.agg #[.slice p0 n0 c0, .slice p1 n c1, .slice p2 n2 c2, .slice p3 n3 c3, .int .i64 k4, .int .i64 k5, .slice p6 n6 c6, .slice p7 ps.length c7]) rfl ?_)
    | (go_at_call 40; (try rw [HWE.out]); refine HSHAPE.out.mono ?_; rintro e w1 ⟨psh, csh, rfl, hsl1, hk1, hfr1⟩; have HSL1 := Lib.hid hsl1; have HK1 := Lib.hid hk1; clear hsl1 hk1 hfr1)
    | ((with_reducible (show wpList _ _ _ (⟨some 28, .load 40 _, _, _, _, none⟩ :: _) _ _)); refine wpList_loadEl (enc := listEnc) (size := 4) rfl 40 _ rfl _ _ rfl [.slice p rows.length c, .slice q lk.length d, .int .i64 u, .int .i64 o] _ (by first | exact range_of_obj (HK2.out.obj O2.out id) | exact range_of_obj (HK1.out.obj O2.out id)) rfl Try.underlying40 rfl Try.sizeHits (.agg #[.slice p rows.length c, .slice q lk.length d, .int .i64 u, .int .i64 o]) rfl ?_)
    | (go_at_call 41; refine (refFits_calls ok psh csh sh p q c d ⟨rows, lk, u, o⟩ w1 HSL1.out (HH.out.still HK1.out) hsn).mono ?_; rintro e w2 ⟨rfl, hk2⟩; rw [HF.out]; have HK2 := Lib.hid (HK1.out.trans hk2); have HK12 := Lib.hid hk2; clear hk2)
    | ((with_reducible (show wpList _ _ _ (⟨some 33, .load 40 _, _, _, _, none⟩ :: _) _ _)); refine wpList_loadEl (enc := listEnc) (size := 4) rfl 40 _ rfl _ _ rfl [.slice p rows.length c, .slice q lk.length d, .int .i64 u, .int .i64 o] _ (by first | exact range_of_obj (HK2.out.obj O2.out id) | exact range_of_obj (HK1.out.obj O2.out id)) rfl Try.underlying40 rfl Try.sizeHits (.agg #[.slice p rows.length c, .slice q lk.length d, .int .i64 u, .int .i64 o]) rfl ?_)
    | (go_at_call 42; refine (negative_calls ok p q c d ⟨rows, lk, u, o⟩ w2 (HH.out.still HK2.out)).mono ?_; rintro e w3 ⟨rfl, hk3⟩; rw [HN.out]; have HK3 := Lib.hid (HK2.out.trans hk3); have HK13 := Lib.hid (HK12.out.trans hk3); clear hk3))
  generalize hw7 : World.alloc _ _ = w7
  have hk7 : Keep None w3 w7 := by rw [← hw7]; exact (Keep.refl _ _).alloc _
  have ho7 : w7.heap[w3.heap.size]? = some (.cells #[.slice none 0 0] 54 (0, 0)) := by rw [← hw7]; exact heap_alloc_new _ _
  have hs7 : w7.heap.size = w3.heap.size + 1 := by rw [← hw7]; simp
  have HO7 := Lib.hid ho7
  have HS7 := Lib.hid hs7
  have HKW7 := Lib.hid (HK3.out.trans hk7)
  have HK17 := Lib.hid (HK13.out.trans hk7)
  clear hw7 hk7 ho7 hs7
  go_wp2_with (fail)
  go_loopw [10] (RowInvB lk P rows w3.heap.size w7.heap.size w7) (fun i _ => rows.length - (intOf i).toNat)
  case atStart => exact ⟨⟨0, none, 0, [], rfl, by omega, HO7.out, Own.nil _ _ _ _ _, by simp, by simp, by simp [overR], Keep.refl _ _⟩, fun k hk => by
    have : k = 0 := by simpa using hk.symm
    subst this
    rintro ⟨f, hf, -⟩
    omega⟩
  case round =>
    obtain ⟨wo, rfl⟩ : ∃ wo : World, wo = wr := ⟨_, rfl⟩
    obtain ⟨⟨k, q1, c1, vals, rfl, hk, ho, hown, hmap, hfc, hno, hkp⟩, hnl⟩ := hrel
    have HNL' := Lib.hid (hnl k rfl)
    clear hnl
    have HOB := Lib.hid ho
    have HOWN := Lib.hid hown
    have HMAP := Lib.hid hmap
    have HFC := Lib.hid hfc
    have HNO := Lib.hid hno
    have HKP := Lib.hid hkp
    have HKW8 : Hid (Keep None W wo) := Lib.hid (HKW7.out.andThen hkp (fun k h1 h2 => by have h3 : k = w3.heap.size := h2; have := HK3.out.size; omega))
    have HK1o : Hid (Keep None w1 wo) := Lib.hid (HK17.out.andThen hkp (fun k h1 h2 => by have h3 : k = w3.heap.size := h2; have := HK13.out.size; omega))
    clear ho hown hmap hfc hno hkp
    by_cases hlt : k < sh.length
    · have hki : (k : Int) < sh.length := by omega
      have hlr : k < rows.length := by have := HRL.out; omega
      obtain ⟨row, hrow⟩ : ∃ row, rows[k]? = some row := ⟨rows[k], by simp [hlr]⟩
      have hrm := List.mem_of_getElem? hrow
      have hr256 := HR256.out row hrm
      have HRNN := Lib.hid (HNB.out row hrm)
      have HROW := Lib.hid hrow
      have HRM := Lib.hid hrm
      have hshk : sh[k]? = some ((row.length : Nat) : Int) := by rw [← HLENS.out]; simp [lensI, hrow]
      obtain ⟨bs, os, rfl, hshc⟩ : ∃ bs os, psh = some ⟨bs, os, none⟩ ∧ w1.cell? ⟨bs, os + k, none⟩ = some (.int .i64 ((row.length : Nat) : Int)) := by
        rcases HSL1.out with h | ⟨b2, o2, h, h2⟩
        · subst h; simp at hshk
        · exact ⟨b2, o2, h, h2.int hshk⟩
      obtain ⟨b, off, rfl, q2, cap2, hc2, hs2⟩ := (HH.out.still HKW8.out).rows.at hrow
      have HSHC := Lib.hid hshc
      have HC2 := Lib.hid hc2
      have HS2 := Lib.hid hs2
      clear hrow hrm hshk hshc hc2 hs2
      go_upto_region 13 with ((with_reducible (show wpList _ _ _ (⟨_, .store 88 (.tmp 11) _, _, _, _, none⟩ :: _) _ _)); refine wpList_storeObj rfl 88 _ _ rfl wo.heap.size rfl [.int .i64 0, .slice none 0 0, .slice none 0 0, .slice none 0 0] [.int .i64 (-1), .slice none 0 0, .slice none 0 0, .slice none 0 0] rfl _ (by simp) (heap_alloc_new _ _) 4 Try.sizeFc rfl (by simp [Value.oneCell']) ?_; intro w8 hres hk8 hs8; have HFB8 := Lib.hid hres; have HK8 := Lib.hid (((Keep.refl None wo).alloc _).andThen hk8 (fun k h1 h2 => by have h3 : k = wo.heap.size := h2; omega)); have HS8 := Lib.hid (show w8.heap.size = wo.heap.size + 1 by rw [hs8]; simp); clear hres hk8 hs8)
      have HKW9 := Lib.hid (HKW8.out.trans HK8.out)
      go_wp2_with (fail)
      go_loopw [12, 13] (LinkSum lk k w8) (fun _ i _ => lk.length - (intOf i).toNat)
      case atStart => exact ⟨0, rfl, by omega, by simp [calls], by simp [calls], Keep.refl _ _⟩
      case round =>
        obtain ⟨j, rfl, hj, rfl, hle, hkj⟩ := hrel
        have HKJ := Lib.hid hkj
        have HKWj := Lib.hid (HKW9.out.trans hkj)
        obtain ⟨-, e1⟩ := b1.out _ HKWj.out
        clear hkj
        by_cases hjl : j < lk.length
        · obtain ⟨x, hx⟩ : ∃ x, lk[j]? = some x := ⟨lk[j], by simp [hjl]⟩
          have hxm := List.mem_of_getElem? hx
          have hx0 := HNL.out x hxm
          obtain ⟨hcc0, hcc1⟩ := HLC.out x hxm
          have HMC := Lib.hid (calls_take_snoc hx k)
          have HLE := Lib.hid (calls_take_le (l := lk) (j + 1) k HNL.out)
          have hs0 := calls_nonneg (l := lk.take j) k (fun y hy => HNL.out y (List.mem_of_mem_take hy))
          obtain ⟨x0, x1, x2, x3⟩ := x
          simp only at hx0 hcc0 hcc1
          obtain ⟨g, o', rfl, hsl⟩ : ∃ g o, q = some ⟨g, o, none⟩ ∧ wr.rangeAt g (o + j * 4) (Lk.enc ⟨x0, x1, x2, x3⟩) := by
            rcases (HH.out.still HKWj.out).links with h | ⟨g, o, he, h⟩
            · simp only at h; subst h; simp at hjl
            · exact ⟨g, o, he, h.range hx⟩
          have d2 : wr.cell? ⟨g, o' + j * 4 + 2, none⟩ = some (.int .i64 x2) := hsl 2 _ rfl
          have d3 : wr.cell? ⟨g, o' + j * 4 + 3, none⟩ = some (.int .i64 x3) := hsl 3 _ rfl
          generalize hs : calls (lk.take j) k = s at *
          have HS := Lib.hid hs
          have hji : (j : Int) < lk.length := by omega
          clear hx hsl hxm hs
          by_cases hce : x2 = (k : Int)
          · subst hce
            have hmc : calls (lk.take (j + 1)) k = s + x3 := by have := HMC.out; simpa using this
            by_cases hov : 1099511627776 - s < x3
            · have hover : overL lk P rows.length := by
                refine ⟨k, by have := HRL.out; omega, ?_⟩
                have h2 := HLE.out
                have h3 : calls lk k * 1 ≤ calls lk k * P := Int.mul_le_mul_of_nonneg_left (by omega) (by omega)
                omega
              have HR := Lib.hid (HE4.out (.inl hover))
              have HOVV := Lib.hid hov
              clear hover hmc
              go_wp2_with (((with_reducible (show wpList _ _ _ (⟨_, .store 54 (.tmp 6) _, _, _, _, none⟩ :: _) _ _)); (refine wpList_storeObj rfl 54 _ _ rfl (w.heap.size + 1 + 1) rfl [.slice none 0 0] [.slice none 0 0] rfl _ (by simp) (HKWj.out.obj O3.out (by first | exact id | (simp; omega))) 1 Try.sizeCounts rfl (by simp [Value.oneCell']) ?_); intro w9 hres hk9 hs9; have HRES := Lib.hid hres; have HK9 := Lib.hid hk9; clear hres hk9 hs9))
              (refine bodyPost_ret (results_obj_tmp rfl rfl _ _ (range_of_obj HRES.out) Try.underlying54 rfl 1 Try.sizeCounts rfl) rfl ?_; show CountsPost _ _ _ _; rw [HR.out]; exact ⟨none, 0, [], rfl, rfl, ⟨.inl rfl, by simp, by simp⟩, by simp, (HK.out.trans HKWj.out).andThen HK9.out (by intro k h1 h2; omega)⟩)
            · have HMC2 := Lib.hid hmc
              clear hmc
              go_wp2_with (fail)
              go_roundw
              case rel => exact ⟨j + 1, by go_num, by omega, by rw [HMC2.out], by rw [HMC2.out]; omega, HKJ.out⟩
              case measure => simp [intOf]; omega
          · have hne : (x2 == (k : Int)) = false := by simpa using hce
            have HMC2 : Hid (calls (lk.take (j + 1)) k = s) := Lib.hid (by rw [HMC.out, if_neg (by simpa using hce)]; simp)
            go_wp2_with (fail)
            go_roundw
            case rel => exact ⟨j + 1, by go_num, by omega, by rw [HMC2.out], by rw [HMC2.out]; omega, HKJ.out⟩
            case measure => simp [intOf]; omega
        · have hje : j = lk.length := by omega
          subst hje
          obtain ⟨wj, rfl⟩ : ∃ wj : World, wj = wr := ⟨_, rfl⟩
          have hs0 := calls_nonneg (l := lk) k HNL.out
          simp only [List.take_length] at hle ⊢
          generalize hs : calls lk k = s at *
          have HS := Lib.hid hs
          have hbx := HKJ.out.obj HFB8.out id
          have HBX := Lib.hid hbx
          have u0 : wj.cell? ⟨wo.heap.size, 0, none⟩ = some (.int .i64 (-1)) := cell_of_row _ _ 0 _ _ _ hbx
          have u1 : wj.frozen? ⟨wo.heap.size, 0, none⟩ = false := by unfold World.frozen?; rw [hbx]; rfl
          clear hbx hs
          go_upto_if 77 with (fail)
          go_cut [] (fun wx => wx.heap[wo.heap.size]? = some (.cells #[.int .i64 (callOf lk P k), .slice none 0 0, .slice none 0 0, .slice none 0 0] 88 (0, 0)) ∧ Keep (· = wo.heap.size) wj wx ∧ ¬ 1099511627776 < calls lk k * P)
          case first =>
            by_cases hs1 : s = 0
            · have hca : callOf lk P k = -1 := by simp [callOf, HS.out, hs1]
              have HCA := Lib.hid hca
              subst hs1
              clear hca
              go_wp2_with (fail)
              go_meet
              case rel => exact ⟨by rw [HCA.out]; exact HBX.out, Keep.refl _ _, by rw [HS.out]; omega⟩
            · have hsp : 0 < s := by omega
              by_cases hov : 1099511627776 < s * P
              · have HTV := Lib.hid (show timesV s P = -1 from by rw [timesV, if_pos hov])
                have hover : overL lk P rows.length := ⟨k, by have := HRL.out; omega, by rw [HS.out]; exact hov⟩
                have HR := Lib.hid (HE4.out (.inl hover))
                clear hover hov
                have hob2 := heap_setCell' (j := 0) (v := .int .i64 (-1)) HBX.out
                simp only [List.setIfInBounds_toArray, List.set_cons_succ, List.set_cons_zero] at hob2
                have z0 : (wj.setCell ⟨wo.heap.size, 0, none⟩ (.int .i64 (-1))).cell? ⟨wo.heap.size, 0, none⟩ = some (.int .i64 (-1)) := cell_of_row _ _ 0 _ _ _ hob2
                have HOB2 := Lib.hid hob2
                have HKW2 : Hid (Keep None W (wj.setCell ⟨wo.heap.size, 0, none⟩ (.int .i64 (-1)))) := Lib.hid ((HKW9.out.trans HKJ.out).setCell (p := ⟨wo.heap.size, 0, none⟩) (.inr HKW8.out.size) _)
                clear hob2
                go_wp2_with (first
                  | (go_at_call 43; refine (times_calls s P _ (by omega) (by omega) (by omega)).mono ?_; rintro e w' ⟨rfl, hw⟩; subst w'; rw [HTV.out])
                  | ((with_reducible (show wpList _ _ _ (⟨_, .store 54 (.tmp 6) _, _, _, _, none⟩ :: _) _ _)); (refine wpList_storeObj rfl 54 _ _ rfl (w.heap.size + 1 + 1) rfl [.slice none 0 0] [.slice none 0 0] rfl _ (by simp) (HKW2.out.obj O3.out (by first | exact id | (simp; omega))) 1 Try.sizeCounts rfl (by simp [Value.oneCell']) ?_); intro w9 hres hk9 hs9; have HRES := Lib.hid hres; have HK9 := Lib.hid hk9; clear hres hk9 hs9))
                (refine bodyPost_ret (results_obj_tmp rfl rfl _ _ (range_of_obj HRES.out) Try.underlying54 rfl 1 Try.sizeCounts rfl) rfl ?_; show CountsPost _ _ _ _; rw [HR.out]; exact ⟨none, 0, [], rfl, rfl, ⟨.inl rfl, by simp, by simp⟩, by simp, (HK.out.trans HKW2.out).andThen HK9.out (by intro k h1 h2; omega)⟩)
              · have HTV := Lib.hid (show timesV s P = s * P from by rw [timesV, if_neg hov])
                have HOVN := Lib.hid hov
                have hp0 : 0 < s * P := Int.mul_pos (by omega) (by omega)
                have HCA : Hid (callOf lk P k = s * P) := Lib.hid (by
                  simp only [callOf, HS.out]
                  rw [if_neg (by omega)])
                generalize hm : s * P = m at *
                have HM := Lib.hid hm
                clear hm hov
                have hob2 := heap_setCell' (j := 0) (v := .int .i64 (m)) HBX.out
                simp only [List.setIfInBounds_toArray, List.set_cons_succ, List.set_cons_zero] at hob2
                have z0 : (wj.setCell ⟨wo.heap.size, 0, none⟩ (.int .i64 (m))).cell? ⟨wo.heap.size, 0, none⟩ = some (.int .i64 (m)) := cell_of_row _ _ 0 _ _ _ hob2
                have HOB2 := Lib.hid hob2
                have HKW2 : Hid (Keep None W (wj.setCell ⟨wo.heap.size, 0, none⟩ (.int .i64 (m)))) := Lib.hid ((HKW9.out.trans HKJ.out).setCell (p := ⟨wo.heap.size, 0, none⟩) (.inr HKW8.out.size) _)
                clear hob2
                go_wp2_with (go_at_call 43; refine (times_calls s P _ (by omega) (by omega) (by omega)).mono ?_; rintro e w' ⟨rfl, hw⟩; subst w'; rw [HTV.out])
                go_meet
                case rel => exact ⟨by rw [HCA.out]; exact HOB2.out, (Keep.refl (· = wo.heap.size) _).setCell (p := ⟨wo.heap.size, 0, none⟩) (.inl rfl) _, by rw [HS.out, HM.out]; exact HOVN.out⟩
          case rest =>
            obtain ⟨wk, rfl⟩ : ∃ wk : World, wk = wc := ⟨_, rfl⟩
            obtain ⟨hob, hkc, hnk⟩ := hcut
            have HNK := Lib.hid hnk
            have HOC := Lib.hid hob
            have HKC := Lib.hid hkc
            have HK0c : Hid (Keep None wo wk) := Lib.hid (HK8.out.trans HKJ.out |>.andThen hkc (fun k h1 h2 => by have h3 : k = wo.heap.size := h2; omega))
            have HSC : Hid (wo.heap.size + 1 ≤ wk.heap.size) := Lib.hid (by have := HS8.out; have := HKJ.out.size; have := hkc.size; omega)
            clear hob hkc u0 u1 hnk
            go_wp2_with (fail)
            go_loopw [14] (BlkInv P row (callOf lk P k) wo.heap.size wk.heap.size wk) (fun i _ => row.length - (intOf i).toNat)
            case atStart => exact ⟨0, none, 0, none, 0, rfl, by omega, HOC.out, Own.nil _ _ _ _ _, Own.nil _ _ _ _ _, by simp, Keep.refl _ _⟩
            case round =>
              obtain ⟨wi, rfl⟩ : ∃ wi : World, wi = wr := ⟨_, rfl⟩
              obtain ⟨j, q3, c3, q4, c4, rfl, hj, hob, hbl, hed, hno2, hkj⟩ := hrel
              have HOBJ := Lib.hid hob
              have HBL := Lib.hid hbl
              have HED := Lib.hid hed
              have HNO2 := Lib.hid hno2
              have HKI := Lib.hid hkj
              have hk0i : Keep None wo wi := HK0c.out.andThen hkj (fun k h1 h2 => by have h3 : k = wo.heap.size := h2; omega)
              have HK0i := Lib.hid hk0i
              have hkwi := HKW8.out.trans hk0i
              have HKWi := Lib.hid hkwi
              have HS2i := Lib.hid (HS2.out.keep hk0i (fun _ _ => id))
              have e1 := (HK1o.out.trans hk0i).cell HSHC.out id
              obtain ⟨e0, -⟩ := b1.out _ hkwi
              have e2 := hk0i.cell HC2.out id
              clear hob hbl hed hno2 hkj hk0i hkwi
              by_cases hjl : j < row.length
              · obtain ⟨x, hx⟩ : ∃ x, row[j]? = some x := ⟨row[j], by simp [hjl]⟩
                have hxm := List.mem_of_getElem? hx
                have hx0 := HRNN.out x hxm
                obtain ⟨b2, o2, rfl, e3⟩ : ∃ b2 o2, q2 = some ⟨b2, o2, none⟩ ∧ wi.cell? ⟨b2, o2 + j, none⟩ = some (.int .i64 x) := by
                  rcases HS2i.out with h | ⟨b2, o2, h, h2⟩
                  · subst h; simp at hjl
                  · exact ⟨b2, o2, h, h2.int hx⟩
                have hji : (j : Int) < row.length := by omega
                have HXJ := Lib.hid hx
                have HXM := Lib.hid hxm
                clear hx hxm
                go_upto_if 102 with (fail)
                go_cut [15] (fun t wx => t = .int .i64 (blockOf P x) ∧ wx = wi ∧ ¬ 1099511627776 < x * P)
                case first =>
                  by_cases hx1 : x = 0
                  · subst hx1
                    go_wp2_with (fail)
                    go_meet
                    case rel => exact ⟨by simp [blockOf], rfl, by omega⟩
                  · have hxp : 0 < x := by omega
                    by_cases hov : 1099511627776 < x * P
                    · have HTV := Lib.hid (show timesV x P = -1 from by rw [timesV, if_pos hov])
                      have HR := Lib.hid (HE4.out (.inr ⟨row, HRM.out, x, HXM.out, hov⟩))
                      clear hov
                      go_wp2_with (first
                        | (go_at_call 43; refine (times_calls x P _ (by omega) (by omega) (by omega)).mono ?_; rintro e w' ⟨rfl, hw⟩; subst w'; rw [HTV.out])
                        | ((with_reducible (show wpList _ _ _ (⟨_, .store 54 (.tmp 6) _, _, _, _, none⟩ :: _) _ _)); (refine wpList_storeObj rfl 54 _ _ rfl (w.heap.size + 1 + 1) rfl [.slice none 0 0] [.slice none 0 0] rfl _ (by simp) (HKWi.out.obj O3.out (by first | exact id | (simp; omega))) 1 Try.sizeCounts rfl (by simp [Value.oneCell']) ?_); intro w9 hres hk9 hs9; have HRES := Lib.hid hres; have HK9 := Lib.hid hk9; clear hres hk9 hs9))
                      (refine bodyPost_ret (results_obj_tmp rfl rfl _ _ (range_of_obj HRES.out) Try.underlying54 rfl 1 Try.sizeCounts rfl) rfl ?_; show CountsPost _ _ _ _; rw [HR.out]; exact ⟨none, 0, [], rfl, rfl, ⟨.inl rfl, by simp, by simp⟩, by simp, (HK.out.trans HKWi.out).andThen HK9.out (by intro k h1 h2; omega)⟩)
                    · have HTV := Lib.hid (show timesV x P = x * P from by rw [timesV, if_neg hov])
                      have hp0 : 0 < x * P := Int.mul_pos (by omega) (by omega)
                      have HOVN := Lib.hid hov
                      have HBO : Hid (blockOf P x = x * P) := Lib.hid (by simp [blockOf, hx1])
                      generalize hm : x * P = m at *
                      have HM := Lib.hid hm
                      clear hm hov
                      go_wp2_with (go_at_call 43; refine (times_calls x P _ (by omega) (by omega) (by omega)).mono ?_; rintro e w' ⟨rfl, hw⟩; subst w'; rw [HTV.out])
                      go_meet
                      case rel => exact ⟨by rw [HBO.out], rfl, by have := HOVN.out; omega⟩
                case rest =>
                  obtain ⟨hy, hwc, hov⟩ := hcut
                  subst wc
                  subst hy
                  have HOV1 := Lib.hid hov
                  clear e2 e3 hov
                  obtain ⟨bl, hbl⟩ : ∃ bl, bl = (row.take j).map (blockOf P) := ⟨_, rfl⟩
                  have hlj : bl.length = j := by rw [hbl, List.length_map, List.length_take]; omega
                  have HBL1 : Hid (OwnI wk.heap.size wi (.slice q3 j c3) bl) := Lib.hid (by rw [hbl]; exact HBL.out)
                  have HBLE := Lib.hid (show bl ++ [blockOf P x] = (row.take (j + 1)).map (blockOf P) by rw [hbl, List.take_add_one, HXJ.out]; simp)
                  clear hbl
                  generalize blockOf P x = y at *
                  have HLJ := Lib.hid hlj
                  have hbl256 : bl.length ≤ 256 := by omega
                  have hj256 : j ≤ 256 := by omega
                  clear hlj
                  have hobj := HOBJ.out
                  have s0 : wi.cell? ⟨wo.heap.size, 1, none⟩ = some (.slice q3 j c3) := cell_of_row _ _ 1 _ _ _ hobj
                  have HBO : Hid ((Value.slice q3 j c3).ownBlock ≠ some wo.heap.size ∧ (Value.slice q4 j c4).ownBlock ≠ some wo.heap.size) := Lib.hid ⟨fun h => by have := (World.ownsRow.lt HBL1.out _ h).1; have := HSC.out; omega, fun h => by have := (World.ownsRow.lt HED.out _ h).1; have := HSC.out; omega⟩
                  clear hobj
                  go_wp2_with (first
                    | (at_builtin; go_loud (refine wpList_pushAt rfl _ _ 25 rfl wk.heap.size _ i1 _ 8 Try.underlying25 hi1 hy0 hy1 hy2 rfl (by decide) intEnc_len (.slice q3 j c3) bl rfl (HBL1.out.keep (S := None) ((Keep.refl _ _).alloc _) (fun _ _ => id)) y wi.heap.size _ rfl _ (heap_alloc_new _ _) (by simp [intEnc]) rfl (by simp [Value.oneCell']) (by omega) (by omega) (Nat.le_trans HKI.out.size ((Keep.refl None _).alloc _).size) ?_; intro p5 c5 w10 hown5 hk5 hk5' hb5; have HE5 := Lib.hid hown5; have HK10 := Lib.hid (show Keep (fun k => (Value.slice q3 j c3).ownBlock = some k) _ w10 from ⟨hk5.os, hk5.tape, hk5.output, hk5.size, fun k hk hs => hk5' k (fun e => hs e.symm) hk⟩); have hx5 := HK10.out.obj (((Keep.refl None wi).alloc _).obj HOBJ.out id) HBO.out.1; have s1 : w10.cell? ⟨wo.heap.size, 1, none⟩ = some (.slice q3 j c3) := cell_of_row w10 _ 1 _ _ _ hx5; have s2 : w10.frozen? ⟨wo.heap.size, 1, none⟩ = false := (by unfold World.frozen?; rw [hx5]; rfl); have hx6 := heap_setCell' (j := 1) (v := .slice p5 (bl.length + 1) c5) hx5; simp only [List.setIfInBounds_toArray, List.set_cons_succ, List.set_cons_zero] at hx6; have s3 : (w10.setCell ⟨wo.heap.size, 1, none⟩ (.slice p5 (bl.length + 1) c5)).cell? ⟨wo.heap.size, 2, none⟩ = some (.slice q4 j c4) := cell_of_row _ _ 2 _ _ _ hx6; have HX6 := Lib.hid hx6; have HE4' := Lib.hid ((HED.out.keep (S := None) ((Keep.refl _ wi).alloc _) (fun _ _ => id)).keep HK10.out (fun g hg hs => (HED.out.typed hg).ne (HBL1.out.typed hs) (by decide) rfl)); clear hown5 hk5 hk5' hb5 hx5 hx6 s0))
                    | (at_builtin; go_loud (refine wpList_pushAt rfl _ _ 85 rfl wk.heap.size _ i5 _ 16 Try.underlying85 hi5 hv0 hv1 hv2 rfl (by decide) edgeEnc_len (.slice q4 j c4) (ones j) rfl ((HE4'.out.keep ((Keep.refl (· = wo.heap.size) w10).setCell (p := ⟨wo.heap.size, 1, none⟩) (.inl rfl) (.slice p5 (bl.length + 1) c5)) (fun g hg hs => HBO.out.2 (by rw [hg, show g = wo.heap.size from hs]))).keep (S := None) ((Keep.refl _ _).alloc _) (fun _ _ => id)) () _ _ rfl _ (alloc_at (by simp)) (by simp [edgeEnc]) rfl (by simp [Value.oneCell']) (by rw [ones_len]; omega) (by omega) (by have := HKI.out.size; have := HK10.out.size; simp at *; omega) ?_; intro p6 c6 w12 hown6 hk6 hk6' hb6; have HE6 := Lib.hid hown6; have HK12 := Lib.hid (show Keep (fun k => (Value.slice q4 j c4).ownBlock = some k) _ w12 from ⟨hk6.os, hk6.tape, hk6.output, hk6.size, fun k hk hs => hk6' k (fun e => hs e.symm) hk⟩); have hx7 := HK12.out.obj (((Keep.refl None _).alloc _).obj HX6.out id) HBO.out.2; have s4 : w12.cell? ⟨wo.heap.size, 2, none⟩ = some (.slice q4 j c4) := cell_of_row w12 _ 2 _ _ _ hx7; have s5 : w12.frozen? ⟨wo.heap.size, 2, none⟩ = false := (by unfold World.frozen?; rw [hx7]; rfl); have HX7 := Lib.hid hx7; clear hown6 hk6 hk6' hb6 hx7 s1 s2 s3)))
                  clear s4 s5
                  have hkB : Keep (· = wo.heap.size) w10 (w10.setCell ⟨wo.heap.size, 1, none⟩ (.slice p5 (bl.length + 1) c5)) := (Keep.refl (· = wo.heap.size) _).setCell (p := ⟨wo.heap.size, 1, none⟩) (.inl rfl) _
                  have hkD : Keep (· = wo.heap.size) w12 (w12.setCell ⟨wo.heap.size, 2, none⟩ (.slice p6 ((ones j).length + 1) c6)) := (Keep.refl (· = wo.heap.size) _).setCell (p := ⟨wo.heap.size, 2, none⟩) (.inl rfl) _
                  have hoz := heap_setCell' (j := 2) (v := .slice p6 ((ones j).length + 1) c6) HX7.out
                  simp only [List.setIfInBounds_toArray, List.set_cons_succ, List.set_cons_zero] at hoz
                  have hKc : Keep None (w10.setCell ⟨wo.heap.size, 1, none⟩ (.slice p5 (bl.length + 1) c5)) _ := (Keep.refl None _).alloc (.cells #[.int .i64 (-1), .int .i64 (-1)] 89)
                  have h4 := (HE4'.out.keep hkB (fun g hg hs => by have h3 : g = wo.heap.size := hs; have := (World.ownsRow.lt HE4'.out g hg).1; have := HSC.out; omega)).keep hKc (fun _ _ => id)
                  have h5 := (HE5.out.keep hkB (fun g hg hs => by have h3 : g = wo.heap.size := hs; have := (World.ownsRow.lt HE5.out g hg).1; have := HSC.out; omega)).keep hKc (fun _ _ => id)
                  have h6 := (h5.keep HK12.out (fun g hg hs => (h5.typed hg).ne (h4.typed hs) (by decide) rfl)).keep hkD (fun g hg hs => by have h3 : g = wo.heap.size := hs; have := (World.ownsRow.lt h5 g hg).1; have := HSC.out; omega)
                  have h7 := HE6.out.keep hkD (fun g hg hs => by have h3 : g = wo.heap.size := hs; have := (World.ownsRow.lt HE6.out g hg).1; have := HSC.out; omega)
                  have hkf := (((((HKI.out.alloc (.cells #[.int .i64 y] 3)).andThen HK10.out (fun g h1 h2 => by have := (World.ownsRow.lt HBL1.out g h2).1; omega)).trans hkB).trans (hKc.weaken (fun _ _ q => q.elim))).andThen HK12.out (fun g h1 h2 => by have := (World.ownsRow.lt HED.out g h2).1; omega)).trans hkD
                  rw [HLJ.out, ones_len] at h6
                  rw [HLJ.out, ones_len] at hoz
                  rw [ones_len] at h7 hkf
                  have H6 := Lib.hid h6
                  have H7 := Lib.hid h7
                  have HKF := Lib.hid hkf
                  have HOZ := Lib.hid hoz
                  clear hkB hkD hKc h4 h5 h6 h7 hkf hoz
                  rw [ones_len]
                  go_roundw
                  case rel =>
                    refine ⟨j + 1, p5, c5, p6, c6, by go_num, by omega, by simpa using HOZ.out, ?_, ?_, ?_, ?_⟩
                    · rw [← HBLE.out]; exact H6.out
                    · rw [← ones_snoc]; exact H7.out
                    · intro z hz
                      rw [List.take_add_one, HXJ.out] at hz
                      simp only [Option.toList_some, List.mem_append, List.mem_singleton] at hz
                      rcases hz with hz | rfl
                      · have := HNO2.out z hz; omega
                      · have := HOV1.out; omega
                    · simpa using HKF.out
                  case measure => simp [intOf]; omega
              · have hje : j = row.length := by omega
                subst hje
                have HROWI : Hid (OwnI wk.heap.size wi (.slice q3 row.length c3) (row.map (blockOf P))) := Lib.hid (by have := HBL.out; rwa [List.take_length] at this)
                have HOVR : Hid (∀ x ∈ row, ¬ 1099511627776 < x * P) := Lib.hid (by have := HNO2.out; rwa [List.take_length] at this)
                have HOWNi := Lib.hid (HOWN.out.keep HK0i.out (fun _ _ => id))
                have hobi := HK0i.out.obj HOB.out id
                have HOBi := Lib.hid hobi
                have HNB1 : Hid (¬ (Value.slice q1 vals.length c1).ownBlock = some w3.heap.size) := Lib.hid (fun h => by have := (World.ownsRow.lt HOWN.out _ h).1; have := HS7.out; omega)
                have HSI : Hid (w7.heap.size ≤ wi.heap.size) := Lib.hid (Nat.le_trans HKP.out.size HK0i.out.size)
                have k01 : wi.cell? ⟨w3.heap.size, 0, none⟩ = some (.slice q1 vals.length c1) := cell_of_row wi _ 0 _ _ _ hobi
                have hvl : vals.length = k := by
                  have := congrArg List.length HMAP.out
                  rw [List.length_map, List.length_take, fcsFrom_len] at this
                  have := HRL.out
                  omega
                have HVL := Lib.hid hvl
                have hvb : vals.length < 1000000 := by have := HSN.out; omega
                clear hobi hvl
                go_wp2_with (first
                  | ((with_reducible (show wpList _ _ _ (⟨_, .load 88 _, _, _, _, none⟩ :: _) _ _)); refine wpList_loadEl (enc := listEnc) (size := 4) rfl 88 _ rfl _ _ rfl [.int .i64 (callOf lk P k), .slice q3 row.length c3, .slice q4 row.length c4, .slice none 0 0] _ (range_of_obj HOBJ.out) rfl Try.underlying88 rfl Try.sizeFc (.agg #[.int .i64 (callOf lk P k), .slice q3 row.length c3, .slice q4 row.length c4, .slice none 0 0]) rfl ?_)
                  | (at_builtin; go_loud (refine wpList_pushAt rfl _ _ 52 rfl w7.heap.size _ i8 _ 80 Try.underlying52 hi8 hz0 hz1 hz2 rfl (by decide) FCv.enc_len (.slice q1 vals.length c1) vals rfl (HOWNi.out.keep (S := None) ((Keep.refl _ _).alloc _) (fun _ _ => id)) ⟨callOf lk P k, row.map (blockOf P), q3, c3, q4, c4⟩ wi.heap.size _ rfl _ (heap_alloc_new _ _) (by simp [FCv.enc]) rfl (by simp [Value.oneCell']) (by omega) (by omega) (Nat.le_trans HSI.out ((Keep.refl None _).alloc _).size) ?_; intro p7 c7' w10 hown7 hk7 hk7' hb7; have HO10 := Lib.hid hown7; have HK10 := Lib.hid (show Keep (fun k => (Value.slice q1 vals.length c1).ownBlock = some k) _ w10 from ⟨hk7.os, hk7.tape, hk7.output, hk7.size, fun k hk hs => hk7' k (fun e => hs e.symm) hk⟩); have hx7 := HK10.out.obj (((Keep.refl None wi).alloc _).obj HOBi.out id) HNB1.out; have k71 : w10.cell? ⟨w3.heap.size, 0, none⟩ = some (.slice q1 vals.length c1) := cell_of_row w10 _ 0 _ _ _ hx7; have k72 : w10.frozen? ⟨w3.heap.size, 0, none⟩ = false := (by unfold World.frozen?; rw [hx7]; rfl); have HX10 := Lib.hid hx7; clear hown7 hk7 hk7' hb7 hx7)))
                clear k01 k71 k72
                have hks : Keep (· = w3.heap.size) w10 (w10.setCell ⟨w3.heap.size, 0, none⟩ (.slice p7 (vals.length + 1) c7')) := (Keep.refl (· = w3.heap.size) w10).setCell (p := ⟨w3.heap.size, 0, none⟩) (.inl rfl) _
                have hoz := heap_setCell' (j := 0) (v := .slice p7 (vals.length + 1) c7') HX10.out
                have hfk : ∀ f, FcOk w7.heap.size wi f → FcOk w7.heap.size (w10.setCell ⟨w3.heap.size, 0, none⟩ (.slice p7 (vals.length + 1) c7')) f := fun f hf => by
                  obtain ⟨X, hX, hX2⟩ : ∃ X, Keep None wi X ∧ Keep (fun g => (Value.slice q1 vals.length c1).ownBlock = some g) X w10 := ⟨_, (Keep.refl None wi).alloc _, HK10.out⟩
                  have h1 := hf.keep hX (fun _ _ _ _ => id)
                  have h2 := h1.keep hX2 (fun g _ _ ht hs => by
                    have ho := (HOWNi.out.keep hX (fun _ _ => id)).typed hs
                    rcases ht with ht | ht
                    · exact ht.ne ho (by decide) rfl
                    · exact ht.ne ho (by decide) rfl)
                  exact h2.keep hks (fun g hg _ _ hs => by have h3 : g = w3.heap.size := hs; have := HS7.out; omega)
                go_roundw
                case rel =>
                  refine ⟨⟨k + 1, p7, c7', vals ++ [⟨callOf lk P k, row.map (blockOf P), q3, c3, q4, c4⟩], by go_num, by omega, by simpa using hoz, ?_, ?_, ?_, ?_, ?_⟩, ?_⟩
                  · rw [List.length_append, List.length_singleton]
                    exact HO10.out.keep hks (fun g hg hs => by have h3 : g = w3.heap.size := hs; have := (World.ownsRow.lt HO10.out g hg).1; have := HS7.out; omega)
                  · rw [List.map_append, HMAP.out, fcs_take HROW.out]
                    rfl
                  · intro f hf
                    rcases List.mem_append.1 hf with hf | hf
                    · exact hfk f ((HFC.out f hf).keep HK0i.out (fun _ _ _ _ => id))
                    · rw [List.mem_singleton.1 hf]
                      exact hfk _ (FcOk.mk' (lo := wk.heap.size) (by simpa using HROWI.out) (by simpa using HED.out) (by have := HKP.out.size; have := HSC.out; omega))
                  · rintro ⟨r, hr, z, hz, hzo⟩
                    rw [List.take_add_one, HROW.out] at hr
                    simp only [Option.toList_some, List.mem_append, List.mem_singleton] at hr
                    rcases hr with hr | rfl
                    · exact HNO.out ⟨r, hr, z, hz, hzo⟩
                    · have := HOVR.out z hz; omega
                  · exact ((HKP.out.trans (HK0i.out.weaken (fun _ _ q => q.elim))).alloc _ |>.andThen HK10.out (fun g h1 h2 => by have := (World.ownsRow.lt HOWNi.out g h2).1; omega)).trans hks
                  · intro k' hk'
                    have hkk : k' = k + 1 := by simp at hk'; omega
                    subst hkk
                    rintro ⟨f, hf, ho⟩
                    by_cases hfe : f = k
                    · subst hfe; have := HNK.out; omega
                    · exact HNL'.out ⟨f, by omega, ho⟩
                case measure => simp [intOf]; omega
    · have hke : k = rows.length := by have := HRL.out; omega
      subst hke
      have hnr : ¬ overR rows P := by have := HNO.out; rwa [List.take_length] at this
      have HR := Lib.hid (HE0.out HNL'.out hnr)
      have HMAP2 : Hid (vals.map FCv.fc = fcsFrom lk P 0 rows) := Lib.hid (by have := HMAP.out; rwa [List.take_of_length_le (by rw [fcsFrom_len]; omega)] at this)
      have hge : ¬ (rows.length : Int) < sh.length := by omega
      clear hnr
      go_wp2_with (first
        | ((with_reducible (show wpList _ _ _ (⟨_, .load 54 _, _, _, _, none⟩ :: _) _ _)); refine wpList_loadEl (enc := listEnc) (size := 1) rfl 54 _ rfl _ _ rfl [.slice q1 vals.length c1] _ (range_of_obj HOB.out) rfl Try.underlying54 rfl Try.sizeCounts (.agg #[.slice q1 vals.length c1]) rfl ?_)
        | ((with_reducible (show wpList _ _ _ (⟨_, .store 54 (.tmp 6) _, _, _, _, none⟩ :: _) _ _)); (refine wpList_storeObj rfl 54 _ _ rfl (w.heap.size + 1 + 1) rfl [.slice none 0 0] [.slice q1 vals.length c1] rfl _ (by simp) (HKW8.out.obj O3.out (by first | exact id | (simp; omega))) 1 Try.sizeCounts rfl (by simp [Value.oneCell']) ?_); intro w9 hres hk9 hs9; have HRES := Lib.hid hres; have HK9 := Lib.hid hk9; clear hres hk9 hs9))
      refine bodyPost_ret (results_obj_tmp rfl rfl _ _ (range_of_obj HRES.out) Try.underlying54 rfl 1 Try.sizeCounts rfl) rfl ?_
      show CountsPost _ _ _ _
      rw [HR.out]
      have hlo : w.heap.size + 3 ≤ w7.heap.size := Nat.le_trans hsW HKW7.out.size
      have hf9 : ∀ f ∈ vals, FcOk w7.heap.size w9 f := fun f hf => (HFC.out f hf).keep HK9.out (fun g hg _ _ hs => by have h3 : g = w.heap.size + 1 + 1 := hs; omega)
      have ho9 := HOWN.out.keep HK9.out (fun g hg hs => by have h3 : g = w.heap.size + 1 + 1 := hs; have := (World.ownsRow.lt HOWN.out g hg).1; omega)
      exact ⟨q1, c1, vals, rfl, HMAP2.out, ⟨(ho9.reads FCv.enc_len).2.2.2.1, fun f hf => (hf9 f hf).bl, fun f hf => (hf9 f hf).ed⟩, by have := congrArg List.length HMAP2.out; rw [List.length_map, fcsFrom_len] at this; omega, (HK.out.trans HKW8.out).andThen HK9.out (by intro k h1 h2; omega)⟩

end Go.Proofs.Ytlhmajjmhkjcoaa
