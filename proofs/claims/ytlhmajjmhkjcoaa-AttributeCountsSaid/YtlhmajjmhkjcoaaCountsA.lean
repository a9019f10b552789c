/-
  Chapter 23: attribute.Counts.
-/
import Derived.Test.YtlhmajjmhkjcoaaCountsSame
import Derived.Test.YtlhmajjmhkjcoaaNumbers
import Derived.Test.YtlhmajjmhkjcoaaPush3
import Derived.Test.YtlhmajjmhkjcoaaAdd
namespace Go.Proofs.Ytlhmajjmhkjcoaa
open Go.RowKit

theorem Try.sizeCounts : (Try.prog.info? 54).map (·.size) = some 1 := by kernel_rfl
theorem Try.infoFc : (Try.prog.info? 88).map (fun i => (i.zero, i.size, i.bytes)) = some (some (.agg #[.int .i64 0, .slice none 0 0, .slice none 0 0, .slice none 0 0]), 4, 80) := by kernel_rfl
theorem Try.infoEdge : (Try.prog.info? 89).map (fun i => (i.zero, i.size, i.bytes)) = some (some (.agg #[.int .i64 0, .int .i64 0]), 2, 16) := by kernel_rfl

def cas (l : List Lk) (p : Int) (n : Nat) : List Int := (List.range n).map (callOf l p)
theorem cas_len (l : List Lk) (p : Int) (n : Nat) : (cas l p n).length = n := by simp [cas]
theorem cas_get {l : List Lk} {p : Int} {n f : Nat} (h : f < n) : (cas l p n)[f]? = some (callOf l p f) := by simp [cas, h]
theorem cas_nil (p : Int) (n : Nat) : cas [] p n = List.replicate n (-1) := by
  apply List.ext_getElem?
  intro i
  by_cases h : i < n
  · rw [cas_get h]; simp [h, callOf, calls]
  · rw [List.getElem?_eq_none (by rw [cas_len]; omega), List.getElem?_eq_none (by simp; omega)]
theorem cas_zero {l : List Lk} {k : Nat} {x : Lk} {p : Int} {n : Nat} (hx : l[k]? = some x) (h0 : x.count = 0) : cas (l.take (k + 1)) p n = cas (l.take k) p n := by
  apply List.map_congr_left
  intro f _
  have : calls (l.take (k + 1)) f = calls (l.take k) f := by rw [calls_take_snoc hx, h0]; simp
  simp only [callOf, this]
theorem cas_step {l : List Lk} {k C : Nat} {x : Lk} {p s : Int} {n : Nat} (hx : l[k]? = some x) (hC : x.callee = (C : Int)) (hs : calls (l.take k) C * p + x.count * p = s) (hs0 : s ≠ 0) : (cas (l.take k) p n).set C s = cas (l.take (k + 1)) p n := by
  apply List.ext_getElem?
  intro f
  by_cases hf : f < n
  · rw [cas_get hf]
    by_cases hCf : C = f
    · subst hCf
      rw [List.getElem?_set_self (by rw [cas_len]; exact hf)]
      have : calls (l.take (k + 1)) C * p = s := by rw [calls_take_snoc hx, if_pos hC, Int.add_mul]; exact hs
      simp [callOf, this, hs0]
    · rw [List.getElem?_set_ne hCf, cas_get hf]
      have : calls (l.take (k + 1)) f = calls (l.take k) f := by rw [calls_take_snoc hx, if_neg (by rw [hC]; omega)]; simp
      simp only [callOf, this]
  · rw [List.getElem?_eq_none (by rw [List.length_set, cas_len]; omega), List.getElem?_eq_none (by rw [cas_len]; omega)]

/-- The first fill. -/
def FillInv (n g : Nat) (w0 : World) (i : Value) (w : World) : Prop := ∃ k : Nat, i = .int .i64 k ∧ k ≤ n ∧ Arr intEnc 3 w g (List.replicate k (-1) ++ List.replicate (n - k) 0) ∧ Keep (· = g) w0 w

def CallInv (l : List Lk) (p : Int) (n g : Nat) (w0 : World) (i : Value) (w : World) : Prop :=
  ∃ k : Nat, i = .int .i64 k ∧ k ≤ l.length ∧ Arr intEnc 3 w g (cas (l.take k) p n) ∧ (∀ f, f < n → calls (l.take k) f * p ≤ 1099511627776) ∧ Keep (· = g) w0 w

/-- The rows that are done. -/
def RowInv (l : List Lk) (p : Int) (rows : List (List Int)) (ob lo : Nat) (w7 : World) (i : Value) (w : World) : Prop :=
  ∃ (k : Nat) (q : Option Addr) (c : Nat) (vals : List FCv), i = .int .i64 k ∧ k ≤ rows.length ∧ w.heap[ob]? = some (.cells #[.slice q vals.length c] 54 (0, 0)) ∧ Own FCv.enc 4 88 lo w (.slice q vals.length c) vals ∧
    vals.map FCv.fc = (fcsFrom l p 0 rows).take k ∧ (∀ f ∈ vals, FcOk lo w f) ∧ ¬ overR (rows.take k) p ∧ Keep (· = ob) w7 w

/-- The blocks of a row that are done. -/
def BlkInv (p : Int) (row : List Int) (e : Int) (fb lo : Nat) (w8 : World) (i : Value) (w : World) : Prop :=
  ∃ (j : Nat) (q : Option Addr) (c : Nat) (q' : Option Addr) (c' : Nat), i = .int .i64 j ∧ j ≤ row.length ∧ w.heap[fb]? = some (.cells #[.int .i64 e, .slice q j c, .slice q' j c', .slice none 0 0] 88 (0, 0)) ∧
    Own intEnc 1 3 lo w (.slice q j c) ((row.take j).map (blockOf p)) ∧ Own edgeEnc 2 89 lo w (.slice q' j c') (ones j) ∧ (∀ x ∈ row.take j, ¬ 1099511627776 < x * p) ∧ Keep (· = fb) w8 w

abbrev OwnI (lo : Nat) (w : World) (v : Value) (xs : List Int) : Prop := Own intEnc 1 3 lo w v xs
abbrev OwnE (lo : Nat) (w : World) (v : Value) (xs : List Unit) : Prop := Own edgeEnc 2 89 lo w v xs

/-- What one operation of the drawn region leaves to the others. -/
def R36 (S : Nat → Prop) (lo : Nat) (xs : List Int) (es : List Unit) (w w' : World) : Prop :=
  Keep S w w' ∧ (∀ v, OwnI lo w v xs → OwnI lo w' v xs) ∧ (∀ v, OwnE lo w v es → OwnE lo w' v es)
theorem R36.still {S : Nat → Prop} {lo : Nat} {xs : List Int} {es : List Unit} {w w' : World} (h : Keep None w w') : R36 S lo xs es w w' :=
  ⟨h.weaken (fun _ _ q => q.elim), fun _ a => a.keep h (fun _ _ => id), fun _ a => a.keep h (fun _ _ => id)⟩
theorem R36.refl (S : Nat → Prop) (lo : Nat) (xs : List Int) (es : List Unit) (w : World) : R36 S lo xs es w w := R36.still (Keep.refl _ _)

theorem made_keep {S : Nat → Prop} {lo : Nat} {xs : List Int} {es : List Unit} (e : TypeId) (m : Nat) (cells : List Value) (hS : ∀ g, m ≤ g → ¬ S g) : ∀ w w' v, R36 S lo xs es w w' → Made e m cells w v → Made e m cells w' v :=
  fun _ _ _ h ⟨g, c, h1, h2, h3, h4⟩ => ⟨g, c, h1, h2, Nat.lt_of_lt_of_le h3 h.1.size, h.1.obj h4 (hS g h2)⟩
def AppI (lo n : Nat) (xs : List Int) (w : World) (v : Value) : Prop := ∃ p c, v = .slice p n c ∧ OwnI lo w v xs
def AppE (lo n : Nat) (es : List Unit) (w : World) (v : Value) : Prop := ∃ p c, v = .slice p n c ∧ OwnE lo w v es
theorem appI_keep {S : Nat → Prop} {lo n : Nat} {xs : List Int} {es : List Unit} : ∀ w w' v, R36 S lo xs es w w' → AppI lo n xs w v → AppI lo n xs w' v := fun _ _ _ h ⟨p, c, h1, h2⟩ => ⟨p, c, h1, h.2.1 _ h2⟩
theorem appE_keep {S : Nat → Prop} {lo n : Nat} {xs : List Int} {es : List Unit} : ∀ w w' v, R36 S lo xs es w w' → AppE lo n es w v → AppE lo n es w' v := fun _ _ _ h ⟨p, c, h1, h2⟩ => ⟨p, c, h1, h.2.2 _ h2⟩

set_option maxRecDepth 100000 in
set_option maxHeartbeats 8000000 in
theorem counts_calls (ok : Nat → Prop) (v : Value) (n : Nat) (ps : List Pl) (p q : Option Addr) (c d : Nat) (h : Hits) (P : Int) (w : World) (hi : ImgV w v n ps) (hh : HitsAt ok w p q h) (hP : i64 P) :
    Calls Try.prog 17 #[v, hitsVal p c q d h, .int .i64 P] w (CountsPost (countsR (shapeL n ps) h P) w) := by
  obtain ⟨i1, hi1, hy0, hy1, hy2⟩ := info_parts Try.infoInt
  obtain ⟨i5, hi5, hv0, hv1, hv2⟩ := info_parts Try.infoEdge
  obtain ⟨i8, hi8, hz0, hz1, hz2⟩ := info_parts Try.infoFc
  unfold i64 at hP
  obtain ⟨hP0, hP1⟩ := hP
  have ln := hi.ln
  have hii := hi
  obtain ⟨⟨p0, n0, c0, p1, c1, p2, n2, c2, p3, n3, c3, k4, k5, p6, n6, c6, p7, c7, rfl, -⟩, -, -, -⟩ := hii
  obtain ⟨rows, lk, u, o⟩ := h
  have nb := hh.nb
  have nl := hh.nl
  simp only at nb nl
  simp only [hitsVal]
  have HBX : Hid (∃ W : World, Keep None w W ∧ W = ((w.alloc (.cells #[.slice p0 n0 c0, .slice p1 n c1, .slice p2 n2 c2, .slice p3 n3 c3, .int .i64 k4, .int .i64 k5, .slice p6 n6 c6, .slice p7 ps.length c7] 29)).alloc (.cells #[.slice p rows.length c, .slice q lk.length d, .int .i64 u, .int .i64 o] 40)).alloc (.cells #[.slice none 0 0] 54) ∧
      W.heap[w.heap.size]? = some (.cells #[.slice p0 n0 c0, .slice p1 n c1, .slice p2 n2 c2, .slice p3 n3 c3, .int .i64 k4, .int .i64 k5, .slice p6 n6 c6, .slice p7 ps.length c7] 29 (0, 0)) ∧ W.heap[w.heap.size + 1]? = some (.cells #[.slice p rows.length c, .slice q lk.length d, .int .i64 u, .int .i64 o] 40 (0, 0)) ∧ W.heap[w.heap.size + 1 + 1]? = some (.cells #[.slice none 0 0] 54 (0, 0)) ∧ w.heap.size + 3 ≤ W.heap.size) :=
    Lib.hid ⟨_, (((Keep.refl None w).alloc _).alloc _).alloc _, rfl, (((Keep.refl None _).alloc _).alloc _).obj (heap_alloc_new _ _) id, ((Keep.refl None _).alloc _).obj (alloc_at (by simp)) id, alloc_at (by simp), by simp⟩
  obtain ⟨W, hKW, hWe, ho1, ho2, ho3, hsW⟩ := HBX.out
  have HK := Lib.hid hKW
  have HWE := Lib.hid hWe.symm
  have O1 := Lib.hid ho1
  have O2 := Lib.hid ho2
  have O3 := Lib.hid ho3
  have HH := Lib.hid (hh.still hKW)
  have HSHAPE := Lib.hid (shape_calls _ n ps W (hi.keep hKW))
  have hsl := shapeL_len n ps
  have hsm := fun x hx => (shape_small (n := n) (ps := ps) x hx).2
  generalize shapeL n ps = sh at *
  have HSN := Lib.hid hsl
  have HSM := Lib.hid hsm
  have hsn : sh.length ≤ 1000000 := by omega
  clear HBX hKW hWe ho1 ho2 ho3 hi hh hsl hsm
  by_cases hp1 : P < 1
  · have HR := Lib.hid (err1 (sh := sh) (h := ⟨rows, lk, u, o⟩) (.inl hp1))
    go_enter Try.func17, Try.ntmps17
    go_wp2_with (first
      | ((with_reducible (show wpList _ _ _ (⟨_, .load 29 _, _, _, _, none⟩ :: _) _ _)); (try rw [HWE.out]); refine wpList_loadEl (enc := listEnc) (size := 8) rfl 29 _ rfl _ _ rfl [.slice p0 n0 c0, .slice p1 n c1, .slice p2 n2 c2, .slice p3 n3 c3, .int .i64 k4, .int .i64 k5, .slice p6 n6 c6, .slice p7 ps.length c7] _ (range_of_obj O1.out) rfl Try.underlying29 rfl Try.sizeImg (.agg #[.slice p0 n0 c0, .slice p1 n c1, .slice p2 n2 c2, .slice p3 n3 c3, .int .i64 k4, .int .i64 k5, .slice p6 n6 c6, .slice p7 ps.length c7]) rfl ?_)
      | (go_at_call 36; (try rw [HWE.out]); refine HSHAPE.out.mono ?_; rintro e w1 ⟨psh, csh, rfl, hsl1, hk1, hfr1⟩; have HSL1 := Lib.hid hsl1; have HK1 := Lib.hid hk1; clear hsl1 hk1 hfr1)
      | ((with_reducible (show wpList _ _ _ (⟨_, .store 54 (.tmp 6) _, _, _, _, none⟩ :: _) _ _)); (refine wpList_storeObj rfl 54 _ _ rfl (w.heap.size + 1 + 1) rfl [.slice none 0 0] [.slice none 0 0] rfl _ (by simp) (HK1.out.obj O3.out (by first | exact id | (simp; omega))) 1 Try.sizeCounts rfl (by simp [Value.oneCell']) ?_); intro w9 hres hk9 hs9; have HRES := Lib.hid hres; have HK9 := Lib.hid hk9; clear hres hk9 hs9))
    (refine bodyPost_ret (results_obj_tmp rfl rfl _ _ (range_of_obj HRES.out) Try.underlying54 rfl 1 Try.sizeCounts rfl) rfl ?_; show CountsPost _ _ _ _; rw [HR.out]; exact ⟨none, 0, [], rfl, rfl, ⟨.inl rfl, by simp, by simp⟩, by simp, (HK.out.trans HK1.out).andThen HK9.out (by intro k h1 h2; omega)⟩)
  by_cases hp2 : 1099511627776 < P
  · have HR := Lib.hid (err1 (sh := sh) (h := ⟨rows, lk, u, o⟩) (.inr hp2))
    go_enter Try.func17, Try.ntmps17
    go_wp2_with (first
      | ((with_reducible (show wpList _ _ _ (⟨_, .load 29 _, _, _, _, none⟩ :: _) _ _)); (try rw [HWE.out]); refine wpList_loadEl (enc := listEnc) (size := 8) rfl 29 _ rfl _ _ rfl [.slice p0 n0 c0, .slice p1 n c1, .slice p2 n2 c2, .slice p3 n3 c3, .int .i64 k4, .int .i64 k5, .slice p6 n6 c6, .slice p7 ps.length c7] _ (range_of_obj O1.out) rfl Try.underlying29 rfl Try.sizeImg (.agg #[.slice p0 n0 c0, .slice p1 n c1, .slice p2 n2 c2, .slice p3 n3 c3, .int .i64 k4, .int .i64 k5, .slice p6 n6 c6, .slice p7 ps.length c7]) rfl ?_)
      | (go_at_call 36; (try rw [HWE.out]); refine HSHAPE.out.mono ?_; rintro e w1 ⟨psh, csh, rfl, hsl1, hk1, hfr1⟩; have HSL1 := Lib.hid hsl1; have HK1 := Lib.hid hk1; clear hsl1 hk1 hfr1)
      | ((with_reducible (show wpList _ _ _ (⟨_, .store 54 (.tmp 6) _, _, _, _, none⟩ :: _) _ _)); (refine wpList_storeObj rfl 54 _ _ rfl (w.heap.size + 1 + 1) rfl [.slice none 0 0] [.slice none 0 0] rfl _ (by simp) (HK1.out.obj O3.out (by first | exact id | (simp; omega))) 1 Try.sizeCounts rfl (by simp [Value.oneCell']) ?_); intro w9 hres hk9 hs9; have HRES := Lib.hid hres; have HK9 := Lib.hid hk9; clear hres hk9 hs9))
    (refine bodyPost_ret (results_obj_tmp rfl rfl _ _ (range_of_obj HRES.out) Try.underlying54 rfl 1 Try.sizeCounts rfl) rfl ?_; show CountsPost _ _ _ _; rw [HR.out]; exact ⟨none, 0, [], rfl, rfl, ⟨.inl rfl, by simp, by simp⟩, by simp, (HK.out.trans HK1.out).andThen HK9.out (by intro k h1 h2; omega)⟩)
  have hPP : 1 ≤ P ∧ P ≤ 1099511627776 := by omega
  cases hf : fitsB sh ⟨rows, lk, u, o⟩ with
  | false =>
    have HR := Lib.hid (err2 hPP hf)
    have HF := Lib.hid hf
    clear hf
    go_enter Try.func17, Try.ntmps17
    go_wp2_with (first
      | ((with_reducible (show wpList _ _ _ (⟨_, .load 29 _, _, _, _, none⟩ :: _) _ _)); (try rw [HWE.out]); refine wpList_loadEl (enc := listEnc) (size := 8) rfl 29 _ rfl _ _ rfl [.slice p0 n0 c0, .slice p1 n c1, .slice p2 n2 c2, .slice p3 n3 c3, .int .i64 k4, .int .i64 k5, .slice p6 n6 c6, .slice p7 ps.length c7] _ (range_of_obj O1.out) rfl Try.underlying29 rfl Try.sizeImg (.agg #[.slice p0 n0 c0, .slice p1 n c1, .slice p2 n2 c2, .slice p3 n3 c3, .int .i64 k4, .int .i64 k5, .slice p6 n6 c6, .slice p7 ps.length c7]) rfl ?_)
      | (go_at_call 36; (try rw [HWE.out]); refine HSHAPE.out.mono ?_; rintro e w1 ⟨psh, csh, rfl, hsl1, hk1, hfr1⟩; have HSL1 := Lib.hid hsl1; have HK1 := Lib.hid hk1; clear hsl1 hk1 hfr1)
      | ((with_reducible (show wpList _ _ _ (⟨some 35, .load 40 _, _, _, _, none⟩ :: _) _ _)); refine wpList_loadEl (enc := listEnc) (size := 4) rfl 40 _ rfl _ _ rfl [.slice p rows.length c, .slice q lk.length d, .int .i64 u, .int .i64 o] _ (by first | exact range_of_obj (HK2.out.obj O2.out id) | exact range_of_obj (HK1.out.obj O2.out id)) rfl Try.underlying40 rfl Try.sizeHits (.agg #[.slice p rows.length c, .slice q lk.length d, .int .i64 u, .int .i64 o]) rfl ?_)
      | (go_at_call 37; refine (fits_calls ok psh csh sh p q c d ⟨rows, lk, u, o⟩ w1 HSL1.out (HH.out.still HK1.out) hsn).mono ?_; rintro e w2 ⟨rfl, hk2⟩; rw [HF.out]; have HK2 := Lib.hid (HK1.out.trans hk2); clear hk2)
      | ((with_reducible (show wpList _ _ _ (⟨_, .store 54 (.tmp 6) _, _, _, _, none⟩ :: _) _ _)); (refine wpList_storeObj rfl 54 _ _ rfl (w.heap.size + 1 + 1) rfl [.slice none 0 0] [.slice none 0 0] rfl _ (by simp) (HK2.out.obj O3.out (by first | exact id | (simp; omega))) 1 Try.sizeCounts rfl (by simp [Value.oneCell']) ?_); intro w9 hres hk9 hs9; have HRES := Lib.hid hres; have HK9 := Lib.hid hk9; clear hres hk9 hs9))
    (refine bodyPost_ret (results_obj_tmp rfl rfl _ _ (range_of_obj HRES.out) Try.underlying54 rfl 1 Try.sizeCounts rfl) rfl ?_; show CountsPost _ _ _ _; rw [HR.out]; exact ⟨none, 0, [], rfl, rfl, ⟨.inl rfl, by simp, by simp⟩, by simp, (HK.out.trans HK2.out).andThen HK9.out (by intro k h1 h2; omega)⟩)
  | true =>
  cases hn : allB nonnegB ⟨rows, lk, u, o⟩ with
  | false =>
    have HR := Lib.hid (err3 hPP hf hn)
    have HF := Lib.hid hf
    have HN := Lib.hid hn
    clear hf hn
    go_enter Try.func17, Try.ntmps17
    go_wp2_with (first
      | ((with_reducible (show wpList _ _ _ (⟨_, .load 29 _, _, _, _, none⟩ :: _) _ _)); (try rw [HWE.out]); refine wpList_loadEl (enc := listEnc) (size := 8) rfl 29 _ rfl _ _ rfl [.slice p0 n0 c0, .slice p1 n c1, .slice p2 n2 c2, .slice p3 n3 c3, .int .i64 k4, .int .i64 k5, .slice p6 n6 c6, .slice p7 ps.length c7] _ (range_of_obj O1.out) rfl Try.underlying29 rfl Try.sizeImg (.agg #[.slice p0 n0 c0, .slice p1 n c1, .slice p2 n2 c2, .slice p3 n3 c3, .int .i64 k4, .int .i64 k5, .slice p6 n6 c6, .slice p7 ps.length c7]) rfl ?_)
      | (go_at_call 36; (try rw [HWE.out]); refine HSHAPE.out.mono ?_; rintro e w1 ⟨psh, csh, rfl, hsl1, hk1, hfr1⟩; have HSL1 := Lib.hid hsl1; have HK1 := Lib.hid hk1; clear hsl1 hk1 hfr1)
      | ((with_reducible (show wpList _ _ _ (⟨some 35, .load 40 _, _, _, _, none⟩ :: _) _ _)); refine wpList_loadEl (enc := listEnc) (size := 4) rfl 40 _ rfl _ _ rfl [.slice p rows.length c, .slice q lk.length d, .int .i64 u, .int .i64 o] _ (by first | exact range_of_obj (HK2.out.obj O2.out id) | exact range_of_obj (HK1.out.obj O2.out id)) rfl Try.underlying40 rfl Try.sizeHits (.agg #[.slice p rows.length c, .slice q lk.length d, .int .i64 u, .int .i64 o]) rfl ?_)
      | (go_at_call 37; refine (fits_calls ok psh csh sh p q c d ⟨rows, lk, u, o⟩ w1 HSL1.out (HH.out.still HK1.out) hsn).mono ?_; rintro e w2 ⟨rfl, hk2⟩; rw [HF.out]; have HK2 := Lib.hid (HK1.out.trans hk2); clear hk2)
      | ((with_reducible (show wpList _ _ _ (⟨some 40, .load 40 _, _, _, _, none⟩ :: _) _ _)); refine wpList_loadEl (enc := listEnc) (size := 4) rfl 40 _ rfl _ _ rfl [.slice p rows.length c, .slice q lk.length d, .int .i64 u, .int .i64 o] _ (by first | exact range_of_obj (HK2.out.obj O2.out id) | exact range_of_obj (HK1.out.obj O2.out id)) rfl Try.underlying40 rfl Try.sizeHits (.agg #[.slice p rows.length c, .slice q lk.length d, .int .i64 u, .int .i64 o]) rfl ?_)
      | (go_at_call 28; refine (numbers_calls nonnegB 38 (.inr rfl) counts1_calls ok p q c d ⟨rows, lk, u, o⟩ w2 (HH.out.still HK2.out)).mono ?_; rintro e w3 ⟨rfl, hk3⟩; rw [HN.out]; have HK3 := Lib.hid (HK2.out.trans hk3); clear hk3)
      | ((with_reducible (show wpList _ _ _ (⟨_, .store 54 (.tmp 6) _, _, _, _, none⟩ :: _) _ _)); (refine wpList_storeObj rfl 54 _ _ rfl (w.heap.size + 1 + 1) rfl [.slice none 0 0] [.slice none 0 0] rfl _ (by simp) (HK3.out.obj O3.out (by first | exact id | (simp; omega))) 1 Try.sizeCounts rfl (by simp [Value.oneCell']) ?_); intro w9 hres hk9 hs9; have HRES := Lib.hid hres; have HK9 := Lib.hid hk9; clear hres hk9 hs9))
    (refine bodyPost_ret (results_obj_tmp rfl rfl _ _ (range_of_obj HRES.out) Try.underlying54 rfl 1 Try.sizeCounts rfl) rfl ?_; show CountsPost _ _ _ _; rw [HR.out]; exact ⟨none, 0, [], rfl, rfl, ⟨.inl rfl, by simp, by simp⟩, by simp, (HK.out.trans HK3.out).andThen HK9.out (by intro k h1 h2; omega)⟩)
  | true =>
  obtain ⟨hlens, hlc⟩ := fits_links hf
  obtain ⟨hnb, hnl⟩ := nonneg_parts hn
  simp only at hlens hlc hnb hnl
  have HE4 := Lib.hid (fun ho => err4 (sh := sh) (h := ⟨rows, lk, u, o⟩) hPP hf hn ho)
  have HE0 := Lib.hid (fun ho hr => fine4 (sh := sh) (h := ⟨rows, lk, u, o⟩) hPP hf hn ho hr)
  have HF := Lib.hid hf
  have HN := Lib.hid hn
  have hrl : rows.length = sh.length := by rw [← hlens, lensI_len]
  have HRL := Lib.hid hrl
  have HR256 : Hid (∀ row ∈ rows, row.length ≤ 256) := Lib.hid (fun row hr => by
    have h1 : ((row.length : Int)) ∈ sh := by rw [← hlens]; exact List.mem_map.2 ⟨row, hr, rfl⟩
    have := HSM.out _ h1
    omega)
  have HLC := Lib.hid hlc
  have HNB := Lib.hid hnb
  have HNL := Lib.hid hnl
  simp only at HE4 HE0
  have b1 : Hid (∀ W' : World, Keep None W W' → W'.cell? ⟨w.heap.size + 1, 0, none⟩ = some (.slice p rows.length c) ∧ W'.cell? ⟨w.heap.size + 1, 1, none⟩ = some (.slice q lk.length d)) := Lib.hid (fun W' hk => by
    have h2 := hk.obj O2.out id
    simp [World.cell?, h2])
  clear hf hn hlens hrl hlc hnb hnl
  go_enter Try.func17, Try.ntmps17
  go_wp2_with (first
    | ((with_reducible (show wpList _ _ _ (⟨_, .load 29 _, _, _, _, none⟩ :: _) _ _)); (try rw [HWE.out]); refine wpList_loadEl (enc := listEnc) (size := 8) rfl 29 _ rfl _ _ rfl [.slice p0 n0 c0, .slice p1 n c1, .slice p2 n2 c2, .slice p3 n3 c3, .int .i64 k4, .int .i64 k5, .slice p6 n6 c6, .slice p7 ps.length c7] _ (range_of_obj O1.out) rfl Try.underlying29 rfl Try.sizeImg (.agg #[.slice p0 n0 c0, .slice p1 n c1, .slice p2 n2 c2, .slice p3 n3 c3, .int .i64 k4, .int .i64 k5, .slice p6 n6 c6, .slice p7 ps.length c7]) rfl ?_)
    | (go_at_call 36; (try rw [HWE.out]); refine HSHAPE.out.mono ?_; rintro e w1 ⟨psh, csh, rfl, hsl1, hk1, hfr1⟩; have HSL1 := Lib.hid hsl1; have HK1 := Lib.hid hk1; clear hsl1 hk1 hfr1)
    | ((with_reducible (show wpList _ _ _ (⟨some 35, .load 40 _, _, _, _, none⟩ :: _) _ _)); refine wpList_loadEl (enc := listEnc) (size := 4) rfl 40 _ rfl _ _ rfl [.slice p rows.length c, .slice q lk.length d, .int .i64 u, .int .i64 o] _ (by first | exact range_of_obj (HK2.out.obj O2.out id) | exact range_of_obj (HK1.out.obj O2.out id)) rfl Try.underlying40 rfl Try.sizeHits (.agg #[.slice p rows.length c, .slice q lk.length d, .int .i64 u, .int .i64 o]) rfl ?_)
    | (go_at_call 37; refine (fits_calls ok psh csh sh p q c d ⟨rows, lk, u, o⟩ w1 HSL1.out (HH.out.still HK1.out) hsn).mono ?_; rintro e w2 ⟨rfl, hk2⟩; rw [HF.out]; have HK2 := Lib.hid (HK1.out.trans hk2); clear hk2)
    | ((with_reducible (show wpList _ _ _ (⟨some 40, .load 40 _, _, _, _, none⟩ :: _) _ _)); refine wpList_loadEl (enc := listEnc) (size := 4) rfl 40 _ rfl _ _ rfl [.slice p rows.length c, .slice q lk.length d, .int .i64 u, .int .i64 o] _ (by first | exact range_of_obj (HK2.out.obj O2.out id) | exact range_of_obj (HK1.out.obj O2.out id)) rfl Try.underlying40 rfl Try.sizeHits (.agg #[.slice p rows.length c, .slice q lk.length d, .int .i64 u, .int .i64 o]) rfl ?_)
    | (go_at_call 28; refine (numbers_calls nonnegB 38 (.inr rfl) counts1_calls ok p q c d ⟨rows, lk, u, o⟩ w2 (HH.out.still HK2.out)).mono ?_; rintro e w3 ⟨rfl, hk3⟩; rw [HN.out]; have HK3 := Lib.hid (HK2.out.trans hk3); clear hk3)
    | (refine wpList_makeArr (enc := intEnc) _ rfl _ _ 25 rfl 3 i1 (.int .i64 0) 8 Try.underlying25 hi1 hy0 hy1 hy2 (0 : Int) intEnc_len rfl (by omega) .i64 .i64 _ _ sh.length rfl rfl rfl rfl (by omega) (by omega) ?_; intro w4 harr hk4 hs4; have HO4 := Lib.hid harr; have HK4 := Lib.hid (HK3.out.trans hk4); have hw34 := heap_lt harr; clear harr hk4 hs4))
  have HS3 : Hid (w.heap.size + 3 ≤ w3.heap.size) := Lib.hid (Nat.le_trans hsW HK3.out.size)
  go_loopw [49] (FillInv sh.length w3.heap.size w4) (fun i _ => sh.length - (intOf i).toNat)
  case atStart => exact ⟨0, rfl, by omega, by simpa using HO4.out, Keep.refl _ _⟩
  case round =>
    obtain ⟨k, rfl, hk, harr, hkp⟩ := hrel
    have HA := Lib.hid harr
    have HKP := Lib.hid hkp
    clear harr hkp
    by_cases hlt : k < sh.length
    · have hgk : (List.replicate k (-1 : Int) ++ List.replicate (sh.length - k) 0)[k]? = some 0 := by
        rw [List.getElem?_append_right (by simp), List.length_replicate, Nat.sub_self, show sh.length - k = (sh.length - (k + 1)) + 1 from by omega, List.replicate_succ]
        rfl
      have hc1 : wr.cell? ⟨w3.heap.size, k, none⟩ = some (.int .i64 0) := by
        have := (HA.out.slAt intEnc_len).int hgk
        simpa using this
      have hf1 : wr.frozen? ⟨w3.heap.size, k, none⟩ = false := by
        have h : wr.heap[w3.heap.size]? = some _ := HA.out
        simp [World.frozen?, h]
      have HGK := Lib.hid hgk
      have hki : (k : Int) < sh.length := by omega
      clear hgk
      go_wp2_with (fail)
      clear hc1 hf1
      go_roundw
      case rel =>
        have hset := HA.out.setField (size := 1) intEnc_len HGK.out (j := 0) (by omega) (v := .int .i64 (-1)) (c := -1) rfl
        simp only [Nat.mul_one, Nat.add_zero] at hset
        refine ⟨k + 1, by go_num, by omega, ?_, HKP.out.setCell (p := ⟨w3.heap.size, k, none⟩) (.inl rfl) _⟩
        have he : (List.replicate k (-1 : Int) ++ List.replicate (sh.length - k) 0).set k (-1) = List.replicate (k + 1) (-1) ++ List.replicate (sh.length - (k + 1)) 0 := by
          rw [List.set_append_right _ _ (by simp), List.length_replicate, Nat.sub_self, show sh.length - k = (sh.length - (k + 1)) + 1 from by omega, List.replicate_succ, List.set_cons_zero, List.replicate_succ']
          simp
        rw [← he]
        exact hset
      case measure => simp [intOf]; omega
    · have hke : k = sh.length := by omega
      subst hke
      have HA1 : Hid (Arr intEnc 3 wr w3.heap.size (cas [] P sh.length)) := Lib.hid (by rw [cas_nil]; simpa using HA.out)
      obtain ⟨w5, rfl⟩ : ∃ w5 : World, w5 = wr := ⟨_, rfl⟩
      have HK5 : Hid (Keep None W w5) := Lib.hid (HK4.out.andThen HKP.out (fun k h1 h2 => by have h3 : k = w3.heap.size := h2; have := HS3.out; have := HK3.out.size; omega))
      clear HA hlt hk HO4
      obtain ⟨-, e1⟩ := b1.out _ HK5.out
      go_wp2_with (fail)
      clear e1
      go_loopw [59] (CallInv lk P sh.length w3.heap.size w5) (fun i _ => lk.length - (intOf i).toNat)
      case atStart => exact ⟨0, rfl, by omega, HA1.out, fun f _ => by simp [calls], Keep.refl _ _⟩
      case round =>
        obtain ⟨k, rfl, hk, harr, hov, hkp⟩ := hrel
        have HA := Lib.hid harr
        have HOV := Lib.hid hov
        have HKP := Lib.hid hkp
        have HKW : Hid (Keep None W wr) := Lib.hid (HK5.out.andThen hkp (fun k h1 h2 => by have h3 : k = w3.heap.size := h2; have := HK3.out.size; omega))
        clear harr hov hkp
        by_cases hlt : k < lk.length
        · obtain ⟨x, hx⟩ : ∃ x, lk[k]? = some x := ⟨lk[k], by simp [hlt]⟩
          have hxm := List.mem_of_getElem? hx
          have hx0 := HNL.out x hxm
          obtain ⟨hcc0, hcc1⟩ := HLC.out x hxm
          have HX := Lib.hid hx
          obtain ⟨x0, x1, x2, x3⟩ := x
          simp only at hx0 hcc0 hcc1
          obtain ⟨C, rfl⟩ : ∃ C : Nat, x2 = C := ⟨x2.toNat, by omega⟩
          have hC : C < sh.length := by omega
          obtain ⟨g, o', rfl, hsl⟩ : ∃ g o, q = some ⟨g, o, none⟩ ∧ wr.rangeAt g (o + k * 4) (Lk.enc ⟨x0, x1, (C : Int), x3⟩) := by
            rcases (HH.out.still HKW.out).links with h | ⟨g, o, he, h⟩
            · simp only at h; subst h; simp at hlt
            · exact ⟨g, o, he, h.range hx⟩
          have HSL := Lib.hid hsl
          have hki : (k : Int) < lk.length := by omega
          have hki2 : k < lk.length := hlt
          clear hx hsl hxm
          by_cases h30 : x3 = 0
          · subst h30
            go_wp2_with ((with_reducible (show wpList _ _ _ (⟨some 62, .load 72 _, _, _, _, none⟩ :: _) _ _)); refine wpList_loadEl rfl 72 _ rfl _ _ rfl _ _ HSL.out (Lk.enc_len _) Try.underlying72 rfl Try.sizeLk (.agg #[.int .i64 x0, .int .i64 x1, .int .i64 (C : Int), .int .i64 _]) rfl ?_)
            go_roundw
            case rel =>
              have hal : Keep None wr (wr.alloc (.cells #[.int .i64 x0, .int .i64 x1, .int .i64 (C : Int), .int .i64 0] 72)) := (Keep.refl None wr).alloc _
              refine ⟨k + 1, by go_num, by omega, by rw [cas_zero HX.out rfl]; exact HA.out.keep hal id, fun f hf => ?_, HKP.out.alloc _⟩
              have := HOV.out f hf
              rw [calls_take_snoc HX.out]
              simpa using this
            case measure => simp [intOf]; omega
          · have h3p : 0 < x3 := by omega
            have hne : (x3 == 0) = false := by simp; omega
            clear h30
            generalize hs : calls (lk.take k) C * P = s at *
            have hs0 : 0 ≤ s := by rw [← hs]; exact Int.mul_nonneg (calls_nonneg _ (fun y hy => HNL.out y (List.mem_of_mem_take hy))) (by omega)
            have hs1 : s ≤ 1099511627776 := by rw [← hs]; exact HOV.out C hC
            have HS := Lib.hid hs
            have hgC : (cas (lk.take k) P sh.length)[C]? = some (if s = 0 then -1 else s) := by
              rw [cas_get hC]; simp only [callOf, hs]
            obtain ⟨y, hy, hyv⟩ : ∃ y, (cas (lk.take k) P sh.length)[C]? = some y ∧ (if y < 0 then 0 else y) = s ∧ -1 ≤ y ∧ y ≤ 1099511627776 := by
              refine ⟨_, hgC, ?_⟩
              split <;> (try split) <;> omega
            obtain ⟨hyv, hyl, hyu⟩ := hyv
            have HY := Lib.hid hy
            have HYV := Lib.hid hyv
            have HMC := Lib.hid (calls_take_snoc HX.out C)
            have HLE := Lib.hid (calls_take_le (l := lk) (k + 1) C HNL.out)
            clear hs hgC hy hyv
            by_cases hov : 1099511627776 < x3 * P
            · have HSV := Lib.hid (show scaledV x3 P = .tuple #[.int .i64 0, .bool false] from by rw [scaledV, if_pos hov])
              have hover : overL lk P rows.length := by
                refine ⟨C, by have := HRL.out; omega, ?_⟩
                have h1 := HMC.out
                rw [if_pos rfl] at h1
                have h2 := HLE.out
                have h3 : 0 ≤ calls (lk.take k) C := calls_nonneg _ (fun y hy => HNL.out y (List.mem_of_mem_take hy))
                have h4 : x3 * P ≤ calls lk C * P := Int.mul_le_mul_of_nonneg_right (by simp only at h1; omega) (by omega)
                omega
              have HR := Lib.hid (HE4.out (.inl hover))
              have HOVV := Lib.hid hov
              clear hov hover
              go_wp2_with (first
                | ((with_reducible (show wpList _ _ _ (⟨some 62, .load 72 _, _, _, _, none⟩ :: _) _ _)); refine wpList_loadEl rfl 72 _ rfl _ _ rfl _ _ HSL.out (Lk.enc_len _) Try.underlying72 rfl Try.sizeLk (.agg #[.int .i64 x0, .int .i64 x1, .int .i64 (C : Int), .int .i64 _]) rfl ?_)
                | (go_at_call 39; refine (scaled_calls x3 P _ (by omega) (by omega) (by omega)).mono ?_; rintro e w' ⟨rfl, rfl⟩; rw [HSV.out]))
              generalize hwb : World.alloc _ _ = wb
              have hkb : Keep None wr wb := by rw [← hwb]; exact (Keep.refl _ _).alloc _
              have bx : wb.cell? ⟨wr.heap.size, 2, none⟩ = some (.int .i64 (C : Int)) := by rw [← hwb]; exact cell_of_row _ _ 2 _ _ _ (heap_alloc_new _ _)
              have HAB := Lib.hid (HA.out.keep hkb id)
              have cy : wb.cell? ⟨w3.heap.size, C, none⟩ = some (.int .i64 y) := by
                have := (HAB.out.slAt intEnc_len).int HY.out
                simpa using this
              have cyd : (World.drew wb).cell? ⟨w3.heap.size, C, none⟩ = some (.int .i64 y) := cy
              have cfd : (World.drew wb).frozen? ⟨w3.heap.size, C, none⟩ = false := by
                have h : (World.drew wb).heap[w3.heap.size]? = some _ := HAB.out
                simp [World.frozen?, h]
              have HKB := Lib.hid hkb
              clear hwb hkb
              refine region_tail 11 (by kernel_rfl) (by kernel_rfl) ?_
              simp only [List.take_succ_cons, List.take_zero, List.drop_succ_cons, List.drop_zero]
              repeat still_step
              refine wpStill_nil ?_
              have q2 : IntKind.i64.wrap s = s := IntWalk.i64_in _ (by omega)
              simp only [HYV.out, Int.add_zero, q2]
              clear bx cy
              have HKW2 : Hid (Keep None W (World.drew (wb.setCell ⟨w3.heap.size, C, none⟩ (.int .i64 s)))) := Lib.hid ((((HKW.out.trans HKB.out).setCell (p := ⟨w3.heap.size, C, none⟩) (.inr (by have := HK3.out.size; exact this)) _)).drew)
              go_wp2_with (((with_reducible (show wpList _ _ _ (⟨_, .store 54 (.tmp 6) _, _, _, _, none⟩ :: _) _ _)); (refine wpList_storeObj rfl 54 _ _ rfl (w.heap.size + 1 + 1) rfl [.slice none 0 0] [.slice none 0 0] rfl _ (by simp) (HKW2.out.obj O3.out (by first | exact id | (simp; omega))) 1 Try.sizeCounts rfl (by simp [Value.oneCell']) ?_); intro w9 hres hk9 hs9; have HRES := Lib.hid hres; have HK9 := Lib.hid hk9; clear hres hk9 hs9))
              (refine bodyPost_ret (results_obj_tmp rfl rfl _ _ (range_of_obj HRES.out) Try.underlying54 rfl 1 Try.sizeCounts rfl) rfl ?_; show CountsPost _ _ _ _; rw [HR.out]; exact ⟨none, 0, [], rfl, rfl, ⟨.inl rfl, by simp, by simp⟩, by simp, (HK.out.trans HKW2.out).andThen HK9.out (by intro k h1 h2; omega)⟩)
            · have HSV := Lib.hid (show scaledV x3 P = .tuple #[.int .i64 (x3 * P), .bool true] from by rw [scaledV, if_neg hov])
              have hm0 : 0 < x3 * P := Int.mul_pos (by omega) (by omega)
              generalize hm : x3 * P = m at *
              have HM := Lib.hid hm
              clear hm
              have q2 : IntKind.i64.wrap (s + m) = s + m := IntWalk.i64_in _ (by omega)
              go_wp2_with (first
                | ((with_reducible (show wpList _ _ _ (⟨some 62, .load 72 _, _, _, _, none⟩ :: _) _ _)); refine wpList_loadEl rfl 72 _ rfl _ _ rfl _ _ HSL.out (Lk.enc_len _) Try.underlying72 rfl Try.sizeLk (.agg #[.int .i64 x0, .int .i64 x1, .int .i64 (C : Int), .int .i64 _]) rfl ?_)
                | (go_at_call 39; refine (scaled_calls x3 P _ (by omega) (by omega) (by omega)).mono ?_; rintro e w' ⟨rfl, rfl⟩; rw [HSV.out]))
              generalize hwb : World.alloc _ _ = wb
              have hkb : Keep None wr wb := by rw [← hwb]; exact (Keep.refl _ _).alloc _
              have bx : wb.cell? ⟨wr.heap.size, 2, none⟩ = some (.int .i64 (C : Int)) := by rw [← hwb]; exact cell_of_row _ _ 2 _ _ _ (heap_alloc_new _ _)
              have HAB := Lib.hid (HA.out.keep hkb id)
              have cy : wb.cell? ⟨w3.heap.size, C, none⟩ = some (.int .i64 y) := by
                have := (HAB.out.slAt intEnc_len).int HY.out
                simpa using this
              have cyd : (World.drew wb).cell? ⟨w3.heap.size, C, none⟩ = some (.int .i64 y) := cy
              have cfd : (World.drew wb).frozen? ⟨w3.heap.size, C, none⟩ = false := by
                have h : (World.drew wb).heap[w3.heap.size]? = some _ := HAB.out
                simp [World.frozen?, h]
              have HKB := Lib.hid hkb
              clear hwb hkb
              refine region_tail 11 (by kernel_rfl) (by kernel_rfl) ?_
              simp only [List.take_succ_cons, List.take_zero, List.drop_succ_cons, List.drop_zero]
              repeat still_step
              refine wpStill_nil ?_
              simp only [HYV.out, q2]
              have hkc : Keep (· = w3.heap.size) wb (wb.setCell ⟨w3.heap.size, C, none⟩ (.int .i64 (s + m))) := ((Keep.refl (· = w3.heap.size) _).setCell (p := ⟨w3.heap.size, C, none⟩) (.inl rfl) _)
              have hset := HAB.out.setField (size := 1) intEnc_len HY.out (j := 0) (by omega) (v := .int .i64 (s + m)) (c := s + m) rfl
              simp only [Nat.mul_one, Nat.add_zero] at hset
              have hac : Arr intEnc 3 (wb.setCell ⟨w3.heap.size, C, none⟩ (.int .i64 (s + m))) w3.heap.size ((cas (lk.take k) P sh.length).set C (s + m)) := hset
              have hbx := hkc.cell bx (by have := heap_lt HA.out; show ¬ wr.heap.size = w3.heap.size; omega)
              have HAC := Lib.hid hac
              have HKC := Lib.hid hkc
              have hz : (wb.setCell ⟨w3.heap.size, C, none⟩ (.int .i64 (s + m))).cell? ⟨w3.heap.size, C, none⟩ = some (.int .i64 (s + m)) := by
                have := (HAC.out.slAt intEnc_len).int (i := C) (x := s + m) (by simp [cas_len, hC])
                simpa using this
              have hzd : (wb.setCell ⟨w3.heap.size, C, none⟩ (.int .i64 (s + m))).drew.cell? ⟨w3.heap.size, C, none⟩ = some (.int .i64 (s + m)) := hz
              have hbxd : (wb.setCell ⟨w3.heap.size, C, none⟩ (.int .i64 (s + m))).drew.cell? ⟨wr.heap.size, 2, none⟩ = some (.int .i64 (C : Int)) := hbx
              clear hac hkc hset
              by_cases hov2 : 1099511627776 < s + m
              · have hover : overL lk P rows.length := by
                  refine ⟨C, by have := HRL.out; omega, ?_⟩
                  have h1 := HMC.out
                  simp only [if_true] at h1
                  have h2 := HLE.out
                  have h4 : calls (lk.take (k + 1)) C * P ≤ calls lk C * P := Int.mul_le_mul_of_nonneg_right h2 (by omega)
                  have h5 : calls (lk.take (k + 1)) C * P = s + m := by rw [h1, Int.add_mul, HS.out, HM.out]
                  omega
                have HR := Lib.hid (HE4.out (.inl hover))
                have HOVV := Lib.hid hov2
                have hdec : decide (1099511627776 < s + m) = true := by simpa using hov2
                have HKW2 : Hid (Keep None W (wb.setCell ⟨w3.heap.size, C, none⟩ (.int .i64 (s + m))).drew) := Lib.hid (Keep.drew <| (HKW.out.trans HKB.out).andThen HKC.out (fun k h1 h2 => by have h3 : k = w3.heap.size := h2; have := HK3.out.size; omega))
                clear hov2 hover
                go_wp2_with (((with_reducible (show wpList _ _ _ (⟨_, .store 54 (.tmp 6) _, _, _, _, none⟩ :: _) _ _)); (refine wpList_storeObj rfl 54 _ _ rfl (w.heap.size + 1 + 1) rfl [.slice none 0 0] [.slice none 0 0] rfl _ (by simp) (HKW2.out.obj O3.out (by first | exact id | (simp; omega))) 1 Try.sizeCounts rfl (by simp [Value.oneCell']) ?_); intro w9 hres hk9 hs9; have HRES := Lib.hid hres; have HK9 := Lib.hid hk9; clear hres hk9 hs9))
                (refine bodyPost_ret (results_obj_tmp rfl rfl _ _ (range_of_obj HRES.out) Try.underlying54 rfl 1 Try.sizeCounts rfl) rfl ?_; show CountsPost _ _ _ _; rw [HR.out]; exact ⟨none, 0, [], rfl, rfl, ⟨.inl rfl, by simp, by simp⟩, by simp, (HK.out.trans HKW2.out).andThen HK9.out (by intro k h1 h2; omega)⟩)
              · have hdec : decide (1099511627776 < s + m) = false := by simpa using hov2
                go_wp2_with (fail)
                refine ⟨⟨k + 1, by go_num, by omega, ?_, ?_, ?_⟩, by simp [intOf]; omega⟩
                · rw [← cas_step (s := s + m) HX.out rfl (by show calls (lk.take k) C * P + x3 * P = _; rw [HS.out, HM.out]) (by omega)]
                  exact HAC.out
                · intro f hf
                  by_cases hCf : C = f
                  · subst hCf
                    rw [HMC.out]
                    simp only [if_true]
                    rw [Int.add_mul, HS.out, HM.out]
                    omega
                  · rw [calls_take_snoc HX.out, if_neg (by show ¬ (C : Int) = f; omega)]
                    have := HOV.out f hf
                    simpa using this
                · exact ((HKP.out.trans (HKB.out.weaken (fun _ _ q => q.elim))).trans HKC.out).drew
        · have hke : k = lk.length := by omega
          subst hke
          have HA2 : Hid (Arr intEnc 3 wr w3.heap.size (cas lk P sh.length)) := Lib.hid (by have := HA.out; rwa [List.take_length] at this)
          have HNOV : Hid (¬ overL lk P rows.length) := Lib.hid (by
            rintro ⟨f, h1, h2⟩
            have := HOV.out f (by have := HRL.out; omega)
            rw [List.take_length] at this
            omega)
          obtain ⟨w6, rfl⟩ : ∃ w6 : World, w6 = wr := ⟨_, rfl⟩
          clear HA HOV hlt hk HKP
          go_upto_region 24 with (fail)
          generalize hw7 : World.alloc _ _ = w7
          have hk7 : Keep None w6 w7 := by rw [← hw7]; exact (Keep.refl _ _).alloc _
          have ho7 : w7.heap[w6.heap.size]? = some (.cells #[.slice none 0 0] 54 (0, 0)) := by rw [← hw7]; exact heap_alloc_new _ _
          have hs7 : w7.heap.size = w6.heap.size + 1 := by rw [← hw7]; simp
          have HO7 := Lib.hid ho7
          have HS7 := Lib.hid hs7
          have HKW7 := Lib.hid (HKW.out.trans hk7)
          have HA7 := Lib.hid (HA2.out.keep hk7 id)
          have h36 := heap_lt HA2.out
          have H36 := Lib.hid h36
          clear hw7 hk7 ho7 hs7 h36
          obtain ⟨e1, -⟩ := b1.out _ HKW7.out
          go_wp2_with (fail)
          clear e1
          go_loopw [100] (RowInv lk P rows w6.heap.size w7.heap.size w7) (fun i _ => rows.length - (intOf i).toNat)
          case atStart => exact ⟨0, none, 0, [], rfl, by omega, HO7.out, Own.nil _ _ _ _ _, by simp, by simp, by simp [overR], Keep.refl _ _⟩
          case round =>
            obtain ⟨wo, rfl⟩ : ∃ wo : World, wo = wr := ⟨_, rfl⟩
            obtain ⟨k, q1, c1, vals, rfl, hk, ho, hown, hmap, hfc, hno, hkp⟩ := hrel
            have HOB := Lib.hid ho
            have HOWN := Lib.hid hown
            have HMAP := Lib.hid hmap
            have HFC := Lib.hid hfc
            have HNO := Lib.hid hno
            have HKP := Lib.hid hkp
            have HKW8 : Hid (Keep None W wo) := Lib.hid (HKW7.out.andThen hkp (fun k h1 h2 => by have h3 : k = w6.heap.size := h2; have := HKW.out.size; omega))
            have HAR := Lib.hid (HA7.out.keep hkp (by have := H36.out; omega))
            clear ho hown hmap hfc hno hkp
            by_cases hlt : k < rows.length
            · obtain ⟨row, hrow⟩ : ∃ row, rows[k]? = some row := ⟨rows[k], by simp [hlt]⟩
              have hrm := List.mem_of_getElem? hrow
              have hr256 := HR256.out row hrm
              have HRNN := Lib.hid (HNB.out row hrm)
              obtain ⟨b, off, rfl, q2, cap2, hc2, hs2⟩ := (HH.out.still HKW8.out).rows.at hrow
              have hks : k < sh.length := by have := HRL.out; omega
              have hcc : wo.cell? ⟨w3.heap.size, k, none⟩ = some (.int .i64 (callOf lk P k)) := by
                have := (HAR.out.slAt intEnc_len).int (cas_get hks)
                simpa using this
              have HROW := Lib.hid hrow
              have HS2 := Lib.hid hs2
              have HRM := Lib.hid hrm
              have hki : (k : Int) < rows.length := by omega
              have hki2 : (k : Int) < sh.length := by omega
              clear hrow hrm hs2
              go_upto_region 28 with ((with_reducible (show wpList _ _ _ (⟨_, .store 88 (.tmp 18) _, _, _, _, none⟩ :: _) _ _)); refine wpList_storeObj rfl 88 _ _ rfl wo.heap.size rfl [.int .i64 0, .slice none 0 0, .slice none 0 0, .slice none 0 0] [.int .i64 (callOf lk P k), .slice none 0 0, .slice none 0 0, .slice none 0 0] rfl _ (by simp) (heap_alloc_new _ _) 4 Try.sizeFc rfl (by simp [Value.oneCell']) ?_; intro w8 hres hk8 hs8; have HFB8 := Lib.hid hres; have HK8 := Lib.hid (((Keep.refl None wo).alloc _).andThen hk8 (fun k h1 h2 => by have h3 : k = wo.heap.size := h2; omega)); have HS8 := Lib.hid (show w8.heap.size = wo.heap.size + 1 by rw [hs8]; simp); clear hres hk8 hs8)
              clear hcc hc2
              have HKW9 := Lib.hid (HKW8.out.trans HK8.out)
              have HS29 := Lib.hid (HS2.out.keep HK8.out (fun _ _ => id))
              go_wp2_with (fail)
              go_loopw [112] (BlkInv P row (callOf lk P k) wo.heap.size w8.heap.size w8) (fun i _ => row.length - (intOf i).toNat)
              case atStart => exact ⟨0, none, 0, none, 0, rfl, by omega, HFB8.out, Own.nil _ _ _ _ _, Own.nil _ _ _ _ _, by simp, Keep.refl _ _⟩
              case round =>
                obtain ⟨wi, rfl⟩ : ∃ wi : World, wi = wr := ⟨_, rfl⟩
                obtain ⟨j, q3, c3, q4, c4, rfl, hj, hob, hbl, hed, hno2, hkj⟩ := hrel
                have HOBJ := Lib.hid hob
                have HBL := Lib.hid hbl
                have HED := Lib.hid hed
                have HNO2 := Lib.hid hno2
                have HKJ := Lib.hid hkj
                have hk0i : Keep None wo wi := HK8.out.andThen hkj (fun k h1 h2 => by have h3 : k = wo.heap.size := h2; omega)
                have HK0i := Lib.hid hk0i
                have HKWi := Lib.hid (HKW8.out.trans hk0i)
                have HS2i := Lib.hid (HS2.out.keep hk0i (fun _ _ => id))
                clear hob hbl hed hno2 hkj hk0i
                by_cases hjl : j < row.length
                · obtain ⟨x, hx⟩ : ∃ x, row[j]? = some x := ⟨row[j], by simp [hjl]⟩
                  have hxm := List.mem_of_getElem? hx
                  have hx0 := HRNN.out x hxm
                  obtain ⟨b2, o2, rfl, e2⟩ : ∃ b2 o2, q2 = some ⟨b2, o2, none⟩ ∧ wi.cell? ⟨b2, o2 + j, none⟩ = some (.int .i64 x) := by
                    rcases HS2i.out with h | ⟨b2, o2, h, h2⟩
                    · subst h; simp at hjl
                    · exact ⟨b2, o2, h, h2.int hx⟩
                  have hji : (j : Int) < row.length := by omega
                  have HXJ := Lib.hid hx
                  by_cases hov : 1099511627776 < x * P
                  · have HSV := Lib.hid (show scaledV x P = .tuple #[.int .i64 0, .bool false] from by rw [scaledV, if_pos hov])
                    have HR := Lib.hid (HE4.out (.inr ⟨row, HRM.out, x, hxm, hov⟩))
                    clear hx hxm hov
                    go_wp2_with (first
                      | (go_at_call 39; refine (scaled_calls x P _ (by omega) (by omega) (by omega)).mono ?_; rintro e w' ⟨rfl, hw⟩; subst w'; rw [HSV.out])
                      | ((with_reducible (show wpList _ _ _ (⟨_, .store 54 (.tmp 6) _, _, _, _, none⟩ :: _) _ _)); (refine wpList_storeObj rfl 54 _ _ rfl (w.heap.size + 1 + 1) rfl [.slice none 0 0] [.slice none 0 0] rfl _ (by simp) (HKWi.out.obj O3.out (by first | exact id | (simp; omega))) 1 Try.sizeCounts rfl (by simp [Value.oneCell']) ?_); intro w9 hres hk9 hs9; have HRES := Lib.hid hres; have HK9 := Lib.hid hk9; clear hres hk9 hs9))
                    (refine bodyPost_ret (results_obj_tmp rfl rfl _ _ (range_of_obj HRES.out) Try.underlying54 rfl 1 Try.sizeCounts rfl) rfl ?_; show CountsPost _ _ _ _; rw [HR.out]; exact ⟨none, 0, [], rfl, rfl, ⟨.inl rfl, by simp, by simp⟩, by simp, (HK.out.trans HKWi.out).andThen HK9.out (by intro k h1 h2; omega)⟩)
                  · have HSV := Lib.hid (show scaledV x P = .tuple #[.int .i64 (x * P), .bool true] from by rw [scaledV, if_neg hov])
                    have HOV1 := Lib.hid hov
                    clear hx hxm hov
                    go_upto_if 126 with (go_at_call 39; refine (scaled_calls x P _ (by omega) (by omega) (by omega)).mono ?_; rintro e w' ⟨rfl, hw⟩; subst w'; rw [HSV.out])
                    go_cut [21] (fun t wx => t = .int .i64 (blockOf P x) ∧ wx = wi)
                    case first =>
                      by_cases hx1 : x = 0
                      · subst hx1
                        go_wp2_with (fail)
                        go_meet
                        case rel => exact ⟨by simp [blockOf], rfl⟩
                      · have hx2 : (x == 0) = false := by simp [hx1]
                        go_wp2_with (fail)
                        go_meet
                        case rel => exact ⟨by simp [blockOf, hx1], rfl⟩
                    case rest =>
                      obtain ⟨hy, hwc⟩ := hcut
                      subst wc
                      subst hy
                      go_upto_region 36 with (fail)
                      clear e2
                      obtain ⟨bl, hbl⟩ : ∃ bl, bl = (row.take j).map (blockOf P) := ⟨_, rfl⟩
                      have hlj : bl.length = j := by rw [hbl, List.length_map, List.length_take]; omega
                      have HBL1 : Hid (OwnI w8.heap.size wi (.slice q3 j c3) bl) := Lib.hid (by rw [hbl]; exact HBL.out)
                      have HBLE := Lib.hid (show bl ++ [blockOf P x] = (row.take (j + 1)).map (blockOf P) by rw [hbl, List.take_add_one, HXJ.out]; simp)
                      clear hbl
                      generalize blockOf P x = y at *
                      have HLJ := Lib.hid hlj
                      have HOI : Hid (∀ g, (Value.slice q3 j c3).ownBlock = some g → Typed wi 3 g ∧ w8.heap.size ≤ g ∧ g < wi.heap.size) := Lib.hid (fun g hg => ⟨HBL1.out.typed hg, World.ownsRow.lt HBL1.out g hg⟩)
                      have HOE : Hid (∀ g, (Value.slice q4 j c4).ownBlock = some g → Typed wi 89 g ∧ w8.heap.size ≤ g ∧ g < wi.heap.size) := Lib.hid (fun g hg => ⟨HED.out.typed hg, World.ownsRow.lt HED.out g hg⟩)
                      obtain ⟨S, hS⟩ : ∃ S : Nat → Prop, S = fun g => (Value.slice q3 j c3).ownBlock = some g ∨ (Value.slice q4 j c4).ownBlock = some g := ⟨_, rfl⟩
                      have HSA : Hid (∀ g, S g → w8.heap.size ≤ g ∧ g < wi.heap.size ∧ (Typed wi 3 g ∨ Typed wi 89 g)) := Lib.hid (fun g hg => by
                        rw [hS] at hg
                        rcases hg with hg | hg
                        · obtain ⟨t1, t2, t3⟩ := HOI.out g hg; exact ⟨t2, t3, .inl t1⟩
                        · obtain ⟨t1, t2, t3⟩ := HOE.out g hg; exact ⟨t2, t3, .inr t1⟩)
                      have HS1 : Hid (∀ g, (Value.slice q3 j c3).ownBlock = some g → S g) := Lib.hid (fun g hg => by rw [hS]; exact .inl hg)
                      have HS2' : Hid (∀ g, (Value.slice q4 j c4).ownBlock = some g → S g) := Lib.hid (fun g hg => by rw [hS]; exact .inr hg)
                      clear hS
                      have HFBC : Hid (∀ w', Keep S wi w' → w'.heap[wo.heap.size]? = some (.cells #[.int .i64 (callOf lk P k), .slice q3 j c3, .slice q4 j c4, .slice none 0 0] 88 (0, 0))) := Lib.hid (fun w' hk' => hk'.obj HOBJ.out (fun hg => by have := HSA.out _ hg; have := HS8.out; omega))
                      have hjm : j ≤ 256 := by omega
                      refine RR.region_kindsG_tail (R36 S w8.heap.size (bl ++ [y]) (ones j ++ [()])) [.is (.pointer (some ⟨wo.heap.size, 1, none⟩)), .is (.slice q3 j c3), .is (.int .i64 y), .sat (Made 3 wi.heap.size [.int .i64 y]) (made_keep _ _ _ (fun g hg hs => by have := HSA.out g hs; omega)), .sat (AppI w8.heap.size (bl.length + 1) (bl ++ [y])) appI_keep, .is (.pointer (some ⟨wo.heap.size, 2, none⟩)), .is (.slice q4 j c4), .is (.agg #[.int .i64 (-1), .int .i64 (-1)]), .sat (Made 89 wi.heap.size [.int .i64 (-1), .int .i64 (-1)]) (made_keep _ _ _ (fun g hg hs => by have := HSA.out g hs; omega)), .sat (AppE w8.heap.size ((ones j).length + 1) (ones j ++ [()])) appE_keep, .is (.pointer (some ⟨wo.heap.size, 1, none⟩)), .any, .any, .any]
                        (fun w' => OwnI w8.heap.size w' (.slice q3 j c3) bl ∧ OwnE w8.heap.size w' (.slice q4 j c4) (ones j) ∧ Keep S wi w') 148 11 (by kernel_rfl) (by decide) (by kernel_rfl) (by kernel_rfl) (by kernel_rfl) rfl (by kernel_rfl) ⟨HBL1.out.keep (S := None) (Keep.refl _ _).drew (fun _ _ => id), HED.out.keep (S := None) (Keep.refl _ _).drew (fun _ _ => id), (Keep.refl _ _).drew⟩ ?_ ?_
                      · have hR := R36.refl S w8.heap.size (bl ++ [y]) (ones j ++ [()])
                        refine ⟨?_, ?_, ?_, ?_, ?_, ?_, ?_, ?_, ?_, ?_, ?_, trivial⟩
                        · exact RR.st_free rfl (RR.st_ev1 hR (RR.dep_f (t := 18) rfl rfl) _ (by intro a w' h1 hI; go_simp) rfl)
                        · exact RR.st_free rfl (RR.st_ev1 hR (RR.dep_e 0 rfl rfl rfl) _ (by intro a w' h1 hI; have q0 := cell_of_row _ _ 1 _ _ _ (HFBC.out _ hI.2.2); go_simp) rfl)
                        · exact RR.st_free rfl (RR.st_ev1 hR (RR.dep_f (t := 21) rfl rfl) _ (by intro a w' h1 hI; go_simp) rfl)
                        · refine RR.st_free rfl (RR.st_mk (RR.dep_e 2 rfl rfl rfl) 3 [.int .i64 y] (by intro a w' h1; go_simp) ?_)
                          intro w' w'' hI hk hn
                          exact ⟨⟨_, _, rfl, hI.2.2.size, heap_lt hn, hn⟩, ⟨hI.1.keep hk (fun _ _ => id), hI.2.1.keep hk (fun _ _ => id), hI.2.2.trans (hk.weaken (fun _ _ q => q.elim))⟩, R36.still hk⟩
                        · refine RR.st_free rfl (RR.st_push (enc := intEnc) (size := 1) 25 rfl w8.heap.size _ i1 _ 8 Try.underlying25 hi1 hy0 hy1 hy2 rfl (by decide) intEnc_len (.slice q3 j c3) bl (RR.dep_e 1 rfl rfl rfl) wi.heap.size y (RR.dep_s 3 rfl rfl rfl) (by simp [intEnc, Value.oneCell']) (by omega) (by omega) (fun w' hI => ⟨hI.1, Nat.le_trans (Nat.le_trans HKJ.out.size (Nat.le_refl _)) hI.2.2.size⟩) ?_)
                          intro w' w'' p' c' hI h1 h2 hk htw
                          have hty := fun g (hg : (Value.slice q3 j c3).ownBlock = some g) => hI.1.typed hg
                          refine ⟨⟨p', c', rfl, h1⟩, ⟨h2, hI.2.1.keep hk (fun g hg hs => (hI.2.1.typed hg).ne (hty g hs) (by decide) rfl), hI.2.2.trans (hk.weaken (fun g _ hg => HS1.out g hg))⟩, hk.weaken (fun g _ hg => HS1.out g hg), htw, fun v hv => hv.keep hk (fun g hg hs => (hv.typed hg).ne (hty g hs) (by decide) rfl)⟩
                        · exact RR.st_free rfl (RR.st_ev1 hR (RR.dep_f (t := 18) rfl rfl) _ (by intro a w' h1 hI; go_simp) rfl)
                        · exact RR.st_free rfl (RR.st_ev1 hR (RR.dep_e 5 rfl rfl rfl) _ (by intro a w' h1 hI; have q0 := cell_of_row _ _ 2 _ _ _ (HFBC.out _ hI.2.2); go_simp) rfl)
                        · exact RR.st_free rfl (RR.st_ev0 hR _ (by intro a w' hI; go_simp) rfl)
                        · refine RR.st_free rfl (RR.st_mk (RR.dep_e 7 rfl rfl rfl) 89 [.int .i64 (-1), .int .i64 (-1)] (by intro a w' h1; go_simp) ?_)
                          intro w' w'' hI hk hn
                          exact ⟨⟨_, _, rfl, hI.2.2.size, heap_lt hn, hn⟩, ⟨hI.1.keep hk (fun _ _ => id), hI.2.1.keep hk (fun _ _ => id), hI.2.2.trans (hk.weaken (fun _ _ q => q.elim))⟩, R36.still hk⟩
                        · refine RR.st_free rfl (RR.st_push (enc := edgeEnc) (size := 2) 85 rfl w8.heap.size _ i5 _ 16 Try.underlying85 hi5 hv0 hv1 hv2 rfl (by decide) edgeEnc_len (.slice q4 j c4) (ones j) (RR.dep_e 6 rfl rfl rfl) wi.heap.size () (RR.dep_s 8 rfl rfl rfl) (by simp [edgeEnc, Value.oneCell']) (by rw [ones_len]; omega) (by omega) (fun w' hI => ⟨hI.2.1, Nat.le_trans (Nat.le_trans HKJ.out.size (Nat.le_refl _)) hI.2.2.size⟩) ?_)
                          intro w' w'' p' c' hI h1 h2 hk htw
                          have hty := fun g (hg : (Value.slice q4 j c4).ownBlock = some g) => hI.2.1.typed hg
                          refine ⟨⟨p', c', rfl, h1⟩, ⟨hI.1.keep hk (fun g hg hs => (hI.1.typed hg).ne (hty g hs) (by decide) rfl), h2, hI.2.2.trans (hk.weaken (fun g _ hg => HS2'.out g hg))⟩, hk.weaken (fun g _ hg => HS2'.out g hg), fun v hv => hv.keep hk (fun g hg hs => (hv.typed hg).ne (hty g hs) (by decide) rfl), htw⟩
                        · exact RR.st_free rfl (RR.st_ev1 hR (RR.dep_f (t := 18) rfl rfl) _ (by intro a w' h1 hI; go_simp) rfl)
                      intro f' w10 hkinds hI
                      obtain ⟨p5, c5, k131, e5⟩ : AppI w8.heap.size (bl.length + 1) (bl ++ [y]) w10 (f' 131) := hkinds 4 _ 131 (by omega) rfl rfl
                      obtain ⟨p6', c6', k136, e6⟩ : AppE w8.heap.size ((ones j).length + 1) (ones j ++ [()]) w10 (f' 136) := hkinds 9 _ 136 (by omega) rfl rfl
                      have k137 : f' 137 = .pointer (some ⟨wo.heap.size, 1, none⟩) := hkinds 10 _ 137 (by omega) rfl rfl
                      rw [HLJ.out] at k131
                      rw [ones_len] at k136
                      rw [k131] at e5
                      rw [k136] at e6
                      simp only [putsOf, Act.put, List.take_succ_cons, List.take_zero, List.drop_succ_cons, List.drop_zero, List.setIfInBounds_toArray, List.set_cons_zero, List.set_cons_succ, k131, k136, k137]
                      clear hkinds k131 k136 k137
                      have hob10 := HFBC.out _ hI.2.2
                      have HOB10 := Lib.hid hob10
                      have HE5 := Lib.hid e5
                      have HE6 := Lib.hid e6
                      have HKI := Lib.hid hI.2.2
                      have s1 : w10.cell? ⟨wo.heap.size, 1, none⟩ = some (.slice q3 j c3) := cell_of_row _ _ 1 _ _ _ hob10
                      have s2 : w10.frozen? ⟨wo.heap.size, 1, none⟩ = false := by unfold World.frozen?; rw [hob10]; rfl
                      have hob11 := heap_setCell' (j := 1) (v := .slice p5 (j + 1) c5) hob10
                      simp only [List.setIfInBounds_toArray, List.set_cons_succ, List.set_cons_zero] at hob11
                      have s3 : (w10.setCell ⟨wo.heap.size, 1, none⟩ (.slice p5 (j + 1) c5)).cell? ⟨wo.heap.size, 2, none⟩ = some (.slice q4 j c4) := cell_of_row _ _ 2 _ _ _ hob11
                      have s4 : (w10.setCell ⟨wo.heap.size, 1, none⟩ (.slice p5 (j + 1) c5)).frozen? ⟨wo.heap.size, 2, none⟩ = false := by unfold World.frozen?; rw [hob11]; rfl
                      clear hob10 hob11 e5 e6 hI
                      go_wp2_with (fail)
                      clear s1 s2 s3 s4
                      have hks : Keep (· = wo.heap.size) w10 ((w10.setCell ⟨wo.heap.size, 1, none⟩ (.slice p5 (j + 1) c5)).setCell ⟨wo.heap.size, 2, none⟩ (.slice p6' (j + 1) c6')) := ((Keep.refl (· = wo.heap.size) _).setCell (p := ⟨wo.heap.size, 1, none⟩) (.inl rfl) _).setCell (p := ⟨wo.heap.size, 2, none⟩) (.inl rfl) _
                      have hoz := heap_setCell' (j := 2) (v := .slice p6' (j + 1) c6') (heap_setCell' (j := 1) (v := .slice p5 (j + 1) c5) HOB10.out)
                      go_roundw
                      case rel =>
                        refine ⟨j + 1, p5, c5, p6', c6', by go_num, by omega, by simpa using hoz, ?_, ?_, ?_, ?_⟩
                        · rw [← HBLE.out]
                          exact HE5.out.keep hks (fun g hg hs => by have h3 : g = wo.heap.size := hs; have := (World.ownsRow.lt HE5.out g hg).1; have := HS8.out; omega)
                        · rw [← ones_snoc]
                          exact HE6.out.keep hks (fun g hg hs => by have h3 : g = wo.heap.size := hs; have := (World.ownsRow.lt HE6.out g hg).1; have := HS8.out; omega)
                        · intro z hz
                          rw [List.take_add_one, HXJ.out] at hz
                          simp only [Option.toList_some, List.mem_append, List.mem_singleton] at hz
                          rcases hz with hz | rfl
                          · have := HNO2.out z hz; omega
                          · have := HOV1.out; omega
                        · exact (HKJ.out.andThen HKI.out (fun g h1 h2 => by have := HSA.out g h2; omega)).trans hks
                      case measure => simp [intOf]; omega
                · have hje : j = row.length := by omega
                  subst hje
                  have HROWI : Hid (OwnI w8.heap.size wi (.slice q3 row.length c3) (row.map (blockOf P))) := Lib.hid (by have := HBL.out; rwa [List.take_length] at this)
                  have HOVR : Hid (∀ x ∈ row, ¬ 1099511627776 < x * P) := Lib.hid (by have := HNO2.out; rwa [List.take_length] at this)
                  have HOWNi := Lib.hid (HOWN.out.keep HK0i.out (fun _ _ => id))
                  have hobi := HK0i.out.obj HOB.out id
                  have HOBi := Lib.hid hobi
                  have HNB1 : Hid (¬ (Value.slice q1 vals.length c1).ownBlock = some w6.heap.size) := Lib.hid (fun h => by have := (World.ownsRow.lt HOWN.out _ h).1; have := HS7.out; omega)
                  have HSI : Hid (w7.heap.size ≤ wi.heap.size) := Lib.hid (Nat.le_trans HKP.out.size HK0i.out.size)
                  have k01 : wi.cell? ⟨w6.heap.size, 0, none⟩ = some (.slice q1 vals.length c1) := cell_of_row wi _ 0 _ _ _ hobi
                  have hvl : vals.length = k := by
                    have := congrArg List.length HMAP.out
                    rw [List.length_map, List.length_take, fcsFrom_len] at this
                    omega
                  have HVL := Lib.hid hvl
                  have hvb : vals.length < 1000000 := by omega
                  clear hobi hvl
                  go_wp2_with (first
                    | ((with_reducible (show wpList _ _ _ (⟨_, .load 88 _, _, _, _, none⟩ :: _) _ _)); refine wpList_loadEl (enc := listEnc) (size := 4) rfl 88 _ rfl _ _ rfl [.int .i64 (callOf lk P k), .slice q3 row.length c3, .slice q4 row.length c4, .slice none 0 0] _ (range_of_obj HOBJ.out) rfl Try.underlying88 rfl Try.sizeFc (.agg #[.int .i64 (callOf lk P k), .slice q3 row.length c3, .slice q4 row.length c4, .slice none 0 0]) rfl ?_)
                    | (at_builtin; go_loud (refine wpList_pushAt rfl _ _ 52 rfl w7.heap.size _ i8 _ 80 Try.underlying52 hi8 hz0 hz1 hz2 rfl (by decide) FCv.enc_len (.slice q1 vals.length c1) vals rfl (HOWNi.out.keep (S := None) ((Keep.refl _ _).alloc _) (fun _ _ => id)) ⟨callOf lk P k, row.map (blockOf P), q3, c3, q4, c4⟩ wi.heap.size _ rfl _ (heap_alloc_new _ _) (by simp [FCv.enc]) rfl (by simp [Value.oneCell']) (by omega) (by omega) (Nat.le_trans HSI.out ((Keep.refl None _).alloc _).size) ?_; intro p7 c7' w10 hown7 hk7 hk7' hb7; have HO10 := Lib.hid hown7; have HK10 := Lib.hid (show Keep (fun k => (Value.slice q1 vals.length c1).ownBlock = some k) _ w10 from ⟨hk7.os, hk7.tape, hk7.output, hk7.size, fun k hk hs => hk7' k (fun e => hs e.symm) hk⟩); have hx7 := HK10.out.obj (((Keep.refl None wi).alloc _).obj HOBi.out id) HNB1.out; have k71 : w10.cell? ⟨w6.heap.size, 0, none⟩ = some (.slice q1 vals.length c1) := cell_of_row w10 _ 0 _ _ _ hx7; have k72 : w10.frozen? ⟨w6.heap.size, 0, none⟩ = false := (by unfold World.frozen?; rw [hx7]; rfl); have HX10 := Lib.hid hx7; clear hown7 hk7 hk7' hb7 hx7)))
                  clear k01 k71 k72
                  have hks : Keep (· = w6.heap.size) w10 (w10.setCell ⟨w6.heap.size, 0, none⟩ (.slice p7 (vals.length + 1) c7')) := (Keep.refl (· = w6.heap.size) w10).setCell (p := ⟨w6.heap.size, 0, none⟩) (.inl rfl) _
                  have hoz := heap_setCell' (j := 0) (v := .slice p7 (vals.length + 1) c7') HX10.out
                  have hfk : ∀ f, FcOk w7.heap.size wi f → FcOk w7.heap.size (w10.setCell ⟨w6.heap.size, 0, none⟩ (.slice p7 (vals.length + 1) c7')) f := fun f hf => by
                    obtain ⟨X, hX, hX2⟩ : ∃ X, Keep None wi X ∧ Keep (fun g => (Value.slice q1 vals.length c1).ownBlock = some g) X w10 := ⟨_, (Keep.refl None wi).alloc _, HK10.out⟩
                    have h1 := hf.keep hX (fun _ _ _ _ => id)
                    have h2 := h1.keep hX2 (fun g _ _ ht hs => by
                      have ho := (HOWNi.out.keep hX (fun _ _ => id)).typed hs
                      rcases ht with ht | ht
                      · exact ht.ne ho (by decide) rfl
                      · exact ht.ne ho (by decide) rfl)
                    exact h2.keep hks (fun g hg _ _ hs => by have h3 : g = w6.heap.size := hs; have := HS7.out; omega)
                  go_roundw
                  case rel =>
                    refine ⟨k + 1, p7, c7', vals ++ [⟨callOf lk P k, row.map (blockOf P), q3, c3, q4, c4⟩], by go_num, by omega, by simpa using hoz, ?_, ?_, ?_, ?_, ?_⟩
                    · rw [List.length_append, List.length_singleton]
                      exact HO10.out.keep hks (fun g hg hs => by have h3 : g = w6.heap.size := hs; have := (World.ownsRow.lt HO10.out g hg).1; have := HS7.out; omega)
                    · rw [List.map_append, HMAP.out, fcs_take HROW.out]
                      rfl
                    · intro f hf
                      rcases List.mem_append.1 hf with hf | hf
                      · exact hfk f ((HFC.out f hf).keep HK0i.out (fun _ _ _ _ => id))
                      · rw [List.mem_singleton.1 hf]
                        exact hfk _ (FcOk.mk' (lo := w8.heap.size) (by simpa using HROWI.out) (by simpa using HED.out) (by have := HKP.out.size; have := HS8.out; omega))
                    · rintro ⟨r, hr, z, hz, hzo⟩
                      rw [List.take_add_one, HROW.out] at hr
                      simp only [Option.toList_some, List.mem_append, List.mem_singleton] at hr
                      rcases hr with hr | rfl
                      · exact HNO.out ⟨r, hr, z, hz, hzo⟩
                      · have := HOVR.out z hz; omega
                    · exact ((HKP.out.trans (HK0i.out.weaken (fun _ _ q => q.elim))).alloc _ |>.andThen HK10.out (fun g h1 h2 => by have := (World.ownsRow.lt HOWNi.out g h2).1; omega)).trans hks
                  case measure => simp [intOf]; omega
            · have hke : k = rows.length := by omega
              subst hke
              have hnr : ¬ overR rows P := by have := HNO.out; rwa [List.take_length] at this
              have HR := Lib.hid (HE0.out HNOV.out hnr)
              have HMAP2 : Hid (vals.map FCv.fc = fcsFrom lk P 0 rows) := Lib.hid (by have := HMAP.out; rwa [List.take_of_length_le (by rw [fcsFrom_len]; omega)] at this)
              clear hnr
              go_wp2_with (first
                | ((with_reducible (show wpList _ _ _ (⟨_, .load 54 _, _, _, _, none⟩ :: _) _ _)); refine wpList_loadEl (enc := listEnc) (size := 1) rfl 54 _ rfl _ _ rfl [.slice q1 vals.length c1] _ (range_of_obj HOB.out) rfl Try.underlying54 rfl Try.sizeCounts (.agg #[.slice q1 vals.length c1]) rfl ?_)
                | ((with_reducible (show wpList _ _ _ (⟨_, .store 54 (.tmp 6) _, _, _, _, none⟩ :: _) _ _)); (refine wpList_storeObj rfl 54 _ _ rfl (w.heap.size + 1 + 1) rfl [.slice none 0 0] [.slice q1 vals.length c1] rfl _ (by simp) (HKW8.out.obj O3.out (by first | exact id | (simp; omega))) 1 Try.sizeCounts rfl (by simp [Value.oneCell']) ?_); intro w9 hres hk9 hs9; have HRES := Lib.hid hres; have HK9 := Lib.hid hk9; clear hres hk9 hs9))
              refine bodyPost_ret (results_obj_tmp rfl rfl _ _ (range_of_obj HRES.out) Try.underlying54 rfl 1 Try.sizeCounts rfl) rfl ?_
              show CountsPost _ _ _ _
              rw [HR.out]
              have hlo : w.heap.size + 3 ≤ w7.heap.size := Nat.le_trans hsW HKW7.out.size
              have hf9 : ∀ f ∈ vals, FcOk w7.heap.size w9 f := fun f hf => (HFC.out f hf).keep HK9.out (fun g hg _ _ hs => by have h3 : g = w.heap.size + 1 + 1 := hs; omega)
              have ho9 := HOWN.out.keep HK9.out (fun g hg hs => by have h3 : g = w.heap.size + 1 + 1 := hs; have := (World.ownsRow.lt HOWN.out g hg).1; omega)
              exact ⟨q1, c1, vals, rfl, HMAP2.out, ⟨(ho9.reads FCv.enc_len).2.2.2.1, fun f hf => (hf9 f hf).bl, fun f hf => (hf9 f hf).ed⟩, by have := congrArg List.length HMAP2.out; rw [List.length_map, fcsFrom_len] at this; omega, (HK.out.trans HKW8.out).andThen HK9.out (by intro k h1 h2; omega)⟩

end Go.Proofs.Ytlhmajjmhkjcoaa
