/-
  Chapter 44: looks and verdicts, by the reference.
-/
import Derived.Test.YtgelfefoiplekaaDoorPolRefD
namespace Go.Proofs.YtgelfefoiplekaaDoor
open Go.RowKit PN

set_option maxRecDepth 100000 in
set_option maxHeartbeats 8000000 in
theorem refLook_calls (a q : Option Addr) (c cq : Nat) (p : Pol) (l : List Pr) (i : Int) (w : World) (h : PolAt w a p) (hq : SliceV prEnc 2 w q l) (hcq : l.length ≤ cq) (hl : l.length ≤ 1000000000000) (hi : i64 i) :
    Calls Tryd.prog 25 #[polVal a c p, .slice q l.length cq, .int .i64 i] w (Gives None (lookF p l i) w) := by
  unfold i64 at hi
  have ln := h.ln
  have HP := Lib.hid h
  have HQ := Lib.hid hq
  clear h hq
  unfold polVal
  have HBX : Hid (∃ W : World, Keep None w W ∧ W = w.alloc (.cells #[.slice a p.st.length c, .int .i64 p.num, .int .i64 p.den, .int .i64 p.margin] 30) ∧ W.heap[w.heap.size]? = some (.cells #[.slice a p.st.length c, .int .i64 p.num, .int .i64 p.den, .int .i64 p.margin] 30 (0, 0))) :=
    Lib.hid ⟨_, (Keep.refl None w).alloc _, rfl, heap_alloc_new _ _⟩
  obtain ⟨W, hKW, hWe, ho1⟩ := HBX.out
  have HK := Lib.hid hKW
  have HWE := Lib.hid hWe.symm
  have HBOX : Hid (∀ w', Keep None W w' → w'.heap[w.heap.size]? = some (.cells #[.slice a p.st.length c, .int .i64 p.num, .int .i64 p.den, .int .i64 p.margin] 30 (0, 0))) := Lib.hid (fun w' h => h.obj ho1 id)
  have HPOL : Hid (∀ w', Keep None W w' → PolAt w' a p) := Lib.hid (fun w' h => HP.out.still (HK.out.trans h))
  have hkr : Keep None W W := Keep.refl _ _
  clear HBX hKW hWe ho1
  cases hv : validB p with
  | false =>
    have HV := Lib.hid hv
    have HF : Hid (lookF p l i = .tuple #[.bool false, .int .i64 43]) := Lib.hid (by unfold lookF; rw [if_pos hv])
    clear hv
    go_enter Tryd.func25, Tryd.ntmps25
    go_upto_region 1 with (fail)
    rw [HWE.out]
    go_wp2_with (first | ((with_reducible (show wpList _ _ _ (⟨some 11, .load 30 _, _, _, _, none⟩ :: _) _ _)); refine wpList_loadEl (enc := listEnc) (size := 4) rfl 30 _ rfl _ _ rfl [.slice a p.st.length c, .int .i64 p.num, .int .i64 p.den, .int .i64 p.margin] _ (range_of_obj (HBOX.out _ (by assumption))) rfl Tryd.underlying30 rfl Tryd.sizePolicy (.agg #[.slice a p.st.length c, .int .i64 p.num, .int .i64 p.den, .int .i64 p.margin]) rfl ?_) | (go_at_call 34; refine (refValid_calls _ c p _ (HPOL.out _ hkr)).mono ?_; rintro e w1 ⟨rfl, hk1⟩; rw [HV.out]; have q0 : w1.cell? ⟨w.heap.size, 0, none⟩ = some (.slice a p.st.length c) := cell_of_row _ _ 0 _ _ _ (HBOX.out _ hk1); have HK1 := Lib.hid hk1))
    go_ret2
    exact ⟨by rw [HF.out]; rfl, HK.out.trans HK1.out⟩
  | true =>
    have HV := Lib.hid hv
    have hg := valid_good hv
    have HG := Lib.hid hg
    clear hv hg
    by_cases hi0 : i < 0
    · have HF : Hid (lookF p l i = .tuple #[.bool false, .int .i64 1]) := Lib.hid (by unfold lookF; rw [if_neg (by rw [HV.out]; simp), if_pos (.inl hi0)])
      go_enter Tryd.func25, Tryd.ntmps25
      go_upto_region 1 with (fail)
      rw [HWE.out]
      go_wp2_with (first | ((with_reducible (show wpList _ _ _ (⟨some 11, .load 30 _, _, _, _, none⟩ :: _) _ _)); refine wpList_loadEl (enc := listEnc) (size := 4) rfl 30 _ rfl _ _ rfl [.slice a p.st.length c, .int .i64 p.num, .int .i64 p.den, .int .i64 p.margin] _ (range_of_obj (HBOX.out _ (by assumption))) rfl Tryd.underlying30 rfl Tryd.sizePolicy (.agg #[.slice a p.st.length c, .int .i64 p.num, .int .i64 p.den, .int .i64 p.margin]) rfl ?_) | (go_at_call 34; refine (refValid_calls _ c p _ (HPOL.out _ hkr)).mono ?_; rintro e w1 ⟨rfl, hk1⟩; rw [HV.out]; have q0 : w1.cell? ⟨w.heap.size, 0, none⟩ = some (.slice a p.st.length c) := cell_of_row _ _ 0 _ _ _ (HBOX.out _ hk1); have HK1 := Lib.hid hk1))
      go_ret2
      exact ⟨by rw [HF.out]; rfl, HK.out.trans HK1.out⟩
    · by_cases hi1 : (p.st.length : Int) ≤ i
      · have HF : Hid (lookF p l i = .tuple #[.bool false, .int .i64 1]) := Lib.hid (by unfold lookF; rw [if_neg (by rw [HV.out]; simp), if_pos (.inr hi1)])
        go_enter Tryd.func25, Tryd.ntmps25
        go_upto_region 1 with (fail)
        rw [HWE.out]
        go_wp2_with (first | ((with_reducible (show wpList _ _ _ (⟨some 11, .load 30 _, _, _, _, none⟩ :: _) _ _)); refine wpList_loadEl (enc := listEnc) (size := 4) rfl 30 _ rfl _ _ rfl [.slice a p.st.length c, .int .i64 p.num, .int .i64 p.den, .int .i64 p.margin] _ (range_of_obj (HBOX.out _ (by assumption))) rfl Tryd.underlying30 rfl Tryd.sizePolicy (.agg #[.slice a p.st.length c, .int .i64 p.num, .int .i64 p.den, .int .i64 p.margin]) rfl ?_) | (go_at_call 34; refine (refValid_calls _ c p _ (HPOL.out _ hkr)).mono ?_; rintro e w1 ⟨rfl, hk1⟩; rw [HV.out]; have q0 : w1.cell? ⟨w.heap.size, 0, none⟩ = some (.slice a p.st.length c) := cell_of_row _ _ 0 _ _ _ (HBOX.out _ hk1); have HK1 := Lib.hid hk1))
        go_ret2
        exact ⟨by rw [HF.out]; rfl, HK.out.trans HK1.out⟩
      · obtain ⟨k, rfl⟩ : ∃ k : Nat, i = k := ⟨i.toNat, by omega⟩
        have hlt : k < p.st.length := by omega
        have hlti : (k : Int) < p.st.length := by omega
        obtain ⟨⟨x, y⟩, hx⟩ : ∃ s, p.st[k]? = some s := ⟨p.st[k], by simp [hlt]⟩
        have hxy := HG.out.st _ (List.mem_of_getElem? hx)
        simp only at hxy
        obtain ⟨X, rfl⟩ : ∃ X : Nat, x = X := ⟨x.toNat, by omega⟩
        obtain ⟨Y, rfl⟩ : ∃ Y : Nat, y = Y := ⟨y.toNat, by omega⟩
        have HF0 := Lib.hid (lookF_at (l := l) HV.out hx)
        obtain ⟨ab, ao, hae, hsl⟩ : ∃ b off, a = some ⟨b, off, none⟩ ∧ SlAt stEnc 2 W b off p.st := by
          rcases (HPOL.out _ hkr).st with h | h
          · rw [h] at hlt; simp at hlt
          · exact h
        have HC1 := Lib.hid (hsl k _ hx 1 _ rfl)
        clear hsl hx hi0 hi1
        by_cases hly : (l.length : Int) < (Y : Int)
        · have HF : Hid (lookF p l k = .tuple #[.bool false, .int .i64 20]) := Lib.hid (by rw [HF0.out, if_pos hly])
          subst hae
          go_enter Tryd.func25, Tryd.ntmps25
          go_upto_region 1 with (fail)
          rw [HWE.out]
          go_upto_region 5 with (first | ((with_reducible (show wpList _ _ _ (⟨some 11, .load 30 _, _, _, _, none⟩ :: _) _ _)); refine wpList_loadEl (enc := listEnc) (size := 4) rfl 30 _ rfl _ _ rfl [.slice (some ⟨ab, ao, none⟩) p.st.length c, .int .i64 p.num, .int .i64 p.den, .int .i64 p.margin] _ (range_of_obj (HBOX.out _ (by assumption))) rfl Tryd.underlying30 rfl Tryd.sizePolicy (.agg #[.slice (some ⟨ab, ao, none⟩) p.st.length c, .int .i64 p.num, .int .i64 p.den, .int .i64 p.margin]) rfl ?_) | (go_at_call 34; refine (refValid_calls _ c p _ (HPOL.out _ hkr)).mono ?_; rintro e w1 ⟨rfl, hk1⟩; rw [HV.out]; have q0 : w1.cell? ⟨w.heap.size, 0, none⟩ = some (.slice (some ⟨ab, ao, none⟩) p.st.length c) := cell_of_row _ _ 0 _ _ _ (HBOX.out _ hk1); have HK1 := Lib.hid hk1))
          have q1 : w1.cell? ⟨ab, ao + k * 2 + 1, none⟩ = some (.int .i64 Y) := HK1.out.cell HC1.out id
          go_wp2_with (fail)
          go_ret2
          exact ⟨by rw [HF.out]; rfl, HK.out.trans HK1.out⟩
        · have hYl : Y ≤ l.length := by omega
          have hY1 : 1 ≤ Y := by omega
          have hg := HG.out
          obtain ⟨N, hN⟩ : ∃ N : Nat, p.num = N := ⟨p.num.toNat, by have := hg.u0; omega⟩
          obtain ⟨D, hD⟩ : ∃ D : Nat, p.den * p.st.length = D := ⟨(p.den * p.st.length).toNat, by have := Int.mul_nonneg (by have := hg.d1; omega : 0 ≤ p.den) (by omega : 0 ≤ (p.st.length : Int)); omega⟩
          have HLB : Hid (lvlB N D = true) := Lib.hid (by
            have h1 := hg.dl
            have h2 : p.den * 1 ≤ p.den * (p.st.length : Int) := Int.mul_le_mul_of_nonneg_left (by omega) (by have := hg.d1; omega)
            have h3 := hg.d1; have h4 := hg.u0; have h5 := hg.u1
            simp only [lvlB, Bool.and_eq_true, decide_eq_true_eq]
            omega)
          have HMG : Hid (i64 p.margin) := Lib.hid (by have := hg.m0; have := hg.m1; unfold i64; omega)
          have HSV : Hid (shareV p.num p.den p.st.length = .tuple #[.agg #[.int .i64 p.num, .int .i64 D], .int .i64 0]) := Lib.hid (by rw [← hD]; exact share_good (by simp [lvlB, hg.d1, hg.d2, hg.u0, hg.u1]) hg.n1 hg.n8 hg.dl)
          have HLK : Hid (lookV p l Y = worseV p.margin (l.take Y) N D) := Lib.hid (by
            have h3 := hg.d1
            have : p.den.toNat * p.st.length = D := by
              have h6 : ((p.den.toNat * p.st.length : Nat) : Int) = D := by rw [← hD, Int.natCast_mul, Int.toNat_of_nonneg (by omega)]
              exact Int.ofNat.inj h6
            unfold lookV
            rw [this, hN, Int.toNat_natCast])
          obtain ⟨bv, ev, hbe⟩ := worseV_two p.margin (l.take Y) N D
          have HBE := Lib.hid hbe
          have HTL : Hid ((l.take Y).length = Y) := Lib.hid (by rw [List.length_take]; omega)
          have HF : Hid (lookF p l k = .tuple #[.bool bv, .int .i64 ev]) := Lib.hid (by rw [HF0.out, if_neg hly, Int.toNat_natCast, HLK.out, hbe])
          have HN := Lib.hid hN
          obtain ⟨qb, qo, hqe, hqs⟩ : ∃ b off, q = some ⟨b, off, none⟩ ∧ SlAt prEnc 2 w b off l := by
            rcases HQ.out with h | h
            · rw [h] at hYl; simp at hYl; omega
            · exact h
          have HSL := Lib.hid hqs
          clear hbe hg hN hD hqs HQ
          subst hqe
          subst hae
          go_enter Tryd.func25, Tryd.ntmps25
          go_upto_region 1 with (fail)
          rw [HWE.out]
          go_upto_region 5 with (first | ((with_reducible (show wpList _ _ _ (⟨some 11, .load 30 _, _, _, _, none⟩ :: _) _ _)); refine wpList_loadEl (enc := listEnc) (size := 4) rfl 30 _ rfl _ _ rfl [.slice (some ⟨ab, ao, none⟩) p.st.length c, .int .i64 p.num, .int .i64 p.den, .int .i64 p.margin] _ (range_of_obj (HBOX.out _ (by assumption))) rfl Tryd.underlying30 rfl Tryd.sizePolicy (.agg #[.slice (some ⟨ab, ao, none⟩) p.st.length c, .int .i64 p.num, .int .i64 p.den, .int .i64 p.margin]) rfl ?_) | (go_at_call 34; refine (refValid_calls _ c p _ (HPOL.out _ hkr)).mono ?_; rintro e w1 ⟨rfl, hk1⟩; rw [HV.out]; have q0 : w1.cell? ⟨w.heap.size, 0, none⟩ = some (.slice (some ⟨ab, ao, none⟩) p.st.length c) := cell_of_row _ _ 0 _ _ _ (HBOX.out _ hk1); have HK1 := Lib.hid hk1))
          have q1 : w1.cell? ⟨ab, ao + k * 2 + 1, none⟩ = some (.int .i64 Y) := HK1.out.cell HC1.out id
          have HRL : Hid (w1.rangeAt w.heap.size 1 (listEnc [.int .i64 p.num, .int .i64 p.den])) := Lib.hid (fun j u hu => by
            have ho := HBOX.out _ HK1.out
            have hj : j < 2 := (List.getElem?_eq_some_iff.1 hu).1
            match j, hj, hu with
            | 0, _, hu => simp [listEnc] at hu; subst hu; exact cell_of_row _ _ 1 _ _ _ ho
            | 1, _, hu => simp [listEnc] at hu; subst hu; exact cell_of_row _ _ 2 _ _ _ ho)
          go_upto_region 8 with (first | ((with_reducible (show wpList _ _ _ (⟨some 36, .load 28 _, _, _, _, none⟩ :: _) _ _)); refine wpList_loadEl (enc := listEnc) (size := 2) rfl 28 _ rfl _ _ rfl [.int .i64 p.num, .int .i64 p.den] _ (HRL.out) rfl Tryd.underlying28 rfl Tryd.sizeLevel (.agg #[.int .i64 p.num, .int .i64 p.den]) rfl ?_) | (go_at_call 37; refine (share_warmpathref43 p.num p.den p.st.length w1 ln).mono ?_; rintro e w5 ⟨rfl, hk5⟩; rw [HSV.out]; have HK5 := Lib.hid hk5; clear hk5))
          generalize hw8 : World.alloc _ _ = w8
          have hk8 : Keep None w5 w8 := by rw [← hw8]; exact (Keep.refl _ _).alloc _
          have ho8 : w8.heap[w5.heap.size]? = some (.cells #[.int .i64 p.num, .int .i64 D] 28 (0, 0)) := by rw [← hw8]; exact heap_alloc_new _ _
          clear hw8
          have HK8 := Lib.hid (HK1.out.trans (HK5.out.trans hk8))
          have HB8 := Lib.hid (HBOX.out _ HK8.out)
          have HX8 := Lib.hid (HK8.out.cell HC1.out id)
          have HO8 := Lib.hid ho8
          have HSL8 : Hid (SliceV prEnc 2 w8 (some ⟨qb, qo, none⟩) (l.take Y)) := Lib.hid (SliceV.take (.inr ⟨qb, qo, rfl, HSL.out.keep (HK.out.trans HK8.out) id⟩) Y)
          clear hk8 ho8 q0 q1 hk1
          have hyc : ¬ cq < Y := by omega
          have hyn : ¬ (Y : Int) < 0 := by omega
          have hkn : ¬ (k : Int) < 0 := by omega
          have HCW : Hid (∀ (w' : World), Keep None w8 w' → Calls Tryd.prog 38 #[.slice (some ⟨qb, qo, none⟩) Y cq, .int .i64 p.margin, .agg #[.int .i64 p.num, .int .i64 D]] w' (fun e w'' => ∃ u, e = .returned u ∧ u = .tuple #[.bool bv, .int .i64 ev] ∧ Keep None w8 w'' ∧ Keep None w' w'')) := Lib.hid (fun w' hk => by
            have h1 := refWorse_calls (some ⟨qb, qo, none⟩) cq (l.take Y) p.margin N D w' (HSL8.out.keep hk (fun _ _ => id)) (by rw [HTL.out]; omega) HMG.out HLB.out
            rw [HTL.out, HBE.out, ← HN.out] at h1
            exact h1.mono (fun e w'' h => ⟨_, h.1, rfl, hk.trans h.2, h.2⟩))
          refine region_kindsG_tail None [.is (.slice (some ⟨qb, qo, none⟩) l.length cq), .is (.pointer (some ⟨w.heap.size, 0, none⟩)), .is (.slice (some ⟨ab, ao, none⟩) p.st.length c), .is (.int .i64 k), .is (.pointer (some ⟨ab, ao + k * 2, none⟩)), .is (.pointer (some ⟨ab, ao + k * 2 + 1, none⟩)), .is (.int .i64 Y), .is (.slice (some ⟨qb, qo, none⟩) Y cq), .is (.pointer (some ⟨w.heap.size, 3, none⟩)), .is (.int .i64 p.margin), .is (.agg #[.int .i64 p.num, .int .i64 D]), .is (.tuple #[.bool bv, .int .i64 ev]), .is (.bool bv), .is (.int .i64 ev), .any, .any]
            (fun w' => Keep None w8 w') 57 14 (by kernel_rfl) (by decide) (by kernel_rfl) (by kernel_rfl) (by kernel_rfl) rfl (by kernel_rfl) (Keep.refl _ _).drew ?_ ?_
          · refine ⟨?_, ?_, ?_, ?_, ?_, ?_, ?_, ?_, ?_, ?_, ?_, ?_, ?_, ?_, trivial⟩
            · exact st_free rfl (st_ev1 (dep_f (t := 1) rfl rfl) _ (by intro a w' h1 hI; go_simp) rfl)
            · exact st_free rfl (st_ev1 (dep_f (t := 3) rfl rfl) _ (by intro a w' h1 hI; go_simp) rfl)
            · exact st_free rfl (st_ev1 (dep_e 1 rfl rfl rfl) _ (by intro a w' h1 hI; have q0 := cell_of_row _ _ 0 _ _ _ (hI.obj HB8.out id); go_simp) rfl)
            · exact st_free rfl (st_ev1 (dep_f (t := 2) rfl rfl) _ (by intro a w' h1 hI; go_simp) rfl)
            · exact st_free rfl (st_ev2 (dep_e 2 rfl rfl rfl) (dep_e 3 rfl rfl rfl) _ (by intro a w' h1 h2 hI; go_simp) rfl)
            · exact st_free rfl (st_ev1 (dep_e 4 rfl rfl rfl) _ (by intro a w' h1 hI; go_simp) rfl)
            · exact st_free rfl (st_ev1 (dep_e 5 rfl rfl rfl) _ (by intro a w' h1 hI; have q0 := hI.cell HX8.out id; go_simp) rfl)
            · exact st_free rfl (st_ev2 (dep_e 0 rfl rfl rfl) (dep_e 6 rfl rfl rfl) _ (by intro a w' h1 h2 hI; go_simp) rfl)
            · exact st_free rfl (st_ev1 (dep_f (t := 3) rfl rfl) _ (by intro a w' h1 hI; go_simp) rfl)
            · exact st_free rfl (st_ev1 (dep_e 8 rfl rfl rfl) _ (by intro a w' h1 hI; have q0 := cell_of_row _ _ 3 _ _ _ (hI.obj HB8.out id); go_simp) rfl)
            · exact st_free rfl (st_loadD 28 w5.heap.size 0 [.int .i64 p.num, .int .i64 D] rfl (dep_f (t := 8) rfl rfl) (fun w' hI => range_of_obj (hI.obj HO8.out id)) _ Tryd.underlying28 rfl 2 Tryd.sizeLevel rfl rfl)
            · exact st_free rfl (st_call3 (dep_e 7 rfl rfl rfl) (dep_e 9 rfl rfl rfl) (dep_e 10 rfl rfl rfl) _ _ (by intro a w' h1 h2 h3; go_simp) HCW.out)
            · exact st_free rfl (st_ev1 (dep_e 11 rfl rfl rfl) _ (by intro a w' h1 hI; go_simp) rfl)
            · exact st_free rfl (st_ev1 (dep_e 11 rfl rfl rfl) _ (by intro a w' h1 hI; go_simp) rfl)
          intro f' w9 hkinds hI
          have k55 : f' 55 = .bool bv := hkinds 12 _ 55 (by omega) rfl rfl
          have k56 : f' 56 = .int .i64 ev := hkinds 13 _ 56 (by omega) rfl rfl
          simp only [putsOf, Act.put, List.take_succ_cons, List.take_zero, List.drop_succ_cons, List.drop_zero, List.setIfInBounds_toArray, List.set_cons_zero, List.set_cons_succ, k55, k56]
          clear hkinds k55 k56
          go_wp2_with (fail)
          go_ret2
          exact ⟨by rw [HF.out]; rfl, (HK.out.trans HK8.out).trans hI⟩

theorem signs_zero {m : Int} {l : List Pr} (h0 : 0 ≤ m) (h1 : m ≤ 1000) : (signs m l = none ↔ signs 0 l = none) := by
  unfold signs
  simp [h0, h1]

set_option maxRecDepth 100000 in
set_option maxHeartbeats 8000000 in
theorem refVerdict_calls (a q : Option Addr) (c cq : Nat) (p : Pol) (l : List Pr) (w : World) (h : PolAt w a p) (hq : SliceV prEnc 2 w q l) (hcq : l.length ≤ cq) (hl : l.length ≤ 1000000000000) :
    Calls Tryd.prog 26 #[polVal a c p, .slice q l.length cq] w (Gives None (verdictV p l) w) := by
  have ln := h.ln
  have HP := Lib.hid h
  have HQ := Lib.hid hq
  clear h hq
  unfold polVal
  have HBX : Hid (∃ W : World, Keep None w W ∧ W = w.alloc (.cells #[.slice a p.st.length c, .int .i64 p.num, .int .i64 p.den, .int .i64 p.margin] 30) ∧ W.heap[w.heap.size]? = some (.cells #[.slice a p.st.length c, .int .i64 p.num, .int .i64 p.den, .int .i64 p.margin] 30 (0, 0))) :=
    Lib.hid ⟨_, (Keep.refl None w).alloc _, rfl, heap_alloc_new _ _⟩
  obtain ⟨W, hKW, hWe, ho1⟩ := HBX.out
  have HK := Lib.hid hKW
  have HWE := Lib.hid hWe.symm
  have HBOX : Hid (∀ w', Keep None W w' → w'.heap[w.heap.size]? = some (.cells #[.slice a p.st.length c, .int .i64 p.num, .int .i64 p.den, .int .i64 p.margin] 30 (0, 0))) := Lib.hid (fun w' h => h.obj ho1 id)
  have HPOL : Hid (∀ w', Keep None W w' → PolAt w' a p) := Lib.hid (fun w' h => HP.out.still (HK.out.trans h))
  have hkr : Keep None W W := Keep.refl _ _
  clear HBX hKW hWe ho1
  cases hv : validB p with
  | false =>
    have HV := Lib.hid hv
    have HVD : Hid (verdictV p l = .tuple #[.int .i64 0, .int .i64 0, .int .i64 43]) := Lib.hid (by unfold verdictV verdict; rw [if_pos hv])
    clear hv
    go_enter Tryd.func26, Tryd.ntmps26
    go_upto_region 1 with (fail)
    rw [HWE.out]
    go_wp2_with (first | ((with_reducible (show wpList _ _ _ (⟨some 13, .load 30 _, _, _, _, none⟩ :: _) _ _)); refine wpList_loadEl (enc := listEnc) (size := 4) rfl 30 _ rfl _ _ rfl [.slice a p.st.length c, .int .i64 p.num, .int .i64 p.den, .int .i64 p.margin] _ (range_of_obj (HBOX.out _ (by assumption))) rfl Tryd.underlying30 rfl Tryd.sizePolicy (.agg #[.slice a p.st.length c, .int .i64 p.num, .int .i64 p.den, .int .i64 p.margin]) rfl ?_) | (go_at_call 34; refine (refValid_calls _ c p _ (HPOL.out _ hkr)).mono ?_; rintro e w1 ⟨rfl, hk1⟩; rw [HV.out]; have q0 : w1.cell? ⟨w.heap.size, 0, none⟩ = some (.slice a p.st.length c) := cell_of_row _ _ 0 _ _ _ (HBOX.out _ hk1); have HK1 := Lib.hid hk1))
    go_ret3
    exact ⟨by rw [HVD.out]; rfl, HK.out.trans hk1⟩
  | true =>
    have hg := valid_good hv
    have HG := Lib.hid hg
    have HV := Lib.hid hv
    clear hv hg
    cases hs : signs 0 l with
    | none =>
      have HS : Hid (signsV 0 l = .tuple #[.int .i64 0, .int .i64 0, .int .i64 1]) := Lib.hid (by unfold signsV; rw [hs])
      have HVD : Hid (verdictV p l = .tuple #[.int .i64 0, .int .i64 0, .int .i64 1]) := Lib.hid (by unfold verdictV verdict; rw [if_neg (by rw [HV.out]; simp), if_pos ((signs_zero HG.out.m0 HG.out.m1).2 hs)])
      clear hs
      go_enter Tryd.func26, Tryd.ntmps26
      go_upto_region 1 with (fail)
      rw [HWE.out]
      go_wp2_with (first | ((with_reducible (show wpList _ _ _ (⟨some 13, .load 30 _, _, _, _, none⟩ :: _) _ _)); refine wpList_loadEl (enc := listEnc) (size := 4) rfl 30 _ rfl _ _ rfl [.slice a p.st.length c, .int .i64 p.num, .int .i64 p.den, .int .i64 p.margin] _ (range_of_obj (HBOX.out _ (by assumption))) rfl Tryd.underlying30 rfl Tryd.sizePolicy (.agg #[.slice a p.st.length c, .int .i64 p.num, .int .i64 p.den, .int .i64 p.margin]) rfl ?_) | (go_at_call 34; refine (refValid_calls _ c p _ (HPOL.out _ hkr)).mono ?_; rintro e w1 ⟨rfl, hk1⟩; rw [HV.out]; have q0 : w1.cell? ⟨w.heap.size, 0, none⟩ = some (.slice a p.st.length c) := cell_of_row _ _ 0 _ _ _ (HBOX.out _ hk1); have HK1 := Lib.hid hk1) | (go_at_call 39; refine (refSigns_calls q cq l 0 _ (HQ.out.keep (HK.out.trans HK1.out) (fun _ _ => id)) hl (by unfold i64; omega)).mono ?_; rintro e w2 ⟨rfl, hk2⟩; rw [HS.out]; have HK2 := Lib.hid (HK1.out.trans hk2); clear hk2))
      go_ret3
      exact ⟨by rw [HVD.out]; rfl, HK.out.trans HK2.out⟩
    | some s =>
      obtain ⟨b, u⟩ := s
      have HS : Hid (signsV 0 l = .tuple #[.int .i64 b, .int .i64 u, .int .i64 0]) := Lib.hid (by unfold signsV; rw [hs])
      obtain ⟨s', hs'⟩ : ∃ s', signs p.margin l = some s' := by
        cases h2 : signs p.margin l with
        | none => rw [(signs_zero HG.out.m0 HG.out.m1).1 h2] at hs; cases hs
        | some s' => exact ⟨s', rfl⟩
      have HSG := Lib.hid hs'
      clear hs hs'
      go_enter Tryd.func26, Tryd.ntmps26
      go_upto_region 1 with (fail)
      rw [HWE.out]
      go_wp2_with (first | ((with_reducible (show wpList _ _ _ (⟨some 13, .load 30 _, _, _, _, none⟩ :: _) _ _)); refine wpList_loadEl (enc := listEnc) (size := 4) rfl 30 _ rfl _ _ rfl [.slice a p.st.length c, .int .i64 p.num, .int .i64 p.den, .int .i64 p.margin] _ (range_of_obj (HBOX.out _ (by assumption))) rfl Tryd.underlying30 rfl Tryd.sizePolicy (.agg #[.slice a p.st.length c, .int .i64 p.num, .int .i64 p.den, .int .i64 p.margin]) rfl ?_) | (go_at_call 34; refine (refValid_calls _ c p _ (HPOL.out _ hkr)).mono ?_; rintro e w1 ⟨rfl, hk1⟩; rw [HV.out]; have q0 : w1.cell? ⟨w.heap.size, 0, none⟩ = some (.slice a p.st.length c) := cell_of_row _ _ 0 _ _ _ (HBOX.out _ hk1); have HK1 := Lib.hid hk1) | (go_at_call 39; refine (refSigns_calls q cq l 0 _ (HQ.out.keep (HK.out.trans HK1.out) (fun _ _ => id)) hl (by unfold i64; omega)).mono ?_; rintro e w2 ⟨rfl, hk2⟩; rw [HS.out]; have HK2 := Lib.hid (HK1.out.trans hk2); clear hk2))
      clear q0
      go_loopw [10] (VerInv p l W) (fun i _ => p.st.length - (intOf i).toNat)
      case atStart => exact ⟨0, rfl, by omega, rfl, HK2.out⟩
      case round =>
        obtain ⟨k, rfl, hk, hvd, hkr2⟩ := hrel
        have HKR := Lib.hid hkr2
        have HVD := Lib.hid hvd
        have q0 : wr.cell? ⟨w.heap.size, 0, none⟩ = some (.slice a p.st.length c) := cell_of_row _ _ 0 _ _ _ (HBOX.out _ hkr2)
        clear hvd
        by_cases hlt : k < p.st.length
        · have hlti : (k : Int) < p.st.length := by omega
          obtain ⟨⟨x, y⟩, hx⟩ : ∃ s, p.st[k]? = some s := ⟨p.st[k], by simp [hlt]⟩
          have hxy := HG.out.st _ (List.mem_of_getElem? hx)
          simp only at hxy
          obtain ⟨Y, rfl⟩ : ∃ Y : Nat, y = Y := ⟨y.toNat, by omega⟩
          have HDR := Lib.hid (drop_at hx)
          have HF0 := Lib.hid (lookF_at (l := l) HV.out hx)
          obtain ⟨ab, ao, rfl, hsl⟩ : ∃ b off, a = some ⟨b, off, none⟩ ∧ SlAt stEnc 2 wr b off p.st := by
            rcases (HPOL.out _ HKR.out).st with h | h
            · rw [h] at hlt; simp at hlt
            · exact h
          have q1 : wr.cell? ⟨ab, ao + k * 2 + 1, none⟩ = some (.int .i64 Y) := hsl k _ hx 1 _ rfl
          clear hsl hx
          by_cases hly : (l.length : Int) < (Y : Int)
          · have HVE : Hid (verdictV p l = .tuple #[.int .i64 1, .int .i64 k, .int .i64 0]) := Lib.hid (verdict_some HV.out HSG.out (by rw [HVD.out, HDR.out, verd, if_pos (by simp only [Int.toNat_natCast]; omega)]))
            go_wp2_with (fail)
            go_ret3
            exact ⟨by rw [HVE.out]; rfl, HK.out.trans HKR.out⟩
          · obtain ⟨lb, hlb⟩ : ∃ lb, lb = lookB p l Y := ⟨_, rfl⟩
            have HLF : Hid (lookF p l k = .tuple #[.bool lb, .int .i64 0]) := Lib.hid (by rw [HF0.out, if_neg hly, Int.toNat_natCast, hlb]; exact lookV_ok HSG.out Y)
            have HLB := Lib.hid hlb
            clear hlb
            cases lb
            · have HNX : Hid (verd (lookB p l) l.length p.st 0 = verd (lookB p l) l.length (p.st.drop (k + 1)) (k + 1)) := Lib.hid (by rw [HVD.out, HDR.out, verd, if_neg (by simp only [Int.toNat_natCast]; omega), Int.toNat_natCast, ← HLB.out, if_neg (by simp)])
              go_wp2_with (first | ((with_reducible (show wpList _ _ _ (⟨some 43, .load 30 _, _, _, _, none⟩ :: _) _ _)); refine wpList_loadEl (enc := listEnc) (size := 4) rfl 30 _ rfl _ _ rfl [.slice (some ⟨ab, ao, none⟩) p.st.length c, .int .i64 p.num, .int .i64 p.den, .int .i64 p.margin] _ (range_of_obj (HBOX.out _ (by assumption))) rfl Tryd.underlying30 rfl Tryd.sizePolicy (.agg #[.slice (some ⟨ab, ao, none⟩) p.st.length c, .int .i64 p.num, .int .i64 p.den, .int .i64 p.margin]) rfl ?_) | (go_at_call 25; refine (refLook_calls _ q c cq p l k _ (HPOL.out _ hkr2) (HQ.out.keep (HK.out.trans hkr2) (fun _ _ => id)) hcq hl (by unfold i64; omega)).mono ?_; rintro e w9 ⟨rfl, hk9⟩; rw [HLF.out]))
              go_roundw
              case rel => exact ⟨k + 1, by go_num, by omega, HNX.out, HKR.out.trans hk9⟩
              case measure => simp [intOf]; omega
            · have HVE : Hid (verdictV p l = .tuple #[.int .i64 2, .int .i64 k, .int .i64 0]) := Lib.hid (verdict_some HV.out HSG.out (by rw [HVD.out, HDR.out, verd, if_neg (by simp only [Int.toNat_natCast]; omega), Int.toNat_natCast, ← HLB.out, if_pos rfl]))
              go_wp2_with (first | ((with_reducible (show wpList _ _ _ (⟨some 43, .load 30 _, _, _, _, none⟩ :: _) _ _)); refine wpList_loadEl (enc := listEnc) (size := 4) rfl 30 _ rfl _ _ rfl [.slice (some ⟨ab, ao, none⟩) p.st.length c, .int .i64 p.num, .int .i64 p.den, .int .i64 p.margin] _ (range_of_obj (HBOX.out _ (by assumption))) rfl Tryd.underlying30 rfl Tryd.sizePolicy (.agg #[.slice (some ⟨ab, ao, none⟩) p.st.length c, .int .i64 p.num, .int .i64 p.den, .int .i64 p.margin]) rfl ?_) | (go_at_call 25; refine (refLook_calls _ q c cq p l k _ (HPOL.out _ hkr2) (HQ.out.keep (HK.out.trans hkr2) (fun _ _ => id)) hcq hl (by unfold i64; omega)).mono ?_; rintro e w9 ⟨rfl, hk9⟩; rw [HLF.out]))
              go_ret3
              exact ⟨by rw [HVE.out]; rfl, HK.out.trans (HKR.out.trans hk9)⟩
        · have hke : k = p.st.length := by omega
          subst hke
          have HVE : Hid (verdictV p l = .tuple #[.int .i64 3, .int .i64 p.st.length, .int .i64 0]) := Lib.hid (verdict_some HV.out HSG.out (by rw [HVD.out, List.drop_length]; rfl))
          have HB := Lib.hid (HBOX.out _ hkr2)
          go_wp2_with (fail)
          refine region_kindsG None [.is (.pointer (some ⟨w.heap.size, 0, none⟩)), .is (.slice a p.st.length c), .is (.int .i64 p.st.length), .is (.int .i64 3), .is (.int .i64 p.st.length), .is (.int .i64 0)]
            (fun w' => Keep None wr w') 54 (by kernel_rfl) (by kernel_rfl) rfl (by kernel_rfl) (Keep.refl _ _).drew ?_ ?_
          · refine ⟨?_, ?_, ?_, ?_, ?_, ?_, trivial⟩
            · exact st_free rfl (st_ev1 (dep_f (t := 2) rfl rfl) _ (by intro a w' h1 hI; go_simp) rfl)
            · exact st_free rfl (st_ev1 (dep_e 0 rfl rfl rfl) _ (by intro a w' h1 hI; have q0 := cell_of_row _ _ 0 _ _ _ (hI.obj HB.out id); go_simp) rfl)
            · exact st_free rfl (st_ev1 (dep_e 1 rfl rfl rfl) _ (by intro a w' h1 hI; go_simp) rfl)
            · exact st_free rfl (st_ev0 _ (by intro a w' hI; go_simp) rfl)
            · exact st_free rfl (st_ev1 (dep_e 2 rfl rfl rfl) _ (by intro a w' h1 hI; go_simp) rfl)
            · exact st_free rfl (st_ev0 _ (by intro a w' hI; go_simp) rfl)
          intro f' w9 hkinds hI
          have k4 : f' 4 = .int .i64 3 := hkinds 3 _ 4 rfl rfl
          have k5 : f' 5 = .int .i64 p.st.length := hkinds 4 _ 5 rfl rfl
          have k6 : f' 6 = .int .i64 0 := hkinds 5 _ 6 rfl rfl
          simp only [putsOf, Act.put, List.setIfInBounds_toArray, List.set_cons_zero, List.set_cons_succ, k4, k5, k6]
          clear hkinds k4 k5 k6
          go_wp2_with (fail)
          go_ret3
          exact ⟨by rw [HVE.out]; rfl, (HK.out.trans HKR.out).trans hI⟩

end Go.Proofs.YtgelfefoiplekaaDoor
