/-
  Chapter 44: the verdict, walked.
-/
import Derived.Test.YtgelfefoiplekaaDoorPolLook
namespace Go.Proofs.YtgelfefoiplekaaDoor
open Go.RowKit PN

def verdictV (p : Pol) (l : List Pr) : Value := .tuple #[.int .i64 (verdict p l).1, .int .i64 (verdict p l).2.1, .int .i64 (verdict p l).2.2]

theorem signs_take {m : Int} {l : List Pr} {s : Nat × Nat} (h : signs m l = some s) (n : Nat) : signs m (l.take n) = some (nb m (l.take n), nw m (l.take n)) := by
  unfold signs at h
  split at h
  · rename_i hc
    simp only [Bool.and_eq_true, decide_eq_true_eq, List.all_eq_true] at hc
    obtain ⟨⟨⟨h1, h2⟩, h3⟩, h4⟩ := hc
    exact signs_yes h1 h2 (by rw [List.length_take]; omega) (List.all_eq_true.2 fun x hx => h4 x (List.mem_of_mem_take hx))
  · cases h

theorem lookV_ok {p : Pol} {l : List Pr} {s : Nat × Nat} (h : signs p.margin l = some s) (y : Nat) : lookV p l y = .tuple #[.bool (lookB p l y), .int .i64 0] := by
  unfold lookV worseV
  rw [signs_take h]
  rfl

theorem verdict_some {p : Pol} {l : List Pr} {s : Nat × Nat} (hv : validB p = true) (h : signs p.margin l = some s) {v : Int} {i : Nat} (he : verd (lookB p l) l.length p.st 0 = (v, i)) : verdictV p l = .tuple #[.int .i64 v, .int .i64 i, .int .i64 0] := by
  unfold verdictV verdict
  rw [if_neg (by rw [hv]; simp), if_neg (by rw [h]; simp), he]

def VerInv (p : Pol) (l : List Pr) (w0 : World) (iv : Value) (w : World) : Prop :=
  ∃ k : Nat, iv = .int .i64 k ∧ k ≤ p.st.length ∧ verd (lookB p l) l.length p.st 0 = verd (lookB p l) l.length (p.st.drop k) k ∧ Keep None w0 w

set_option maxRecDepth 100000 in
set_option maxHeartbeats 4000000 in
theorem verdict_calls (a q : Option Addr) (c cq : Nat) (p : Pol) (l : List Pr) (w : World) (h : PolAt w a p) (hq : SliceV prEnc 2 w q l) (hcq : l.length ≤ cq) (hl : l.length ≤ 1000000000000) :
    Calls Tryd.prog 21 #[polVal a c p, .slice q l.length cq] w (Gives None (verdictV p l) w) := by
  have ln := h.ln
  have HP := Lib.hid h
  have HQ := Lib.hid hq
  clear h hq
  unfold polVal
  have HBX : Hid (∃ W : World, Keep None w W ∧ W = w.alloc (.cells #[.slice a p.st.length c, .int .i64 p.num, .int .i64 p.den, .int .i64 p.margin] 30) ∧ W.heap[w.heap.size]? = some (.cells #[.slice a p.st.length c, .int .i64 p.num, .int .i64 p.den, .int .i64 p.margin] 30 (0, 0))) :=
    Lib.hid ⟨_, (Keep.refl None w).alloc _, rfl, heap_alloc_new _ _⟩
  obtain ⟨W, hKW, hWe, ho1⟩ := HBX.out
  have HK := Lib.hid hKW
  have HWE := Lib.hid hWe.symm
  have HBOX : Hid (∀ w', Keep None W w' → w'.heap[w.heap.size]? = some (.cells #[.slice a p.st.length c, .int .i64 p.num, .int .i64 p.den, .int .i64 p.margin] 30 (0, 0))) := Lib.hid (fun w' h => h.obj ho1 id)
  have HPOL : Hid (∀ w', Keep None W w' → PolAt w' a p) := Lib.hid (fun w' h => HP.out.still (HK.out.trans h))
  have hkr : Keep None W W := Keep.refl _ _
  clear HBX hKW hWe ho1
  cases hv : validB p with
  | false =>
    have HV := Lib.hid hv
    have HVD : Hid (verdictV p l = .tuple #[.int .i64 0, .int .i64 0, .int .i64 43]) := Lib.hid (by unfold verdictV verdict; rw [if_pos hv])
    clear hv
    go_enter Tryd.func21, Tryd.ntmps21
    go_upto_region 1 with (fail)
    rw [HWE.out]
    go_wp2_with (first | ((with_reducible (show wpList _ _ _ (⟨some 14, .load 30 _, _, _, _, none⟩ :: _) _ _)); refine wpList_loadEl (enc := listEnc) (size := 4) rfl 30 _ rfl _ _ rfl [.slice a p.st.length c, .int .i64 p.num, .int .i64 p.den, .int .i64 p.margin] _ (range_of_obj (HBOX.out _ (by assumption))) rfl Tryd.underlying30 rfl Tryd.sizePolicy (.agg #[.slice a p.st.length c, .int .i64 p.num, .int .i64 p.den, .int .i64 p.margin]) rfl ?_) | (go_at_call 15; refine (valid_calls _ c p _ (HPOL.out _ hkr)).mono ?_; rintro e w1 ⟨rfl, hk1⟩; rw [HV.out]; have q3 : w1.cell? ⟨w.heap.size, 3, none⟩ = some (.int .i64 p.margin) := cell_of_row _ _ 3 _ _ _ (HBOX.out _ hk1); have HK1 := Lib.hid hk1))
    go_ret3
    exact ⟨by rw [HVD.out]; rfl, HK.out.trans hk1⟩
  | true =>
    have hg := valid_good hv
    have HMG : Hid (i64 p.margin) := Lib.hid (by have := hg.m0; have := hg.m1; unfold i64; omega)
    have HG := Lib.hid hg
    have HV := Lib.hid hv
    clear hv hg
    cases hs : signs p.margin l with
    | none =>
      have HS : Hid (signsV p.margin l = .tuple #[.int .i64 0, .int .i64 0, .int .i64 1]) := Lib.hid (by unfold signsV; rw [hs])
      have HVD : Hid (verdictV p l = .tuple #[.int .i64 0, .int .i64 0, .int .i64 1]) := Lib.hid (by unfold verdictV verdict; rw [if_neg (by rw [HV.out]; simp), if_pos hs])
      clear hs
      go_enter Tryd.func21, Tryd.ntmps21
      go_upto_region 1 with (fail)
      rw [HWE.out]
      go_wp2_with (first | ((with_reducible (show wpList _ _ _ (⟨some 14, .load 30 _, _, _, _, none⟩ :: _) _ _)); refine wpList_loadEl (enc := listEnc) (size := 4) rfl 30 _ rfl _ _ rfl [.slice a p.st.length c, .int .i64 p.num, .int .i64 p.den, .int .i64 p.margin] _ (range_of_obj (HBOX.out _ (by assumption))) rfl Tryd.underlying30 rfl Tryd.sizePolicy (.agg #[.slice a p.st.length c, .int .i64 p.num, .int .i64 p.den, .int .i64 p.margin]) rfl ?_) | (go_at_call 15; refine (valid_calls _ c p _ (HPOL.out _ hkr)).mono ?_; rintro e w1 ⟨rfl, hk1⟩; rw [HV.out]; have q3 : w1.cell? ⟨w.heap.size, 3, none⟩ = some (.int .i64 p.margin) := cell_of_row _ _ 3 _ _ _ (HBOX.out _ hk1); have HK1 := Lib.hid hk1) | (go_at_call 35; refine (signs_calls q cq l p.margin _ (HQ.out.keep (HK.out.trans HK1.out) (fun _ _ => id)) hl HMG.out).mono ?_; rintro e w2 ⟨rfl, hk2⟩; rw [HS.out]; clear q3; have q0 : w2.cell? ⟨w.heap.size, 0, none⟩ = some (.slice a p.st.length c) := cell_of_row _ _ 0 _ _ _ (HBOX.out _ (HK1.out.trans hk2)); have HK2 := Lib.hid (HK1.out.trans hk2); clear hk2))
      go_ret3
      exact ⟨by rw [HVD.out]; rfl, HK.out.trans HK2.out⟩
    | some s =>
      obtain ⟨b, u⟩ := s
      have HS : Hid (signsV p.margin l = .tuple #[.int .i64 b, .int .i64 u, .int .i64 0]) := Lib.hid (by unfold signsV; rw [hs])
      have HSG := Lib.hid hs
      clear hs
      go_enter Tryd.func21, Tryd.ntmps21
      go_upto_region 1 with (fail)
      rw [HWE.out]
      go_wp2_with (first | ((with_reducible (show wpList _ _ _ (⟨some 14, .load 30 _, _, _, _, none⟩ :: _) _ _)); refine wpList_loadEl (enc := listEnc) (size := 4) rfl 30 _ rfl _ _ rfl [.slice a p.st.length c, .int .i64 p.num, .int .i64 p.den, .int .i64 p.margin] _ (range_of_obj (HBOX.out _ (by assumption))) rfl Tryd.underlying30 rfl Tryd.sizePolicy (.agg #[.slice a p.st.length c, .int .i64 p.num, .int .i64 p.den, .int .i64 p.margin]) rfl ?_) | (go_at_call 15; refine (valid_calls _ c p _ (HPOL.out _ hkr)).mono ?_; rintro e w1 ⟨rfl, hk1⟩; rw [HV.out]; have q3 : w1.cell? ⟨w.heap.size, 3, none⟩ = some (.int .i64 p.margin) := cell_of_row _ _ 3 _ _ _ (HBOX.out _ hk1); have HK1 := Lib.hid hk1) | (go_at_call 35; refine (signs_calls q cq l p.margin _ (HQ.out.keep (HK.out.trans HK1.out) (fun _ _ => id)) hl HMG.out).mono ?_; rintro e w2 ⟨rfl, hk2⟩; rw [HS.out]; clear q3; have q0 : w2.cell? ⟨w.heap.size, 0, none⟩ = some (.slice a p.st.length c) := cell_of_row _ _ 0 _ _ _ (HBOX.out _ (HK1.out.trans hk2)); have HK2 := Lib.hid (HK1.out.trans hk2); clear hk2))
      clear q0
      go_loopw [31] (VerInv p l W) (fun i _ => p.st.length - (intOf i).toNat)
      case atStart => exact ⟨0, rfl, by omega, rfl, HK2.out⟩
      case round =>
        obtain ⟨k, rfl, hk, hvd, hkp⟩ := hrel
        have HKR := Lib.hid hkp
        have HVD := Lib.hid hvd
        clear hvd hkp
        by_cases hlt : k < p.st.length
        · have hlti : (k : Int) < p.st.length := by omega
          obtain ⟨⟨x, y⟩, hx⟩ : ∃ s, p.st[k]? = some s := ⟨p.st[k], by simp [hlt]⟩
          have hxy := HG.out.st _ (List.mem_of_getElem? hx)
          simp only at hxy
          have HX := Lib.hid hx
          have HDR := Lib.hid (drop_at hx)
          obtain ⟨ab, ao, rfl, hsl⟩ : ∃ b off, a = some ⟨b, off, none⟩ ∧ SlAt stEnc 2 wr b off p.st := by
            rcases (HPOL.out _ HKR.out).st with h | h
            · rw [h] at hlt; simp at hlt
            · exact h
          have HRG := Lib.hid (hsl.range hx)
          clear hsl hx
          by_cases hly : (l.length : Int) < y
          · have HVE : Hid (verdictV p l = .tuple #[.int .i64 1, .int .i64 k, .int .i64 0]) := Lib.hid (verdict_some HV.out HSG.out (by rw [HVD.out, HDR.out, verd, if_pos (by simp only; omega)]))
            go_wp2_with ((with_reducible (show wpList _ _ _ (⟨some 35, .load 45 _, _, _, _, none⟩ :: _) _ _)); refine wpList_loadEl (enc := stEnc) (size := 2) rfl 45 _ rfl _ _ rfl (x, y) _ HRG.out rfl Tryd.underlying45 rfl Tryd.sizeStage (.agg #[.int .i64 x, .int .i64 y]) rfl ?_)
            go_ret3
            exact ⟨by rw [HVE.out]; rfl, (HK.out.trans HKR.out).alloc _⟩
          · go_upto_region 11 with ((with_reducible (show wpList _ _ _ (⟨some 35, .load 45 _, _, _, _, none⟩ :: _) _ _)); refine wpList_loadEl (enc := stEnc) (size := 2) rfl 45 _ rfl _ _ rfl (x, y) _ HRG.out rfl Tryd.underlying45 rfl Tryd.sizeStage (.agg #[.int .i64 x, .int .i64 y]) rfl ?_)
            generalize hw8 : World.alloc _ _ = w8
            have hk8 : Keep None W w8 := by rw [← hw8]; exact HKR.out.alloc _
            clear hw8
            have HK8 := Lib.hid hk8
            obtain ⟨X, rfl⟩ : ∃ X : Nat, x = X := ⟨x.toNat, by omega⟩
            obtain ⟨Y, rfl⟩ : ∃ Y : Nat, y = Y := ⟨y.toNat, by omega⟩
            have hYl : Y ≤ l.length := by omega
            obtain ⟨lb, hlb⟩ : ∃ lb, lb = lookB p l Y := ⟨_, rfl⟩
            have HLV : Hid (lookV p l Y = .tuple #[.bool lb, .int .i64 0]) := Lib.hid (by rw [hlb]; exact lookV_ok HSG.out Y)
            have HLB := Lib.hid hlb
            clear hlb
            cases lb
            · have HNX : Hid (verd (lookB p l) l.length p.st 0 = verd (lookB p l) l.length (p.st.drop (k + 1)) (k + 1)) := Lib.hid (by rw [HVD.out, HDR.out, verd, if_neg (by simp only [Int.toNat_natCast]; omega), Int.toNat_natCast, ← HLB.out, if_neg (by simp)])
              go_wp2_with (first | ((with_reducible (show wpList _ _ _ (⟨some 43, .load 30 _, _, _, _, none⟩ :: _) _ _)); refine wpList_loadEl (enc := listEnc) (size := 4) rfl 30 _ rfl _ _ rfl [.slice (some ⟨ab, ao, none⟩) p.st.length c, .int .i64 p.num, .int .i64 p.den, .int .i64 p.margin] _ (range_of_obj (HBOX.out _ (by assumption))) rfl Tryd.underlying30 rfl Tryd.sizePolicy (.agg #[.slice (some ⟨ab, ao, none⟩) p.st.length c, .int .i64 p.num, .int .i64 p.den, .int .i64 p.margin]) rfl ?_) | (go_at_call 36; refine (look_calls _ q c cq p l k X Y _ (HPOL.out _ hk8) (HQ.out.keep (HK.out.trans HK8.out) (fun _ _ => id)) HV.out HX.out hYl hcq hl).mono ?_; rintro e w9 ⟨rfl, hk9⟩; rw [HLV.out]))
              go_roundw
              case rel => exact ⟨k + 1, by go_num, by omega, HNX.out, HK8.out.trans hk9⟩
              case measure => simp [intOf]; omega
            · have HVE : Hid (verdictV p l = .tuple #[.int .i64 2, .int .i64 k, .int .i64 0]) := Lib.hid (verdict_some HV.out HSG.out (by rw [HVD.out, HDR.out, verd, if_neg (by simp only [Int.toNat_natCast]; omega), Int.toNat_natCast, ← HLB.out, if_pos rfl]))
              go_wp2_with (first | ((with_reducible (show wpList _ _ _ (⟨some 43, .load 30 _, _, _, _, none⟩ :: _) _ _)); refine wpList_loadEl (enc := listEnc) (size := 4) rfl 30 _ rfl _ _ rfl [.slice (some ⟨ab, ao, none⟩) p.st.length c, .int .i64 p.num, .int .i64 p.den, .int .i64 p.margin] _ (range_of_obj (HBOX.out _ (by assumption))) rfl Tryd.underlying30 rfl Tryd.sizePolicy (.agg #[.slice (some ⟨ab, ao, none⟩) p.st.length c, .int .i64 p.num, .int .i64 p.den, .int .i64 p.margin]) rfl ?_) | (go_at_call 36; refine (look_calls _ q c cq p l k X Y _ (HPOL.out _ hk8) (HQ.out.keep (HK.out.trans HK8.out) (fun _ _ => id)) HV.out HX.out hYl hcq hl).mono ?_; rintro e w9 ⟨rfl, hk9⟩; rw [HLV.out]))
              go_ret3
              exact ⟨by rw [HVE.out]; rfl, HK.out.trans (HK8.out.trans hk9)⟩
        · have hke : k = p.st.length := by omega
          subst hke
          have HVE : Hid (verdictV p l = .tuple #[.int .i64 3, .int .i64 p.st.length, .int .i64 0]) := Lib.hid (verdict_some HV.out HSG.out (by rw [HVD.out, List.drop_length]; rfl))
          have hkr2 := HKR.out
          have HB := Lib.hid (HBOX.out _ hkr2)
          go_wp2_with (fail)
          refine region_kindsG None [.is (.pointer (some ⟨w.heap.size, 0, none⟩)), .is (.slice a p.st.length c), .is (.int .i64 p.st.length), .is (.int .i64 3), .is (.int .i64 p.st.length), .is (.int .i64 0)]
            (fun w' => Keep None wr w') 58 (by kernel_rfl) (by kernel_rfl) rfl (by kernel_rfl) (Keep.refl _ _).drew ?_ ?_
          · refine ⟨?_, ?_, ?_, ?_, ?_, ?_, trivial⟩
            · exact st_free rfl (st_ev1 (dep_f (t := 2) rfl rfl) _ (by intro a w' h1 hI; go_simp) rfl)
            · exact st_free rfl (st_ev1 (dep_e 0 rfl rfl rfl) _ (by intro a w' h1 hI; have q0 := cell_of_row _ _ 0 _ _ _ (hI.obj HB.out id); go_simp) rfl)
            · exact st_free rfl (st_ev1 (dep_e 1 rfl rfl rfl) _ (by intro a w' h1 hI; go_simp) rfl)
            · exact st_free rfl (st_ev0 _ (by intro a w' hI; go_simp) rfl)
            · exact st_free rfl (st_ev1 (dep_e 2 rfl rfl rfl) _ (by intro a w' h1 hI; go_simp) rfl)
            · exact st_free rfl (st_ev0 _ (by intro a w' hI; go_simp) rfl)
          intro f' w9 hkinds hI
          have k4 : f' 4 = .int .i64 3 := hkinds 3 _ 4 rfl rfl
          have k5 : f' 5 = .int .i64 p.st.length := hkinds 4 _ 5 rfl rfl
          have k6 : f' 6 = .int .i64 0 := hkinds 5 _ 6 rfl rfl
          simp only [putsOf, Act.put, List.setIfInBounds_toArray, List.set_cons_zero, List.set_cons_succ, k4, k5, k6]
          clear hkinds k4 k5 k6
          go_wp2_with (fail)
          go_ret3
          exact ⟨by rw [HVE.out]; rfl, (HK.out.trans HKR.out).trans hI⟩

end Go.Proofs.YtgelfefoiplekaaDoor
