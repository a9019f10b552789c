/-
  Chapters 43 and 44: whether pairs are worse, by the reference; looks.
-/
import Derived.Test.YtgelfefoiplekaaDoorPolRefC
namespace Go.Proofs.YtgelfefoiplekaaDoor
open Go.RowKit PN

set_option maxRecDepth 100000 in
set_option maxHeartbeats 4000000 in
theorem refWorse_calls (q : Option Addr) (c : Nat) (l : List Pr) (m : Int) (num den : Nat) (w : World) (h : SliceV prEnc 2 w q l) (hl : l.length ≤ 1000000000000) (hm : i64 m) (hlv : lvlB num den = true) :
    Calls Tryd.prog 38 #[.slice q l.length c, .int .i64 m, .agg #[.int .i64 num, .int .i64 den]] w (Gives None (worseV m l num den) w) := by
  have HLV := Lib.hid hlv
  have HQ := Lib.hid h
  clear hlv h
  have HBX : Hid (∃ W : World, Keep None w W ∧ W = w.alloc (.cells #[.int .i64 num, .int .i64 den] 28) ∧ W.heap[w.heap.size]? = some (.cells #[.int .i64 num, .int .i64 den] 28 (0, 0))) :=
    Lib.hid ⟨_, (Keep.refl None w).alloc _, rfl, heap_alloc_new _ _⟩
  obtain ⟨W, hKW, hWe, ho1⟩ := HBX.out
  have HK := Lib.hid hKW
  have HWE := Lib.hid hWe.symm
  have HBOX : Hid (∀ w', Keep None W w' → w'.heap[w.heap.size]? = some (.cells #[.int .i64 num, .int .i64 den] 28 (0, 0))) := Lib.hid (fun w' h => h.obj ho1 id)
  clear HBX hKW hWe ho1
  cases hs : signs m l with
  | none =>
    have HS : Hid (signsV m l = .tuple #[.int .i64 0, .int .i64 0, .int .i64 1]) := Lib.hid (by unfold signsV; rw [hs])
    have HW : Hid (worseV m l num den = .tuple #[.bool false, .int .i64 1]) := Lib.hid (by unfold worseV; rw [hs])
    clear hs
    go_enter Tryd.func38, Tryd.ntmps38
    go_upto_region 1 with (fail)
    rw [HWE.out]
    go_wp2_with (go_at_call 39; refine (refSigns_calls q c l m _ (HQ.out.keep HK.out (fun _ _ => id)) hl hm).mono ?_; rintro e w2 ⟨rfl, hk2⟩; rw [HS.out])
    go_ret2
    exact ⟨by rw [HW.out]; rfl, HK.out.trans hk2⟩
  | some p =>
    obtain ⟨b, u⟩ := p
    have hbu := (signs_some hs).2.1
    simp only at hbu
    have HS : Hid (signsV m l = .tuple #[.int .i64 b, .int .i64 u, .int .i64 0]) := Lib.hid (by unfold signsV; rw [hs])
    have HW : Hid (worseV m l num den = .tuple #[.bool (sig (b + u) u num den), .int .i64 0]) := Lib.hid (by unfold worseV; rw [hs])
    clear hs
    go_enter Tryd.func38, Tryd.ntmps38
    go_upto_region 1 with (fail)
    rw [HWE.out]
    go_wp2_with (first
      | (go_at_call 39; refine (refSigns_calls q c l m _ (HQ.out.keep HK.out (fun _ _ => id)) hl hm).mono ?_; rintro e w2 ⟨rfl, hk2⟩; rw [HS.out])
      | ((with_reducible (show wpList _ _ _ (⟨some 25, .load 28 _, _, _, _, none⟩ :: _) _ _)); refine wpList_loadEl (enc := listEnc) (size := 2) rfl 28 _ rfl _ _ rfl [.int .i64 num, .int .i64 den] _ (range_of_obj (HBOX.out _ (by assumption))) rfl Tryd.underlying28 rfl Tryd.sizeLevel (.agg #[.int .i64 num, .int .i64 den]) rfl ?_)
      | (go_at_call 49; refine (refSig_calls (b + u) u num den _ (by omega) (by omega) HLV.out).mono ?_; rintro e w3 ⟨rfl, hk3⟩))
    go_ret2
    exact ⟨by rw [HW.out]; rfl, (HK.out.trans hk2).trans hk3⟩

/-- What is seen at the look of a stage. -/
def lookF (p : Pol) (l : List Pr) (i : Int) : Value :=
  if validB p = false then .tuple #[.bool false, .int .i64 43]
  else if i < 0 ∨ (p.st.length : Int) ≤ i then .tuple #[.bool false, .int .i64 1]
  else if (l.length : Int) < ((p.st[i.toNat]?).getD (0, 0)).2 then .tuple #[.bool false, .int .i64 20]
  else lookV p l ((p.st[i.toNat]?).getD (0, 0)).2.toNat

theorem lookF_at {p : Pol} {l : List Pr} {k : Nat} {x y : Int} (hv : validB p = true) (hk : p.st[k]? = some (x, y)) : lookF p l k = if (l.length : Int) < y then .tuple #[.bool false, .int .i64 20] else lookV p l y.toNat := by
  have hlt : k < p.st.length := (List.getElem?_eq_some_iff.1 hk).1
  unfold lookF
  rw [if_neg (by rw [hv]; simp), if_neg (by omega), Int.toNat_natCast, hk]
  rfl

set_option maxRecDepth 100000 in
set_option maxHeartbeats 4000000 in
theorem lookF_calls (a q : Option Addr) (c cq : Nat) (p : Pol) (l : List Pr) (i : Int) (w : World) (h : PolAt w a p) (hq : SliceV prEnc 2 w q l) (hcq : l.length ≤ cq) (hl : l.length ≤ 1000000000000) (hi : i64 i) :
    Calls Tryd.prog 24 #[polVal a c p, .slice q l.length cq, .int .i64 i] w (Gives None (lookF p l i) w) := by
  unfold i64 at hi
  have ln := h.ln
  have HP := Lib.hid h
  have HQ := Lib.hid hq
  clear h hq
  unfold polVal
  have HBX : Hid (∃ W : World, Keep None w W ∧ W = w.alloc (.cells #[.slice a p.st.length c, .int .i64 p.num, .int .i64 p.den, .int .i64 p.margin] 30) ∧ W.heap[w.heap.size]? = some (.cells #[.slice a p.st.length c, .int .i64 p.num, .int .i64 p.den, .int .i64 p.margin] 30 (0, 0))) :=
    Lib.hid ⟨_, (Keep.refl None w).alloc _, rfl, heap_alloc_new _ _⟩
  obtain ⟨W, hKW, hWe, ho1⟩ := HBX.out
  have HK := Lib.hid hKW
  have HWE := Lib.hid hWe.symm
  have HBOX : Hid (∀ w', Keep None W w' → w'.heap[w.heap.size]? = some (.cells #[.slice a p.st.length c, .int .i64 p.num, .int .i64 p.den, .int .i64 p.margin] 30 (0, 0))) := Lib.hid (fun w' h => h.obj ho1 id)
  have HPOL : Hid (∀ w', Keep None W w' → PolAt w' a p) := Lib.hid (fun w' h => HP.out.still (HK.out.trans h))
  have hkr : Keep None W W := Keep.refl _ _
  clear HBX hKW hWe ho1
  cases hv : validB p with
  | false =>
    have HV := Lib.hid hv
    have HF : Hid (lookF p l i = .tuple #[.bool false, .int .i64 43]) := Lib.hid (by unfold lookF; rw [if_pos hv])
    clear hv
    go_enter Tryd.func24, Tryd.ntmps24
    go_upto_region 1 with (fail)
    rw [HWE.out]
    go_wp2_with (first | ((with_reducible (show wpList _ _ _ (⟨some 9, .load 30 _, _, _, _, none⟩ :: _) _ _)); refine wpList_loadEl (enc := listEnc) (size := 4) rfl 30 _ rfl _ _ rfl [.slice a p.st.length c, .int .i64 p.num, .int .i64 p.den, .int .i64 p.margin] _ (range_of_obj (HBOX.out _ (by assumption))) rfl Tryd.underlying30 rfl Tryd.sizePolicy (.agg #[.slice a p.st.length c, .int .i64 p.num, .int .i64 p.den, .int .i64 p.margin]) rfl ?_) | (go_at_call 15; refine (valid_calls _ c p _ (HPOL.out _ hkr)).mono ?_; rintro e w1 ⟨rfl, hk1⟩; rw [HV.out]; have q0 : w1.cell? ⟨w.heap.size, 0, none⟩ = some (.slice a p.st.length c) := cell_of_row _ _ 0 _ _ _ (HBOX.out _ hk1); have HK1 := Lib.hid hk1))
    go_ret2
    exact ⟨by rw [HF.out]; rfl, HK.out.trans HK1.out⟩
  | true =>
    have HV := Lib.hid hv
    have hg := valid_good hv
    have HG := Lib.hid hg
    clear hv hg
    by_cases hi0 : i < 0
    · have HF : Hid (lookF p l i = .tuple #[.bool false, .int .i64 1]) := Lib.hid (by unfold lookF; rw [if_neg (by rw [HV.out]; simp), if_pos (.inl hi0)])
      go_enter Tryd.func24, Tryd.ntmps24
      go_upto_region 1 with (fail)
      rw [HWE.out]
      go_wp2_with (first | ((with_reducible (show wpList _ _ _ (⟨some 9, .load 30 _, _, _, _, none⟩ :: _) _ _)); refine wpList_loadEl (enc := listEnc) (size := 4) rfl 30 _ rfl _ _ rfl [.slice a p.st.length c, .int .i64 p.num, .int .i64 p.den, .int .i64 p.margin] _ (range_of_obj (HBOX.out _ (by assumption))) rfl Tryd.underlying30 rfl Tryd.sizePolicy (.agg #[.slice a p.st.length c, .int .i64 p.num, .int .i64 p.den, .int .i64 p.margin]) rfl ?_) | (go_at_call 15; refine (valid_calls _ c p _ (HPOL.out _ hkr)).mono ?_; rintro e w1 ⟨rfl, hk1⟩; rw [HV.out]; have q0 : w1.cell? ⟨w.heap.size, 0, none⟩ = some (.slice a p.st.length c) := cell_of_row _ _ 0 _ _ _ (HBOX.out _ hk1); have HK1 := Lib.hid hk1))
      go_ret2
      exact ⟨by rw [HF.out]; rfl, HK.out.trans HK1.out⟩
    · by_cases hi1 : (p.st.length : Int) ≤ i
      · have HF : Hid (lookF p l i = .tuple #[.bool false, .int .i64 1]) := Lib.hid (by unfold lookF; rw [if_neg (by rw [HV.out]; simp), if_pos (.inr hi1)])
        go_enter Tryd.func24, Tryd.ntmps24
        go_upto_region 1 with (fail)
        rw [HWE.out]
        go_wp2_with (first | ((with_reducible (show wpList _ _ _ (⟨some 9, .load 30 _, _, _, _, none⟩ :: _) _ _)); refine wpList_loadEl (enc := listEnc) (size := 4) rfl 30 _ rfl _ _ rfl [.slice a p.st.length c, .int .i64 p.num, .int .i64 p.den, .int .i64 p.margin] _ (range_of_obj (HBOX.out _ (by assumption))) rfl Tryd.underlying30 rfl Tryd.sizePolicy (.agg #[.slice a p.st.length c, .int .i64 p.num, .int .i64 p.den, .int .i64 p.margin]) rfl ?_) | (go_at_call 15; refine (valid_calls _ c p _ (HPOL.out _ hkr)).mono ?_; rintro e w1 ⟨rfl, hk1⟩; rw [HV.out]; have q0 : w1.cell? ⟨w.heap.size, 0, none⟩ = some (.slice a p.st.length c) := cell_of_row _ _ 0 _ _ _ (HBOX.out _ hk1); have HK1 := Lib.hid hk1))
        go_ret2
        exact ⟨by rw [HF.out]; rfl, HK.out.trans HK1.out⟩
      · obtain ⟨k, rfl⟩ : ∃ k : Nat, i = k := ⟨i.toNat, by omega⟩
        have hlt : k < p.st.length := by omega
        have hlti : (k : Int) < p.st.length := by omega
        obtain ⟨⟨x, y⟩, hx⟩ : ∃ s, p.st[k]? = some s := ⟨p.st[k], by simp [hlt]⟩
        have hxy := HG.out.st _ (List.mem_of_getElem? hx)
        simp only at hxy
        obtain ⟨X, rfl⟩ : ∃ X : Nat, x = X := ⟨x.toNat, by omega⟩
        obtain ⟨Y, rfl⟩ : ∃ Y : Nat, y = Y := ⟨y.toNat, by omega⟩
        have HF0 := Lib.hid (lookF_at (l := l) HV.out hx)
        obtain ⟨ab, ao, hae, hsl⟩ : ∃ b off, a = some ⟨b, off, none⟩ ∧ SlAt stEnc 2 W b off p.st := by
          rcases (HPOL.out _ hkr).st with h | h
          · rw [h] at hlt; simp at hlt
          · exact h
        have HX := Lib.hid hx
        have HC1 := Lib.hid (hsl k _ hx 1 _ rfl)
        clear hsl hx hi0 hi1
        by_cases hly : (l.length : Int) < (Y : Int)
        · have HF : Hid (lookF p l k = .tuple #[.bool false, .int .i64 20]) := Lib.hid (by rw [HF0.out, if_pos hly])
          subst hae
          go_enter Tryd.func24, Tryd.ntmps24
          go_upto_region 1 with (fail)
          rw [HWE.out]
          go_upto_region 5 with (first | ((with_reducible (show wpList _ _ _ (⟨some 9, .load 30 _, _, _, _, none⟩ :: _) _ _)); refine wpList_loadEl (enc := listEnc) (size := 4) rfl 30 _ rfl _ _ rfl [.slice (some ⟨ab, ao, none⟩) p.st.length c, .int .i64 p.num, .int .i64 p.den, .int .i64 p.margin] _ (range_of_obj (HBOX.out _ (by assumption))) rfl Tryd.underlying30 rfl Tryd.sizePolicy (.agg #[.slice (some ⟨ab, ao, none⟩) p.st.length c, .int .i64 p.num, .int .i64 p.den, .int .i64 p.margin]) rfl ?_) | (go_at_call 15; refine (valid_calls _ c p _ (HPOL.out _ hkr)).mono ?_; rintro e w1 ⟨rfl, hk1⟩; rw [HV.out]; have q0 : w1.cell? ⟨w.heap.size, 0, none⟩ = some (.slice (some ⟨ab, ao, none⟩) p.st.length c) := cell_of_row _ _ 0 _ _ _ (HBOX.out _ hk1); have HK1 := Lib.hid hk1))
          have q1 : w1.cell? ⟨ab, ao + k * 2 + 1, none⟩ = some (.int .i64 Y) := HK1.out.cell HC1.out id
          go_wp2_with (fail)
          go_ret2
          exact ⟨by rw [HF.out]; rfl, HK.out.trans HK1.out⟩
        · have hYl : Y ≤ l.length := by omega
          obtain ⟨bv, ev, hbe⟩ := worseV_two p.margin (l.take Y) p.num.toNat (p.den.toNat * p.st.length)
          have HLV : Hid (lookV p l Y = .tuple #[.bool bv, .int .i64 ev]) := Lib.hid hbe
          have HF : Hid (lookF p l k = .tuple #[.bool bv, .int .i64 ev]) := Lib.hid (by rw [HF0.out, if_neg hly, Int.toNat_natCast, HLV.out])
          clear hbe
          subst hae
          go_enter Tryd.func24, Tryd.ntmps24
          go_upto_region 1 with (fail)
          rw [HWE.out]
          go_upto_region 5 with (first | ((with_reducible (show wpList _ _ _ (⟨some 9, .load 30 _, _, _, _, none⟩ :: _) _ _)); refine wpList_loadEl (enc := listEnc) (size := 4) rfl 30 _ rfl _ _ rfl [.slice (some ⟨ab, ao, none⟩) p.st.length c, .int .i64 p.num, .int .i64 p.den, .int .i64 p.margin] _ (range_of_obj (HBOX.out _ (by assumption))) rfl Tryd.underlying30 rfl Tryd.sizePolicy (.agg #[.slice (some ⟨ab, ao, none⟩) p.st.length c, .int .i64 p.num, .int .i64 p.den, .int .i64 p.margin]) rfl ?_) | (go_at_call 15; refine (valid_calls _ c p _ (HPOL.out _ hkr)).mono ?_; rintro e w1 ⟨rfl, hk1⟩; rw [HV.out]; have q0 : w1.cell? ⟨w.heap.size, 0, none⟩ = some (.slice (some ⟨ab, ao, none⟩) p.st.length c) := cell_of_row _ _ 0 _ _ _ (HBOX.out _ hk1); have HK1 := Lib.hid hk1))
          have q1 : w1.cell? ⟨ab, ao + k * 2 + 1, none⟩ = some (.int .i64 Y) := HK1.out.cell HC1.out id
          go_wp2_with (first | ((with_reducible (show wpList _ _ _ (⟨some 32, .load 30 _, _, _, _, none⟩ :: _) _ _)); refine wpList_loadEl (enc := listEnc) (size := 4) rfl 30 _ rfl _ _ rfl [.slice (some ⟨ab, ao, none⟩) p.st.length c, .int .i64 p.num, .int .i64 p.den, .int .i64 p.margin] _ (range_of_obj (HBOX.out _ (by assumption))) rfl Tryd.underlying30 rfl Tryd.sizePolicy (.agg #[.slice (some ⟨ab, ao, none⟩) p.st.length c, .int .i64 p.num, .int .i64 p.den, .int .i64 p.margin]) rfl ?_) | (go_at_call 36; refine (look_calls _ q c cq p l k X Y _ (HPOL.out _ hk1) (HQ.out.keep (HK.out.trans HK1.out) (fun _ _ => id)) HV.out HX.out hYl hcq hl).mono ?_; rintro e w9 ⟨rfl, hk9⟩; rw [HLV.out]))
          go_ret2
          exact ⟨by rw [HF.out]; rfl, HK.out.trans (HK1.out.trans hk9)⟩

end Go.Proofs.YtgelfefoiplekaaDoor
