/-
  Chapter 44: which policies are valid: the reference.
-/
import Derived.Test.YtgelfefoiplekaaDoorPolValid
import Derived.BigQuiet
import Derived.Deep.QuietTactic
import Derived.IntWalk
namespace Go.Proofs.YtgelfefoiplekaaDoor
open Go.RowKit PN

def VrInv (st : List (Int × Int)) (w0 : World) (i : Value) (w : World) : Prop :=
  ∃ (k : Nat) (l : Int × Int), i = .int .i64 k ∧ k ≤ st.length ∧ (k = 0 ∧ l = (0, 0) ∨ ∃ j, k = j + 1 ∧ st[j]? = some l) ∧ asc (0, 0) st = asc l (st.drop k) ∧ 0 ≤ l.1 ∧ 0 ≤ l.2 ∧ Keep None w0 w

set_option maxRecDepth 100000 in
set_option maxHeartbeats 4000000 in
theorem refValid_calls (a : Option Addr) (c : Nat) (p : Pol) (w : World) (h : PolAt w a p) :
    Calls Tryd.prog 34 #[polVal a c p] w (Gives None (.bool (validB p)) w) := by
  have ln := h.ln
  have HP := Lib.hid h
  unfold polVal
  clear h
  have HBX : Hid (∃ W : World, Keep None w W ∧ W = w.alloc (.cells #[.slice a p.st.length c, .int .i64 p.num, .int .i64 p.den, .int .i64 p.margin] 30) ∧ W.heap[w.heap.size]? = some (.cells #[.slice a p.st.length c, .int .i64 p.num, .int .i64 p.den, .int .i64 p.margin] 30 (0, 0))) :=
    Lib.hid ⟨_, (Keep.refl None w).alloc _, rfl, heap_alloc_new _ _⟩
  obtain ⟨W, hKW, hWe, ho1⟩ := HBX.out
  have HK := Lib.hid hKW
  have HWE := Lib.hid hWe.symm
  have O1 := Lib.hid ho1
  have hwW := heap_lt ho1
  clear HBX hKW hWe ho1
  have b1 : Hid (∀ W' : World, Keep None W W' → W'.cell? ⟨w.heap.size, 0, none⟩ = some (.slice a p.st.length c) ∧ W'.cell? ⟨w.heap.size, 1, none⟩ = some (.int .i64 p.num) ∧ W'.cell? ⟨w.heap.size, 2, none⟩ = some (.int .i64 p.den) ∧ W'.cell? ⟨w.heap.size, 3, none⟩ = some (.int .i64 p.margin)) := Lib.hid (fun W' hk => by
    have h2 := hk.obj O1.out id
    simp [World.cell?, h2])
  cases d1 : decide ((p.st.length : Int) < 1) with
  | true =>
    have HV := Lib.hid (valid_head (p := p) (.inl (by have := of_decide_eq_true d1; omega)))
    go_enter Tryd.func34, Tryd.ntmps34
    go_wp2
    (rw [HWE.out]; go_ret; exact ⟨by rw [HV.out]; rfl, HK.out⟩)
  | false =>
  cases d2 : decide ((8 : Int) < p.st.length) with
  | true =>
    have HV := Lib.hid (valid_head (p := p) (.inr (.inl (by have := of_decide_eq_true d2; omega))))
    go_enter Tryd.func34, Tryd.ntmps34
    go_wp2
    (rw [HWE.out]; go_ret; exact ⟨by rw [HV.out]; rfl, HK.out⟩)
  | false =>
  cases d3 : decide (p.margin < 0) with
  | true =>
    have HV := Lib.hid (valid_head (p := p) (.inr (.inr (.inl (of_decide_eq_true d3)))))
    go_enter Tryd.func34, Tryd.ntmps34
    go_wp2
    (rw [HWE.out]; go_ret; exact ⟨by rw [HV.out]; rfl, HK.out⟩)
  | false =>
  cases d4 : decide (1000 < p.margin) with
  | true =>
    have HV := Lib.hid (valid_head (p := p) (.inr (.inr (.inr (of_decide_eq_true d4)))))
    go_enter Tryd.func34, Tryd.ntmps34
    go_wp2
    (rw [HWE.out]; go_ret; exact ⟨by rw [HV.out]; rfl, HK.out⟩)
  | false =>
    have hn1 : 1 ≤ p.st.length := by have := of_decide_eq_false d1; omega
    have hn8 : p.st.length ≤ 8 := by have := of_decide_eq_false d2; omega
    have hm0 : 0 ≤ p.margin := by have := of_decide_eq_false d3; omega
    have hm1 : p.margin ≤ 1000 := by have := of_decide_eq_false d4; omega
    have HLV : Hid (W.rangeAt w.heap.size 1 (listEnc [.int .i64 p.num, .int .i64 p.den])) := Lib.hid (fun j u hu => by
      have h2 := O1.out
      have hj : j < 2 := (List.getElem?_eq_some_iff.1 hu).1
      match j, hj, hu with
      | 0, _, hu => simp [listEnc] at hu; subst hu; exact cell_of_row _ _ 1 _ _ _ h2
      | 1, _, hu => simp [listEnc] at hu; subst hu; exact cell_of_row _ _ 2 _ _ _ h2)
    cases hs : shareB p.num p.den p.st.length with
    | false =>
      have HV := Lib.hid (valid_share hs)
      have HSV : Hid (shareV p.num p.den p.st.length = _) := Lib.hid (by unfold shareV; rw [if_neg (by rw [hs]; simp)])
      clear hs
      go_enter Tryd.func34, Tryd.ntmps34
      go_wp2_with (first | ((with_reducible (show wpList _ _ _ (⟨some 29, .load 28 _, _, _, _, none⟩ :: _) _ _)); (try rw [HWE.out]); refine wpList_loadEl (enc := listEnc) (size := 2) rfl 28 _ rfl _ _ rfl [.int .i64 p.num, .int .i64 p.den] _ (HLV.out) rfl Tryd.underlying28 rfl Tryd.sizeLevel (.agg #[.int .i64 p.num, .int .i64 p.den]) rfl ?_) | (go_at_call 37; refine (share_warmpathref43 p.num p.den p.st.length W ln).mono ?_; rintro e w5 ⟨rfl, hk5⟩; rw [HSV.out]; have HK5 := Lib.hid hk5; clear hk5))
      go_ret
      exact ⟨by rw [HV.out]; rfl, (HK.out.trans HK5.out).alloc _⟩
    | true =>
      have HSV : Hid (shareV p.num p.den p.st.length = _) := Lib.hid (by unfold shareV; rw [if_pos hs])
      have HSH := Lib.hid hs
      clear hs
      go_enter Tryd.func34, Tryd.ntmps34
      go_wp2_with (first | ((with_reducible (show wpList _ _ _ (⟨some 29, .load 28 _, _, _, _, none⟩ :: _) _ _)); (try rw [HWE.out]); refine wpList_loadEl (enc := listEnc) (size := 2) rfl 28 _ rfl _ _ rfl [.int .i64 p.num, .int .i64 p.den] _ (HLV.out) rfl Tryd.underlying28 rfl Tryd.sizeLevel (.agg #[.int .i64 p.num, .int .i64 p.den]) rfl ?_) | (go_at_call 37; refine (share_warmpathref43 p.num p.den p.st.length W ln).mono ?_; rintro e w5 ⟨rfl, hk5⟩; rw [HSV.out]; have HK5 := Lib.hid hk5; clear hk5))
      generalize hw6 : World.alloc _ _ = w6
      have hk6 : Keep None w5 w6 := by rw [← hw6]; exact (Keep.refl _ _).alloc _
      have HK6 := Lib.hid (HK5.out.trans hk6)
      clear hw6 hk6
      go_loopw [6] (VrInv p.st w6) (fun i _ => p.st.length - (intOf i).toNat)
      case atStart => exact ⟨0, (0, 0), rfl, by omega, .inl ⟨rfl, rfl⟩, by simp, by simp, by simp, Keep.refl _ _⟩
      case round =>
        obtain ⟨k, l, rfl, hk, hpr, has, hl1, hl2, hkp⟩ := hrel
        have HAS := Lib.hid has
        have HKP := Lib.hid hkp
        have HKK : Hid (Keep None W wr) := Lib.hid (HK6.out.trans hkp)
        obtain ⟨q0, -, -, -⟩ := b1.out _ HKK.out
        have hws : w.heap.size < wr.heap.size := by have := HKK.out.size; omega
        clear has hkp
        by_cases hlt : k < p.st.length
        · obtain ⟨⟨x, y⟩, hx⟩ : ∃ s, p.st[k]? = some s := ⟨p.st[k], by simp [hlt]⟩
          have hlti : (k : Int) < p.st.length := by omega
          obtain ⟨b, off, rfl, hsl⟩ : ∃ b off, a = some ⟨b, off, none⟩ ∧ SlAt stEnc 2 wr b off p.st := by
            rcases ((HP.out.still HK.out).still HKK.out).st with h | h
            · rw [h] at hlt; simp at hlt
            · exact h
          have HRG := Lib.hid (hsl.range hx)
          have HX := Lib.hid hx
          have HDR := Lib.hid (drop_at hx)
          have q1 : (wr.alloc (.cells #[.int .i64 x, .int .i64 y] 45)).cell? ⟨w.heap.size, 0, none⟩ = some (.slice (some ⟨b, off, none⟩) p.st.length c) := ((Keep.refl None wr).alloc _).cell q0 id
          clear hx
          rcases hpr with ⟨rfl, rfl⟩ | ⟨j, rfl, hj⟩
          · clear hsl
            cases e1 : decide (x < 1) with
            | true => (have HV := Lib.hid (valid_asc (p := p) (by rw [HAS.out, HDR.out]; exact asc_no (by simp only; have := of_decide_eq_true e1; omega))); go_wp2_with ((with_reducible (show wpList _ _ _ (⟨some 45, .load 45 _, _, _, _, none⟩ :: _) _ _)); refine wpList_loadEl (enc := stEnc) (size := 2) rfl 45 _ rfl _ _ rfl (x, y) _ HRG.out rfl Tryd.underlying45 rfl Tryd.sizeStage (.agg #[.int .i64 x, .int .i64 y]) rfl ?_); go_quiet (fail); go_wp2; go_ret; exact ⟨by rw [HV.out]; rfl, (HK.out.trans ((HKK.out.alloc _).drewN _))⟩)
            | false =>
            cases e2 : decide (100 < x) with
            | true => (have HV := Lib.hid (valid_asc (p := p) (by rw [HAS.out, HDR.out]; exact asc_no (by simp only; have := of_decide_eq_true e2; omega))); go_wp2_with ((with_reducible (show wpList _ _ _ (⟨some 45, .load 45 _, _, _, _, none⟩ :: _) _ _)); refine wpList_loadEl (enc := stEnc) (size := 2) rfl 45 _ rfl _ _ rfl (x, y) _ HRG.out rfl Tryd.underlying45 rfl Tryd.sizeStage (.agg #[.int .i64 x, .int .i64 y]) rfl ?_); go_quiet (fail); go_wp2; go_ret; exact ⟨by rw [HV.out]; rfl, (HK.out.trans ((HKK.out.alloc _).drewN _))⟩)
            | false =>
            cases e3 : decide (y < 1) with
            | true => (have HV := Lib.hid (valid_asc (p := p) (by rw [HAS.out, HDR.out]; exact asc_no (by simp only; have := of_decide_eq_true e3; omega))); go_wp2_with ((with_reducible (show wpList _ _ _ (⟨some 45, .load 45 _, _, _, _, none⟩ :: _) _ _)); refine wpList_loadEl (enc := stEnc) (size := 2) rfl 45 _ rfl _ _ rfl (x, y) _ HRG.out rfl Tryd.underlying45 rfl Tryd.sizeStage (.agg #[.int .i64 x, .int .i64 y]) rfl ?_); go_quiet (fail); go_wp2; go_ret; exact ⟨by rw [HV.out]; rfl, (HK.out.trans ((HKK.out.alloc _).drewN _))⟩)
            | false =>
            cases e4 : decide (60 < y) with
            | true => (have HV := Lib.hid (valid_asc (p := p) (by rw [HAS.out, HDR.out]; exact asc_no (by simp only; have := of_decide_eq_true e4; omega))); go_wp2_with ((with_reducible (show wpList _ _ _ (⟨some 45, .load 45 _, _, _, _, none⟩ :: _) _ _)); refine wpList_loadEl (enc := stEnc) (size := 2) rfl 45 _ rfl _ _ rfl (x, y) _ HRG.out rfl Tryd.underlying45 rfl Tryd.sizeStage (.agg #[.int .i64 x, .int .i64 y]) rfl ?_); go_quiet (fail); go_wp2; go_ret; exact ⟨by rw [HV.out]; rfl, (HK.out.trans ((HKK.out.alloc _).drewN _))⟩)
            | false =>
              have g1 := of_decide_eq_false e1
              have g2 := of_decide_eq_false e2
              have g3 := of_decide_eq_false e3
              have g4 := of_decide_eq_false e4
              have HST := Lib.hid (asc_step (l := (0, 0)) (m := (x, y)) (r := p.st.drop (0 + 1)) (by simp only; omega) (by simp only; omega) (by simp only; omega) (by simp only; omega))
              go_wp2_with ((with_reducible (show wpList _ _ _ (⟨some 45, .load 45 _, _, _, _, none⟩ :: _) _ _)); refine wpList_loadEl (enc := stEnc) (size := 2) rfl 45 _ rfl _ _ rfl (x, y) _ HRG.out rfl Tryd.underlying45 rfl Tryd.sizeStage (.agg #[.int .i64 x, .int .i64 y]) rfl ?_)
              go_quiet (fail)
              go_wp2
              go_roundw
              case rel => exact ⟨0 + 1, (x, y), by go_num, by omega, .inr ⟨0, rfl, HX.out⟩, by rw [HAS.out, HDR.out, HST.out], by simp only; omega, by simp only; omega, (HKP.out.alloc _).drewN _⟩
              case measure => simp [intOf]; omega
          · obtain ⟨l1, l2⟩ := l
            simp only at hl1 hl2
            have p0 : (wr.alloc (.cells #[.int .i64 x, .int .i64 y] 45)).cell? ⟨b, off + j * 2, none⟩ = some (.int .i64 l1) := ((Keep.refl None wr).alloc _).cell (hsl j _ hj 0 _ rfl) id
            have p1 : (wr.alloc (.cells #[.int .i64 x, .int .i64 y] 45)).cell? ⟨b, off + j * 2 + 1, none⟩ = some (.int .i64 l2) := ((Keep.refl None wr).alloc _).cell (hsl j _ hj 1 _ rfl) id
            have hjw : IntKind.i64.wrap (j : Int) = j := IntWalk.i64_in _ (by omega)
            have hjl : (j : Int) < p.st.length := by omega
            have hlti' : (j : Int) + 1 < p.st.length := by omega
            clear hsl hj
            cases e1 : decide (x < 1) with
            | true => (have HV := Lib.hid (valid_asc (p := p) (by rw [HAS.out, HDR.out]; exact asc_no (by simp only; have := of_decide_eq_true e1; omega))); go_wp2_with ((with_reducible (show wpList _ _ _ (⟨some 45, .load 45 _, _, _, _, none⟩ :: _) _ _)); refine wpList_loadEl (enc := stEnc) (size := 2) rfl 45 _ rfl _ _ rfl (x, y) _ HRG.out rfl Tryd.underlying45 rfl Tryd.sizeStage (.agg #[.int .i64 x, .int .i64 y]) rfl ?_); go_quiet (fail); go_wp2; go_ret; exact ⟨by rw [HV.out]; rfl, (HK.out.trans ((HKK.out.alloc _).drewN _))⟩)
            | false =>
            cases e2 : decide (100 < x) with
            | true => (have HV := Lib.hid (valid_asc (p := p) (by rw [HAS.out, HDR.out]; exact asc_no (by simp only; have := of_decide_eq_true e2; omega))); go_wp2_with ((with_reducible (show wpList _ _ _ (⟨some 45, .load 45 _, _, _, _, none⟩ :: _) _ _)); refine wpList_loadEl (enc := stEnc) (size := 2) rfl 45 _ rfl _ _ rfl (x, y) _ HRG.out rfl Tryd.underlying45 rfl Tryd.sizeStage (.agg #[.int .i64 x, .int .i64 y]) rfl ?_); go_quiet (fail); go_wp2; go_ret; exact ⟨by rw [HV.out]; rfl, (HK.out.trans ((HKK.out.alloc _).drewN _))⟩)
            | false =>
            cases e3 : decide (y < 1) with
            | true => (have HV := Lib.hid (valid_asc (p := p) (by rw [HAS.out, HDR.out]; exact asc_no (by simp only; have := of_decide_eq_true e3; omega))); go_wp2_with ((with_reducible (show wpList _ _ _ (⟨some 45, .load 45 _, _, _, _, none⟩ :: _) _ _)); refine wpList_loadEl (enc := stEnc) (size := 2) rfl 45 _ rfl _ _ rfl (x, y) _ HRG.out rfl Tryd.underlying45 rfl Tryd.sizeStage (.agg #[.int .i64 x, .int .i64 y]) rfl ?_); go_quiet (fail); go_wp2; go_ret; exact ⟨by rw [HV.out]; rfl, (HK.out.trans ((HKK.out.alloc _).drewN _))⟩)
            | false =>
            cases e4 : decide (60 < y) with
            | true => (have HV := Lib.hid (valid_asc (p := p) (by rw [HAS.out, HDR.out]; exact asc_no (by simp only; have := of_decide_eq_true e4; omega))); go_wp2_with ((with_reducible (show wpList _ _ _ (⟨some 45, .load 45 _, _, _, _, none⟩ :: _) _ _)); refine wpList_loadEl (enc := stEnc) (size := 2) rfl 45 _ rfl _ _ rfl (x, y) _ HRG.out rfl Tryd.underlying45 rfl Tryd.sizeStage (.agg #[.int .i64 x, .int .i64 y]) rfl ?_); go_quiet (fail); go_wp2; go_ret; exact ⟨by rw [HV.out]; rfl, (HK.out.trans ((HKK.out.alloc _).drewN _))⟩)
            | false =>
            cases e5 : decide (x ≤ l1) with
            | true => (have HV := Lib.hid (valid_asc (p := p) (by rw [HAS.out, HDR.out]; exact asc_no (by simp only; have := of_decide_eq_true e5; omega))); go_wp2_with ((with_reducible (show wpList _ _ _ (⟨some 45, .load 45 _, _, _, _, none⟩ :: _) _ _)); refine wpList_loadEl (enc := stEnc) (size := 2) rfl 45 _ rfl _ _ rfl (x, y) _ HRG.out rfl Tryd.underlying45 rfl Tryd.sizeStage (.agg #[.int .i64 x, .int .i64 y]) rfl ?_); go_quiet (fail); go_wp2; go_ret; exact ⟨by rw [HV.out]; rfl, (HK.out.trans ((HKK.out.alloc _).drewN _))⟩)
            | false =>
            cases e6 : decide (y ≤ l2) with
            | true => (have HV := Lib.hid (valid_asc (p := p) (by rw [HAS.out, HDR.out]; exact asc_no (by simp only; have := of_decide_eq_true e6; omega))); go_wp2_with ((with_reducible (show wpList _ _ _ (⟨some 45, .load 45 _, _, _, _, none⟩ :: _) _ _)); refine wpList_loadEl (enc := stEnc) (size := 2) rfl 45 _ rfl _ _ rfl (x, y) _ HRG.out rfl Tryd.underlying45 rfl Tryd.sizeStage (.agg #[.int .i64 x, .int .i64 y]) rfl ?_); go_quiet (fail); go_wp2; go_ret; exact ⟨by rw [HV.out]; rfl, (HK.out.trans ((HKK.out.alloc _).drewN _))⟩)
            | false =>
              have g1 := of_decide_eq_false e1
              have g2 := of_decide_eq_false e2
              have g3 := of_decide_eq_false e3
              have g4 := of_decide_eq_false e4
              have g5 := of_decide_eq_false e5
              have g6 := of_decide_eq_false e6
              have HST := Lib.hid (asc_step (l := (l1, l2)) (m := (x, y)) (r := p.st.drop (j + 1 + 1)) (by simp only; omega) (by simp only; omega) (by simp only; omega) (by simp only; omega))
              go_wp2_with ((with_reducible (show wpList _ _ _ (⟨some 45, .load 45 _, _, _, _, none⟩ :: _) _ _)); refine wpList_loadEl (enc := stEnc) (size := 2) rfl 45 _ rfl _ _ rfl (x, y) _ HRG.out rfl Tryd.underlying45 rfl Tryd.sizeStage (.agg #[.int .i64 x, .int .i64 y]) rfl ?_)
              go_quiet (fail)
              go_wp2
              go_roundw
              case rel => exact ⟨j + 1 + 1, (x, y), by go_num, by omega, .inr ⟨j + 1, rfl, HX.out⟩, by rw [HAS.out, HDR.out, HST.out], by simp only; omega, by simp only; omega, (HKP.out.alloc _).drewN _⟩
              case measure => simp [intOf]; omega
        · have hke : k = p.st.length := by omega
          subst hke
          have hasc : asc (0, 0) p.st = true := by rw [HAS.out, List.drop_length]; rfl
          have HV := Lib.hid (valid_yes hn1 hn8 hm0 hm1 hasc HSH.out)
          clear hasc
          go_wp2
          go_ret
          exact ⟨by rw [HV.out]; rfl, HK.out.trans HKK.out⟩

end Go.Proofs.YtgelfefoiplekaaDoor
