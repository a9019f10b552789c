/-
  Chapter 23: the reference's fits.
-/
import Derived.Test.YtlhmajjmhkjcoaaNegative
namespace Go.Proofs.Ytlhmajjmhkjcoaa
open Go.RowKit

set_option maxRecDepth 100000 in
set_option maxHeartbeats 8000000 in
theorem refFits_calls (ok : Nat → Prop) (ps : Option Addr) (cs : Nat) (sh : List Int) (p q : Option Addr) (c d : Nat) (h : Hits) (w : World) (hs : SliceV intEnc 1 w ps sh) (hh : HitsAt ok w p q h) (hl : sh.length ≤ 1000000) :
    Calls Try.prog 41 #[.slice ps sh.length cs, hitsVal p c q d h] w (Gives None (.bool (fitsB sh h)) w) := by
  obtain ⟨rows, lk, u, o⟩ := h
  obtain ⟨hr, hlk, -, nb, nr, nl⟩ := hh
  simp only at hr hlk nb nr nl
  simp only [hitsVal]
  have HNL : Hid (decide (lensI rows = sh) = false → fitsB sh ⟨rows, lk, u, o⟩ = false) := Lib.hid (fun h => by simp only [fitsB, h, Bool.false_and])
  by_cases hne : sh.length = rows.length
  · have HNE := Lib.hid hne
    have hbe : ((rows.length : Int) != (sh.length : Int)) = false := by simp [hne]
    clear hne
    go_enter Try.func41, Try.ntmps41
    go_wp2_with (fail)
    clear hbe
    generalize hW : World.alloc w _ = W
    have hk0 : Keep None w W := by rw [← hW]; exact (Keep.refl _ _).alloc _
    have HB : Hid (W.heap[w.heap.size]? = some (.cells #[.slice p rows.length c, .slice q lk.length d, .int .i64 u, .int .i64 o] 40 (0, 0))) := Lib.hid (by rw [← hW]; exact heap_alloc_new _ _)
    have HROWS := Lib.hid (hr.keep hk0 (fun _ _ => id))
    have HLINKS := Lib.hid (hlk.keep hk0 (fun _ _ => id))
    have HSH := Lib.hid (hs.keep hk0 (fun _ _ => id))
    have HNR := Lib.hid nr
    have HK := Lib.hid hk0
    clear hW hk0 hr hlk hs nr
    go_loopw [5] (LensInv sh rows W) (fun i _ => sh.length - (intOf i).toNat)
    case atStart => exact ⟨0, rfl, by omega, by simp, Keep.refl _ _⟩
    case round =>
      obtain ⟨k, rfl, hk, htk, hkp⟩ := hrel
      have HKP := Lib.hid hkp
      have HTK := Lib.hid htk
      have c0 : wr.cell? ⟨w.heap.size, 0, none⟩ = some (.slice p rows.length c) := by simp [World.cell?, hkp.obj HB.out id]
      have c1 : wr.cell? ⟨w.heap.size, 1, none⟩ = some (.slice q lk.length d) := by simp [World.cell?, hkp.obj HB.out id]
      clear hkp htk
      by_cases hlt : k < sh.length
      · obtain ⟨n, hn⟩ : ∃ n, sh[k]? = some n := ⟨sh[k], by simp [hlt]⟩
        have hkr : k < rows.length := by have := HNE.out; omega
        obtain ⟨row, hrow⟩ : ∃ row, rows[k]? = some row := ⟨rows[k], by simp [hkr]⟩
        have hrl := HNR.out row (List.mem_of_getElem? hrow)
        obtain ⟨b, o', rfl, hc⟩ : ∃ b o, ps = some ⟨b, o, none⟩ ∧ wr.cell? ⟨b, o + k, none⟩ = some (.int .i64 n) := by
          rcases HSH.out.keep HKP.out (fun _ _ => id) with h | ⟨b, o, he, h⟩
          · subst h; simp at hlt
          · exact ⟨b, o, he, h.int hn⟩
        obtain ⟨bq, oq, rfl, qa, ca, g1, -⟩ := (HROWS.out.keep HKP.out (fun _ _ => id)).at hrow
        have HN := Lib.hid hn
        have HROW := Lib.hid hrow
        clear hn hrow
        have hki : (k : Int) < rows.length := by omega
        have hki2 : (k : Int) < sh.length := by omega
        by_cases he : (row.length : Int) = n
        · have hbe : ((row.length : Int) != n) = false := by simp [he]
          have HE := Lib.hid he
          clear he
          go_wp2_with (fail)
          go_quiet (fail)
          go_wp2_with (fail)
          go_roundw
          case rel => exact ⟨k + 1, by go_num, by omega, lens_step HTK.out HROW.out HN.out HE.out, HKP.out.drewN _⟩
          case measure => simp [intOf]; omega
        · have hbe : ((row.length : Int) != n) = true := by simp [he]
          have HFB := Lib.hid (HNL.out (decide_eq_false (lens_ne HROW.out HN.out he)))
          clear he
          go_wp2_with (fail)
          go_quiet (fail)
          go_wp2_with (fail)
          go_ret
          rw [HFB.out]
          exact ⟨rfl, HK.out.trans (HKP.out.drewN _)⟩
      · have hke : k = sh.length := by omega
        have heq : lensI rows = sh := by
          have h := HTK.out
          rw [hke, List.take_length, List.take_of_length_le (by rw [lensI_len]; have := HNE.out; omega)] at h
          exact h
        have HNO : Hid (lk.all (linkIn sh) = false → fitsB sh ⟨rows, lk, u, o⟩ = false) := Lib.hid (fun h => by simp only [fitsB, h, Bool.and_false])
        have HYES : Hid (lk.all (linkIn sh) = true → fitsB sh ⟨rows, lk, u, o⟩ = true) := Lib.hid (fun h => by simp only [fitsB, h, heq]; simp)
        subst hke
        clear heq hlt c0
        obtain ⟨wo, rfl⟩ : ∃ wo : World, wo = wr := ⟨_, rfl⟩
        go_wp2_with (fail)
        go_loopw [6] (LinksInv2 sh lk wo) (fun i _ => lk.length - (intOf i).toNat)
        case atStart => exact ⟨0, rfl, by omega, by simp, Keep.refl _ _⟩
        case round =>
          obtain ⟨k, rfl, hk, hal, hkp⟩ := hrel
          have HKI := Lib.hid hkp
          have HKO := Lib.hid (HKP.out.trans hkp)
          have HAL := Lib.hid hal
          have e1 := hkp.cell c1 id
          clear hkp hal c1
          clear HKP
          have HKP := HKO
          by_cases hlt : k < lk.length
          · obtain ⟨x, hx⟩ : ∃ x, lk[k]? = some x := ⟨lk[k], by simp [hlt]⟩
            have HX := Lib.hid hx
            obtain ⟨x0, x1, x2, x3⟩ := x
            obtain ⟨g, o', rfl, hsl⟩ : ∃ g o, q = some ⟨g, o, none⟩ ∧ wr.rangeAt g (o + k * 4) (Lk.enc ⟨x0, x1, x2, x3⟩) := by
              rcases HLINKS.out.keep HKP.out (fun _ _ => id) with h | ⟨g, o, he, h⟩
              · subst h; simp at hlt
              · exact ⟨g, o, he, h.range hx⟩
            have HSL := Lib.hid hsl
            have hki : (k : Int) < lk.length := by omega
            clear hx hsl
            by_cases h0 : x0 < 0
            · (have HIN := Lib.hid (linkIn_not (sh := sh) (x := ⟨x0, x1, x2, x3⟩) (by simp only ; omega)); have HFB := Lib.hid (HNO.out (all_stop HX.out HAL.out HIN.out)); go_wp2_with ((with_reducible (show wpList _ _ _ (⟨_, .load 72 _, _, _, _, none⟩ :: _) _ _)); refine wpList_loadEl rfl 72 _ rfl _ _ rfl _ _ HSL.out (Lk.enc_len _) Try.underlying72 rfl Try.sizeLk (.agg #[.int .i64 x0, .int .i64 x1, .int .i64 x2, .int .i64 x3]) rfl ?_); go_quiet (fail); go_wp2_with (fail); go_ret; rw [HFB.out]; exact ⟨rfl, HK.out.trans (HKP.out.trans (((Keep.refl _ _).alloc _).drewN _))⟩)
            have d0 : decide (x0 < 0) = false := by simpa using h0
            by_cases h1 : (sh.length : Int) ≤ x0
            · (have HIN := Lib.hid (linkIn_not (sh := sh) (x := ⟨x0, x1, x2, x3⟩) (by simp only ; omega)); have HFB := Lib.hid (HNO.out (all_stop HX.out HAL.out HIN.out)); go_wp2_with ((with_reducible (show wpList _ _ _ (⟨_, .load 72 _, _, _, _, none⟩ :: _) _ _)); refine wpList_loadEl rfl 72 _ rfl _ _ rfl _ _ HSL.out (Lk.enc_len _) Try.underlying72 rfl Try.sizeLk (.agg #[.int .i64 x0, .int .i64 x1, .int .i64 x2, .int .i64 x3]) rfl ?_); go_quiet (fail); go_wp2_with (fail); go_ret; rw [HFB.out]; exact ⟨rfl, HK.out.trans (HKP.out.trans (((Keep.refl _ _).alloc _).drewN _))⟩)
            have d1 : decide ((sh.length : Int) ≤ x0) = false := by simpa using h1
            by_cases h2 : x2 < 0
            · (have HIN := Lib.hid (linkIn_not (sh := sh) (x := ⟨x0, x1, x2, x3⟩) (by simp only ; omega)); have HFB := Lib.hid (HNO.out (all_stop HX.out HAL.out HIN.out)); go_wp2_with ((with_reducible (show wpList _ _ _ (⟨_, .load 72 _, _, _, _, none⟩ :: _) _ _)); refine wpList_loadEl rfl 72 _ rfl _ _ rfl _ _ HSL.out (Lk.enc_len _) Try.underlying72 rfl Try.sizeLk (.agg #[.int .i64 x0, .int .i64 x1, .int .i64 x2, .int .i64 x3]) rfl ?_); go_quiet (fail); go_wp2_with (fail); go_ret; rw [HFB.out]; exact ⟨rfl, HK.out.trans (HKP.out.trans (((Keep.refl _ _).alloc _).drewN _))⟩)
            have d2 : decide (x2 < 0) = false := by simpa using h2
            by_cases h3 : (sh.length : Int) ≤ x2
            · (have HIN := Lib.hid (linkIn_not (sh := sh) (x := ⟨x0, x1, x2, x3⟩) (by simp only ; omega)); have HFB := Lib.hid (HNO.out (all_stop HX.out HAL.out HIN.out)); go_wp2_with ((with_reducible (show wpList _ _ _ (⟨_, .load 72 _, _, _, _, none⟩ :: _) _ _)); refine wpList_loadEl rfl 72 _ rfl _ _ rfl _ _ HSL.out (Lk.enc_len _) Try.underlying72 rfl Try.sizeLk (.agg #[.int .i64 x0, .int .i64 x1, .int .i64 x2, .int .i64 x3]) rfl ?_); go_quiet (fail); go_wp2_with (fail); go_ret; rw [HFB.out]; exact ⟨rfl, HK.out.trans (HKP.out.trans (((Keep.refl _ _).alloc _).drewN _))⟩)
            have d3 : decide ((sh.length : Int) ≤ x2) = false := by simpa using h3
            by_cases h4 : x1 < 0
            · (have HIN := Lib.hid (linkIn_not (sh := sh) (x := ⟨x0, x1, x2, x3⟩) (by simp only ; omega)); have HFB := Lib.hid (HNO.out (all_stop HX.out HAL.out HIN.out)); go_wp2_with ((with_reducible (show wpList _ _ _ (⟨_, .load 72 _, _, _, _, none⟩ :: _) _ _)); refine wpList_loadEl rfl 72 _ rfl _ _ rfl _ _ HSL.out (Lk.enc_len _) Try.underlying72 rfl Try.sizeLk (.agg #[.int .i64 x0, .int .i64 x1, .int .i64 x2, .int .i64 x3]) rfl ?_); go_quiet (fail); go_wp2_with (fail); go_ret; rw [HFB.out]; exact ⟨rfl, HK.out.trans (HKP.out.trans (((Keep.refl _ _).alloc _).drewN _))⟩)
            have d4 : decide (x1 < 0) = false := by simpa using h4
            have hxF : ∃ F : Nat, (F : Int) = x0 := ⟨x0.toNat, by omega⟩
            obtain ⟨F, hF0⟩ := hxF
            have hF : F < sh.length := by omega
            subst hF0
            have hFi : (F : Int) < sh.length := by omega
            have d1' : decide (sh.length ≤ F) = false := by simpa using hF
            obtain ⟨y, hy⟩ : ∃ y, sh[F]? = some y := ⟨sh[F], List.getElem?_eq_getElem hF⟩
            obtain ⟨bs, os, rfl, hc⟩ : ∃ b o, ps = some ⟨b, o, none⟩ ∧ ∀ W', Keep None wr W' → W'.cell? ⟨b, o + F, none⟩ = some (.int .i64 y) := by
              rcases HSH.out.keep HKP.out (fun _ _ => id) with h | ⟨b, o, he, h⟩
              · subst h; simp at hF
              · exact ⟨b, o, he, fun W' hk => hk.cell (h.int hy) id⟩
            have hc2 := hc _ ((Keep.refl None wr).alloc (.cells #[.int .i64 (F : Int), .int .i64 x1, .int .i64 x2, .int .i64 x3] 72))
            have HYY := Lib.hid (show ((sh[(F : Int).toNat]?).getD 0) = y by simp [hy])
            clear hy hc
            by_cases h5 : y ≤ x1
            · have HIN := Lib.hid (linkIn_not (sh := sh) (x := ⟨(F : Int), x1, x2, x3⟩) (by simp only [HYY.out]; omega))
              have HFB := Lib.hid (HNO.out (all_stop HX.out HAL.out HIN.out))
              go_wp2_with ((with_reducible (show wpList _ _ _ (⟨_, .load 72 _, _, _, _, none⟩ :: _) _ _)); refine wpList_loadEl rfl 72 _ rfl _ _ rfl _ _ HSL.out (Lk.enc_len _) Try.underlying72 rfl Try.sizeLk (.agg #[.int .i64 (F : Int), .int .i64 x1, .int .i64 x2, .int .i64 x3]) rfl ?_)
              go_quiet (fail)
              go_wp2_with (fail)
              go_ret
              rw [HFB.out]
              exact ⟨rfl, HK.out.trans (HKP.out.trans (((Keep.refl _ _).alloc _).drewN _))⟩
            have d5 : decide (y ≤ x1) = false := by simpa using h5
            have HIN := Lib.hid (linkIn_iff.2 (show 0 ≤ (⟨F, x1, x2, x3⟩ : Lk).func ∧ (⟨F, x1, x2, x3⟩ : Lk).func < sh.length ∧ 0 ≤ (⟨F, x1, x2, x3⟩ : Lk).block ∧ (⟨F, x1, x2, x3⟩ : Lk).block < (sh[(⟨F, x1, x2, x3⟩ : Lk).func.toNat]?).getD 0 ∧ 0 ≤ (⟨F, x1, x2, x3⟩ : Lk).callee ∧ (⟨F, x1, x2, x3⟩ : Lk).callee < sh.length from by simp only [HYY.out]; omega))
            go_wp2_with ((with_reducible (show wpList _ _ _ (⟨_, .load 72 _, _, _, _, none⟩ :: _) _ _)); refine wpList_loadEl rfl 72 _ rfl _ _ rfl _ _ HSL.out (Lk.enc_len _) Try.underlying72 rfl Try.sizeLk (.agg #[.int .i64 (F : Int), .int .i64 x1, .int .i64 x2, .int .i64 x3]) rfl ?_)
            go_quiet (fail)
            generalize hwd : World.drewN _ _ = wd
            have HKD : Hid (Keep None wr wd) := Lib.hid (by rw [← hwd]; exact ((Keep.refl _ _).alloc _).drewN _)
            clear hwd hc2
            go_wp2_with (fail)
            go_roundw
            case rel => exact ⟨k + 1, by go_num, by omega, all_step HX.out HAL.out HIN.out, HKI.out.trans HKD.out⟩
            case measure => simp [intOf]; omega
          · have hke : k = lk.length := by omega
            subst hke
            have HFB := Lib.hid (HYES.out (all_end HAL.out))
            go_wp2_with (fail)
            go_ret
            rw [HFB.out]
            exact ⟨rfl, HK.out.trans HKP.out⟩
  · have hbe : ((rows.length : Int) != (sh.length : Int)) = true := by simp; omega
    have HFB := Lib.hid (HNL.out (decide_eq_false (fun h => hne (by rw [← h, lensI_len]))))
    clear hne
    go_enter Try.func41, Try.ntmps41
    go_wp2_with (fail)
    go_ret
    rw [HFB.out]
    exact ⟨rfl, (Keep.refl _ _).alloc _⟩

end Go.Proofs.Ytlhmajjmhkjcoaa
