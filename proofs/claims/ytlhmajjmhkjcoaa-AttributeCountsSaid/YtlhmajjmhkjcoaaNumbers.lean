/-
  Chapter 23: all numbers of hits.
-/
import Derived.Test.YtlhmajjmhkjcoaaHits
namespace Go.Proofs.Ytlhmajjmhkjcoaa
open Go.RowKit

set_option maxRecDepth 100000 in
set_option maxHeartbeats 4000000 in
theorem numbers_calls (P : Int → Bool) (fid : FuncId) (hfid : fid = 29 ∨ fid = 38) (hf : ∀ n w, Calls Try.prog fid #[.int .i64 n] w (fun e w' => e = .returned (.bool (P n)) ∧ w' = w)) (ok : Nat → Prop) (p q : Option Addr) (c d : Nat) (h : Hits) (w : World) (hh : HitsAt ok w p q h) :
    Calls Try.prog 28 #[hitsVal p c q d h, .func (.func fid) #[] #[]] w (Gives None (.bool (allB P h)) w) := by
  rcases hfid with rfl | rfl
  all_goals (
    obtain ⟨rows, links, u, l⟩ := h
    obtain ⟨hr, hl, _, nb, nr, nl⟩ := hh
    simp only [hitsVal] at *
    have hfr : rows.all (·.all P) = false → allB P ⟨rows, links, u, l⟩ = false := by intro h; simp only [allB, h]; rfl
    have hfk : links.all (fun y => P y.count) = false → allB P ⟨rows, links, u, l⟩ = false := by intro h; simp only [allB, h]; simp
    have HT : Hid (rows.all (·.all P) = true → links.all (fun y => P y.count) = true → allB P ⟨rows, links, u, l⟩ = (P u && P l)) := Lib.hid (fun h1 h2 => by simp only [allB, h1, h2]; cases P u <;> rfl)
    have HFR := Lib.hid hfr
    have HFK := Lib.hid hfk
    have HF := Lib.hid hf
    clear hfr hfk hf
    go_enter Try.func28, Try.ntmps28
    go_wp2_with (fail)
    generalize hW : World.alloc w _ = W
    have hk0 : Keep None w W := by rw [← hW]; exact (Keep.refl _ _).alloc _
    have HB : Hid (W.heap[w.heap.size]? = some (.cells #[.slice p rows.length c, .slice q links.length d, .int .i64 u, .int .i64 l] 40 (0, 0))) := Lib.hid (by rw [← hW]; exact heap_alloc_new _ _)
    have HROWS := Lib.hid (hr.keep hk0 (fun _ _ => id))
    have HLINKS := Lib.hid (hl.keep hk0 (fun _ _ => id))
    have HK := Lib.hid hk0
    clear hW hk0 hr hl
    go_loopw [14] (RowAll P rows W) (fun i _ => rows.length - (intOf i).toNat)
    case atStart => exact ⟨0, rfl, by omega, by simp, Keep.refl _ _⟩
    case round =>
      obtain ⟨k, rfl, hk, hdr, hkp⟩ := hrel
      obtain ⟨wo, rfl⟩ : ∃ wo : World, wo = wr := ⟨_, rfl⟩
      have HDR := Lib.hid hdr
      have HKP := Lib.hid hkp
      clear hdr hkp
      by_cases hlt : k < rows.length
      · obtain ⟨row, hrow⟩ : ∃ row, rows[k]? = some row := ⟨rows[k], by simp [hlt]⟩
        obtain ⟨b, off, rfl, q2, cap, hc, hsl⟩ : ∃ b off, p = some ⟨b, off, none⟩ ∧ ∃ q2 cap, wo.cell? ⟨b, off + k, none⟩ = some (.slice q2 row.length cap) ∧ SliceV intEnc 1 wo q2 row := by
          rcases HROWS.out.keep HKP.out (fun _ _ => id) with h | ⟨b, off, h, _, h2⟩
          · subst h; simp at hlt
          · obtain ⟨q2, cap, c1, c2, _⟩ := h2 k row hrow
            exact ⟨b, off, h, q2, cap, c1, c2⟩
        have hrl := nr row (List.mem_of_getElem? hrow)
        have HROW := Lib.hid hrow
        have HSL := Lib.hid hsl
        clear hrow hsl
        go_wp2_with (fail)
        go_loopw [20] (CellAll P row wo) (fun i _ => row.length - (intOf i).toNat)
        case atStart => exact ⟨0, rfl, by omega, by simp, Keep.refl _ _⟩
        case round =>
          obtain ⟨j, rfl, hj, hdj, hkj⟩ := hrel
          have HDJ := Lib.hid hdj
          have HKJ := Lib.hid hkj
          have HSL2 := Lib.hid (HSL.out.keep hkj (fun _ _ => id))
          clear hdj hkj hc
          by_cases hjl : j < row.length
          · obtain ⟨x, hx⟩ : ∃ x, row[j]? = some x := ⟨row[j], by simp [hjl]⟩
            obtain ⟨b2, o2, rfl, e2⟩ : ∃ b2 o2, q2 = some ⟨b2, o2, none⟩ ∧ wr.cell? ⟨b2, o2 + j, none⟩ = some (.int .i64 x) := by
              rcases HSL2.out with h | ⟨b2, o2, h, h2⟩
              · subst h; simp at hjl
              · exact ⟨b2, o2, h, h2.int hx⟩
            cases hs : P x with
            | true =>
              have HN := Lib.hid (all_step hx HDJ.out hs)
              have HS := Lib.hid hs
              clear hs hx
              go_wp2_with (((first | go_at_call 29 | go_at_call 38); refine (HF.out _ _).mono ?_; rintro e w' ⟨rfl, rfl⟩; rw [HS.out]))
              go_roundw
              case rel => exact ⟨j + 1, by go_num, by omega, HN.out, HKJ.out⟩
              case measure => simp [intOf]; omega
            | false =>
              have HR := Lib.hid (HFR.out (all_stop HROW.out HDR.out (all_stop hx HDJ.out hs)))
              have HS := Lib.hid hs
              clear hs hx
              go_wp2_with (((first | go_at_call 29 | go_at_call 38); refine (HF.out _ _).mono ?_; rintro e w' ⟨rfl, rfl⟩; rw [HS.out]))
              go_ret
              rw [HR.out]
              exact ⟨rfl, HK.out.trans (HKP.out.trans HKJ.out)⟩
          · have hje : j = row.length := by omega
            subst hje
            have HN := Lib.hid (all_step HROW.out HDR.out (all_end HDJ.out))
            go_wp2
            go_roundw
            case rel => exact ⟨k + 1, by go_num, by omega, HN.out, HKP.out.trans HKJ.out⟩
            case measure => simp [intOf]; omega
      · have hke : k = rows.length := by omega
        subst hke
        have HT2 := Lib.hid (HT.out (all_end HDR.out))
        have c1 : wo.cell? ⟨w.heap.size, 1, none⟩ = some (.slice q links.length d) := by simp [World.cell?, HKP.out.obj HB.out id]
        have c2 : wo.cell? ⟨w.heap.size, 2, none⟩ = some (.int .i64 u) := by simp [World.cell?, HKP.out.obj HB.out id]
        have c3 : wo.cell? ⟨w.heap.size, 3, none⟩ = some (.int .i64 l) := by simp [World.cell?, HKP.out.obj HB.out id]
        have HL2 := Lib.hid (HLINKS.out.keep HKP.out (fun _ _ => id))
        clear HT
        go_wp2_with (fail)
        go_loopw [33] (LinkAll P links wo) (fun i _ => links.length - (intOf i).toNat)
        case atStart => exact ⟨0, rfl, by omega, by simp, Keep.refl _ _⟩
        case round =>
          obtain ⟨j, rfl, hj, hdj, hkj⟩ := hrel
          have HDJ := Lib.hid hdj
          have HKJ := Lib.hid hkj
          have e2 := hkj.cell c2 id
          have e3 := hkj.cell c3 id
          have HSL2 := Lib.hid (HL2.out.keep hkj (fun _ _ => id))
          clear hdj hkj c1 c2 c3
          by_cases hjl : j < links.length
          · obtain ⟨x, hx⟩ : ∃ x, links[j]? = some x := ⟨links[j], by simp [hjl]⟩
            obtain ⟨x0, x1, x2, x3⟩ := x
            obtain ⟨b2, o2, rfl, h2⟩ : ∃ b2 o2, q = some ⟨b2, o2, none⟩ ∧ wr.rangeAt b2 (o2 + j * 4) (Lk.enc ⟨x0, x1, x2, x3⟩) := by
              rcases HSL2.out with h | ⟨b2, o2, h, h2⟩
              · subst h; simp at hjl
              · exact ⟨b2, o2, h, h2.range hx⟩
            have H2 := Lib.hid h2
            cases hs : P x3 with
            | true =>
              have HN := Lib.hid (all_step (P := fun y : Lk => P y.count) hx HDJ.out hs)
              have HS := Lib.hid hs
              clear hs hx h2
              go_wp2_with (first
                | ((with_reducible (show wpList _ _ _ (⟨_, .load 72 _, _, _, _, none⟩ :: _) _ _)); refine wpList_loadEl rfl 72 _ rfl _ _ rfl _ _ H2.out (Lk.enc_len _) Try.underlying72 rfl Try.sizeLk (.agg #[.int .i64 x0, .int .i64 x1, .int .i64 x2, .int .i64 x3]) rfl ?_)
                | ((first | go_at_call 29 | go_at_call 38); refine (HF.out _ _).mono ?_; rintro e w' ⟨rfl, rfl⟩; rw [HS.out]))
              go_roundw
              case rel => exact ⟨j + 1, by go_num, by omega, HN.out, HKJ.out.alloc _⟩
              case measure => simp [intOf]; omega
            | false =>
              have HR := Lib.hid (HFK.out (all_stop (P := fun y : Lk => P y.count) hx HDJ.out hs))
              have HS := Lib.hid hs
              clear hs hx h2
              go_wp2_with (first
                | ((with_reducible (show wpList _ _ _ (⟨_, .load 72 _, _, _, _, none⟩ :: _) _ _)); refine wpList_loadEl rfl 72 _ rfl _ _ rfl _ _ H2.out (Lk.enc_len _) Try.underlying72 rfl Try.sizeLk (.agg #[.int .i64 x0, .int .i64 x1, .int .i64 x2, .int .i64 x3]) rfl ?_)
                | ((first | go_at_call 29 | go_at_call 38); refine (HF.out _ _).mono ?_; rintro e w' ⟨rfl, rfl⟩; rw [HS.out]))
              go_ret
              rw [HR.out]
              exact ⟨rfl, HK.out.trans (HKP.out.trans (HKJ.out.alloc _))⟩
          · have hje : j = links.length := by omega
            subst hje
            have HN := Lib.hid (HT2.out (all_end HDJ.out))
            cases hu : P u with
            | false =>
              have HU := Lib.hid hu
              clear hu
              go_wp2_with (((first | go_at_call 29 | go_at_call 38); refine (HF.out _ _).mono ?_; rintro e w' ⟨rfl, rfl⟩; rw [HU.out]))
              go_ret
              rw [HN.out, HU.out]
              exact ⟨rfl, HK.out.trans (HKP.out.trans HKJ.out)⟩
            | true =>
            cases hlo : P l with
            | false =>
              have HU := Lib.hid hu
              have HL := Lib.hid hlo
              clear hu hlo
              go_wp2_with (((first | go_at_call 29 | go_at_call 38); refine (HF.out _ _).mono ?_; rintro e w' ⟨rfl, rfl⟩; first | rw [HU.out] | rw [HL.out]))
              go_ret
              rw [HN.out, HU.out, HL.out]
              exact ⟨rfl, HK.out.trans (HKP.out.trans HKJ.out)⟩
            | true =>
              have HU := Lib.hid hu
              have HL := Lib.hid hlo
              clear hu hlo
              go_wp2_with (((first | go_at_call 29 | go_at_call 38); refine (HF.out _ _).mono ?_; rintro e w' ⟨rfl, rfl⟩; first | rw [HU.out] | rw [HL.out]))
              go_ret
              rw [HN.out, HU.out, HL.out]
              exact ⟨rfl, HK.out.trans (HKP.out.trans HKJ.out)⟩)

end Go.Proofs.Ytlhmajjmhkjcoaa
