/-
  Chapter 23: whether a number of hits is negative. Written by gen-negative.py.
-/
import Derived.Test.YtlhmajjmhkjcoaaFits2
namespace Go.Proofs.Ytlhmajjmhkjcoaa
open Go.RowKit

set_option maxRecDepth 100000 in
set_option maxHeartbeats 4000000 in
theorem negative_calls (ok : Nat → Prop) (p q : Option Addr) (c d : Nat) (h : Hits) (w : World) (hh : HitsAt ok w p q h) :
    Calls Try.prog 42 #[hitsVal p c q d h] w (Gives None (.bool (!allB nonnegB h)) w) := by
  obtain ⟨rows, links, u, l⟩ := h
  obtain ⟨hr, hl, _, nb, nr, nl⟩ := hh
  simp only [hitsVal] at *
  have hfu : nonnegB u = false → allB nonnegB ⟨rows, links, u, l⟩ = false := by intro h; simp [allB, h]
  have hfl : nonnegB l = false → allB nonnegB ⟨rows, links, u, l⟩ = false := by intro h; simp [allB, h]
  have hfr : rows.all (·.all nonnegB) = false → allB nonnegB ⟨rows, links, u, l⟩ = false := by intro h; simp only [allB, h]; rfl
  have hfk : links.all (fun y => nonnegB y.count) = false → allB nonnegB ⟨rows, links, u, l⟩ = false := by intro h; simp only [allB, h]; simp
  have HFU := Lib.hid hfu
  have HFL := Lib.hid hfl
  have HFR := Lib.hid hfr
  have HFK := Lib.hid hfk
  clear hfu hfl hfr hfk
  cases hu : nonnegB u with
  | false =>
    have HR := Lib.hid (HFU.out hu)
    have hu0 : u < 0 := by simpa [nonnegB] using hu
    clear hu
    go_enter Try.func42, Try.ntmps42
    go_wp2_with (fail)
    go_ret
    rw [HR.out]
    exact ⟨rfl, (Keep.refl _ _).alloc _⟩
  | true =>
  cases hlo : nonnegB l with
  | false =>
    have HR := Lib.hid (HFL.out hlo)
    have hu0 : 0 ≤ u := by simpa [nonnegB] using hu
    have hl0 : l < 0 := by simpa [nonnegB] using hlo
    clear hu hlo
    go_enter Try.func42, Try.ntmps42
    go_wp2_with (fail)
    go_ret
    rw [HR.out]
    exact ⟨rfl, (Keep.refl _ _).alloc _⟩
  | true =>
  have HT : Hid (rows.all (·.all nonnegB) = true → links.all (fun y => nonnegB y.count) = true → allB nonnegB ⟨rows, links, u, l⟩ = true) := Lib.hid (fun h1 h2 => by simp only [allB, h1, h2, hu, hlo]; rfl)
  have hu0 : 0 ≤ u := by simpa [nonnegB] using hu
  have hl0 : 0 ≤ l := by simpa [nonnegB] using hlo
  clear hu hlo
  go_enter Try.func42, Try.ntmps42
  go_wp2_with (fail)
  generalize hW : World.alloc w _ = W
  have hk0 : Keep None w W := by rw [← hW]; exact (Keep.refl _ _).alloc _
  have HB : Hid (W.heap[w.heap.size]? = some (.cells #[.slice p rows.length c, .slice q links.length d, .int .i64 u, .int .i64 l] 40 (0, 0))) := Lib.hid (by rw [← hW]; exact heap_alloc_new _ _)
  have HROWS := Lib.hid (hr.keep hk0 (fun _ _ => id))
  have HLINKS := Lib.hid (hl.keep hk0 (fun _ _ => id))
  have HK := Lib.hid hk0
  clear hW hk0 hr hl
  go_loopw [3] (RowAll nonnegB rows W) (fun i _ => rows.length - (intOf i).toNat)
  case atStart => exact ⟨0, rfl, by omega, by simp, Keep.refl _ _⟩
  case round =>
    obtain ⟨k, rfl, hk, hdr, hkp⟩ := hrel
    obtain ⟨wo, rfl⟩ : ∃ wo : World, wo = wr := ⟨_, rfl⟩
    have HDR := Lib.hid hdr
    have HKP := Lib.hid hkp
    have c0 : wo.cell? ⟨w.heap.size, 0, none⟩ = some (.slice p rows.length c) := by simp [World.cell?, hkp.obj HB.out id]
    clear hdr hkp
    by_cases hlt : k < rows.length
    · obtain ⟨row, hrow⟩ : ∃ row, rows[k]? = some row := ⟨rows[k], by simp [hlt]⟩
      obtain ⟨b, off, rfl, q2, cap, hc, hsl⟩ : ∃ b off, p = some ⟨b, off, none⟩ ∧ ∃ q2 cap, wo.cell? ⟨b, off + k, none⟩ = some (.slice q2 row.length cap) ∧ SliceV intEnc 1 wo q2 row := by
        rcases HROWS.out.keep HKP.out (fun _ _ => id) with h | ⟨b, off, h, _, h2⟩
        · subst h; simp at hlt
        · obtain ⟨q2, cap, c1, c2, _⟩ := h2 k row hrow
          exact ⟨b, off, h, q2, cap, c1, c2⟩
      have hrl := nr row (List.mem_of_getElem? hrow)
      have HROW := Lib.hid hrow
      have HSL := Lib.hid hsl
      clear hrow hsl
      go_wp2_with (fail)
      go_loopw [4] (CellAll nonnegB row wo) (fun i _ => row.length - (intOf i).toNat)
      case atStart => exact ⟨0, rfl, by omega, by simp, Keep.refl _ _⟩
      case round =>
        obtain ⟨j, rfl, hj, hdj, hkj⟩ := hrel
        have HDJ := Lib.hid hdj
        have HKJ := Lib.hid hkj
        have e0 := hkj.cell c0 id
        have e1 := hkj.cell hc id
        have HSL2 := Lib.hid (HSL.out.keep hkj (fun _ _ => id))
        clear hdj hkj c0 hc
        by_cases hjl : j < row.length
        · obtain ⟨x, hx⟩ : ∃ x, row[j]? = some x := ⟨row[j], by simp [hjl]⟩
          obtain ⟨b2, o2, rfl, e2⟩ : ∃ b2 o2, q2 = some ⟨b2, o2, none⟩ ∧ wr.cell? ⟨b2, o2 + j, none⟩ = some (.int .i64 x) := by
            rcases HSL2.out with h | ⟨b2, o2, h, h2⟩
            · subst h; simp at hjl
            · exact ⟨b2, o2, h, h2.int hx⟩
          cases hs : nonnegB x with
          | true =>
            have HN := Lib.hid (all_step hx HDJ.out hs)
            have hs0 : 0 ≤ x := by simpa [nonnegB] using hs
            clear hs hx
            go_wp2_with (fail)
            go_roundw
            case rel => exact ⟨j + 1, by go_num, by omega, HN.out, HKJ.out⟩
            case measure => simp [intOf]; omega
          | false =>
            have HR := Lib.hid (HFR.out (all_stop HROW.out HDR.out (all_stop hx HDJ.out hs)))
            have hs0 : x < 0 := by simpa [nonnegB] using hs
            clear hs hx
            go_wp2_with (fail)
            go_ret
            rw [HR.out]
            exact ⟨rfl, HK.out.trans (HKP.out.trans HKJ.out)⟩
        · have hje : j = row.length := by omega
          subst hje
          have HN := Lib.hid (all_step HROW.out HDR.out (all_end HDJ.out))
          go_wp2
          go_roundw
          case rel => exact ⟨k + 1, by go_num, by omega, HN.out, HKP.out.trans HKJ.out⟩
          case measure => simp [intOf]; omega
    · have hke : k = rows.length := by omega
      subst hke
      have HT2 := Lib.hid (HT.out (all_end HDR.out))
      have c1 : wo.cell? ⟨w.heap.size, 1, none⟩ = some (.slice q links.length d) := by simp [World.cell?, HKP.out.obj HB.out id]
      have HL2 := Lib.hid (HLINKS.out.keep HKP.out (fun _ _ => id))
      clear HT
      go_wp2_with (fail)
      go_loopw [5] (LinkAll nonnegB links wo) (fun i _ => links.length - (intOf i).toNat)
      case atStart => exact ⟨0, rfl, by omega, by simp, Keep.refl _ _⟩
      case round =>
        obtain ⟨j, rfl, hj, hdj, hkj⟩ := hrel
        have HDJ := Lib.hid hdj
        have HKJ := Lib.hid hkj
        have e1 := hkj.cell c1 id
        have HSL2 := Lib.hid (HL2.out.keep hkj (fun _ _ => id))
        clear hdj hkj c0 c1
        by_cases hjl : j < links.length
        · obtain ⟨x, hx⟩ : ∃ x, links[j]? = some x := ⟨links[j], by simp [hjl]⟩
          obtain ⟨b2, o2, rfl, e2⟩ : ∃ b2 o2, q = some ⟨b2, o2, none⟩ ∧ wr.cell? ⟨b2, o2 + j * 4 + 3, none⟩ = some (.int .i64 x.count) := by
            rcases HSL2.out with h | ⟨b2, o2, h, h2⟩
            · subst h; simp at hjl
            · exact ⟨b2, o2, h, h2 j x hx 3 _ rfl⟩
          cases hs : nonnegB x.count with
          | true =>
            have HN := Lib.hid (all_step (P := fun y : Lk => nonnegB y.count) hx HDJ.out hs)
            have hs0 : 0 ≤ x.count := by simpa [nonnegB] using hs
            clear hs hx
            go_wp2_with (fail)
            go_roundw
            case rel => exact ⟨j + 1, by go_num, by omega, HN.out, HKJ.out⟩
            case measure => simp [intOf]; omega
          | false =>
            have HR := Lib.hid (HFK.out (all_stop (P := fun y : Lk => nonnegB y.count) hx HDJ.out hs))
            have hs0 : x.count < 0 := by simpa [nonnegB] using hs
            clear hs hx
            go_wp2_with (fail)
            go_ret
            rw [HR.out]
            exact ⟨rfl, HK.out.trans (HKP.out.trans HKJ.out)⟩
        · have hje : j = links.length := by omega
          subst hje
          have HN := Lib.hid (HT2.out (all_end HDJ.out))
          go_wp2
          go_ret
          rw [HN.out]
          exact ⟨rfl, HK.out.trans (HKP.out.trans HKJ.out)⟩

end Go.Proofs.Ytlhmajjmhkjcoaa
