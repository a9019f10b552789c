/-
  Chapter 30: the reference's sites, walked.
-/
import Derived.Test.YtcdophocpheadaaGreatDoorSvValid
namespace Go.Proofs.YtcdophocpheadaaGreatDoor
open Go.RowKit

set_option maxRecDepth 100000 in
set_option maxHeartbeats 0 in
theorem sites_calls (st : List SiteM) (ps : Option Addr) (cs : Nat) (nb fn : Int) (w : World) (hst : SliceV SiteM.enc 3 w ps st) (htg : ∀ s ∈ st, s.ok w) (ls : st.length ≤ 4000000000000000000) :
    Calls Tryz.prog 33 #[.slice ps st.length cs, .int .i64 nb, .int .i64 fn] w (Says (sitesP nb fn st) w) := by
  have HS := Lib.hid hst
  have HT := Lib.hid htg
  clear hst htg
  go_enter Tryz.func33, Tryz.ntmps33
  go_wp2
  go_loopw [7] (fun i wr => ∃ k : Nat, i = .int .i64 k ∧ k ≤ st.length ∧ (∀ j s, j < k → st[j]? = some s → siteP nb fn st j s) ∧ Keep None w wr) (fun i _ => st.length - (intOf i).toNat)
  case atStart => exact ⟨0, rfl, by omega, by intro j n hj; omega, Keep.refl _ _⟩
  case round =>
    obtain ⟨k, rfl, hk, hd, hkw⟩ := hrel
    have HD := Lib.hid hd
    have HKW := Lib.hid hkw
    have HS := Lib.hid (HS.out.keep hkw (offNone _))
    have HT := Lib.hid fun s hs => (HT.out s hs).keep hkw
    clear hd hkw
    by_cases hlt : k < st.length
    · obtain ⟨s, hs⟩ : ∃ s, st[k]? = some s := ⟨st[k], by simp [hlt]⟩
      rcases HS.out with h | ⟨b1, o1, rfl, hS⟩
      · subst h; simp at hlt
      obtain ⟨c1, c2, c3⟩ := hS.site hs
      have HX := Lib.hid hs
      clear hs
      obtain ⟨sb, si, sp, sc, tg⟩ := s
      simp only at c1 c2 c3
      have HSA := Lib.hid hS
      have HTG := Lib.hid (HT.out _ (List.mem_of_getElem? HX.out))
      clear hS
      have hk0 : 0 ≤ (k : Int) := by omega
      have hk1 : (k : Int) < (st.length : Int) := by omega
      go_upto_region 4 with (fail)
      go_cut [84] (fun t wx => ∃ bo : Bool, t = .bool bo ∧ (bo = false ↔ siteH nb st k ⟨sb, si, sp, sc, tg⟩) ∧ Keep None wr wx)
      case first =>
        by_cases e1 : sb < 0
        · (refine wp_region_quiet_lit (by kernel_rfl) (by kernel_rfl) ?_; simp only [List.append_eq, List.cons_append, List.nil_append, List.append_toArray]; (repeat (go_big_quiet_step (fail))); refine wpQuiet_nil ?_; intro _ hwq; obtain ⟨nq, hwr⟩ := hwq; subst hwr)
          refine ‹∀ a' w', Met _ a' w' → _› _ _ ?_
          go_meet
          case rel => exact ⟨true, rfl, isNo fun h => absurd h.1 (by simpa using e1), (Keep.refl _ _).drewN _⟩
        · by_cases e2 : nb ≤ sb
          · (refine wp_region_quiet_lit (by kernel_rfl) (by kernel_rfl) ?_; simp only [List.append_eq, List.cons_append, List.nil_append, List.append_toArray]; (repeat (go_big_quiet_step (fail))); refine wpQuiet_nil ?_; intro _ hwq; obtain ⟨nq, hwr⟩ := hwq; subst hwr)
            refine ‹∀ a' w', Met _ a' w' → _› _ _ ?_
            go_meet
            case rel => exact ⟨true, rfl, isNo fun h => absurd h.2.1 (by simpa using e2), (Keep.refl _ _).drewN _⟩
          · by_cases e3 : si < 0
            · (refine wp_region_quiet_lit (by kernel_rfl) (by kernel_rfl) ?_; simp only [List.append_eq, List.cons_append, List.nil_append, List.append_toArray]; (repeat (go_big_quiet_step (fail))); refine wpQuiet_nil ?_; intro _ hwq; obtain ⟨nq, hwr⟩ := hwq; subst hwr)
              refine ‹∀ a' w', Met _ a' w' → _› _ _ ?_
              go_meet
              case rel => exact ⟨true, rfl, isNo fun h => absurd h.2.2.1 (by simpa using e3), (Keep.refl _ _).drewN _⟩
            · have hok : 0 ≤ sb ∧ sb < nb ∧ 0 ≤ si := by omega
              rcases k with _ | m
              · have e4 : decide (0 < (0 : Int)) = false := by decide
                have f1 : wr.cell? ⟨b1, o1, none⟩ = some (.int .i64 sb) := by simpa using c1
                have f2 : wr.cell? ⟨b1, o1 + 1, none⟩ = some (.int .i64 si) := by simpa using c2
                have f3 : (0 : Int) < (st.length : Int) := by omega
                have f4 : 0 < st.length := hlt
                (refine wp_region_quiet_lit (by kernel_rfl) (by kernel_rfl) ?_; simp only [List.append_eq, List.cons_append, List.nil_append, List.append_toArray]; (repeat (go_big_quiet_step (fail))); refine wpQuiet_nil ?_; intro _ hwq; obtain ⟨nq, hwr⟩ := hwq; subst hwr)
                refine ‹∀ a' w', Met _ a' w' → _› _ _ ?_
                go_meet
                case rel => exact ⟨false, rfl, isYes ⟨hok.1, hok.2.1, hok.2.2, fun h => absurd h (by omega)⟩, (Keep.refl _ _).drewN _⟩
              · obtain ⟨⟨ub, ui, up, uc, ut⟩, hu⟩ : ∃ s, st[m]? = some s := ⟨st[m]'(by omega), by simp⟩
                obtain ⟨d1, d2, d3⟩ := HSA.out.site hu
                simp only at d1 d2 d3
                have HU := Lib.hid hu
                have hwm : IntKind.i64.wrap (m : Int) = m := IntWalk.i64_in _ (by omega)
                have hm0 : 0 ≤ (m : Int) := by omega
                have hm1 : (m : Int) < (st.length : Int) := by omega
                clear hu d3 c3
                by_cases e4 : sb < ub
                · (refine wp_region_quiet_lit (by kernel_rfl) (by kernel_rfl) ?_; simp only [List.append_eq, List.cons_append, List.nil_append, List.append_toArray]; (repeat (go_big_quiet_step (fail))); refine wpQuiet_nil ?_; intro _ hwq; obtain ⟨nq, hwr⟩ := hwq; subst hwr)
                  refine ‹∀ a' w', Met _ a' w' → _› _ _ ?_
                  go_meet
                  case rel => exact ⟨true, (by first | rfl | (simp; omega)), isNo fun h => (by have := h.2.2.2 (by simp) _ HU.out; simp only [siteOrd] at this; omega), (Keep.refl _ _).drewN _⟩
                · by_cases e5 : ub = sb
                  · subst e5
                    by_cases e6 : si ≤ ui
                    · (refine wp_region_quiet_lit (by kernel_rfl) (by kernel_rfl) ?_; simp only [List.append_eq, List.cons_append, List.nil_append, List.append_toArray]; (repeat (go_big_quiet_step (fail))); refine wpQuiet_nil ?_; intro _ hwq; obtain ⟨nq, hwr⟩ := hwq; subst hwr)
                      refine ‹∀ a' w', Met _ a' w' → _› _ _ ?_
                      go_meet
                      case rel => exact ⟨true, (by first | rfl | (simp; omega)), isNo fun h => (by have := h.2.2.2 (by simp) _ HU.out; simp only [siteOrd] at this; omega), (Keep.refl _ _).drewN _⟩
                    · have HO : Hid (siteOrd ⟨ub, ui, up, uc, ut⟩ ⟨ub, si, sp, sc, tg⟩) := Lib.hid (Or.inr ⟨rfl, by simp only; omega⟩)
                      (refine wp_region_quiet_lit (by kernel_rfl) (by kernel_rfl) ?_; simp only [List.append_eq, List.cons_append, List.nil_append, List.append_toArray]; (repeat (go_big_quiet_step (fail))); refine wpQuiet_nil ?_; intro _ hwq; obtain ⟨nq, hwr⟩ := hwq; subst hwr)
                      refine ‹∀ a' w', Met _ a' w' → _› _ _ ?_
                      go_meet
                      case rel => exact ⟨false, (by first | rfl | (simp; omega)), isYes ⟨hok.1, hok.2.1, hok.2.2, fun _ u hu => by rw [show m + 1 - 1 = m from rfl, HU.out] at hu; cases hu; exact HO.out⟩, (Keep.refl _ _).drewN _⟩
                  · have e5' : (ub == sb) = false := by simpa using e5
                    have HO : Hid (siteOrd ⟨ub, ui, up, uc, ut⟩ ⟨sb, si, sp, sc, tg⟩) := Lib.hid (Or.inl (by simp only; omega))
                    (refine wp_region_quiet_lit (by kernel_rfl) (by kernel_rfl) ?_; simp only [List.append_eq, List.cons_append, List.nil_append, List.append_toArray]; (repeat (go_big_quiet_step (fail))); refine wpQuiet_nil ?_; intro _ hwq; obtain ⟨nq, hwr⟩ := hwq; subst hwr)
                    refine ‹∀ a' w', Met _ a' w' → _› _ _ ?_
                    go_meet
                    case rel => exact ⟨false, (by first | rfl | (simp; omega)), isYes ⟨hok.1, hok.2.1, hok.2.2, fun _ u hu => by rw [show m + 1 - 1 = m from rfl, HU.out] at hu; cases hu; exact HO.out⟩, (Keep.refl _ _).drewN _⟩
      case rest =>
        obtain ⟨bo, rfl, hbo, hkc⟩ := hcut
        have HBO := Lib.hid hbo
        have HKC := Lib.hid hkc
        have HTG := Lib.hid (HTG.out.keep hkc)
        have HSC := Lib.hid (HSA.out.keep hkc id)
        clear hbo hkc HSA c1 c2 c3
        cases bo with
        | true =>
          have HN : Hid (¬ sitesP nb fn st) := Lib.hid fun h => (by
            have h1 := h k _ HX.out
            have := HBO.out.2 ⟨h1.1, h1.2.1, h1.2.2.1, h1.2.2.2.1⟩
            cases this)
          go_wp2
          go_ret
          exact Says.no HN.out (HKW.out.trans HKC.out)
        | false =>
          have HSH := Lib.hid (HBO.out.1 rfl)
          go_wp2
          go_loopw [8] (fun i wq => ∃ q : Nat, i = .int .i64 q ∧ q ≤ tg.length ∧ (∀ j t, j < q → tg[j]? = some t → tgP fn tg j t) ∧ Keep None wc wq) (fun i _ => tg.length - (intOf i).toNat)
          case atStart => exact ⟨0, rfl, by omega, by intro j n hj; omega, Keep.refl _ _⟩
          case round =>
            obtain ⟨q, rfl, hq, hd, hkq⟩ := hrel
            have HDQ := Lib.hid hd
            have HTG := Lib.hid (HTG.out.keep hkq)
            have HKQ := Lib.hid hkq
            have hltg := HTG.out.2
            simp only at hltg
            obtain ⟨z0, z1, z2⟩ := (HSC.out.keep hkq id).site HX.out
            simp only at z0 z1 z2
            clear hd hkq
            by_cases hlq : q < tg.length
            · obtain ⟨⟨tf, tc⟩, ht⟩ : ∃ t, tg[q]? = some t := ⟨tg[q], by simp [hlq]⟩
              rcases HTG.out.1 with h | ⟨b3, o3, h3, hT⟩
              · exact absurd hlq (by rw [show tg = [] from h]; simp)
              obtain rfl : sp = some ⟨b3, o3, none⟩ := h3
              obtain ⟨c1, c2⟩ := hT.pr ht
              have HX2 := Lib.hid ht
              clear ht
              go_upto_region 10 with (fail)
              generalize hw3 : World.alloc _ _ = w3
              have hk3 : Keep None wr w3 := by rw [← hw3]; exact (Keep.refl _ _).alloc _
              obtain ⟨v0, v1⟩ : w3.cell? ⟨wr.heap.size, 0, none⟩ = some (.int .i64 tf) ∧ w3.cell? ⟨wr.heap.size, 1, none⟩ = some (.int .i64 tc) := by
                rw [← hw3]
                exact ⟨cell_of_row _ _ 0 _ _ _ (heap_alloc_new _ _), cell_of_row _ _ 1 _ _ _ (heap_alloc_new _ _)⟩
              have z2 := hk3.cell z2 id
              have HTA := Lib.hid (hT.keep hk3 id)
              have HK3 := Lib.hid (HKQ.out.trans hk3)
              clear hw3 hk3 c1 c2 hT z0 z1
              generalize wr.heap.size = D at *
              go_cut [140] (fun t wx => ∃ bo : Bool, t = .bool bo ∧ (bo = false ↔ tgP fn tg q (tf, tc)) ∧ Keep None w3 wx)
              case first =>
                by_cases e1 : tf < 0
                · go_quiet (fail)
                  refine ‹∀ a' w', Met _ a' w' → _› _ _ ?_
                  go_meet
                  case rel => exact ⟨true, rfl, isNo fun h => absurd h.1 (by simpa using e1), (Keep.refl _ _).drewN _⟩
                · by_cases e2 : fn ≤ tf
                  · go_quiet (fail)
                    refine ‹∀ a' w', Met _ a' w' → _› _ _ ?_
                    go_meet
                    case rel => exact ⟨true, rfl, isNo fun h => absurd h.2.1 (by simpa using e2), (Keep.refl _ _).drewN _⟩
                  · by_cases e3 : tc < 0
                    · go_quiet (fail)
                      refine ‹∀ a' w', Met _ a' w' → _› _ _ ?_
                      go_meet
                      case rel => exact ⟨true, rfl, isNo fun h => absurd h.2.2.1 (by simpa using e3), (Keep.refl _ _).drewN _⟩
                    · by_cases e4 : 1099511627776 < tc
                      · go_quiet (fail)
                        refine ‹∀ a' w', Met _ a' w' → _› _ _ ?_
                        go_meet
                        case rel => exact ⟨true, rfl, isNo fun h => absurd h.2.2.2.1 (by simpa using e4), (Keep.refl _ _).drewN _⟩
                      · have hok : 0 ≤ tf ∧ tf < fn ∧ 0 ≤ tc ∧ tc ≤ 1099511627776 := by omega
                        rcases q with _ | m
                        · have e5 : decide (0 < (0 : Int)) = false := by decide
                          go_quiet (fail)
                          refine ‹∀ a' w', Met _ a' w' → _› _ _ ?_
                          go_meet
                          case rel => exact ⟨false, rfl, isYes ⟨hok.1, hok.2.1, hok.2.2.1, hok.2.2.2, fun h => absurd h (by omega)⟩, (Keep.refl _ _).drewN _⟩
                        · obtain ⟨⟨uf, uc⟩, hu⟩ : ∃ s, tg[m]? = some s := ⟨tg[m]'(by omega), by simp⟩
                          obtain ⟨d1, d2⟩ := HTA.out.pr hu
                          have HU := Lib.hid hu
                          have hwm : IntKind.i64.wrap (m : Int) = m := IntWalk.i64_in _ (by omega)
                          have hm0 : 0 ≤ (m : Int) := by omega
                          have hm1 : (m : Int) < (tg.length : Int) := by omega
                          clear hu
                          by_cases e5 : tf ≤ uf
                          · go_quiet (fail)
                            refine ‹∀ a' w', Met _ a' w' → _› _ _ ?_
                            go_meet
                            case rel => exact ⟨true, (by first | rfl | (simp; omega)), isNo fun h => (by have := h.2.2.2.2 (by simp) _ HU.out; simp only at this; omega), (Keep.refl _ _).drewN _⟩
                          · go_quiet (fail)
                            refine ‹∀ a' w', Met _ a' w' → _› _ _ ?_
                            go_meet
                            case rel => exact ⟨false, (by first | rfl | (simp; omega)), isYes ⟨hok.1, hok.2.1, hok.2.2.1, hok.2.2.2, fun _ u hu => by rw [show m + 1 - 1 = m from rfl, HU.out] at hu; cases hu; simp only; omega⟩, (Keep.refl _ _).drewN _⟩
              case rest =>
                obtain ⟨bo, rfl, hbo, hkc⟩ := hcut
                have HB2 := Lib.hid hbo
                have HKC2 := Lib.hid hkc
                clear hbo hkc v0 v1 z2 HTA
                cases bo with
                | true =>
                  have HN : Hid (¬ sitesP nb fn st) := Lib.hid fun h => (by
                    have h1 := (h k _ HX.out).2.2.2.2 q _ HX2.out
                    have := HB2.out.2 h1
                    cases this)
                  go_wp2
                  go_ret
                  exact Says.no HN.out ((HKW.out.trans HKC.out).trans (HK3.out.trans HKC2.out))
                | false =>
                  have HN : Hid (∀ j t, j < q + 1 → tg[j]? = some t → tgP fn tg j t) := Lib.hid (by
                    intro j t hj ht
                    rcases Nat.lt_succ_iff_lt_or_eq.1 hj with hj | hj
                    · exact HDQ.out j t hj ht
                    · subst hj
                      rw [HX2.out] at ht; cases ht
                      exact HB2.out.1 rfl)
                  go_wp2
                  go_roundw
                  case rel => exact ⟨q + 1, by go_num, by omega, HN.out, HK3.out.trans HKC2.out⟩
                  case measure => simp [intOf]; omega
            · obtain rfl : q = tg.length := by omega
              have hlt3 : decide ((tg.length : Int) < (tg.length : Int)) = false := by simp
              have HN : Hid (∀ j s, j < k + 1 → st[j]? = some s → siteP nb fn st j s) := Lib.hid (by
                intro j s hj hs
                rcases Nat.lt_succ_iff_lt_or_eq.1 hj with hj | hj
                · exact HD.out j s hj hs
                · subst hj
                  rw [HX.out] at hs; cases hs
                  exact ⟨HSH.out.1, HSH.out.2.1, HSH.out.2.2.1, HSH.out.2.2.2, fun j t ht => HDQ.out j t (List.getElem?_eq_some_iff.1 ht).1 ht⟩)
              go_wp2
              go_roundw
              case rel => exact ⟨k + 1, by go_num, by omega, HN.out, HKW.out.trans (HKC.out.trans HKQ.out)⟩
              case measure => simp [intOf]; omega
    · obtain rfl : k = st.length := by omega
      have hlt2 : decide ((st.length : Int) < (st.length : Int)) = false := by simp
      go_wp2
      go_ret
      exact Says.yes (fun j s hs => HD.out j s (List.getElem?_eq_some_iff.1 hs).1 hs) HKW.out

end Go.Proofs.YtcdophocpheadaaGreatDoor
