/-
  Chapter 30: shard.valid, walked.
-/
import Derived.Test.YtcdophocpheadaaGreatDoorSvDef
namespace Go.Proofs.YtcdophocpheadaaGreatDoor
open Go.RowKit

set_option maxRecDepth 100000 in
set_option maxHeartbeats 4000000 in
theorem valid_head (ent : Int) (bs : List Int) (es : List (Int × Int)) (fn : Int) (w : World) (pb pe ps : Option Addr) (cb ce cs : Nat) (st : List SiteM) (lb : bs.length ≤ 4000000000000000000) (le : es.length ≤ 4000000000000000000)
    (g : ¬ headP ⟨ent, pb, cb, bs, pe, ce, es, ps, cs, st⟩) :
    Calls Tryz.prog 30 #[.agg #[.int .i64 ent, .slice pb bs.length cb, .slice pe es.length ce, .slice ps st.length cs], .int .i64 fn] w (Says False w) := by
  simp only [headP] at g
  by_cases g1 : 1 ≤ bs.length
  · by_cases g2 : bs.length ≤ 256
    · by_cases g3 : es.length = bs.length
      · have g4 : decide (knownP ent) = false := decide_eq_false fun h => g ⟨g1, g2, g3, h⟩
        clear g
        (go_enter Tryz.func30, Tryz.ntmps30)
        go_wp2_with (go_at_call 62; refine (counted_calls _ _).mono ?_; rintro e w' ⟨rfl, rfl⟩)
        go_ret
        exact Says.no id (by repeat (first | exact Keep.refl _ _ | refine Keep.drew ?_ | refine Keep.alloc ?_ _))
      · clear g
        have g3' : ((es.length : Int) != (bs.length : Int)) = true := by simp; omega
        (go_enter Tryz.func30, Tryz.ntmps30)
        go_wp2_with (fail)
        go_ret
        exact Says.no id (by repeat (first | exact Keep.refl _ _ | refine Keep.drew ?_ | refine Keep.alloc ?_ _))
    · clear g
      (go_enter Tryz.func30, Tryz.ntmps30)
      go_wp2_with (fail)
      go_ret
      exact Says.no id (by repeat (first | exact Keep.refl _ _ | refine Keep.drew ?_ | refine Keep.alloc ?_ _))
  · clear g
    (go_enter Tryz.func30, Tryz.ntmps30)
    go_wp2_with (fail)
    go_ret
    exact Says.no id (by repeat (first | exact Keep.refl _ _ | refine Keep.drew ?_ | refine Keep.alloc ?_ _))

theorem SlAt.site {w : World} {b off : Nat} {xs : List SiteM} (h : SlAt SiteM.enc 3 w b off xs) {i : Nat} {x : SiteM} (hx : xs[i]? = some x) :
    w.cell? ⟨b, off + i * 3, none⟩ = some (.int .i64 x.b) ∧ w.cell? ⟨b, off + i * 3 + 1, none⟩ = some (.int .i64 x.i) ∧ w.cell? ⟨b, off + i * 3 + 2, none⟩ = some (.slice x.p x.tg.length x.c) :=
  ⟨by simpa using h i _ hx 0 _ rfl, by simpa using h i _ hx 1 _ rfl, by simpa using h i _ hx 2 _ rfl⟩

theorem isNo {P : Prop} (h : ¬ P) : true = false ↔ P := ⟨fun h' => (by cases h'), fun p => absurd p h⟩
theorem isYes {P : Prop} (h : P) : false = false ↔ P := ⟨fun _ => h, fun _ => rfl⟩
def siteH (nb : Int) (l : List SiteM) (k : Nat) (s : SiteM) : Prop := 0 ≤ s.b ∧ s.b < nb ∧ 0 ≤ s.i ∧ (0 < k → ∀ u, l[k - 1]? = some u → siteOrd u s)

set_option maxRecDepth 100000 in
set_option maxHeartbeats 8000000 in
theorem valid_body (ent : Int) (bs : List Int) (es : List (Int × Int)) (fn : Int) (w : World) (pb pe ps : Option Addr) (cb ce cs : Nat) (st : List SiteM)
    (h : (⟨ent, pb, cb, bs, pe, ce, es, ps, cs, st⟩ : FcM).ok w) (g : headP ⟨ent, pb, cb, bs, pe, ce, es, ps, cs, st⟩) :
    Calls Tryz.prog 30 #[.agg #[.int .i64 ent, .slice pb bs.length cb, .slice pe es.length ce, .slice ps st.length cs], .int .i64 fn] w (Says (blksP bs es ∧ sitesP bs.length fn st) w) := by
  obtain ⟨hbs, hes, hst, htg, lb, le, ls⟩ := h
  obtain ⟨g1, g2, g3, g4⟩ := g
  simp only at hbs hes hst htg lb le ls g1 g2 g3 g4
  have g5 : decide (knownP ent) = true := decide_eq_true g4
  have g6 : ((es.length : Int) != (bs.length : Int)) = false := by simp; omega
  have HB := Lib.hid hbs
  have HE := Lib.hid hes
  have HS := Lib.hid hst
  have HT := Lib.hid htg
  clear hbs hes hst htg g4
  (go_enter Tryz.func30, Tryz.ntmps30)
  go_wp2_with (go_at_call 62; refine (counted_calls _ _).mono ?_; rintro e w' ⟨rfl, rfl⟩)
  generalize hw1 : World.alloc _ _ = w1
  have hk1 : Keep None w w1 := by rw [← hw1]; exact (Keep.refl _ _).alloc _
  obtain ⟨x0, x1, x2, x3⟩ : w1.cell? ⟨w.heap.size, 0, none⟩ = some (.int .i64 ent) ∧ w1.cell? ⟨w.heap.size, 1, none⟩ = some (.slice pb bs.length cb) ∧ w1.cell? ⟨w.heap.size, 2, none⟩ = some (.slice pe bs.length ce) ∧ w1.cell? ⟨w.heap.size, 3, none⟩ = some (.slice ps st.length cs) := by
    rw [← hw1]
    exact ⟨cell_of_row _ _ 0 _ _ _ (heap_alloc_new _ _), cell_of_row _ _ 1 _ _ _ (heap_alloc_new _ _), cell_of_row _ _ 2 _ _ _ (heap_alloc_new _ _), cell_of_row _ _ 3 _ _ _ (heap_alloc_new _ _)⟩
  have HB := Lib.hid (HB.out.keep hk1 (offNone _))
  have HE := Lib.hid (HE.out.keep hk1 (offNone _))
  have HS := Lib.hid (HS.out.keep hk1 (offNone _))
  have HT := Lib.hid fun s hs => (HT.out s hs).keep hk1
  have hB0 : w.heap.size < w1.heap.size := by rw [← hw1]; simp
  have HK := Lib.hid hk1
  clear hw1 hk1
  generalize w.heap.size = B at *
  go_loop [39] (fun i => ∃ k : Nat, i = .int .i64 k ∧ k ≤ bs.length ∧ ∀ j n, j < k → bs[j]? = some n → blkP es j n) (fun i => bs.length - (intOf i).toNat)
  case atStart => exact ⟨0, rfl, by omega, by intro j n hj; omega⟩
  case round =>
    obtain ⟨k, rfl, hk, hd⟩ := hrel
    have HD := Lib.hid hd
    clear hd
    by_cases hlt : k < bs.length
    · obtain ⟨x, hx⟩ : ∃ x, bs[k]? = some x := ⟨bs[k], by simp [hlt]⟩
      obtain ⟨⟨y, z⟩, hy⟩ : ∃ e, es[k]? = some e := ⟨es[k]'(by omega), by simp⟩
      rcases HB.out with h | ⟨b1, o1, rfl, hB⟩
      · subst h; simp at hlt
      have c1 := hB.int hx
      rcases HE.out with h | ⟨b2, o2, rfl, hE⟩
      · subst h; simp at hy
      obtain ⟨c2, c3⟩ := hE.pr hy
      have HX := Lib.hid hx
      have HY := Lib.hid hy
      clear hx hy hB hE
      by_cases k1 : decide (knownP x) = true
      · by_cases k2 : decide (knownP y) = true
        · by_cases k3 : decide (knownP z) = true
          · have HN : Hid (∀ j n, j < k + 1 → bs[j]? = some n → blkP es j n) := Lib.hid (by
              intro j n hj hn
              rcases Nat.lt_succ_iff_lt_or_eq.1 hj with hj | hj
              · exact HD.out j n hj hn
              · subst hj
                rw [HX.out] at hn; cases hn
                refine ⟨of_decide_eq_true k1, fun e he => ?_⟩
                rw [HY.out] at he; cases he
                exact ⟨of_decide_eq_true k2, of_decide_eq_true k3⟩)
            go_wp2_with (go_at_call 62; refine (counted_calls _ _).mono ?_; rintro e w' ⟨rfl, rfl⟩)
            go_round
            case rel => exact ⟨k + 1, by go_num, by omega, HN.out⟩
            case measure => simp [intOf]; omega
          · have k3' : decide (knownP z) = false := by simpa using k3
            have HN : Hid (¬ (blksP bs es ∧ sitesP bs.length fn st)) := Lib.hid fun h => k3 (decide_eq_true ((h.1 k x HX.out).2 _ HY.out).2)
            clear k3
            go_wp2_with (go_at_call 62; refine (counted_calls _ _).mono ?_; rintro e w' ⟨rfl, rfl⟩)
            go_ret
            exact Says.no HN.out HK.out
        · have k2' : decide (knownP y) = false := by simpa using k2
          have HN : Hid (¬ (blksP bs es ∧ sitesP bs.length fn st)) := Lib.hid fun h => k2 (decide_eq_true ((h.1 k x HX.out).2 _ HY.out).1)
          clear k2
          go_wp2_with (go_at_call 62; refine (counted_calls _ _).mono ?_; rintro e w' ⟨rfl, rfl⟩)
          go_ret
          exact Says.no HN.out HK.out
      · have k1' : decide (knownP x) = false := by simpa using k1
        have HN : Hid (¬ (blksP bs es ∧ sitesP bs.length fn st)) := Lib.hid fun h => k1 (decide_eq_true (h.1 k x HX.out).1)
        clear k1
        go_wp2_with (go_at_call 62; refine (counted_calls _ _).mono ?_; rintro e w' ⟨rfl, rfl⟩)
        go_ret
        exact Says.no HN.out HK.out
    · obtain rfl : k = bs.length := by omega
      have HD2 : Hid (blksP bs es) := Lib.hid fun j n hn => HD.out j n (List.getElem?_eq_some_iff.1 hn).1 hn
      clear HD
      have hlt' : decide ((bs.length : Int) < (bs.length : Int)) = false := by simp
      go_wp2
      go_loopw [71] (fun i wr => ∃ k : Nat, i = .int .i64 k ∧ k ≤ st.length ∧ (∀ j s, j < k → st[j]? = some s → siteP bs.length fn st j s) ∧ Keep None w1 wr) (fun i _ => st.length - (intOf i).toNat)
      case atStart => exact ⟨0, rfl, by omega, by intro j n hj; omega, Keep.refl _ _⟩
      case round =>
        obtain ⟨k, rfl, hk, hd, hkw⟩ := hrel
        have HD := Lib.hid hd
        have HKW := Lib.hid hkw
        have y0 := hkw.cell x0 id
        have y1 := hkw.cell x1 id
        have y2 := hkw.cell x2 id
        have y3 := hkw.cell x3 id
        have HS := Lib.hid (HS.out.keep hkw (offNone _))
        have HT := Lib.hid fun s hs => (HT.out s hs).keep hkw
        clear hd hkw
        by_cases hlt : k < st.length
        · obtain ⟨s, hs⟩ : ∃ s, st[k]? = some s := ⟨st[k], by simp [hlt]⟩
          rcases HS.out with h | ⟨b1, o1, rfl, hS⟩
          · subst h; simp at hlt
          obtain ⟨c1, c2, c3⟩ := hS.site hs
          have HX := Lib.hid hs
          clear hs
          obtain ⟨sb, si, sp, sc, tg⟩ := s
          simp only at c1 c2 c3
          go_upto_region 12 with (fail)
          generalize hw2 : World.alloc _ _ = w2
          have hk2 : Keep None wr w2 := by rw [← hw2]; exact (Keep.refl _ _).alloc _
          obtain ⟨z0, z1, z2⟩ : w2.cell? ⟨wr.heap.size, 0, none⟩ = some (.int .i64 sb) ∧ w2.cell? ⟨wr.heap.size, 1, none⟩ = some (.int .i64 si) ∧ w2.cell? ⟨wr.heap.size, 2, none⟩ = some (.slice sp tg.length sc) := by
            rw [← hw2]
            exact ⟨cell_of_row _ _ 0 _ _ _ (heap_alloc_new _ _), cell_of_row _ _ 1 _ _ _ (heap_alloc_new _ _), cell_of_row _ _ 2 _ _ _ (heap_alloc_new _ _)⟩
          have y1 := hk2.cell y1 id
          have y3 := hk2.cell y3 id
          have HSA := Lib.hid (hS.keep hk2 id)
          have HTG := Lib.hid ((HT.out _ (List.mem_of_getElem? HX.out)).keep hk2)
          have HK2 := Lib.hid (HK.out.trans (HKW.out.trans hk2))
          have HKR := Lib.hid (HKW.out.trans hk2)
          clear hw2 hk2 c1 c2 c3 hS y0 y2 x0 x1 x2 x3 g5 g6 g3 lb le
          generalize wr.heap.size = C at *
          go_cut [106] (fun t wx => ∃ bo : Bool, t = .bool bo ∧ (bo = false ↔ siteH bs.length st k ⟨sb, si, sp, sc, tg⟩) ∧ Keep None w2 wx)
          case first =>
            by_cases e1 : sb < 0
            · go_quiet (fail)
              refine ‹∀ a' w', Met _ a' w' → _› _ _ ?_
              go_meet
              case rel => exact ⟨true, rfl, isNo fun h => absurd h.1 (by simpa using e1), (Keep.refl _ _).drewN _⟩
            · by_cases e2 : (bs.length : Int) ≤ sb
              · go_quiet (fail)
                refine ‹∀ a' w', Met _ a' w' → _› _ _ ?_
                go_meet
                case rel => exact ⟨true, rfl, isNo fun h => absurd h.2.1 (by simpa using e2), (Keep.refl _ _).drewN _⟩
              · by_cases e3 : si < 0
                · go_quiet (fail)
                  refine ‹∀ a' w', Met _ a' w' → _› _ _ ?_
                  go_meet
                  case rel => exact ⟨true, rfl, isNo fun h => absurd h.2.2.1 (by simpa using e3), (Keep.refl _ _).drewN _⟩
                · have hok : 0 ≤ sb ∧ sb < (bs.length : Int) ∧ 0 ≤ si := by omega
                  rcases k with _ | m
                  · have e4 : decide (0 < (0 : Int)) = false := by decide
                    go_quiet (fail)
                    refine ‹∀ a' w', Met _ a' w' → _› _ _ ?_
                    go_meet
                    case rel => exact ⟨false, rfl, isYes ⟨hok.1, hok.2.1, hok.2.2, fun h => absurd h (by omega)⟩, (Keep.refl _ _).drewN _⟩
                  · obtain ⟨⟨ub, ui, up, uc, ut⟩, hu⟩ : ∃ s, st[m]? = some s := ⟨st[m]'(by omega), by simp⟩
                    obtain ⟨d1, d2, d3⟩ := HSA.out.site hu
                    simp only at d1 d2 d3
                    have HU := Lib.hid hu
                    have hwm : IntKind.i64.wrap (m : Int) = m := IntWalk.i64_in _ (by omega)
                    have hm0 : 0 ≤ (m : Int) := by omega
                    have hm1 : (m : Int) < (st.length : Int) := by omega
                    clear hu
                    refine region_tail 27 (by kernel_rfl) (by kernel_rfl) ?_
                    simp only [List.take_succ_cons, List.take_zero, List.drop_succ_cons, List.drop_zero]
                    repeat still_step
                    refine wpStill_nil ?_
                    have HC : Hid (cmp2 ub ui sb si < 0 ↔ siteOrd ⟨ub, ui, up, uc, ut⟩ ⟨sb, si, sp, sc, tg⟩) := Lib.hid (cmp2_lt ub ui sb si)
                    by_cases e5 : cmp2 ub ui sb si < 0
                    · go_wp2_with (go_at_call 63; refine (order_calls _).mono ?_; rintro e w3 ⟨rfl, hk3⟩)
                      go_meet
                      case rel => exact ⟨false, (by first | rfl | (simp; omega)), isYes ⟨hok.1, hok.2.1, hok.2.2, fun _ u hu => by rw [show m + 1 - 1 = m from rfl, HU.out] at hu; cases hu; exact HC.out.1 e5⟩, (Keep.refl _ _).drew.trans hk3⟩
                    · go_wp2_with (go_at_call 63; refine (order_calls _).mono ?_; rintro e w3 ⟨rfl, hk3⟩)
                      go_meet
                      case rel => exact ⟨true, (by first | rfl | (simp; omega)), isNo fun h => (by have := HC.out.2 (h.2.2.2 (by simp) _ HU.out); omega), (Keep.refl _ _).drew.trans hk3⟩

          case rest =>
            obtain ⟨bo, rfl, hbo, hkc⟩ := hcut
            have HBO := Lib.hid hbo
            have HKC := Lib.hid hkc
            have z2 := hkc.cell z2 id
            have HTG := Lib.hid (HTG.out.keep hkc)
            clear hbo hkc z0 z1 y1 y3 HSA
            cases bo with
            | true =>
              have HN : Hid (¬ (blksP bs es ∧ sitesP bs.length fn st)) := Lib.hid fun h => (by
                have h1 := h.2 k _ HX.out
                have := HBO.out.2 ⟨h1.1, h1.2.1, h1.2.2.1, h1.2.2.2.1⟩
                cases this)
              go_wp2
              go_ret
              exact Says.no HN.out (HK2.out.trans HKC.out)
            | false =>
              have HSH := Lib.hid (HBO.out.1 rfl)
              go_wp2
              go_loopw [110] (fun i wq => ∃ q : Nat, i = .int .i64 q ∧ q ≤ tg.length ∧ (∀ j t, j < q → tg[j]? = some t → tgP fn tg j t) ∧ Keep None wc wq) (fun i _ => tg.length - (intOf i).toNat)
              case atStart => exact ⟨0, rfl, by omega, by intro j n hj; omega, Keep.refl _ _⟩
              case round =>
                obtain ⟨q, rfl, hq, hd, hkq⟩ := hrel
                have HDQ := Lib.hid hd
                have HTG := Lib.hid (HTG.out.keep hkq)
                have HKQ := Lib.hid hkq
                have hltg := HTG.out.2
                simp only at hltg
                have z2 := hkq.cell z2 id
                clear hd hkq
                by_cases hlq : q < tg.length
                · obtain ⟨⟨tf, tc⟩, ht⟩ : ∃ t, tg[q]? = some t := ⟨tg[q], by simp [hlq]⟩
                  rcases HTG.out.1 with h | ⟨b3, o3, h3, hT⟩
                  · exact absurd hlq (by rw [show tg = [] from h]; simp)
                  obtain rfl : sp = some ⟨b3, o3, none⟩ := h3
                  obtain ⟨c1, c2⟩ := hT.pr ht
                  have HX2 := Lib.hid ht
                  clear ht
                  go_upto_region 17 with (fail)
                  generalize hw3 : World.alloc _ _ = w3
                  have hk3 : Keep None wr w3 := by rw [← hw3]; exact (Keep.refl _ _).alloc _
                  obtain ⟨v0, v1⟩ : w3.cell? ⟨wr.heap.size, 0, none⟩ = some (.int .i64 tf) ∧ w3.cell? ⟨wr.heap.size, 1, none⟩ = some (.int .i64 tc) := by
                    rw [← hw3]
                    exact ⟨cell_of_row _ _ 0 _ _ _ (heap_alloc_new _ _), cell_of_row _ _ 1 _ _ _ (heap_alloc_new _ _)⟩
                  have z2 := hk3.cell z2 id
                  have HTA := Lib.hid (hT.keep hk3 id)
                  have HK3 := Lib.hid (HKQ.out.trans hk3)
                  clear hw3 hk3 c1 c2 hT
                  generalize wr.heap.size = D at *
                  go_cut [149] (fun t wx => ∃ bo : Bool, t = .bool bo ∧ (bo = false ↔ tgP fn tg q (tf, tc)) ∧ Keep None w3 wx)
                  case first =>
                    by_cases e1 : tf < 0
                    · go_quiet (fail)
                      refine ‹∀ a' w', Met _ a' w' → _› _ _ ?_
                      go_meet
                      case rel => exact ⟨true, rfl, isNo fun h => absurd h.1 (by simpa using e1), (Keep.refl _ _).drewN _⟩
                    · by_cases e2 : fn ≤ tf
                      · go_quiet (fail)
                        refine ‹∀ a' w', Met _ a' w' → _› _ _ ?_
                        go_meet
                        case rel => exact ⟨true, rfl, isNo fun h => absurd h.2.1 (by simpa using e2), (Keep.refl _ _).drewN _⟩
                      · by_cases e3 : tc < 0
                        · go_quiet (fail)
                          refine ‹∀ a' w', Met _ a' w' → _› _ _ ?_
                          go_meet
                          case rel => exact ⟨true, rfl, isNo fun h => absurd h.2.2.1 (by simpa using e3), (Keep.refl _ _).drewN _⟩
                        · by_cases e4 : 1099511627776 < tc
                          · go_quiet (fail)
                            refine ‹∀ a' w', Met _ a' w' → _› _ _ ?_
                            go_meet
                            case rel => exact ⟨true, rfl, isNo fun h => absurd h.2.2.2.1 (by simpa using e4), (Keep.refl _ _).drewN _⟩
                          · have hok : 0 ≤ tf ∧ tf < fn ∧ 0 ≤ tc ∧ tc ≤ 1099511627776 := by omega
                            rcases q with _ | m
                            · have e5 : decide (0 < (0 : Int)) = false := by decide
                              go_quiet (fail)
                              refine ‹∀ a' w', Met _ a' w' → _› _ _ ?_
                              go_meet
                              case rel => exact ⟨false, rfl, isYes ⟨hok.1, hok.2.1, hok.2.2.1, hok.2.2.2, fun h => absurd h (by omega)⟩, (Keep.refl _ _).drewN _⟩
                            · obtain ⟨⟨uf, uc⟩, hu⟩ : ∃ s, tg[m]? = some s := ⟨tg[m]'(by omega), by simp⟩
                              obtain ⟨d1, d2⟩ := HTA.out.pr hu
                              have HU := Lib.hid hu
                              have hwm : IntKind.i64.wrap (m : Int) = m := IntWalk.i64_in _ (by omega)
                              have hm0 : 0 ≤ (m : Int) := by omega
                              have hm1 : (m : Int) < (tg.length : Int) := by omega
                              clear hu
                              by_cases e5 : tf ≤ uf
                              · go_quiet (fail)
                                refine ‹∀ a' w', Met _ a' w' → _› _ _ ?_
                                go_meet
                                case rel => exact ⟨true, (by first | rfl | (simp; omega)), isNo fun h => (by have := h.2.2.2.2 (by simp) _ HU.out; simp only at this; omega), (Keep.refl _ _).drewN _⟩
                              · go_quiet (fail)
                                refine ‹∀ a' w', Met _ a' w' → _› _ _ ?_
                                go_meet
                                case rel => exact ⟨false, (by first | rfl | (simp; omega)), isYes ⟨hok.1, hok.2.1, hok.2.2.1, hok.2.2.2, fun _ u hu => by rw [show m + 1 - 1 = m from rfl, HU.out] at hu; cases hu; simp only; omega⟩, (Keep.refl _ _).drewN _⟩
                  case rest =>
                    obtain ⟨bo, rfl, hbo, hkc⟩ := hcut
                    have HB2 := Lib.hid hbo
                    have HKC2 := Lib.hid hkc
                    clear hbo hkc v0 v1 z2 HTA
                    cases bo with
                    | true =>
                      have HN : Hid (¬ (blksP bs es ∧ sitesP bs.length fn st)) := Lib.hid fun h => (by
                        have h1 := (h.2 k _ HX.out).2.2.2.2 q _ HX2.out
                        have := HB2.out.2 h1
                        cases this)
                      go_wp2
                      go_ret
                      exact Says.no HN.out ((HK2.out.trans HKC.out).trans (HK3.out.trans HKC2.out))
                    | false =>
                      have HN : Hid (∀ j t, j < q + 1 → tg[j]? = some t → tgP fn tg j t) := Lib.hid (by
                        intro j t hj ht
                        rcases Nat.lt_succ_iff_lt_or_eq.1 hj with hj | hj
                        · exact HDQ.out j t hj ht
                        · subst hj
                          rw [HX2.out] at ht; cases ht
                          exact HB2.out.1 rfl)
                      go_wp2
                      go_roundw
                      case rel => exact ⟨q + 1, by go_num, by omega, HN.out, HK3.out.trans HKC2.out⟩
                      case measure => simp [intOf]; omega
                · obtain rfl : q = tg.length := by omega
                  have hlt3 : decide ((tg.length : Int) < (tg.length : Int)) = false := by simp
                  have HN : Hid (∀ j s, j < k + 1 → st[j]? = some s → siteP bs.length fn st j s) := Lib.hid (by
                    intro j s hj hs
                    rcases Nat.lt_succ_iff_lt_or_eq.1 hj with hj | hj
                    · exact HD.out j s hj hs
                    · subst hj
                      rw [HX.out] at hs; cases hs
                      exact ⟨HSH.out.1, HSH.out.2.1, HSH.out.2.2.1, HSH.out.2.2.2, fun j t ht => HDQ.out j t (List.getElem?_eq_some_iff.1 ht).1 ht⟩)
                  go_wp2
                  go_roundw
                  case rel => exact ⟨k + 1, by go_num, by omega, HN.out, HKR.out.trans (HKC.out.trans HKQ.out)⟩
                  case measure => simp [intOf]; omega
        · obtain rfl : k = st.length := by omega
          have hlt2 : decide ((st.length : Int) < (st.length : Int)) = false := by simp
          go_wp2
          go_ret
          exact Says.yes ⟨HD2.out, fun j s hs => HD.out j s (List.getElem?_eq_some_iff.1 hs).1 hs⟩ (HK.out.trans HKW.out)

theorem Says.of {P Q : Prop} {w : World} {e : Ending} {w' : World} (h : Says P w e w') (k : P ↔ Q) : Says Q w e w' := by
  obtain ⟨b, h1, h2, h3⟩ := h
  exact ⟨b, h1, h2.trans k, h3⟩
theorem svalid_calls (x : FcM) (fn : Int) (w : World) (h : x.ok w) :
    Calls Tryz.prog 30 #[x.val, .int .i64 fn] w (Says (FcP fn x) w) := by
  obtain ⟨ent, pb, cb, bs, pe, ce, es, ps, cs, st⟩ := x
  by_cases g : headP ⟨ent, pb, cb, bs, pe, ce, es, ps, cs, st⟩
  · exact (valid_body ent bs es fn w pb pe ps cb ce cs st h g).mono fun e w' hs => hs.of ⟨fun h => ⟨g, h.1, h.2⟩, fun h => ⟨h.blks, h.sites⟩⟩
  · exact (valid_head ent bs es fn w pb pe ps cb ce cs st h.lb h.le g).mono fun e w' hs => hs.of ⟨fun h => h.elim, fun h => g h.head⟩

end Go.Proofs.YtcdophocpheadaaGreatDoor
