/-
  Chapter 43: the signs of pairs, by the reference.
-/
import Derived.Test.YtgelfefoiplekaaDoorPolRefB
namespace Go.Proofs.YtgelfefoiplekaaDoor
open Go.RowKit PN

set_option maxHeartbeats 2000000 in
theorem count_calls (n : Int) (w : World) : Calls Tryd.prog 50 #[.int .i64 n] w (fun e w' => e = .returned (.bool (meas n)) ∧ w = w') := by
  cases h1 : decide (0 ≤ n) <;> cases h2 : decide (n ≤ 1099511627776)
  all_goals (go_enter Tryd.func50, Tryd.ntmps50; go_wp2; go_ret; exact ⟨by simp [meas, h1, h2], rfl⟩)

set_option maxRecDepth 100000 in
set_option maxHeartbeats 8000000 in
theorem refSigns_calls (q : Option Addr) (c : Nat) (l : List Pr) (m : Int) (w : World) (h : SliceV prEnc 2 w q l) (hl : l.length ≤ 1000000000000) (hm : i64 m) :
    Calls Tryd.prog 39 #[.slice q l.length c, .int .i64 m] w (Gives None (signsV m l) w) := by
  have HQ := Lib.hid h
  clear h
  by_cases h1 : m < 0
  · have HS := Lib.hid (signs_no (l := l) (m := m) (.inl h1))
    go_enter Tryd.func39, Tryd.ntmps39
    go_wp2
    go_ret3
    exact ⟨by rw [HS.out]; rfl, Keep.refl _ _⟩
  · by_cases h2 : 1000 < m
    · have HS := Lib.hid (signs_no (l := l) (m := m) (.inr (.inl h2)))
      go_enter Tryd.func39, Tryd.ntmps39
      go_wp2
      go_ret3
      exact ⟨by rw [HS.out]; rfl, Keep.refl _ _⟩
    · by_cases h3 : 60 < l.length
      · have HS := Lib.hid (signs_no (l := l) (m := m) (.inr (.inr (.inl h3))))
        have h3i : (60 : Int) < l.length := by omega
        go_enter Tryd.func39, Tryd.ntmps39
        go_wp2
        go_ret3
        exact ⟨by rw [HS.out]; rfl, Keep.refl _ _⟩
      · have h3i : ¬ (60 : Int) < l.length := by omega
        have hm0 : 0 ≤ m := by omega
        have hm1 : m ≤ 1000 := by omega
        go_enter Tryd.func39, Tryd.ntmps39
        go_wp2_with (fail)
        go_loopw [7, 8, 9] (SgInv m l w) (fun _ _ i _ => l.length - (intOf i).toNat)
        case atStart => exact ⟨0, rfl, by omega, rfl, rfl, rfl, Keep.refl _ _⟩
        case round =>
          obtain ⟨k, rfl, hk, rfl, rfl, hall, hkp⟩ := hrel
          have HKP := Lib.hid hkp
          have HALL := Lib.hid hall
          have hbn := nb_nw_le hm0 _ hall
          rw [List.length_take] at hbn
          have HBN : Hid (nb m (l.take k) + nw m (l.take k) ≤ 60) := Lib.hid (by omega)
          clear hkp hall hbn
          have hbu := HBN.out
          clear HBN
          generalize hB : nb m (l.take k) = B at *
          generalize hU : nw m (l.take k) = U at *
          have HB := Lib.hid hB
          have HU := Lib.hid hU
          clear hB hU
          by_cases hlt : k < l.length
          · have hlti : (k : Int) < l.length := by omega
            obtain ⟨⟨o, n⟩, hx⟩ : ∃ s, l[k]? = some s := ⟨l[k], by simp [hlt]⟩
            obtain ⟨qb, qo, rfl, hsl⟩ : ∃ b off, q = some ⟨b, off, none⟩ ∧ SlAt prEnc 2 wr b off l := by
              rcases HQ.out.keep HKP.out (fun _ _ => id) with h | h
              · rw [h] at hlt; simp at hlt
              · exact h
            have q0 : wr.cell? ⟨qb, qo + k * 2, none⟩ = some (.int .i64 o) := hsl k _ hx 0 _ rfl
            have q1 : wr.cell? ⟨qb, qo + k * 2 + 1, none⟩ = some (.int .i64 n) := hsl k _ hx 1 _ rfl
            have HN0 := Lib.hid q0
            have HN1 := Lib.hid q1
            have HX := Lib.hid hx
            clear hsl hx
            cases hm1' : meas o with
            | false =>
              have HM1 := Lib.hid hm1'
              have HS := Lib.hid (signs_no (l := l) (m := m) (.inr (.inr (.inr ⟨_, List.mem_of_getElem? HX.out, by simp [okPr, hm1']⟩))))
              clear hm1'
              go_wp2_with (first | ((with_reducible (show Calls _ _ #[.int .i64 o] _ _)); refine (count_calls o _).mono ?_; rintro e wm ⟨rfl, hw⟩; subst wm; rw [HM1.out]) | ((with_reducible (show Calls _ _ #[.int .i64 n] _ _)); refine (count_calls n _).mono ?_; rintro e wm ⟨rfl, hw⟩; subst wm; rw [HM2.out]))
              (go_ret3; exact ⟨by rw [HS.out]; rfl, HKP.out⟩)
            | true =>
              cases hm2' : meas n with
              | false =>
                have HM1 := Lib.hid hm1'
                have HM2 := Lib.hid hm2'
                have HS := Lib.hid (signs_no (l := l) (m := m) (.inr (.inr (.inr ⟨_, List.mem_of_getElem? HX.out, by simp [okPr, hm1', hm2']⟩))))
                clear hm1' hm2'
                go_wp2_with (first | ((with_reducible (show Calls _ _ #[.int .i64 o] _ _)); refine (count_calls o _).mono ?_; rintro e wm ⟨rfl, hw⟩; subst wm; rw [HM1.out]) | ((with_reducible (show Calls _ _ #[.int .i64 n] _ _)); refine (count_calls n _).mono ?_; rintro e wm ⟨rfl, hw⟩; subst wm; rw [HM2.out]))
                (go_ret3; exact ⟨by rw [HS.out]; rfl, HKP.out⟩)
              | true =>
                have HM1 := Lib.hid hm1'
                have HM2 := Lib.hid hm2'
                have HOK : Hid (okPr (o, n) = true) := Lib.hid (by simp [okPr, hm1', hm2'])
                have hb : (0 ≤ o ∧ o ≤ 1099511627776) ∧ (0 ≤ n ∧ n ≤ 1099511627776) := by simpa [meas] using And.intro hm1' hm2'
                obtain ⟨⟨o0, o1⟩, n0, n1⟩ := hb
                clear hm1' hm2'
                have p1 : 0 ≤ (1000 + m) * o ∧ (1000 + m) * o ≤ 2000 * 1099511627776 := ⟨Int.mul_nonneg (by omega) o0, Int.le_trans (Int.mul_le_mul_of_nonneg_right (by omega : 1000 + m ≤ 2000) o0) (Int.mul_le_mul_of_nonneg_left o1 (by omega))⟩
                have p2 : 0 ≤ (1000 + m) * n ∧ (1000 + m) * n ≤ 2000 * 1099511627776 := ⟨Int.mul_nonneg (by omega) n0, Int.le_trans (Int.mul_le_mul_of_nonneg_right (by omega : 1000 + m ≤ 2000) n0) (Int.mul_le_mul_of_nonneg_left n1 (by omega))⟩
                have W3 : Hid (IntKind.i64.wrap ((1000 + m) * o) = (1000 + m) * o) := Lib.hid (IntWalk.i64_in _ (by omega))
                have W5 : Hid (IntKind.i64.wrap ((1000 + m) * n) = (1000 + m) * n) := Lib.hid (IntWalk.i64_in _ (by omega))
                clear p1 p2
                have W1 : Hid (IntKind.i64.wrap (1000 * n) = 1000 * n) := Lib.hid (IntWalk.i64_in _ (by omega))
                have W4 : Hid (IntKind.i64.wrap (1000 * o) = 1000 * o) := Lib.hid (IntWalk.i64_in _ (by omega))
                have W2 : Hid (IntKind.i64.wrap (1000 + m) = 1000 + m) := Lib.hid (IntWalk.i64_in _ (by omega))
                have w3 : IntKind.i64.wrap ((U : Int) + 1) = U + 1 := IntWalk.i64_in _ (by omega)
                have w4 : IntKind.i64.wrap ((B : Int) + 1) = B + 1 := IntWalk.i64_in _ (by omega)
                have HTS := Lib.hid (take_snoc HX.out)
                have HAL : Hid ((l.take (k + 1)).all okPr = true) := Lib.hid (by rw [HTS.out, List.all_append, HALL.out]; simp [HOK.out])
                have hkn : ¬ (k : Int) < 0 := by omega
                go_upto_region 9 with (first | ((with_reducible (show Calls _ _ #[.int .i64 o] _ _)); refine (count_calls o _).mono ?_; rintro e wm ⟨rfl, hw⟩; subst wm; rw [HM1.out]) | ((with_reducible (show Calls _ _ #[.int .i64 n] _ _)); refine (count_calls n _).mono ?_; rintro e wm ⟨rfl, hw⟩; subst wm; rw [HM2.out]))
                refine region_kindsG None [.is (.slice (some ⟨qb, qo, none⟩) l.length c), .is (.int .i64 k), .is (.pointer (some ⟨qb, qo + k * 2, none⟩)), .is (.pointer (some ⟨qb, qo + k * 2 + 1, none⟩)), .is (.int .i64 n), .is (.int .i64 (1000 * n)), .is (.int .i64 m), .is (.int .i64 (1000 + m)), .is (.slice (some ⟨qb, qo, none⟩) l.length c), .is (.int .i64 k), .is (.pointer (some ⟨qb, qo + k * 2, none⟩)), .is (.pointer (some ⟨qb, qo + k * 2, none⟩)), .is (.int .i64 o), .is (.int .i64 ((1000 + m) * o)), .is (.bool (decide ((1000 + m) * o < 1000 * n)))]
                  (fun w' => Keep None wr w') 79 (by kernel_rfl) (by kernel_rfl) rfl (by kernel_rfl) (Keep.refl _ _).drew ?_ ?_
                · refine ⟨?_, ?_, ?_, ?_, ?_, ?_, ?_, ?_, ?_, ?_, ?_, ?_, ?_, ?_, ?_, trivial⟩
                  · exact st_free rfl (st_ev1 (dep_f (t := 0) rfl rfl) _ (by intro a w' h1 hI; go_simp) rfl)
                  · exact st_free rfl (st_ev1 (dep_f (t := 9) rfl rfl) _ (by intro a w' h1 hI; go_simp) rfl)
                  · exact st_free rfl (st_ev2 (dep_e 0 rfl rfl rfl) (dep_e 1 rfl rfl rfl) _ (by intro a w' h1 h2 hI; go_simp) rfl)
                  · exact st_free rfl (st_ev1 (dep_e 2 rfl rfl rfl) _ (by intro a w' h1 hI; go_simp) rfl)
                  · exact st_free rfl (st_ev1 (dep_e 3 rfl rfl rfl) _ (by intro a w' h1 hI; have q0 := hI.cell HN1.out id; go_simp) rfl)
                  · exact st_free rfl (st_ev1 (dep_e 4 rfl rfl rfl) _ (by intro a w' h1 hI; have q0 := W1.out; go_simp) rfl)
                  · exact st_free rfl (st_ev1 (dep_f (t := 1) rfl rfl) _ (by intro a w' h1 hI; go_simp) rfl)
                  · exact st_free rfl (st_ev1 (dep_e 6 rfl rfl rfl) _ (by intro a w' h1 hI; have q0 := W2.out; go_simp) rfl)
                  · exact st_free rfl (st_ev1 (dep_f (t := 0) rfl rfl) _ (by intro a w' h1 hI; go_simp) rfl)
                  · exact st_free rfl (st_ev1 (dep_f (t := 9) rfl rfl) _ (by intro a w' h1 hI; go_simp) rfl)
                  · exact st_free rfl (st_ev2 (dep_e 8 rfl rfl rfl) (dep_e 9 rfl rfl rfl) _ (by intro a w' h1 h2 hI; go_simp) rfl)
                  · exact st_free rfl (st_ev1 (dep_e 10 rfl rfl rfl) _ (by intro a w' h1 hI; go_simp) rfl)
                  · exact st_free rfl (st_ev1 (dep_e 11 rfl rfl rfl) _ (by intro a w' h1 hI; have q0 := hI.cell HN0.out id; go_simp) rfl)
                  · exact st_free rfl (st_ev2 (dep_e 7 rfl rfl rfl) (dep_e 12 rfl rfl rfl) _ (by intro a w' h1 h2 hI; have q0 := W3.out; go_simp) rfl)
                  · exact st_free rfl (st_ev2 (dep_e 5 rfl rfl rfl) (dep_e 13 rfl rfl rfl) _ (by intro a w' h1 h2 hI; go_simp) rfl)
                intro f' w5 hkinds hI
                have k57 : f' 57 = .bool (decide ((1000 + m) * o < 1000 * n)) := hkinds 14 _ 57 rfl rfl
                simp only [putsOf, Act.put, List.setIfInBounds_toArray, List.set_cons_zero, List.set_cons_succ, k57]
                clear hkinds k57
                have HK5 := Lib.hid hI
                have HP0 := Lib.hid (hI.cell HN0.out id)
                have HP1 := Lib.hid (hI.cell HN1.out id)
                clear hI
                clear q0 q1
                cases hw : worseB m (o, n) with
                | true =>
                  have hlt1 : (1000 + m) * o < 1000 * n := by simpa [worseB] using hw
                  have HW := Lib.hid hw
                  have hnb := not_both hm0 HOK.out hw
                  have hlt2 : ¬ (1000 + m) * n < 1000 * o := by simpa [betterB] using hnb
                  have HNB := Lib.hid hnb
                  clear hw hnb
                  go_upto_region 11 with (fail)
                  refine region_kindsG None [.is (.slice (some ⟨qb, qo, none⟩) l.length c), .is (.int .i64 k), .is (.pointer (some ⟨qb, qo + k * 2, none⟩)), .is (.pointer (some ⟨qb, qo + k * 2, none⟩)), .is (.int .i64 o), .is (.int .i64 (1000 * o)), .is (.int .i64 m), .is (.int .i64 (1000 + m)), .is (.slice (some ⟨qb, qo, none⟩) l.length c), .is (.int .i64 k), .is (.pointer (some ⟨qb, qo + k * 2, none⟩)), .is (.pointer (some ⟨qb, qo + k * 2 + 1, none⟩)), .is (.int .i64 n), .is (.int .i64 ((1000 + m) * n)), .is (.bool (decide ((1000 + m) * n < 1000 * o)))]
                    (fun w' => Keep None w5 w') 79 (by kernel_rfl) (by kernel_rfl) rfl (by kernel_rfl) (Keep.refl _ _).drew ?_ ?_
                  · refine ⟨?_, ?_, ?_, ?_, ?_, ?_, ?_, ?_, ?_, ?_, ?_, ?_, ?_, ?_, ?_, trivial⟩
                    · exact st_free rfl (st_ev1 (dep_f (t := 0) rfl rfl) _ (by intro a w' h1 hI; go_simp) rfl)
                    · exact st_free rfl (st_ev1 (dep_f (t := 9) rfl rfl) _ (by intro a w' h1 hI; go_simp) rfl)
                    · exact st_free rfl (st_ev2 (dep_e 0 rfl rfl rfl) (dep_e 1 rfl rfl rfl) _ (by intro a w' h1 h2 hI; go_simp) rfl)
                    · exact st_free rfl (st_ev1 (dep_e 2 rfl rfl rfl) _ (by intro a w' h1 hI; go_simp) rfl)
                    · exact st_free rfl (st_ev1 (dep_e 3 rfl rfl rfl) _ (by intro a w' h1 hI; have q0 := hI.cell HP0.out id; go_simp) rfl)
                    · exact st_free rfl (st_ev1 (dep_e 4 rfl rfl rfl) _ (by intro a w' h1 hI; have q0 := W4.out; go_simp) rfl)
                    · exact st_free rfl (st_ev1 (dep_f (t := 1) rfl rfl) _ (by intro a w' h1 hI; go_simp) rfl)
                    · exact st_free rfl (st_ev1 (dep_e 6 rfl rfl rfl) _ (by intro a w' h1 hI; have q0 := W2.out; go_simp) rfl)
                    · exact st_free rfl (st_ev1 (dep_f (t := 0) rfl rfl) _ (by intro a w' h1 hI; go_simp) rfl)
                    · exact st_free rfl (st_ev1 (dep_f (t := 9) rfl rfl) _ (by intro a w' h1 hI; go_simp) rfl)
                    · exact st_free rfl (st_ev2 (dep_e 8 rfl rfl rfl) (dep_e 9 rfl rfl rfl) _ (by intro a w' h1 h2 hI; go_simp) rfl)
                    · exact st_free rfl (st_ev1 (dep_e 10 rfl rfl rfl) _ (by intro a w' h1 hI; go_simp) rfl)
                    · exact st_free rfl (st_ev1 (dep_e 11 rfl rfl rfl) _ (by intro a w' h1 hI; have q0 := hI.cell HP1.out id; go_simp) rfl)
                    · exact st_free rfl (st_ev2 (dep_e 7 rfl rfl rfl) (dep_e 12 rfl rfl rfl) _ (by intro a w' h1 h2 hI; have q0 := W5.out; go_simp) rfl)
                    · exact st_free rfl (st_ev2 (dep_e 5 rfl rfl rfl) (dep_e 13 rfl rfl rfl) _ (by intro a w' h1 h2 hI; go_simp) rfl)
                  intro f' w6 hkinds hI
                  have k74 : f' 74 = .bool (decide ((1000 + m) * n < 1000 * o)) := hkinds 14 _ 74 rfl rfl
                  simp only [putsOf, Act.put, List.setIfInBounds_toArray, List.set_cons_zero, List.set_cons_succ, k74]
                  clear hkinds k74
                  have HK6 := Lib.hid (HK5.out.trans hI)
                  clear hI
                  go_wp2_with (fail)
                  go_roundw
                  case rel =>
                    refine ⟨k + 1, by go_num, by omega, ?_, ?_, HAL.out, HKP.out.trans HK6.out⟩
                    · rw [HTS.out, nb_snoc, HB.out, HNB.out]; rfl
                    · rw [HTS.out, nw_snoc, HU.out, HW.out]; rfl
                  case measure => simp [intOf]; omega
                | false =>
                  have hlt1 : ¬ (1000 + m) * o < 1000 * n := by simpa [worseB] using hw
                  have HW := Lib.hid hw
                  clear hw
                  cases hbt : betterB m (o, n) with
                  | true =>
                    have hlt2 : (1000 + m) * n < 1000 * o := by simpa [betterB] using hbt
                    have HNB := Lib.hid hbt
                    clear hbt
                    go_upto_region 11 with (fail)
                    refine region_kindsG None [.is (.slice (some ⟨qb, qo, none⟩) l.length c), .is (.int .i64 k), .is (.pointer (some ⟨qb, qo + k * 2, none⟩)), .is (.pointer (some ⟨qb, qo + k * 2, none⟩)), .is (.int .i64 o), .is (.int .i64 (1000 * o)), .is (.int .i64 m), .is (.int .i64 (1000 + m)), .is (.slice (some ⟨qb, qo, none⟩) l.length c), .is (.int .i64 k), .is (.pointer (some ⟨qb, qo + k * 2, none⟩)), .is (.pointer (some ⟨qb, qo + k * 2 + 1, none⟩)), .is (.int .i64 n), .is (.int .i64 ((1000 + m) * n)), .is (.bool (decide ((1000 + m) * n < 1000 * o)))]
                      (fun w' => Keep None w5 w') 79 (by kernel_rfl) (by kernel_rfl) rfl (by kernel_rfl) (Keep.refl _ _).drew ?_ ?_
                    · refine ⟨?_, ?_, ?_, ?_, ?_, ?_, ?_, ?_, ?_, ?_, ?_, ?_, ?_, ?_, ?_, trivial⟩
                      · exact st_free rfl (st_ev1 (dep_f (t := 0) rfl rfl) _ (by intro a w' h1 hI; go_simp) rfl)
                      · exact st_free rfl (st_ev1 (dep_f (t := 9) rfl rfl) _ (by intro a w' h1 hI; go_simp) rfl)
                      · exact st_free rfl (st_ev2 (dep_e 0 rfl rfl rfl) (dep_e 1 rfl rfl rfl) _ (by intro a w' h1 h2 hI; go_simp) rfl)
                      · exact st_free rfl (st_ev1 (dep_e 2 rfl rfl rfl) _ (by intro a w' h1 hI; go_simp) rfl)
                      · exact st_free rfl (st_ev1 (dep_e 3 rfl rfl rfl) _ (by intro a w' h1 hI; have q0 := hI.cell HP0.out id; go_simp) rfl)
                      · exact st_free rfl (st_ev1 (dep_e 4 rfl rfl rfl) _ (by intro a w' h1 hI; have q0 := W4.out; go_simp) rfl)
                      · exact st_free rfl (st_ev1 (dep_f (t := 1) rfl rfl) _ (by intro a w' h1 hI; go_simp) rfl)
                      · exact st_free rfl (st_ev1 (dep_e 6 rfl rfl rfl) _ (by intro a w' h1 hI; have q0 := W2.out; go_simp) rfl)
                      · exact st_free rfl (st_ev1 (dep_f (t := 0) rfl rfl) _ (by intro a w' h1 hI; go_simp) rfl)
                      · exact st_free rfl (st_ev1 (dep_f (t := 9) rfl rfl) _ (by intro a w' h1 hI; go_simp) rfl)
                      · exact st_free rfl (st_ev2 (dep_e 8 rfl rfl rfl) (dep_e 9 rfl rfl rfl) _ (by intro a w' h1 h2 hI; go_simp) rfl)
                      · exact st_free rfl (st_ev1 (dep_e 10 rfl rfl rfl) _ (by intro a w' h1 hI; go_simp) rfl)
                      · exact st_free rfl (st_ev1 (dep_e 11 rfl rfl rfl) _ (by intro a w' h1 hI; have q0 := hI.cell HP1.out id; go_simp) rfl)
                      · exact st_free rfl (st_ev2 (dep_e 7 rfl rfl rfl) (dep_e 12 rfl rfl rfl) _ (by intro a w' h1 h2 hI; have q0 := W5.out; go_simp) rfl)
                      · exact st_free rfl (st_ev2 (dep_e 5 rfl rfl rfl) (dep_e 13 rfl rfl rfl) _ (by intro a w' h1 h2 hI; go_simp) rfl)
                    intro f' w6 hkinds hI
                    have k74 : f' 74 = .bool (decide ((1000 + m) * n < 1000 * o)) := hkinds 14 _ 74 rfl rfl
                    simp only [putsOf, Act.put, List.setIfInBounds_toArray, List.set_cons_zero, List.set_cons_succ, k74]
                    clear hkinds k74
                    have HK6 := Lib.hid (HK5.out.trans hI)
                    clear hI
                    go_wp2_with (fail)
                    go_roundw
                    case rel =>
                      refine ⟨k + 1, by go_num, by omega, ?_, ?_, HAL.out, HKP.out.trans HK6.out⟩
                      · rw [HTS.out, nb_snoc, HB.out, HNB.out]; rfl
                      · rw [HTS.out, nw_snoc, HU.out, HW.out]; rfl
                    case measure => simp [intOf]; omega
                  | false =>
                    have hlt2 : ¬ (1000 + m) * n < 1000 * o := by simpa [betterB] using hbt
                    have HNB := Lib.hid hbt
                    clear hbt
                    go_upto_region 11 with (fail)
                    refine region_kindsG None [.is (.slice (some ⟨qb, qo, none⟩) l.length c), .is (.int .i64 k), .is (.pointer (some ⟨qb, qo + k * 2, none⟩)), .is (.pointer (some ⟨qb, qo + k * 2, none⟩)), .is (.int .i64 o), .is (.int .i64 (1000 * o)), .is (.int .i64 m), .is (.int .i64 (1000 + m)), .is (.slice (some ⟨qb, qo, none⟩) l.length c), .is (.int .i64 k), .is (.pointer (some ⟨qb, qo + k * 2, none⟩)), .is (.pointer (some ⟨qb, qo + k * 2 + 1, none⟩)), .is (.int .i64 n), .is (.int .i64 ((1000 + m) * n)), .is (.bool (decide ((1000 + m) * n < 1000 * o)))]
                      (fun w' => Keep None w5 w') 79 (by kernel_rfl) (by kernel_rfl) rfl (by kernel_rfl) (Keep.refl _ _).drew ?_ ?_
                    · refine ⟨?_, ?_, ?_, ?_, ?_, ?_, ?_, ?_, ?_, ?_, ?_, ?_, ?_, ?_, ?_, trivial⟩
                      · exact st_free rfl (st_ev1 (dep_f (t := 0) rfl rfl) _ (by intro a w' h1 hI; go_simp) rfl)
                      · exact st_free rfl (st_ev1 (dep_f (t := 9) rfl rfl) _ (by intro a w' h1 hI; go_simp) rfl)
                      · exact st_free rfl (st_ev2 (dep_e 0 rfl rfl rfl) (dep_e 1 rfl rfl rfl) _ (by intro a w' h1 h2 hI; go_simp) rfl)
                      · exact st_free rfl (st_ev1 (dep_e 2 rfl rfl rfl) _ (by intro a w' h1 hI; go_simp) rfl)
                      · exact st_free rfl (st_ev1 (dep_e 3 rfl rfl rfl) _ (by intro a w' h1 hI; have q0 := hI.cell HP0.out id; go_simp) rfl)
                      · exact st_free rfl (st_ev1 (dep_e 4 rfl rfl rfl) _ (by intro a w' h1 hI; have q0 := W4.out; go_simp) rfl)
                      · exact st_free rfl (st_ev1 (dep_f (t := 1) rfl rfl) _ (by intro a w' h1 hI; go_simp) rfl)
                      · exact st_free rfl (st_ev1 (dep_e 6 rfl rfl rfl) _ (by intro a w' h1 hI; have q0 := W2.out; go_simp) rfl)
                      · exact st_free rfl (st_ev1 (dep_f (t := 0) rfl rfl) _ (by intro a w' h1 hI; go_simp) rfl)
                      · exact st_free rfl (st_ev1 (dep_f (t := 9) rfl rfl) _ (by intro a w' h1 hI; go_simp) rfl)
                      · exact st_free rfl (st_ev2 (dep_e 8 rfl rfl rfl) (dep_e 9 rfl rfl rfl) _ (by intro a w' h1 h2 hI; go_simp) rfl)
                      · exact st_free rfl (st_ev1 (dep_e 10 rfl rfl rfl) _ (by intro a w' h1 hI; go_simp) rfl)
                      · exact st_free rfl (st_ev1 (dep_e 11 rfl rfl rfl) _ (by intro a w' h1 hI; have q0 := hI.cell HP1.out id; go_simp) rfl)
                      · exact st_free rfl (st_ev2 (dep_e 7 rfl rfl rfl) (dep_e 12 rfl rfl rfl) _ (by intro a w' h1 h2 hI; have q0 := W5.out; go_simp) rfl)
                      · exact st_free rfl (st_ev2 (dep_e 5 rfl rfl rfl) (dep_e 13 rfl rfl rfl) _ (by intro a w' h1 h2 hI; go_simp) rfl)
                    intro f' w6 hkinds hI
                    have k74 : f' 74 = .bool (decide ((1000 + m) * n < 1000 * o)) := hkinds 14 _ 74 rfl rfl
                    simp only [putsOf, Act.put, List.setIfInBounds_toArray, List.set_cons_zero, List.set_cons_succ, k74]
                    clear hkinds k74
                    have HK6 := Lib.hid (HK5.out.trans hI)
                    clear hI
                    go_wp2_with (fail)
                    go_roundw
                    case rel =>
                      refine ⟨k + 1, by go_num, by omega, ?_, ?_, HAL.out, HKP.out.trans HK6.out⟩
                      · rw [HTS.out, nb_snoc, HB.out, HNB.out]; rfl
                      · rw [HTS.out, nw_snoc, HU.out, HW.out]; rfl
                    case measure => simp [intOf]; omega
          · have hke : k = l.length := by omega
            subst hke
            have HS : Hid (signsV m l = .tuple #[.int .i64 B, .int .i64 U, .int .i64 0]) := Lib.hid (by
              have h4 := HALL.out
              rw [List.take_length] at h4
              unfold signsV
              rw [signs_yes hm0 hm1 (by omega) h4, ← HB.out, ← HU.out, List.take_length])
            go_wp2
            go_ret3
            exact ⟨by rw [HS.out]; rfl, HKP.out⟩

end Go.Proofs.YtgelfefoiplekaaDoor
