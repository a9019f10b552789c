/-
  Chapter 43: the signs of pairs.
-/
import Derived.Test.YtgelfefoiplekaaDoorPolAwake
namespace Go.Proofs.YtgelfefoiplekaaDoor
open Go.RowKit PN

def prEnc (x : Pr) : List Value := [.int .i64 x.1, .int .i64 x.2]
theorem prEnc_len (x : Pr) : (prEnc x).length = 2 := rfl
theorem Tryd.sizePair : (Tryd.prog.info? 53).map (·.size) = some 2 := by kernel_rfl

set_option maxHeartbeats 2000000 in
theorem measured_calls (n : Int) (w : World) : Calls Tryd.prog 46 #[.int .i64 n] w (fun e w' => e = .returned (.bool (meas n)) ∧ w = w') := by
  cases h1 : decide (0 ≤ n) <;> cases h2 : decide (n ≤ 1099511627776)
  all_goals (go_enter Tryd.func46, Tryd.ntmps46; go_wp2; go_ret; exact ⟨by simp [meas, h1, h2], rfl⟩)

def signsV (m : Int) (l : List Pr) : Value := match signs m l with | some p => .tuple #[.int .i64 p.1, .int .i64 p.2, .int .i64 0] | none => .tuple #[.int .i64 0, .int .i64 0, .int .i64 1]
theorem signs_no {m : Int} {l : List Pr} (h : m < 0 ∨ 1000 < m ∨ 60 < l.length ∨ ∃ x ∈ l, okPr x = false) : signsV m l = .tuple #[.int .i64 0, .int .i64 0, .int .i64 1] := by
  have : signs m l = none := by
    unfold signs
    rw [if_neg]
    simp only [Bool.and_eq_true, decide_eq_true_eq, List.all_eq_true]
    rintro ⟨⟨⟨h1, h2⟩, h3⟩, h4⟩
    rcases h with h | h | h | ⟨x, hx, h5⟩
    · omega
    · omega
    · omega
    · rw [h4 x hx] at h5; cases h5
  unfold signsV; rw [this]
theorem signs_yes {m : Int} {l : List Pr} (h1 : 0 ≤ m) (h2 : m ≤ 1000) (h3 : l.length ≤ 60) (h4 : l.all okPr = true) : signs m l = some (nb m l, nw m l) := by
  unfold signs
  rw [if_pos (by simp [h1, h2, h3]; simpa using h4)]

def SgInv (m : Int) (l : List Pr) (w0 : World) (bv wv iv : Value) (w : World) : Prop :=
  ∃ k : Nat, iv = .int .i64 k ∧ k ≤ l.length ∧ bv = .int .i64 (nb m (l.take k)) ∧ wv = .int .i64 (nw m (l.take k)) ∧ (l.take k).all okPr = true ∧ Keep None w0 w

theorem nb_snoc (m : Int) (l : List Pr) (x : Pr) : nb m (l ++ [x]) = nb m l + (if betterB m x then 1 else 0) := by
  unfold nb; rw [List.countP_append, List.countP_cons]; simp
theorem nw_snoc (m : Int) (l : List Pr) (x : Pr) : nw m (l ++ [x]) = nw m l + (if worseB m x then 1 else 0) := by
  unfold nw; rw [List.countP_append, List.countP_cons]; simp

set_option maxRecDepth 100000 in
set_option maxHeartbeats 4000000 in
theorem signs_calls (q : Option Addr) (c : Nat) (l : List Pr) (m : Int) (w : World) (h : SliceV prEnc 2 w q l) (hl : l.length ≤ 1000000000000) (hm : i64 m) :
    Calls Tryd.prog 35 #[.slice q l.length c, .int .i64 m] w (Gives None (signsV m l) w) := by
  have HQ := Lib.hid h
  clear h
  by_cases h1 : m < 0
  · have HS := Lib.hid (signs_no (l := l) (m := m) (.inl h1))
    go_enter Tryd.func35, Tryd.ntmps35
    go_wp2
    go_ret3
    exact ⟨by rw [HS.out]; rfl, Keep.refl _ _⟩
  · by_cases h2 : 1000 < m
    · have HS := Lib.hid (signs_no (l := l) (m := m) (.inr (.inl h2)))
      go_enter Tryd.func35, Tryd.ntmps35
      go_wp2
      go_ret3
      exact ⟨by rw [HS.out]; rfl, Keep.refl _ _⟩
    · by_cases h3 : 60 < l.length
      · have HS := Lib.hid (signs_no (l := l) (m := m) (.inr (.inr (.inl h3))))
        have h3i : (60 : Int) < l.length := by omega
        go_enter Tryd.func35, Tryd.ntmps35
        go_wp2
        go_ret3
        exact ⟨by rw [HS.out]; rfl, Keep.refl _ _⟩
      · have h3i : ¬ (60 : Int) < l.length := by omega
        have hm0 : 0 ≤ m := by omega
        have hm1 : m ≤ 1000 := by omega
        go_enter Tryd.func35, Tryd.ntmps35
        go_wp2_with (fail)
        go_loopw [4, 5, 22] (SgInv m l w) (fun _ _ i _ => l.length - (intOf i).toNat)
        case atStart => exact ⟨0, rfl, by omega, rfl, rfl, rfl, Keep.refl _ _⟩
        case round =>
          obtain ⟨k, rfl, hk, rfl, rfl, hall, hkp⟩ := hrel
          have HKP := Lib.hid hkp
          have HALL := Lib.hid hall
          have hbn := nb_nw_le hm0 _ hall
          rw [List.length_take] at hbn
          have HBN : Hid (nb m (l.take k) + nw m (l.take k) ≤ 60) := Lib.hid (by omega)
          clear hkp hall hbn
          have hbu := HBN.out
          clear HBN
          generalize hB : nb m (l.take k) = B at *
          generalize hU : nw m (l.take k) = U at *
          have HB := Lib.hid hB
          have HU := Lib.hid hU
          clear hB hU
          by_cases hlt : k < l.length
          · have hlti : (k : Int) < l.length := by omega
            obtain ⟨⟨o, n⟩, hx⟩ : ∃ s, l[k]? = some s := ⟨l[k], by simp [hlt]⟩
            obtain ⟨qb, qo, rfl, hsl⟩ : ∃ b off, q = some ⟨b, off, none⟩ ∧ SlAt prEnc 2 wr b off l := by
              rcases HQ.out.keep HKP.out (fun _ _ => id) with h | h
              · rw [h] at hlt; simp at hlt
              · exact h
            have HRG := Lib.hid (hsl.range hx)
            have HX := Lib.hid hx
            clear hsl hx
            cases hm1' : meas o with
            | false =>
              have HM1 := Lib.hid hm1'
              have HS := Lib.hid (signs_no (l := l) (m := m) (.inr (.inr (.inr ⟨_, List.mem_of_getElem? HX.out, by simp [okPr, hm1']⟩))))
              clear hm1'
              go_wp2_with (first | ((with_reducible (show wpList _ _ _ (⟨some 25, .load 53 _, _, _, _, none⟩ :: _) _ _)); refine wpList_loadEl (enc := prEnc) (size := 2) rfl 53 _ rfl _ _ rfl (o, n) _ HRG.out rfl Tryd.underlying53 rfl Tryd.sizePair (.agg #[.int .i64 o, .int .i64 n]) rfl ?_) | ((with_reducible (show Calls _ _ #[.int .i64 o] _ _)); refine (measured_calls o _).mono ?_; rintro e wm ⟨rfl, hw⟩; subst wm; rw [HM1.out]) | ((with_reducible (show Calls _ _ #[.int .i64 n] _ _)); refine (measured_calls n _).mono ?_; rintro e wm ⟨rfl, hw⟩; subst wm; rw [HM2.out]))
              (go_ret3; exact ⟨by rw [HS.out]; rfl, (HKP.out.alloc _)⟩)
            | true =>
              cases hm2' : meas n with
              | false =>
                have HM1 := Lib.hid hm1'
                have HM2 := Lib.hid hm2'
                have HS := Lib.hid (signs_no (l := l) (m := m) (.inr (.inr (.inr ⟨_, List.mem_of_getElem? HX.out, by simp [okPr, hm1', hm2']⟩))))
                clear hm1' hm2'
                go_wp2_with (first | ((with_reducible (show wpList _ _ _ (⟨some 25, .load 53 _, _, _, _, none⟩ :: _) _ _)); refine wpList_loadEl (enc := prEnc) (size := 2) rfl 53 _ rfl _ _ rfl (o, n) _ HRG.out rfl Tryd.underlying53 rfl Tryd.sizePair (.agg #[.int .i64 o, .int .i64 n]) rfl ?_) | ((with_reducible (show Calls _ _ #[.int .i64 o] _ _)); refine (measured_calls o _).mono ?_; rintro e wm ⟨rfl, hw⟩; subst wm; rw [HM1.out]) | ((with_reducible (show Calls _ _ #[.int .i64 n] _ _)); refine (measured_calls n _).mono ?_; rintro e wm ⟨rfl, hw⟩; subst wm; rw [HM2.out]))
                (go_ret3; exact ⟨by rw [HS.out]; rfl, (HKP.out.alloc _)⟩)
              | true =>
                have HM1 := Lib.hid hm1'
                have HM2 := Lib.hid hm2'
                have HOK : Hid (okPr (o, n) = true) := Lib.hid (by simp [okPr, hm1', hm2'])
                have hb : (0 ≤ o ∧ o ≤ 1099511627776) ∧ (0 ≤ n ∧ n ≤ 1099511627776) := by simpa [meas] using And.intro hm1' hm2'
                obtain ⟨⟨o0, o1⟩, n0, n1⟩ := hb
                clear hm1' hm2'
                have p1 : 0 ≤ (1000 + m) * o ∧ (1000 + m) * o ≤ 2000 * 1099511627776 := ⟨Int.mul_nonneg (by omega) o0, Int.le_trans (Int.mul_le_mul_of_nonneg_right (by omega : 1000 + m ≤ 2000) o0) (Int.mul_le_mul_of_nonneg_left o1 (by omega))⟩
                have p2 : 0 ≤ (1000 + m) * n ∧ (1000 + m) * n ≤ 2000 * 1099511627776 := ⟨Int.mul_nonneg (by omega) n0, Int.le_trans (Int.mul_le_mul_of_nonneg_right (by omega : 1000 + m ≤ 2000) n0) (Int.mul_le_mul_of_nonneg_left n1 (by omega))⟩
                have w1 : IntKind.i64.wrap ((1000 + m) * o) = (1000 + m) * o := IntWalk.i64_in _ (by omega)
                have w2 : IntKind.i64.wrap ((1000 + m) * n) = (1000 + m) * n := IntWalk.i64_in _ (by omega)
                clear p1 p2
                have w3 : IntKind.i64.wrap ((U : Int) + 1) = U + 1 := IntWalk.i64_in _ (by omega)
                have w4 : IntKind.i64.wrap ((B : Int) + 1) = B + 1 := IntWalk.i64_in _ (by omega)
                have HTS := Lib.hid (take_snoc HX.out)
                have HAL : Hid ((l.take (k + 1)).all okPr = true) := Lib.hid (by rw [HTS.out, List.all_append, HALL.out]; simp [HOK.out])
                cases hw : worseB m (o, n) with
                | true =>
                  have hlt1 : (1000 + m) * o < 1000 * n := by simpa [worseB] using hw
                  have HW := Lib.hid hw
                  have HNB := Lib.hid (not_both hm0 HOK.out hw)
                  clear hw
                  go_wp2_with (first | ((with_reducible (show wpList _ _ _ (⟨some 25, .load 53 _, _, _, _, none⟩ :: _) _ _)); refine wpList_loadEl (enc := prEnc) (size := 2) rfl 53 _ rfl _ _ rfl (o, n) _ HRG.out rfl Tryd.underlying53 rfl Tryd.sizePair (.agg #[.int .i64 o, .int .i64 n]) rfl ?_) | ((with_reducible (show Calls _ _ #[.int .i64 o] _ _)); refine (measured_calls o _).mono ?_; rintro e wm ⟨rfl, hw⟩; subst wm; rw [HM1.out]) | ((with_reducible (show Calls _ _ #[.int .i64 n] _ _)); refine (measured_calls n _).mono ?_; rintro e wm ⟨rfl, hw⟩; subst wm; rw [HM2.out]))
                  go_roundw
                  case rel =>
                    refine ⟨k + 1, by go_num, by omega, ?_, ?_, HAL.out, HKP.out.alloc _⟩
                    · rw [HTS.out, nb_snoc, HB.out, HNB.out]; rfl
                    · rw [HTS.out, nw_snoc, HU.out, HW.out]; rfl
                  case measure => simp [intOf]; omega
                | false =>
                  have hlt1 : ¬ (1000 + m) * o < 1000 * n := by simpa [worseB] using hw
                  have HW := Lib.hid hw
                  clear hw
                  cases hbt : betterB m (o, n) with
                  | true =>
                    have hlt2 : (1000 + m) * n < 1000 * o := by simpa [betterB] using hbt
                    have HNB := Lib.hid hbt
                    clear hbt
                    go_wp2_with (first | ((with_reducible (show wpList _ _ _ (⟨some 25, .load 53 _, _, _, _, none⟩ :: _) _ _)); refine wpList_loadEl (enc := prEnc) (size := 2) rfl 53 _ rfl _ _ rfl (o, n) _ HRG.out rfl Tryd.underlying53 rfl Tryd.sizePair (.agg #[.int .i64 o, .int .i64 n]) rfl ?_) | ((with_reducible (show Calls _ _ #[.int .i64 o] _ _)); refine (measured_calls o _).mono ?_; rintro e wm ⟨rfl, hw⟩; subst wm; rw [HM1.out]) | ((with_reducible (show Calls _ _ #[.int .i64 n] _ _)); refine (measured_calls n _).mono ?_; rintro e wm ⟨rfl, hw⟩; subst wm; rw [HM2.out]))
                    go_roundw
                    case rel =>
                      refine ⟨k + 1, by go_num, by omega, ?_, ?_, HAL.out, HKP.out.alloc _⟩
                      · rw [HTS.out, nb_snoc, HB.out, HNB.out]; rfl
                      · rw [HTS.out, nw_snoc, HU.out, HW.out]; rfl
                    case measure => simp [intOf]; omega
                  | false =>
                    have hlt2 : ¬ (1000 + m) * n < 1000 * o := by simpa [betterB] using hbt
                    have HNB := Lib.hid hbt
                    clear hbt
                    go_wp2_with (first | ((with_reducible (show wpList _ _ _ (⟨some 25, .load 53 _, _, _, _, none⟩ :: _) _ _)); refine wpList_loadEl (enc := prEnc) (size := 2) rfl 53 _ rfl _ _ rfl (o, n) _ HRG.out rfl Tryd.underlying53 rfl Tryd.sizePair (.agg #[.int .i64 o, .int .i64 n]) rfl ?_) | ((with_reducible (show Calls _ _ #[.int .i64 o] _ _)); refine (measured_calls o _).mono ?_; rintro e wm ⟨rfl, hw⟩; subst wm; rw [HM1.out]) | ((with_reducible (show Calls _ _ #[.int .i64 n] _ _)); refine (measured_calls n _).mono ?_; rintro e wm ⟨rfl, hw⟩; subst wm; rw [HM2.out]))
                    go_roundw
                    case rel =>
                      refine ⟨k + 1, by go_num, by omega, ?_, ?_, HAL.out, HKP.out.alloc _⟩
                      · rw [HTS.out, nb_snoc, HB.out, HNB.out]; rfl
                      · rw [HTS.out, nw_snoc, HU.out, HW.out]; rfl
                    case measure => simp [intOf]; omega
          · have hke : k = l.length := by omega
            subst hke
            have HS : Hid (signsV m l = .tuple #[.int .i64 B, .int .i64 U, .int .i64 0]) := Lib.hid (by
              have h4 := HALL.out
              rw [List.take_length] at h4
              unfold signsV
              rw [signs_yes hm0 hm1 (by omega) h4, ← HB.out, ← HU.out, List.take_length])
            go_wp2
            go_ret3
            exact ⟨by rw [HS.out]; rfl, HKP.out⟩

end Go.Proofs.YtgelfefoiplekaaDoor
