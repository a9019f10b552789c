/-
  Chapter 43: tails, and whether they are significant.
-/
import Derived.Test.YtgelfefoiplekaaDoorPolRow
namespace Go.Proofs.YtgelfefoiplekaaDoor
open Go.RowKit PN

def TailInv (n k : Nat) (w0 : World) (sv iv : Value) (w : World) : Prop :=
  ∃ j : Nat, iv = .int .i64 (k + j : Nat) ∧ k + j ≤ n + 1 ∧ sv = .int .i64 (up n k j) ∧ Keep None w0 w

set_option maxRecDepth 100000 in
set_option maxHeartbeats 4000000 in
theorem tail_calls (n k : Nat) (w : World) (hn : n ≤ 60) (hk : k ≤ n) :
    Calls Tryd.prog 80 #[.int .i64 n, .int .i64 k] w (Gives None (.int .i64 (tl n k)) w) := by
  have hlen : ((rowL (ch n)).flatMap intEnc).length = 61 := by rw [flat_len intEnc_len, rowL_len]
  have hmax : max (k : Int) 0 = k := by omega
  go_enter Tryd.func80, Tryd.ntmps80
  go_wp2_with (first
    | (go_at_call 86; refine (row_calls n _ hn).mono ?_; rintro e w1 ⟨rfl, hk1⟩; have HK1 := Lib.hid hk1; clear hk1)
    | ((with_reducible (show wpList _ _ _ (⟨_, .store 124 (.tmp 6) _, _, _, _, none⟩ :: _) _ _)); (refine wpList_storeObj rfl 124 _ _ rfl w1.heap.size rfl (List.replicate 61 (Value.int .i64 0)) ((rowL (ch n)).flatMap intEnc) rfl _ (by rw [hlen]; rfl) (heap_alloc_new _ _) 61 Tryd.sizeRow hlen (by intro v hv; obtain ⟨y, -, hy⟩ := List.mem_flatMap.1 hv; simp [intEnc] at hy; subst hy; rfl) ?_); intro w9 hres hk9 hs9; have HRES := Lib.hid hres; have HK9 := Lib.hid hk9; clear hres hk9 hs9))
  have HARR : Hid (Arr intEnc 124 w9 w1.heap.size (rowL (ch n))) := Lib.hid HRES.out
  go_loopw [5, 7] (TailInv n k w9) (fun _ i _ => n + 1 - (intOf i).toNat)
  case atStart => exact ⟨0, rfl, by omega, rfl, Keep.refl _ _⟩
  case round =>
    obtain ⟨j, rfl, hj, rfl, hkp⟩ := hrel
    have HKP := Lib.hid hkp
    clear hkp
    by_cases hlt : k + j ≤ n
    · have hlti : ((k + j : Nat) : Int) ≤ n := by omega
      have hcell : wr.cell? ⟨w1.heap.size, k + j, none⟩ = some (.int .i64 (ch n (k + j))) := by
        have := (HARR.out.keep HKP.out id).range intEnc_len (rowL_at (ch n) (j := k + j) (by omega)) 0 _ rfl
        rwa [Nat.mul_one, Nat.add_zero] at this
      have hb1 := Nat.le_trans (up_le n k j) (Nat.le_trans (Nat.pow_le_pow_right (by decide : 2 > 0) hn) (by decide : 2 ^ 60 ≤ 1152921504606846976))
      have hb2 := ch60 (n := n) (k := k + j) hn
      have hup : up n k (j + 1) = up n k j + ch n (k + j) := rfl
      have HUP := Lib.hid hup
      clear hup
      generalize hA : ch n (k + j) = A at *
      generalize hB : up n k j = B at *
      have HA := Lib.hid hA
      have HB := Lib.hid hB
      clear hA hB
      have hz2 : IntKind.i64.wrap ((B : Int) + A) = ((B + A : Nat) : Int) := by rw [IntWalk.i64_in _ (by omega)]; omega
      go_wp2_with (fail)
      go_roundw
      case rel =>
        refine ⟨j + 1, congrArg _ (by omega), by omega, ?_, HKP.out⟩
        rw [HUP.out]
        exact congrArg _ (by omega)
      case measure => simp [intOf] <;> omega
    · have hj2 : j = n + 1 - k := by omega
      have HV : Hid (up n k j = tl n k) := Lib.hid (by rw [hj2]; rfl)
      have hlti : ¬ ((k + j : Nat) : Int) ≤ n := by omega
      clear hj2
      go_wp2_with (fail)
      go_ret
      exact ⟨by rw [HV.out]; rfl, ((HK1.out.alloc _).andThen HK9.out (fun g h1 h2 => by have h3 : g = w1.heap.size := h2; have := HK1.out.size; omega)).trans HKP.out⟩

theorem u64_small {x : Nat} (h : x < 18446744073709551616) : IntKind.u64.wrap (x : Int) = x := by
  unfold IntKind.wrap
  simp [IntKind.bits, IntKind.signed]
  omega
def sigV (n k : Nat) (num den : Nat) : Bool := sig n k num den
theorem hl_le {X Y : Nat} (h : X / 18446744073709551616 < Y / 18446744073709551616) : X ≤ Y := by omega
theorem hl_eq {X Y : Nat} (h : X / 18446744073709551616 = Y / 18446744073709551616) : X ≤ Y ↔ X % 18446744073709551616 ≤ Y % 18446744073709551616 := by omega
theorem hl_gt {X Y : Nat} (h1 : ¬ X / 18446744073709551616 < Y / 18446744073709551616) (h2 : ¬ X / 18446744073709551616 = Y / 18446744073709551616) : ¬ X ≤ Y := by omega

set_option maxRecDepth 100000 in
set_option maxHeartbeats 4000000 in
theorem significant_calls (n k num den : Nat) (w : World) (hn : n ≤ 60) (hk : k ≤ n) (hnum : num ≤ 1000000) (hden : den ≤ 1000000) :
    Calls Tryd.prog 67 #[.int .i64 n, .int .i64 k, .agg #[.int .i64 num, .int .i64 den]] w (Gives None (.bool (sig n k num den)) w) := by
  have HBX : Hid (∃ W : World, Keep None w W ∧ W = w.alloc (.cells #[.int .i64 num, .int .i64 den] 28) ∧ W.heap[w.heap.size]? = some (.cells #[.int .i64 num, .int .i64 den] 28 (0, 0))) :=
    Lib.hid ⟨_, (Keep.refl None w).alloc _, rfl, heap_alloc_new _ _⟩
  obtain ⟨W, hKW, hWe, ho1⟩ := HBX.out
  have HK := Lib.hid hKW
  have HWE := Lib.hid hWe.symm
  have O1 := Lib.hid ho1
  clear HBX hKW hWe ho1
  obtain ⟨T, hT⟩ : ∃ T, T = tl n k := ⟨_, rfl⟩
  have hTb : T ≤ 1152921504606846976 := by rw [hT]; exact Nat.le_trans (tl_le n k) (Nat.le_trans (Nat.pow_le_pow_right (by decide) hn) (by decide))
  obtain ⟨E, hE⟩ : ∃ E, E = 2 ^ n := ⟨_, rfl⟩
  have hEb : E ≤ 1152921504606846976 := by rw [hE]; exact Nat.le_trans (Nat.pow_le_pow_right (by decide) hn) (by decide)
  have HT := Lib.hid hT
  have HE := Lib.hid hE
  have hu1 : IntKind.u64.wrap (T : Int) = T := u64_small (by omega)
  have hu2 : IntKind.u64.wrap (den : Int) = den := u64_small (by omega)
  have hu3 : IntKind.u64.wrap (num : Int) = num := u64_small (by omega)
  have hu4 : IntKind.u64.wrap ((2 : Int) ^ n) = E := by rw [show ((2 : Int) ^ n) = ((2 ^ n : Nat) : Int) by simp, ← hE]; exact u64_small (by omega)
  clear hT hE
  go_enter Tryd.func67, Tryd.ntmps67
  go_upto_region 1 with (fail)
  rw [HWE.out]
  have HTC : Hid (∀ w', Keep None W w' → Calls Tryd.prog 80 #[.int .i64 n, .int .i64 k] w' (fun e w'' => ∃ u, e = .returned u ∧ u = .int .i64 T ∧ Keep None W w'' ∧ Keep None w' w'')) := Lib.hid (fun w' h => (tail_calls n k w' hn hk).mono (fun e w'' h2 => ⟨_, h2.1, by rw [HT.out], h.trans h2.2, h2.2⟩))
  obtain ⟨X, hX⟩ : ∃ X, X = T * den := ⟨_, rfl⟩
  have HMC : Hid (∀ w', Keep None W w' → Calls Tryd.prog 79 #[.int .u64 T, .int .u64 den] w' (fun e w'' => ∃ u, e = .returned u ∧ u = .tuple #[.int .u64 ((X / 18446744073709551616 : Nat) : Int), .int .u64 ((X % 18446744073709551616 : Nat) : Int)] ∧ Keep None W w'' ∧ Keep None w' w'')) := Lib.hid (fun w' h => (Tryd.bits_Mul64 T den (by omega) (by omega) w').mono (fun e w'' h2 => by obtain ⟨h3, rfl⟩ := h2; exact ⟨_, h3, by rw [hX], h, Keep.refl _ _⟩))
  have HX := Lib.hid hX
  clear hX
  refine region_kindsG None [.is (.int .i64 n), .is (.int .i64 k), .is (.int .i64 T), .is (.int .u64 T), .is (.pointer (some ⟨w.heap.size, 1, none⟩)), .is (.int .i64 den), .is (.int .u64 den), .is (.tuple #[.int .u64 ((X / 18446744073709551616 : Nat) : Int), .int .u64 ((X % 18446744073709551616 : Nat) : Int)]), .is (.tuple #[.int .u64 ((X / 18446744073709551616 : Nat) : Int), .int .u64 ((X % 18446744073709551616 : Nat) : Int)]), .is (.int .u64 ((X / 18446744073709551616 : Nat) : Int)), .is (.int .u64 ((X % 18446744073709551616 : Nat) : Int)), .is (.int .u64 ((X / 18446744073709551616 : Nat) : Int)), .is (.int .u64 ((X % 18446744073709551616 : Nat) : Int))]
    (fun w' => Keep None W w') 44 (by kernel_rfl) (by kernel_rfl) rfl (by kernel_rfl) (Keep.refl _ _).drew ?_ ?_
  · refine ⟨?_, ?_, ?_, ?_, ?_, ?_, ?_, ?_, ?_, ?_, ?_, ?_, ?_, trivial⟩
    · exact st_free rfl (st_ev1 (dep_f (t := 0) rfl rfl) _ (by intro a w' h1 hI; go_simp) rfl)
    · exact st_free rfl (st_ev1 (dep_f (t := 1) rfl rfl) _ (by intro a w' h1 hI; go_simp) rfl)
    · exact st_free rfl (st_callD2 (dep_e 0 rfl rfl rfl) (dep_e 1 rfl rfl rfl) _ _ (by intro a w' h1 h2; go_simp) HTC.out)
    · exact st_free rfl (st_ev1 (dep_e 2 rfl rfl rfl) _ (by intro a w' h1 hI; go_simp) rfl)
    · exact st_free rfl (st_ev1 (dep_f (t := 5) rfl rfl) _ (by intro a w' h1 hI; go_simp) rfl)
    · exact st_free rfl (st_ev1 (dep_e 4 rfl rfl rfl) _ (by intro a w' h1 hI; have q0 := cell_of_row _ _ 1 _ _ _ (hI.obj O1.out id); go_simp) rfl)
    · exact st_free rfl (st_ev1 (dep_e 5 rfl rfl rfl) _ (by intro a w' h1 hI; go_simp) rfl)
    · exact st_free rfl (st_callD2 (dep_e 3 rfl rfl rfl) (dep_e 6 rfl rfl rfl) _ _ (by intro a w' h1 h2; go_simp) HMC.out)
    · exact st_free rfl (st_ev1 (dep_e 7 rfl rfl rfl) _ (by intro a w' h1 hI; go_simp) rfl)
    · exact st_free rfl (st_ev1 (dep_e 8 rfl rfl rfl) _ (by intro a w' h1 hI; go_simp) rfl)
    · exact st_free rfl (st_ev1 (dep_e 8 rfl rfl rfl) _ (by intro a w' h1 hI; go_simp) rfl)
    · exact st_free rfl (st_ev1 (dep_e 9 rfl rfl rfl) _ (by intro a w' h1 hI; go_simp) rfl)
    · exact st_free rfl (st_ev1 (dep_e 10 rfl rfl rfl) _ (by intro a w' h1 hI; go_simp) rfl)
  intro f' w2 hkinds hI
  have k7 : f' 7 = .int .u64 ((X / 18446744073709551616 : Nat) : Int) := hkinds 11 _ 7 rfl rfl
  have k8 : f' 8 = .int .u64 ((X % 18446744073709551616 : Nat) : Int) := hkinds 12 _ 8 rfl rfl
  simp only [putsOf, Act.put, List.setIfInBounds_toArray, List.set_cons_zero, List.set_cons_succ, k7, k8]
  clear hkinds k7 k8 HTC HMC
  have HK2 := Lib.hid hI
  clear hI
  have O2 := Lib.hid (HK2.out.obj O1.out id)
  go_upto_region 2 with (fail)
  obtain ⟨Y, hY⟩ : ∃ Y, Y = E * num := ⟨_, rfl⟩
  have HMC : Hid (∀ w', Keep None w2 w' → Calls Tryd.prog 79 #[.int .u64 E, .int .u64 num] w' (fun e w'' => ∃ u, e = .returned u ∧ u = .tuple #[.int .u64 ((Y / 18446744073709551616 : Nat) : Int), .int .u64 ((Y % 18446744073709551616 : Nat) : Int)] ∧ Keep None w2 w'' ∧ Keep None w' w'')) := Lib.hid (fun w' h => (Tryd.bits_Mul64 E num (by omega) (by omega) w').mono (fun e w'' h2 => by obtain ⟨h3, rfl⟩ := h2; exact ⟨_, h3, by rw [hY], h, Keep.refl _ _⟩))
  have HY := Lib.hid hY
  clear hY
  refine region_kindsG None [.is (.int .i64 n), .is (.int .u64 E), .is (.pointer (some ⟨w.heap.size, 0, none⟩)), .is (.int .i64 num), .is (.int .u64 num), .is (.tuple #[.int .u64 ((Y / 18446744073709551616 : Nat) : Int), .int .u64 ((Y % 18446744073709551616 : Nat) : Int)]), .is (.tuple #[.int .u64 ((Y / 18446744073709551616 : Nat) : Int), .int .u64 ((Y % 18446744073709551616 : Nat) : Int)]), .is (.int .u64 ((Y / 18446744073709551616 : Nat) : Int)), .is (.int .u64 ((Y % 18446744073709551616 : Nat) : Int)), .is (.int .u64 ((Y / 18446744073709551616 : Nat) : Int)), .is (.int .u64 ((Y % 18446744073709551616 : Nat) : Int))]
    (fun w' => Keep None w2 w') 44 (by kernel_rfl) (by kernel_rfl) rfl (by kernel_rfl) (Keep.refl _ _).drew ?_ ?_
  · refine ⟨?_, ?_, ?_, ?_, ?_, ?_, ?_, ?_, ?_, ?_, ?_, trivial⟩
    · exact st_free rfl (st_ev1 (dep_f (t := 0) rfl rfl) _ (by intro a w' h1 hI; go_simp) rfl)
    · exact st_free rfl (st_ev1 (dep_e 0 rfl rfl rfl) _ (by intro a w' h1 hI; go_simp) rfl)
    · exact st_free rfl (st_ev1 (dep_f (t := 5) rfl rfl) _ (by intro a w' h1 hI; go_simp) rfl)
    · exact st_free rfl (st_ev1 (dep_e 2 rfl rfl rfl) _ (by intro a w' h1 hI; have q0 := cell_of_row _ _ 0 _ _ _ (hI.obj O2.out id); go_simp) rfl)
    · exact st_free rfl (st_ev1 (dep_e 3 rfl rfl rfl) _ (by intro a w' h1 hI; go_simp) rfl)
    · exact st_free rfl (st_callD2 (dep_e 1 rfl rfl rfl) (dep_e 4 rfl rfl rfl) _ _ (by intro a w' h1 h2; go_simp) HMC.out)
    · exact st_free rfl (st_ev1 (dep_e 5 rfl rfl rfl) _ (by intro a w' h1 hI; go_simp) rfl)
    · exact st_free rfl (st_ev1 (dep_e 6 rfl rfl rfl) _ (by intro a w' h1 hI; go_simp) rfl)
    · exact st_free rfl (st_ev1 (dep_e 6 rfl rfl rfl) _ (by intro a w' h1 hI; go_simp) rfl)
    · exact st_free rfl (st_ev1 (dep_e 7 rfl rfl rfl) _ (by intro a w' h1 hI; go_simp) rfl)
    · exact st_free rfl (st_ev1 (dep_e 8 rfl rfl rfl) _ (by intro a w' h1 hI; go_simp) rfl)
  intro f'' w3 hkinds hI
  have k9 : f'' 9 = .int .u64 ((Y / 18446744073709551616 : Nat) : Int) := hkinds 9 _ 9 rfl rfl
  have k10 : f'' 10 = .int .u64 ((Y % 18446744073709551616 : Nat) : Int) := hkinds 10 _ 10 rfl rfl
  simp only [putsOf, Act.put, List.setIfInBounds_toArray, List.set_cons_zero, List.set_cons_succ, k9, k10]
  clear hkinds k9 k10 HMC
  have HK3 := Lib.hid ((HK.out.trans HK2.out).trans hI)
  clear hI
  have HSG : Hid (sig n k num den = decide (X ≤ Y)) := Lib.hid (by unfold sig; rw [← HT.out, ← HE.out, ← HX.out, ← HY.out])
  obtain ⟨XH, hXH⟩ : ∃ x, x = X / 18446744073709551616 := ⟨_, rfl⟩
  obtain ⟨XL, hXL⟩ : ∃ x, x = X % 18446744073709551616 := ⟨_, rfl⟩
  obtain ⟨YH, hYH⟩ : ∃ x, x = Y / 18446744073709551616 := ⟨_, rfl⟩
  obtain ⟨YL, hYL⟩ : ∃ x, x = Y % 18446744073709551616 := ⟨_, rfl⟩
  rw [← hXH, ← hXL, ← hYH, ← hYL]
  by_cases h1 : XH < YH
  · have HS : Hid (sig n k num den = true) := Lib.hid (by rw [HSG.out, decide_eq_true (hl_le (by rw [← hXH, ← hYH]; exact h1))])
    clear hXH hXL hYH hYL
    go_wp2_with (fail)
    go_ret
    exact ⟨by rw [HS.out]; rfl, HK3.out⟩
  · by_cases h2 : XH = YH
    · have h3 : (X ≤ Y) ↔ XL ≤ YL := by rw [hXL, hYL]; exact hl_eq (by rw [← hXH, ← hYH]; exact h2)
      have HS0 : Hid (sig n k num den = decide (XL ≤ YL)) := Lib.hid (by rw [HSG.out]; exact decide_eq_decide.2 h3)
      clear hXH hXL hYH hYL h3 h1
      subst h2
      by_cases h4 : XL ≤ YL
      · have HS : Hid (sig n k num den = true) := Lib.hid (by rw [HS0.out, decide_eq_true h4])
        go_wp2_with (fail)
        go_ret
        exact ⟨by rw [HS.out]; rfl, HK3.out⟩
      · have HS : Hid (sig n k num den = false) := Lib.hid (by rw [HS0.out, decide_eq_false h4])
        go_wp2_with (fail)
        go_ret
        exact ⟨by rw [HS.out]; rfl, HK3.out⟩
    · have HS : Hid (sig n k num den = false) := Lib.hid (by rw [HSG.out, decide_eq_false (hl_gt (by rw [← hXH, ← hYH]; exact h1) (by rw [← hXH, ← hYH]; exact h2))])
      clear hXH hXL hYH hYL
      have h5 : ((XH : Int) == YH) = false := by rw [beq_eq_false_iff_ne]; omega
      go_wp2_with (fail)
      go_ret
      exact ⟨by rw [HS.out]; rfl, HK3.out⟩

end Go.Proofs.YtgelfefoiplekaaDoor
