/-
  Chapter 43: whether a number is significant, by the reference.
-/
import Derived.Test.YtgelfefoiplekaaDoorPolRefA
import Derived.Laws.Bits128
namespace Go.Proofs.YtgelfefoiplekaaDoor
open Go.RowKit PN

/-- A product by halves of thirty bits. -/
theorem halves (T D : Nat) (hT : T ≤ 1152921504606846976) (hD : D ≤ 1000000) : ∃ h l hD lD u X Y : Nat,
    (T : Int) / 1073741824 = h ∧ bits BinOp.and IntKind.i64 (T : Int) 1073741823 = l ∧ IntKind.i64.wrap ((h : Int) * D) = hD ∧ IntKind.i64.wrap ((l : Int) * D) = lD ∧ (lD : Int) / 1073741824 = u ∧ bits BinOp.and IntKind.i64 (lD : Int) 1073741823 = Y ∧
    IntKind.i64.wrap ((hD : Int) + u) = X ∧ X = T * D / 1073741824 ∧ Y = T * D % 1073741824 := by
  obtain ⟨h, hh⟩ : ∃ h, h = T / 1073741824 := ⟨_, rfl⟩
  obtain ⟨l, hl⟩ : ∃ l, l = T % 1073741824 := ⟨_, rfl⟩
  have h1 : h ≤ 1073741824 := by omega
  have h2 : l < 1073741824 := by omega
  have m1 : h * D ≤ 1073741824 * 1000000 := Nat.mul_le_mul h1 hD
  have m2 : l * D ≤ 1073741824 * 1000000 := Nat.mul_le_mul (by omega) hD
  have mask : ∀ n : Nat, n ≤ 2305843009213693952 → bits BinOp.and IntKind.i64 (n : Int) 1073741823 = ((n % 1073741824 : Nat) : Int) := fun n hn => by
    have h3 := bits_mask .i64 62 (by decide) (fun n h0 h1 => IntWalk.i64_in _ (by omega)) 30 (by decide) (n : Int) (by omega) (by omega)
    rw [show ((2 : Int) ^ 30 - 1) = 1073741823 by decide, show ((2 : Int) ^ 30) = 1073741824 by decide] at h3
    rw [h3]; omega
  have key : T * D = 1073741824 * (h * D) + l * D := by
    have : T = 1073741824 * h + l := by omega
    rw [this, Nat.add_mul, Nat.mul_assoc]
  refine ⟨h, l, h * D, l * D, l * D / 1073741824, h * D + l * D / 1073741824, l * D % 1073741824, ?_, ?_, ?_, ?_, ?_, ?_, ?_, ?_, ?_⟩
  · omega
  · rw [mask T (by omega), hl]
  · rw [← Int.natCast_mul]; exact IntWalk.i64_in _ (by omega)
  · rw [← Int.natCast_mul]; exact IntWalk.i64_in _ (by omega)
  · omega
  · exact mask _ (by omega)
  · rw [← Int.natCast_add]; exact IntWalk.i64_in _ (by omega)
  · rw [key]; omega
  · rw [key]; omega

theorem halves_lt {A B : Nat} (h : A / 1073741824 < B / 1073741824) : A ≤ B := by omega
theorem halves_eq {A B : Nat} (h : A / 1073741824 = B / 1073741824) : A ≤ B ↔ A % 1073741824 ≤ B % 1073741824 := by omega
theorem halves_gt {A B : Nat} (h1 : ¬ A / 1073741824 < B / 1073741824) (h2 : ¬ A / 1073741824 = B / 1073741824) : ¬ A ≤ B := by omega

set_option maxRecDepth 100000 in
set_option maxHeartbeats 4000000 in
theorem refSig_calls (n k num den : Nat) (w : World) (hn : n ≤ 60) (hk : k ≤ n) (hl : lvlB num den = true) :
    Calls Tryd.prog 49 #[.int .i64 n, .int .i64 k, .agg #[.int .i64 num, .int .i64 den]] w (Gives None (.tuple #[.bool (sig n k num den), .int .i64 0]) w) := by
  have hp := lvl_parts hl
  have HL := Lib.hid hl
  clear hl
  have HBX : Hid (∃ W : World, Keep None w W ∧ W = w.alloc (.cells #[.int .i64 num, .int .i64 den] 28) ∧ W.heap[w.heap.size]? = some (.cells #[.int .i64 num, .int .i64 den] 28 (0, 0))) :=
    Lib.hid ⟨_, (Keep.refl None w).alloc _, rfl, heap_alloc_new _ _⟩
  obtain ⟨W, hKW, hWe, ho1⟩ := HBX.out
  have HK := Lib.hid hKW
  have HWE := Lib.hid hWe.symm
  have HBOX : Hid (∀ w', Keep None W w' → w'.heap[w.heap.size]? = some (.cells #[.int .i64 num, .int .i64 den] 28 (0, 0))) := Lib.hid (fun w' h => h.obj ho1 id)
  clear HBX hKW hWe ho1
  obtain ⟨T, hT⟩ : ∃ T, T = tl n k := ⟨_, rfl⟩
  have hTb : T ≤ 1152921504606846976 := by rw [hT]; exact Nat.le_trans (tl_le n k) (Nat.le_trans (Nat.pow_le_pow_right (by decide) hn) (by decide))
  obtain ⟨E, hE⟩ : ∃ E, E = 2 ^ n := ⟨_, rfl⟩
  have hEb : E ≤ 1152921504606846976 := by rw [hE]; exact Nat.le_trans (Nat.pow_le_pow_right (by decide) hn) (by decide)
  have HT := Lib.hid hT
  have HE := Lib.hid hE
  have hu4 : IntKind.i64.wrap ((2 : Int) ^ n) = E := by rw [show ((2 : Int) ^ n) = ((2 ^ n : Nat) : Int) by simp, ← hE]; exact IntWalk.i64_in _ (by omega)
  have hu5 : IntKind.u64.wrap (n : Int) = n := u64_small (by omega)
  clear hT hE
  go_enter Tryd.func49, Tryd.ntmps49
  go_upto_region 1 with (fail)
  rw [HWE.out]
  go_upto_region 4 with (first
    | (go_at_call 56; refine (refTail_calls n k _ hn hk).mono ?_; rintro e w1 ⟨rfl, hk1⟩; rw [← HT.out])
    | ((with_reducible (show wpList _ _ _ (⟨some 24, .load 28 _, _, _, _, some _⟩ :: _) _ _)); refine wpList_loadElG rfl 28 _ rfl (enc := listEnc) (size := 2) _ _ rfl [.int .i64 num, .int .i64 den] _ (range_of_obj (HBOX.out _ (by assumption))) rfl Tryd.underlying28 rfl Tryd.sizeLevel (.agg #[.int .i64 num, .int .i64 den]) rfl ?_)
    | (go_at_call 48; refine (lvl_warmpathref43 num den _).mono ?_; rintro e w2 ⟨rfl, hk2⟩; rw [HL.out]))
  have HK2 := Lib.hid (hk1.trans hk2)
  have HB := Lib.hid (HBOX.out _ HK2.out)
  clear hk1 hk2
  obtain ⟨h, l, hD, lD, u, X, Y, f1, f2, f3, f4, f5, f6, f7, f8, f9⟩ := halves T den (by omega) (by omega)
  have H1 := Lib.hid f1
  have H2 := Lib.hid f2
  have H3 := Lib.hid f3
  have H4 := Lib.hid f4
  have H5 := Lib.hid f5
  have H6 := Lib.hid f6
  have H7 := Lib.hid f7
  have H8 := Lib.hid f8
  have H9 := Lib.hid f9
  clear f1 f2 f3 f4 f5 f6 f7 f8 f9
  refine region_kindsG None [.is (.int .i64 T), .is (.int .i64 h), .is (.pointer (some ⟨w.heap.size, 1, none⟩)), .is (.int .i64 den), .is (.int .i64 hD), .is (.int .i64 T), .is (.int .i64 l), .is (.pointer (some ⟨w.heap.size, 1, none⟩)), .is (.int .i64 den), .is (.int .i64 lD), .is (.int .i64 u), .is (.int .i64 X), .is (.int .i64 T), .is (.int .i64 l), .is (.pointer (some ⟨w.heap.size, 1, none⟩)), .is (.int .i64 den), .is (.int .i64 lD), .is (.int .i64 Y), .is (.int .i64 X), .is (.int .i64 Y)]
    (fun w' => Keep None w2 w') 80 (by kernel_rfl) (by kernel_rfl) rfl (by kernel_rfl) (Keep.refl _ _).drew ?_ ?_
  · refine ⟨?_, ?_, ?_, ?_, ?_, ?_, ?_, ?_, ?_, ?_, ?_, ?_, ?_, ?_, ?_, ?_, ?_, ?_, ?_, ?_, trivial⟩
    · exact st_free rfl (st_ev1 (dep_f (t := 8) rfl rfl) _ (by intro a w' h1 hI; go_simp) rfl)
    · exact st_free rfl (st_ev1 (dep_e 0 rfl rfl rfl) _ (by intro a w' h1 hI; have q := H1.out; go_simp) rfl)
    · exact st_free rfl (st_ev1 (dep_f (t := 5) rfl rfl) _ (by intro a w' h1 hI; go_simp) rfl)
    · exact st_free rfl (st_ev1 (dep_e 2 rfl rfl rfl) _ (by intro a w' h1 hI; have q0 := cell_of_row _ _ 1 _ _ _ (hI.obj HB.out id); go_simp) rfl)
    · exact st_free rfl (st_ev2 (dep_e 1 rfl rfl rfl) (dep_e 3 rfl rfl rfl) _ (by intro a w' h1 h2 hI; have q := H3.out; go_simp) rfl)
    · exact st_free rfl (st_ev1 (dep_f (t := 8) rfl rfl) _ (by intro a w' h1 hI; go_simp) rfl)
    · exact st_free rfl (st_ev1 (dep_e 5 rfl rfl rfl) _ (by intro a w' h1 hI; have q := H2.out; go_simp) rfl)
    · exact st_free rfl (st_ev1 (dep_f (t := 5) rfl rfl) _ (by intro a w' h1 hI; go_simp) rfl)
    · exact st_free rfl (st_ev1 (dep_e 7 rfl rfl rfl) _ (by intro a w' h1 hI; have q0 := cell_of_row _ _ 1 _ _ _ (hI.obj HB.out id); go_simp) rfl)
    · exact st_free rfl (st_ev2 (dep_e 6 rfl rfl rfl) (dep_e 8 rfl rfl rfl) _ (by intro a w' h1 h2 hI; have q := H4.out; go_simp) rfl)
    · exact st_free rfl (st_ev1 (dep_e 9 rfl rfl rfl) _ (by intro a w' h1 hI; have q := H5.out; go_simp) rfl)
    · exact st_free rfl (st_ev2 (dep_e 4 rfl rfl rfl) (dep_e 10 rfl rfl rfl) _ (by intro a w' h1 h2 hI; have q := H7.out; go_simp) rfl)
    · exact st_free rfl (st_ev1 (dep_f (t := 8) rfl rfl) _ (by intro a w' h1 hI; go_simp) rfl)
    · exact st_free rfl (st_ev1 (dep_e 12 rfl rfl rfl) _ (by intro a w' h1 hI; have q := H2.out; go_simp) rfl)
    · exact st_free rfl (st_ev1 (dep_f (t := 5) rfl rfl) _ (by intro a w' h1 hI; go_simp) rfl)
    · exact st_free rfl (st_ev1 (dep_e 14 rfl rfl rfl) _ (by intro a w' h1 hI; have q0 := cell_of_row _ _ 1 _ _ _ (hI.obj HB.out id); go_simp) rfl)
    · exact st_free rfl (st_ev2 (dep_e 13 rfl rfl rfl) (dep_e 15 rfl rfl rfl) _ (by intro a w' h1 h2 hI; have q := H4.out; go_simp) rfl)
    · exact st_free rfl (st_ev1 (dep_e 16 rfl rfl rfl) _ (by intro a w' h1 hI; have q := H6.out; go_simp) rfl)
    · exact st_free rfl (st_ev1 (dep_e 11 rfl rfl rfl) _ (by intro a w' h1 hI; go_simp) rfl)
    · exact st_free rfl (st_ev1 (dep_e 17 rfl rfl rfl) _ (by intro a w' h1 hI; go_simp) rfl)
  intro f' wn hkinds hI
  have k1 : f' 10 = .int .i64 X := hkinds 18 _ 10 rfl rfl
  have k2 : f' 11 = .int .i64 Y := hkinds 19 _ 11 rfl rfl
  simp only [putsOf, Act.put, List.setIfInBounds_toArray, List.set_cons_zero, List.set_cons_succ, k1, k2]
  clear hkinds k1 k2
  have HK3 := Lib.hid (HK2.out.trans hI)
  have HX := Lib.hid H8.out
  have HY := Lib.hid H9.out
  clear HB
  have HB := Lib.hid (HBOX.out _ HK3.out)
  clear hI H1 H2 H3 H4 H5 H6 H7 H8 H9
  go_upto_region 6 with (fail)
  obtain ⟨h2, l2, hN, lN, u2, X2, Y2, f1, f2, f3, f4, f5, f6, f7, f8, f9⟩ := halves E num (by omega) (by omega)
  have H1 := Lib.hid f1
  have H2 := Lib.hid f2
  have H3 := Lib.hid f3
  have H4 := Lib.hid f4
  have H5 := Lib.hid f5
  have H6 := Lib.hid f6
  have H7 := Lib.hid f7
  have H8 := Lib.hid f8
  have H9 := Lib.hid f9
  clear f1 f2 f3 f4 f5 f6 f7 f8 f9
  refine region_kindsG None [.is (.int .i64 E), .is (.int .i64 h2), .is (.pointer (some ⟨w.heap.size, 0, none⟩)), .is (.int .i64 num), .is (.int .i64 hN), .is (.int .i64 E), .is (.int .i64 l2), .is (.pointer (some ⟨w.heap.size, 0, none⟩)), .is (.int .i64 num), .is (.int .i64 lN), .is (.int .i64 u2), .is (.int .i64 X2), .is (.int .i64 E), .is (.int .i64 l2), .is (.pointer (some ⟨w.heap.size, 0, none⟩)), .is (.int .i64 num), .is (.int .i64 lN), .is (.int .i64 Y2), .is (.int .i64 X2), .is (.int .i64 Y2)]
    (fun w' => Keep None wn w') 80 (by kernel_rfl) (by kernel_rfl) rfl (by kernel_rfl) (Keep.refl _ _).drew ?_ ?_
  · refine ⟨?_, ?_, ?_, ?_, ?_, ?_, ?_, ?_, ?_, ?_, ?_, ?_, ?_, ?_, ?_, ?_, ?_, ?_, ?_, ?_, trivial⟩
    · exact st_free rfl (st_ev1 (dep_f (t := 12) rfl rfl) _ (by intro a w' h1 hI; go_simp) rfl)
    · exact st_free rfl (st_ev1 (dep_e 0 rfl rfl rfl) _ (by intro a w' h1 hI; have q := H1.out; go_simp) rfl)
    · exact st_free rfl (st_ev1 (dep_f (t := 5) rfl rfl) _ (by intro a w' h1 hI; go_simp) rfl)
    · exact st_free rfl (st_ev1 (dep_e 2 rfl rfl rfl) _ (by intro a w' h1 hI; have q0 := cell_of_row _ _ 0 _ _ _ (hI.obj HB.out id); go_simp) rfl)
    · exact st_free rfl (st_ev2 (dep_e 1 rfl rfl rfl) (dep_e 3 rfl rfl rfl) _ (by intro a w' h1 h2 hI; have q := H3.out; go_simp) rfl)
    · exact st_free rfl (st_ev1 (dep_f (t := 12) rfl rfl) _ (by intro a w' h1 hI; go_simp) rfl)
    · exact st_free rfl (st_ev1 (dep_e 5 rfl rfl rfl) _ (by intro a w' h1 hI; have q := H2.out; go_simp) rfl)
    · exact st_free rfl (st_ev1 (dep_f (t := 5) rfl rfl) _ (by intro a w' h1 hI; go_simp) rfl)
    · exact st_free rfl (st_ev1 (dep_e 7 rfl rfl rfl) _ (by intro a w' h1 hI; have q0 := cell_of_row _ _ 0 _ _ _ (hI.obj HB.out id); go_simp) rfl)
    · exact st_free rfl (st_ev2 (dep_e 6 rfl rfl rfl) (dep_e 8 rfl rfl rfl) _ (by intro a w' h1 h2 hI; have q := H4.out; go_simp) rfl)
    · exact st_free rfl (st_ev1 (dep_e 9 rfl rfl rfl) _ (by intro a w' h1 hI; have q := H5.out; go_simp) rfl)
    · exact st_free rfl (st_ev2 (dep_e 4 rfl rfl rfl) (dep_e 10 rfl rfl rfl) _ (by intro a w' h1 h2 hI; have q := H7.out; go_simp) rfl)
    · exact st_free rfl (st_ev1 (dep_f (t := 12) rfl rfl) _ (by intro a w' h1 hI; go_simp) rfl)
    · exact st_free rfl (st_ev1 (dep_e 12 rfl rfl rfl) _ (by intro a w' h1 hI; have q := H2.out; go_simp) rfl)
    · exact st_free rfl (st_ev1 (dep_f (t := 5) rfl rfl) _ (by intro a w' h1 hI; go_simp) rfl)
    · exact st_free rfl (st_ev1 (dep_e 14 rfl rfl rfl) _ (by intro a w' h1 hI; have q0 := cell_of_row _ _ 0 _ _ _ (hI.obj HB.out id); go_simp) rfl)
    · exact st_free rfl (st_ev2 (dep_e 13 rfl rfl rfl) (dep_e 15 rfl rfl rfl) _ (by intro a w' h1 h2 hI; have q := H4.out; go_simp) rfl)
    · exact st_free rfl (st_ev1 (dep_e 16 rfl rfl rfl) _ (by intro a w' h1 hI; have q := H6.out; go_simp) rfl)
    · exact st_free rfl (st_ev1 (dep_e 11 rfl rfl rfl) _ (by intro a w' h1 hI; go_simp) rfl)
    · exact st_free rfl (st_ev1 (dep_e 17 rfl rfl rfl) _ (by intro a w' h1 hI; go_simp) rfl)
  intro f' wm hkinds hI
  have k1 : f' 13 = .int .i64 X2 := hkinds 18 _ 13 rfl rfl
  have k2 : f' 14 = .int .i64 Y2 := hkinds 19 _ 14 rfl rfl
  simp only [putsOf, Act.put, List.setIfInBounds_toArray, List.set_cons_zero, List.set_cons_succ, k1, k2]
  clear hkinds k1 k2
  have HK4 := Lib.hid (HK3.out.trans hI)
  have HX2 := Lib.hid H8.out
  have HY2 := Lib.hid H9.out
  clear hI H1 H2 H3 H4 H5 H6 H7 H8 H9 HB
  have HSIG : Hid (sig n k num den = decide (T * den ≤ E * num)) := Lib.hid (by rw [HT.out, HE.out]; rfl)
  by_cases c1 : X < X2
  · have HS : Hid (sig n k num den = true) := Lib.hid (by rw [HSIG.out]; exact decide_eq_true (halves_lt (by rw [← HX.out, ← HX2.out]; exact c1)))
    have c1i : (X : Int) < X2 := by omega
    go_wp2_with (fail)
    go_ret2
    exact ⟨by rw [HS.out]; rfl, HK.out.trans HK4.out⟩
  · have c1i : ¬ (X : Int) < X2 := by omega
    by_cases c2 : X = X2
    · have c2i : ((X : Int) == X2) = true := by simp [c2]
      by_cases c3 : Y ≤ Y2
      · have HS : Hid (sig n k num den = true) := Lib.hid (by rw [HSIG.out]; exact decide_eq_true ((halves_eq (by rw [← HX.out, ← HX2.out]; exact c2)).2 (by rw [← HY.out, ← HY2.out]; exact c3)))
        have c3i : (Y : Int) ≤ Y2 := by omega
        clear c2i
        subst c2
        go_wp2_with (fail)
        go_ret2
        exact ⟨by rw [HS.out]; rfl, HK.out.trans HK4.out⟩
      · have HS : Hid (sig n k num den = false) := Lib.hid (by rw [HSIG.out]; exact decide_eq_false (fun h => c3 (by rw [HY.out, HY2.out]; exact (halves_eq (by rw [← HX.out, ← HX2.out]; exact c2)).1 h)))
        have c3i : ¬ (Y : Int) ≤ Y2 := by omega
        clear c2i
        subst c2
        go_wp2_with (fail)
        go_ret2
        exact ⟨by rw [HS.out]; rfl, HK.out.trans HK4.out⟩
    · have HS : Hid (sig n k num den = false) := Lib.hid (by rw [HSIG.out]; exact decide_eq_false (halves_gt (by rw [← HX.out, ← HX2.out]; exact c1) (by rw [← HX.out, ← HX2.out]; exact c2)))
      have c2i : ((X : Int) == X2) = false := by rw [beq_eq_false_iff_ne]; omega
      clear c2
      go_wp2_with (fail)
      go_ret2
      exact ⟨by rw [HS.out]; rfl, HK.out.trans HK4.out⟩

end Go.Proofs.YtgelfefoiplekaaDoor
