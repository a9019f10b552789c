/-
  Chapter 43: levels and shares.
-/
import Derived.Test.YtgelfefoiplekaaDoorCodeInt
import Derived.Test.YtgelfefoiplekaaDoorMisc
import Derived.Test.YtgelfefoiplekaaDoorPolVerd
namespace Go.Proofs.YtgelfefoiplekaaDoor
open Go.RowKit PN

def lvlB (num den : Int) : Bool := decide (1 ≤ den) && decide (den ≤ 1000000) && decide (0 ≤ num) && decide (num ≤ den)
theorem lvl_parts {num den : Int} (h : lvlB num den = true) : 1 ≤ den ∧ den ≤ 1000000 ∧ 0 ≤ num ∧ num ≤ den := by
  simp only [lvlB, Bool.and_eq_true, decide_eq_true_eq] at h
  exact ⟨h.1.1.1, h.1.1.2, h.1.2, h.2⟩

set_option maxHeartbeats 2000000 in
theorem lvl_statistics (num den : Int) (w : World) : Calls Tryd.prog 45 #[.agg #[.int .i64 num, .int .i64 den]] w (Gives None (.bool (lvlB num den)) w) := by
  cases h1 : decide (1 ≤ den) <;> cases h2 : decide (den ≤ 1000000) <;> cases h3 : decide (0 ≤ num) <;> cases h4 : decide (num ≤ den)
  all_goals (go_enter Tryd.func45, Tryd.ntmps45; go_wp2; go_ret; exact ⟨by simp [lvlB, h1, h2, h3, h4], (Keep.refl _ _).alloc _⟩)
set_option maxHeartbeats 2000000 in
theorem lvl_warmpathref43 (num den : Int) (w : World) : Calls Tryd.prog 48 #[.agg #[.int .i64 num, .int .i64 den]] w (Gives None (.bool (lvlB num den)) w) := by
  cases h1 : decide (1 ≤ den) <;> cases h2 : decide (den ≤ 1000000) <;> cases h3 : decide (0 ≤ num) <;> cases h4 : decide (num ≤ den)
  all_goals (go_enter Tryd.func48, Tryd.ntmps48; go_wp2; go_ret; exact ⟨by simp [lvlB, h1, h2, h3, h4], (Keep.refl _ _).alloc _⟩)

theorem Tryd.sizeLevel : (Tryd.prog.info? 28).map (·.size) = some 2 := by kernel_rfl
/-- What Share returns. -/
def shareV (num den : Int) (n : Nat) : Value := if shareB num den n then .tuple #[.agg #[.int .i64 num, .int .i64 (den * n)], .int .i64 0] else .tuple #[.agg #[.int .i64 0, .int .i64 0], .int .i64 1]
theorem share_bad {num den : Int} {n : Nat} (h : lvlB num den = false ∨ n < 1 ∨ 8 < n ∨ 1000000 < den * (n : Int)) : shareV num den n = .tuple #[.agg #[.int .i64 0, .int .i64 0], .int .i64 1] := by
  unfold shareV
  have : shareB num den n = false := by
    unfold shareB
    unfold lvlB at h
    rcases h with h | h | h | h
    · rw [h]; rfl
    · simp [show ¬ 1 ≤ n by omega]
    · simp [show ¬ n ≤ 8 by omega]
    · simp [show ¬ den * (n : Int) ≤ 1000000 by omega]
  rw [this]; rfl
theorem share_good {num den : Int} {n : Nat} (h : lvlB num den = true) (h1 : 1 ≤ n) (h2 : n ≤ 8) (h3 : den * (n : Int) ≤ 1000000) : shareV num den n = .tuple #[.agg #[.int .i64 num, .int .i64 (den * n)], .int .i64 0] := by
  unfold shareV
  have : shareB num den n = true := by
    unfold shareB
    unfold lvlB at h
    rw [h]; simp [h1, h2, h3]
  rw [this]; rfl

set_option maxHeartbeats 2000000 in
theorem share_statistics (num den : Int) (n : Nat) (w : World) (hn : n ≤ 1000000) :
    Calls Tryd.prog 33 #[.agg #[.int .i64 num, .int .i64 den], .int .i64 n] w (Gives None (shareV num den n) w) := by
  have HBX : Hid (∃ W : World, Keep None w W ∧ W = (w.alloc (.cells #[.int .i64 num, .int .i64 den] 28)).alloc (.cells #[.int .i64 0, .int .i64 0] 28) ∧ W.heap[w.heap.size]? = some (.cells #[.int .i64 num, .int .i64 den] 28 (0, 0)) ∧ W.heap[w.heap.size + 1]? = some (.cells #[.int .i64 0, .int .i64 0] 28 (0, 0))) :=
    Lib.hid ⟨_, ((Keep.refl None w).alloc _).alloc _, rfl, ((Keep.refl None _).alloc _).obj (heap_alloc_new _ _) id, alloc_at (by simp)⟩
  obtain ⟨W, hKW, hWe, ho1, ho2⟩ := HBX.out
  have HK := Lib.hid hKW
  have HWE := Lib.hid hWe.symm
  have O1 := Lib.hid ho1
  have O2 := Lib.hid ho2
  have b1 : Hid (∀ W' : World, Keep None W W' → W'.cell? ⟨w.heap.size, 0, none⟩ = some (.int .i64 num) ∧ W'.cell? ⟨w.heap.size, 1, none⟩ = some (.int .i64 den)) := Lib.hid (fun W' hk => by
    have h2 := hk.obj O1.out id
    simp [World.cell?, h2])
  clear HBX hKW hWe ho1 ho2
  cases hv : lvlB num den with
  | false =>
    have HS := Lib.hid (share_bad (n := n) (.inl hv))
    have HV := Lib.hid hv
    clear hv
    go_enter Tryd.func33, Tryd.ntmps33
    go_wp2_with (first | ((with_reducible (show wpList _ _ _ (⟨some 6, .load 28 _, _, _, _, none⟩ :: _) _ _)); (try rw [HWE.out]); refine wpList_loadEl (enc := listEnc) (size := 2) rfl 28 _ rfl _ _ rfl [.int .i64 num, .int .i64 den] _ (range_of_obj O1.out) rfl Tryd.underlying28 rfl Tryd.sizeLevel (.agg #[.int .i64 num, .int .i64 den]) rfl ?_) | (go_at_call 45; (try rw [HWE.out]); refine (lvl_statistics num den W).mono ?_; rintro e w1 ⟨rfl, hk1⟩; rw [HV.out]; obtain ⟨c0, c1⟩ := b1.out _ hk1; have HK1 := Lib.hid hk1; clear hk1) | ((with_reducible (show wpList _ _ _ (⟨_, .store 28 (.tmp 4) _, _, _, _, none⟩ :: _) _ _)); (refine wpList_storeObj rfl 28 _ _ rfl (w.heap.size + 1) rfl [.int .i64 0, .int .i64 0] [.int .i64 0, .int .i64 0] rfl _ (by simp) (HK1.out.obj O2.out id) 2 Tryd.sizeLevel rfl (by simp [Value.oneCell']) ?_); intro w9 hres hk9 hs9; have HRES := Lib.hid hres; have HK9 := Lib.hid hk9; clear hres hk9 hs9))
    (refine bodyPost_ret (results_obj_tmp rfl rfl _ _ (range_of_obj HRES.out) Tryd.underlying28 rfl 2 Tryd.sizeLevel rfl) rfl ?_; exact ⟨by rw [HS.out]; rfl, (HK.out.trans HK1.out).andThen HK9.out (by intro k h1 h2; omega)⟩)
  | true =>
    obtain ⟨h1, h2, h3, h4⟩ := lvl_parts hv
    have HV := Lib.hid hv
    clear hv
    by_cases k1 : n < 1
    · have d1 : decide ((n : Int) < 1) = true := by simp; omega
      have HS := Lib.hid (share_bad (num := num) (den := den) (n := n) (.inr (.inl k1)))
      go_enter Tryd.func33, Tryd.ntmps33
      go_wp2_with (first | ((with_reducible (show wpList _ _ _ (⟨some 6, .load 28 _, _, _, _, none⟩ :: _) _ _)); (try rw [HWE.out]); refine wpList_loadEl (enc := listEnc) (size := 2) rfl 28 _ rfl _ _ rfl [.int .i64 num, .int .i64 den] _ (range_of_obj O1.out) rfl Tryd.underlying28 rfl Tryd.sizeLevel (.agg #[.int .i64 num, .int .i64 den]) rfl ?_) | (go_at_call 45; (try rw [HWE.out]); refine (lvl_statistics num den W).mono ?_; rintro e w1 ⟨rfl, hk1⟩; rw [HV.out]; obtain ⟨c0, c1⟩ := b1.out _ hk1; have HK1 := Lib.hid hk1; clear hk1) | ((with_reducible (show wpList _ _ _ (⟨_, .store 28 (.tmp 4) _, _, _, _, none⟩ :: _) _ _)); (refine wpList_storeObj rfl 28 _ _ rfl (w.heap.size + 1) rfl [.int .i64 0, .int .i64 0] [.int .i64 0, .int .i64 0] rfl _ (by simp) (HK1.out.obj O2.out id) 2 Tryd.sizeLevel rfl (by simp [Value.oneCell']) ?_); intro w9 hres hk9 hs9; have HRES := Lib.hid hres; have HK9 := Lib.hid hk9; clear hres hk9 hs9))
      · (refine bodyPost_ret (results_obj_tmp rfl rfl _ _ (range_of_obj HRES.out) Tryd.underlying28 rfl 2 Tryd.sizeLevel rfl) rfl ?_; exact ⟨by rw [HS.out]; rfl, (HK.out.trans HK1.out).andThen HK9.out (by intro k h1 h2; omega)⟩)
    · have d1 : decide ((n : Int) < 1) = false := by simp; omega
      by_cases k2 : 8 < n
      · have d2 : decide ((8 : Int) < n) = true := by simp; omega
        have HS := Lib.hid (share_bad (num := num) (den := den) (n := n) (.inr (.inr (.inl k2))))
        go_enter Tryd.func33, Tryd.ntmps33
        go_wp2_with (first | ((with_reducible (show wpList _ _ _ (⟨some 6, .load 28 _, _, _, _, none⟩ :: _) _ _)); (try rw [HWE.out]); refine wpList_loadEl (enc := listEnc) (size := 2) rfl 28 _ rfl _ _ rfl [.int .i64 num, .int .i64 den] _ (range_of_obj O1.out) rfl Tryd.underlying28 rfl Tryd.sizeLevel (.agg #[.int .i64 num, .int .i64 den]) rfl ?_) | (go_at_call 45; (try rw [HWE.out]); refine (lvl_statistics num den W).mono ?_; rintro e w1 ⟨rfl, hk1⟩; rw [HV.out]; obtain ⟨c0, c1⟩ := b1.out _ hk1; have HK1 := Lib.hid hk1; clear hk1) | ((with_reducible (show wpList _ _ _ (⟨_, .store 28 (.tmp 4) _, _, _, _, none⟩ :: _) _ _)); (refine wpList_storeObj rfl 28 _ _ rfl (w.heap.size + 1) rfl [.int .i64 0, .int .i64 0] [.int .i64 0, .int .i64 0] rfl _ (by simp) (HK1.out.obj O2.out id) 2 Tryd.sizeLevel rfl (by simp [Value.oneCell']) ?_); intro w9 hres hk9 hs9; have HRES := Lib.hid hres; have HK9 := Lib.hid hk9; clear hres hk9 hs9))
        (refine bodyPost_ret (results_obj_tmp rfl rfl _ _ (range_of_obj HRES.out) Tryd.underlying28 rfl 2 Tryd.sizeLevel rfl) rfl ?_; exact ⟨by rw [HS.out]; rfl, (HK.out.trans HK1.out).andThen HK9.out (by intro k h1 h2; omega)⟩)
      · have d2 : decide ((8 : Int) < n) = false := by simp; omega
        have m0 : 0 ≤ den * (n : Int) := Int.mul_nonneg (by omega) (by omega)
        have m1 : den * (n : Int) ≤ 1000000 * 8 := Int.mul_le_mul (by omega) (by omega) (by omega) (by omega)
        by_cases k3 : 1000000 < den * (n : Int)
        · have d3 : decide (1000000 < den * (n : Int)) = true := by simpa using k3
          have HS := Lib.hid (share_bad (num := num) (den := den) (n := n) (.inr (.inr (.inr k3))))
          go_enter Tryd.func33, Tryd.ntmps33
          go_wp2_with (first | ((with_reducible (show wpList _ _ _ (⟨some 6, .load 28 _, _, _, _, none⟩ :: _) _ _)); (try rw [HWE.out]); refine wpList_loadEl (enc := listEnc) (size := 2) rfl 28 _ rfl _ _ rfl [.int .i64 num, .int .i64 den] _ (range_of_obj O1.out) rfl Tryd.underlying28 rfl Tryd.sizeLevel (.agg #[.int .i64 num, .int .i64 den]) rfl ?_) | (go_at_call 45; (try rw [HWE.out]); refine (lvl_statistics num den W).mono ?_; rintro e w1 ⟨rfl, hk1⟩; rw [HV.out]; obtain ⟨c0, c1⟩ := b1.out _ hk1; have HK1 := Lib.hid hk1; clear hk1) | ((with_reducible (show wpList _ _ _ (⟨_, .store 28 (.tmp 4) _, _, _, _, none⟩ :: _) _ _)); (refine wpList_storeObj rfl 28 _ _ rfl (w.heap.size + 1) rfl [.int .i64 0, .int .i64 0] [.int .i64 0, .int .i64 0] rfl _ (by simp) (HK1.out.obj O2.out id) 2 Tryd.sizeLevel rfl (by simp [Value.oneCell']) ?_); intro w9 hres hk9 hs9; have HRES := Lib.hid hres; have HK9 := Lib.hid hk9; clear hres hk9 hs9))
          (refine bodyPost_ret (results_obj_tmp rfl rfl _ _ (range_of_obj HRES.out) Tryd.underlying28 rfl 2 Tryd.sizeLevel rfl) rfl ?_; exact ⟨by rw [HS.out]; rfl, (HK.out.trans HK1.out).andThen HK9.out (by intro k h1 h2; omega)⟩)
        · have d3 : decide (1000000 < den * (n : Int)) = false := by simpa using k3
          have HS := Lib.hid (share_good HV.out (n := n) (by omega) (by omega) (by omega))
          go_enter Tryd.func33, Tryd.ntmps33
          go_wp2_with (first | ((with_reducible (show wpList _ _ _ (⟨some 6, .load 28 _, _, _, _, none⟩ :: _) _ _)); (try rw [HWE.out]); refine wpList_loadEl (enc := listEnc) (size := 2) rfl 28 _ rfl _ _ rfl [.int .i64 num, .int .i64 den] _ (range_of_obj O1.out) rfl Tryd.underlying28 rfl Tryd.sizeLevel (.agg #[.int .i64 num, .int .i64 den]) rfl ?_) | (go_at_call 45; (try rw [HWE.out]); refine (lvl_statistics num den W).mono ?_; rintro e w1 ⟨rfl, hk1⟩; rw [HV.out]; obtain ⟨c0, c1⟩ := b1.out _ hk1; have HK1 := Lib.hid hk1; clear hk1) | ((with_reducible (show wpList _ _ _ (⟨_, .store 28 (.tmp 4) _, _, _, _, none⟩ :: _) _ _)); (refine wpList_storeObj rfl 28 _ _ rfl (w.heap.size + 1) rfl [.int .i64 0, .int .i64 0] [.int .i64 num, .int .i64 (den * n)] rfl _ (by simp) (HK1.out.obj O2.out id) 2 Tryd.sizeLevel rfl (by simp [Value.oneCell']) ?_); intro w9 hres hk9 hs9; have HRES := Lib.hid hres; have HK9 := Lib.hid hk9; clear hres hk9 hs9))
          (refine bodyPost_ret (results_obj_tmp rfl rfl _ _ (range_of_obj HRES.out) Tryd.underlying28 rfl 2 Tryd.sizeLevel rfl) rfl ?_; exact ⟨by rw [HS.out]; rfl, (HK.out.trans HK1.out).andThen HK9.out (by intro k h1 h2; omega)⟩)
set_option maxHeartbeats 2000000 in
theorem share_warmpathref43 (num den : Int) (n : Nat) (w : World) (hn : n ≤ 1000000) :
    Calls Tryd.prog 37 #[.agg #[.int .i64 num, .int .i64 den], .int .i64 n] w (Gives None (shareV num den n) w) := by
  have HBX : Hid (∃ W : World, Keep None w W ∧ W = (w.alloc (.cells #[.int .i64 num, .int .i64 den] 28)).alloc (.cells #[.int .i64 0, .int .i64 0] 28) ∧ W.heap[w.heap.size]? = some (.cells #[.int .i64 num, .int .i64 den] 28 (0, 0)) ∧ W.heap[w.heap.size + 1]? = some (.cells #[.int .i64 0, .int .i64 0] 28 (0, 0))) :=
    Lib.hid ⟨_, ((Keep.refl None w).alloc _).alloc _, rfl, ((Keep.refl None _).alloc _).obj (heap_alloc_new _ _) id, alloc_at (by simp)⟩
  obtain ⟨W, hKW, hWe, ho1, ho2⟩ := HBX.out
  have HK := Lib.hid hKW
  have HWE := Lib.hid hWe.symm
  have O1 := Lib.hid ho1
  have O2 := Lib.hid ho2
  have b1 : Hid (∀ W' : World, Keep None W W' → W'.cell? ⟨w.heap.size, 0, none⟩ = some (.int .i64 num) ∧ W'.cell? ⟨w.heap.size, 1, none⟩ = some (.int .i64 den)) := Lib.hid (fun W' hk => by
    have h2 := hk.obj O1.out id
    simp [World.cell?, h2])
  clear HBX hKW hWe ho1 ho2
  cases hv : lvlB num den with
  | false =>
    have HS := Lib.hid (share_bad (n := n) (.inl hv))
    have HV := Lib.hid hv
    clear hv
    go_enter Tryd.func37, Tryd.ntmps37
    go_wp2_with (first | ((with_reducible (show wpList _ _ _ (⟨some 6, .load 28 _, _, _, _, none⟩ :: _) _ _)); (try rw [HWE.out]); refine wpList_loadEl (enc := listEnc) (size := 2) rfl 28 _ rfl _ _ rfl [.int .i64 num, .int .i64 den] _ (range_of_obj O1.out) rfl Tryd.underlying28 rfl Tryd.sizeLevel (.agg #[.int .i64 num, .int .i64 den]) rfl ?_) | (go_at_call 48; (try rw [HWE.out]); refine (lvl_warmpathref43 num den W).mono ?_; rintro e w1 ⟨rfl, hk1⟩; rw [HV.out]; obtain ⟨c0, c1⟩ := b1.out _ hk1; have HK1 := Lib.hid hk1; clear hk1) | ((with_reducible (show wpList _ _ _ (⟨_, .store 28 (.tmp 4) _, _, _, _, none⟩ :: _) _ _)); (refine wpList_storeObj rfl 28 _ _ rfl (w.heap.size + 1) rfl [.int .i64 0, .int .i64 0] [.int .i64 0, .int .i64 0] rfl _ (by simp) (HK1.out.obj O2.out id) 2 Tryd.sizeLevel rfl (by simp [Value.oneCell']) ?_); intro w9 hres hk9 hs9; have HRES := Lib.hid hres; have HK9 := Lib.hid hk9; clear hres hk9 hs9))
    (refine bodyPost_ret (results_obj_tmp rfl rfl _ _ (range_of_obj HRES.out) Tryd.underlying28 rfl 2 Tryd.sizeLevel rfl) rfl ?_; exact ⟨by rw [HS.out]; rfl, (HK.out.trans HK1.out).andThen HK9.out (by intro k h1 h2; omega)⟩)
  | true =>
    obtain ⟨h1, h2, h3, h4⟩ := lvl_parts hv
    have HV := Lib.hid hv
    clear hv
    by_cases k1 : n < 1
    · have d1 : decide ((n : Int) < 1) = true := by simp; omega
      have HS := Lib.hid (share_bad (num := num) (den := den) (n := n) (.inr (.inl k1)))
      go_enter Tryd.func37, Tryd.ntmps37
      go_wp2_with (first | ((with_reducible (show wpList _ _ _ (⟨some 6, .load 28 _, _, _, _, none⟩ :: _) _ _)); (try rw [HWE.out]); refine wpList_loadEl (enc := listEnc) (size := 2) rfl 28 _ rfl _ _ rfl [.int .i64 num, .int .i64 den] _ (range_of_obj O1.out) rfl Tryd.underlying28 rfl Tryd.sizeLevel (.agg #[.int .i64 num, .int .i64 den]) rfl ?_) | (go_at_call 48; (try rw [HWE.out]); refine (lvl_warmpathref43 num den W).mono ?_; rintro e w1 ⟨rfl, hk1⟩; rw [HV.out]; obtain ⟨c0, c1⟩ := b1.out _ hk1; have HK1 := Lib.hid hk1; clear hk1) | ((with_reducible (show wpList _ _ _ (⟨_, .store 28 (.tmp 4) _, _, _, _, none⟩ :: _) _ _)); (refine wpList_storeObj rfl 28 _ _ rfl (w.heap.size + 1) rfl [.int .i64 0, .int .i64 0] [.int .i64 0, .int .i64 0] rfl _ (by simp) (HK1.out.obj O2.out id) 2 Tryd.sizeLevel rfl (by simp [Value.oneCell']) ?_); intro w9 hres hk9 hs9; have HRES := Lib.hid hres; have HK9 := Lib.hid hk9; clear hres hk9 hs9))
      · (refine bodyPost_ret (results_obj_tmp rfl rfl _ _ (range_of_obj HRES.out) Tryd.underlying28 rfl 2 Tryd.sizeLevel rfl) rfl ?_; exact ⟨by rw [HS.out]; rfl, (HK.out.trans HK1.out).andThen HK9.out (by intro k h1 h2; omega)⟩)
    · have d1 : decide ((n : Int) < 1) = false := by simp; omega
      by_cases k2 : 8 < n
      · have d2 : decide ((8 : Int) < n) = true := by simp; omega
        have HS := Lib.hid (share_bad (num := num) (den := den) (n := n) (.inr (.inr (.inl k2))))
        go_enter Tryd.func37, Tryd.ntmps37
        go_wp2_with (first | ((with_reducible (show wpList _ _ _ (⟨some 6, .load 28 _, _, _, _, none⟩ :: _) _ _)); (try rw [HWE.out]); refine wpList_loadEl (enc := listEnc) (size := 2) rfl 28 _ rfl _ _ rfl [.int .i64 num, .int .i64 den] _ (range_of_obj O1.out) rfl Tryd.underlying28 rfl Tryd.sizeLevel (.agg #[.int .i64 num, .int .i64 den]) rfl ?_) | (go_at_call 48; (try rw [HWE.out]); refine (lvl_warmpathref43 num den W).mono ?_; rintro e w1 ⟨rfl, hk1⟩; rw [HV.out]; obtain ⟨c0, c1⟩ := b1.out _ hk1; have HK1 := Lib.hid hk1; clear hk1) | ((with_reducible (show wpList _ _ _ (⟨_, .store 28 (.tmp 4) _, _, _, _, none⟩ :: _) _ _)); (refine wpList_storeObj rfl 28 _ _ rfl (w.heap.size + 1) rfl [.int .i64 0, .int .i64 0] [.int .i64 0, .int .i64 0] rfl _ (by simp) (HK1.out.obj O2.out id) 2 Tryd.sizeLevel rfl (by simp [Value.oneCell']) ?_); intro w9 hres hk9 hs9; have HRES := Lib.hid hres; have HK9 := Lib.hid hk9; clear hres hk9 hs9))
        (refine bodyPost_ret (results_obj_tmp rfl rfl _ _ (range_of_obj HRES.out) Tryd.underlying28 rfl 2 Tryd.sizeLevel rfl) rfl ?_; exact ⟨by rw [HS.out]; rfl, (HK.out.trans HK1.out).andThen HK9.out (by intro k h1 h2; omega)⟩)
      · have d2 : decide ((8 : Int) < n) = false := by simp; omega
        have m0 : 0 ≤ den * (n : Int) := Int.mul_nonneg (by omega) (by omega)
        have m1 : den * (n : Int) ≤ 1000000 * 8 := Int.mul_le_mul (by omega) (by omega) (by omega) (by omega)
        by_cases k3 : 1000000 < den * (n : Int)
        · have d3 : decide (1000000 < den * (n : Int)) = true := by simpa using k3
          have HS := Lib.hid (share_bad (num := num) (den := den) (n := n) (.inr (.inr (.inr k3))))
          go_enter Tryd.func37, Tryd.ntmps37
          go_wp2_with (first | ((with_reducible (show wpList _ _ _ (⟨some 6, .load 28 _, _, _, _, none⟩ :: _) _ _)); (try rw [HWE.out]); refine wpList_loadEl (enc := listEnc) (size := 2) rfl 28 _ rfl _ _ rfl [.int .i64 num, .int .i64 den] _ (range_of_obj O1.out) rfl Tryd.underlying28 rfl Tryd.sizeLevel (.agg #[.int .i64 num, .int .i64 den]) rfl ?_) | (go_at_call 48; (try rw [HWE.out]); refine (lvl_warmpathref43 num den W).mono ?_; rintro e w1 ⟨rfl, hk1⟩; rw [HV.out]; obtain ⟨c0, c1⟩ := b1.out _ hk1; have HK1 := Lib.hid hk1; clear hk1) | ((with_reducible (show wpList _ _ _ (⟨_, .store 28 (.tmp 4) _, _, _, _, none⟩ :: _) _ _)); (refine wpList_storeObj rfl 28 _ _ rfl (w.heap.size + 1) rfl [.int .i64 0, .int .i64 0] [.int .i64 0, .int .i64 0] rfl _ (by simp) (HK1.out.obj O2.out id) 2 Tryd.sizeLevel rfl (by simp [Value.oneCell']) ?_); intro w9 hres hk9 hs9; have HRES := Lib.hid hres; have HK9 := Lib.hid hk9; clear hres hk9 hs9))
          (refine bodyPost_ret (results_obj_tmp rfl rfl _ _ (range_of_obj HRES.out) Tryd.underlying28 rfl 2 Tryd.sizeLevel rfl) rfl ?_; exact ⟨by rw [HS.out]; rfl, (HK.out.trans HK1.out).andThen HK9.out (by intro k h1 h2; omega)⟩)
        · have d3 : decide (1000000 < den * (n : Int)) = false := by simpa using k3
          have HS := Lib.hid (share_good HV.out (n := n) (by omega) (by omega) (by omega))
          go_enter Tryd.func37, Tryd.ntmps37
          go_wp2_with (first | ((with_reducible (show wpList _ _ _ (⟨some 6, .load 28 _, _, _, _, none⟩ :: _) _ _)); (try rw [HWE.out]); refine wpList_loadEl (enc := listEnc) (size := 2) rfl 28 _ rfl _ _ rfl [.int .i64 num, .int .i64 den] _ (range_of_obj O1.out) rfl Tryd.underlying28 rfl Tryd.sizeLevel (.agg #[.int .i64 num, .int .i64 den]) rfl ?_) | (go_at_call 48; (try rw [HWE.out]); refine (lvl_warmpathref43 num den W).mono ?_; rintro e w1 ⟨rfl, hk1⟩; rw [HV.out]; obtain ⟨c0, c1⟩ := b1.out _ hk1; have HK1 := Lib.hid hk1; clear hk1) | ((with_reducible (show wpList _ _ _ (⟨_, .store 28 (.tmp 4) _, _, _, _, none⟩ :: _) _ _)); (refine wpList_storeObj rfl 28 _ _ rfl (w.heap.size + 1) rfl [.int .i64 0, .int .i64 0] [.int .i64 num, .int .i64 (den * n)] rfl _ (by simp) (HK1.out.obj O2.out id) 2 Tryd.sizeLevel rfl (by simp [Value.oneCell']) ?_); intro w9 hres hk9 hs9; have HRES := Lib.hid hres; have HK9 := Lib.hid hk9; clear hres hk9 hs9))
          (refine bodyPost_ret (results_obj_tmp rfl rfl _ _ (range_of_obj HRES.out) Tryd.underlying28 rfl 2 Tryd.sizeLevel rfl) rfl ?_; exact ⟨by rw [HS.out]; rfl, (HK.out.trans HK1.out).andThen HK9.out (by intro k h1 h2; omega)⟩)

end Go.Proofs.YtgelfefoiplekaaDoor
