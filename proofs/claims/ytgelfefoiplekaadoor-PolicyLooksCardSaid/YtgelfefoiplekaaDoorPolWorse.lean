/-
  Chapter 43: whether pairs are significantly worse.
-/
import Derived.Test.YtgelfefoiplekaaDoorPolTail
namespace Go.Proofs.YtgelfefoiplekaaDoor
open Go.RowKit PN

set_option maxHeartbeats 2000000 in
theorem ranged_calls (n : Int) (w : World) (h0 : 0 ≤ n) (h1 : n ≤ 60) : Calls Tryd.prog 66 #[.int .i64 n] w (fun e w' => e = .returned (.bool true) ∧ w = w') := by
  go_enter Tryd.func66, Tryd.ntmps66
  go_wp2
  go_ret
  exact ⟨rfl, rfl⟩

set_option maxRecDepth 100000 in
set_option maxHeartbeats 4000000 in
theorem significance_calls (n k num den : Nat) (w : World) (hn : n ≤ 60) (hk : k ≤ n) (hl : lvlB num den = true) :
    Calls Tryd.prog 55 #[.int .i64 n, .int .i64 k, .agg #[.int .i64 num, .int .i64 den]] w (Gives None (.tuple #[.bool (sig n k num den), .int .i64 0]) w) := by
  have hp := lvl_parts hl
  have HL := Lib.hid hl
  clear hl
  have HBX : Hid (∃ W : World, Keep None w W ∧ W = w.alloc (.cells #[.int .i64 num, .int .i64 den] 28) ∧ W.heap[w.heap.size]? = some (.cells #[.int .i64 num, .int .i64 den] 28 (0, 0))) :=
    Lib.hid ⟨_, (Keep.refl None w).alloc _, rfl, heap_alloc_new _ _⟩
  obtain ⟨W, hKW, hWe, ho1⟩ := HBX.out
  have HK := Lib.hid hKW
  have HWE := Lib.hid hWe.symm
  have HBOX : Hid (∀ w', Keep None W w' → w'.heap[w.heap.size]? = some (.cells #[.int .i64 num, .int .i64 den] 28 (0, 0))) := Lib.hid (fun w' h => h.obj ho1 id)
  have hkr : Keep None W W := Keep.refl _ _
  clear HBX hKW hWe ho1
  go_enter Tryd.func55, Tryd.ntmps55
  go_upto_region 1 with (fail)
  rw [HWE.out]
  go_wp2_with (first
    | (go_at_call 66; refine (ranged_calls n _ (by omega) (by omega)).mono ?_; rintro e wr ⟨rfl, hw⟩; subst wr)
    | ((with_reducible (show wpList _ _ _ (⟨some 12, .load 28 _, _, _, _, some _⟩ :: _) _ _)); refine wpList_loadElG rfl 28 _ rfl (enc := listEnc) (size := 2) _ _ rfl [.int .i64 num, .int .i64 den] _ (range_of_obj (HBOX.out _ (by assumption))) rfl Tryd.underlying28 rfl Tryd.sizeLevel (.agg #[.int .i64 num, .int .i64 den]) rfl ?_)
    | (go_at_call 45; refine (lvl_statistics num den _).mono ?_; rintro e w2 ⟨rfl, hk2⟩; rw [HL.out])
    | ((with_reducible (show wpList _ _ _ (⟨some 18, .load 28 _, _, _, _, none⟩ :: _) _ _)); refine wpList_loadEl (enc := listEnc) (size := 2) rfl 28 _ rfl _ _ rfl [.int .i64 num, .int .i64 den] _ (range_of_obj (HBOX.out _ (by assumption))) rfl Tryd.underlying28 rfl Tryd.sizeLevel (.agg #[.int .i64 num, .int .i64 den]) rfl ?_)
    | (go_at_call 67; refine (significant_calls n k num den _ hn hk (by omega) (by omega)).mono ?_; rintro e w3 ⟨rfl, hk3⟩))
  go_ret2
  exact ⟨rfl, (HK.out.trans hk2).trans hk3⟩

/-- What Worse returns. -/
def worseV (m : Int) (l : List Pr) (num den : Nat) : Value := match signs m l with | some p => .tuple #[.bool (sig (p.1 + p.2) p.2 num den), .int .i64 0] | none => .tuple #[.bool false, .int .i64 1]

theorem signs_some {m : Int} {l : List Pr} {p : Nat × Nat} (h : signs m l = some p) : p = (nb m l, nw m l) ∧ p.1 + p.2 ≤ 60 ∧ 0 ≤ m := by
  unfold signs at h
  split at h
  · rename_i hc
    simp only [Bool.and_eq_true, decide_eq_true_eq] at hc
    cases h
    have := nb_nw_le hc.1.1.1 l hc.2
    exact ⟨rfl, by simp only; omega, hc.1.1.1⟩
  · cases h

set_option maxRecDepth 100000 in
set_option maxHeartbeats 4000000 in
theorem worse_calls (q : Option Addr) (c : Nat) (l : List Pr) (m : Int) (num den : Nat) (w : World) (h : SliceV prEnc 2 w q l) (hl : l.length ≤ 1000000000000) (hm : i64 m) (hlv : lvlB num den = true) :
    Calls Tryd.prog 47 #[.slice q l.length c, .int .i64 m, .agg #[.int .i64 num, .int .i64 den]] w (Gives None (worseV m l num den) w) := by
  have HLV := Lib.hid hlv
  have HQ := Lib.hid h
  clear hlv h
  have HBX : Hid (∃ W : World, Keep None w W ∧ W = w.alloc (.cells #[.int .i64 num, .int .i64 den] 28) ∧ W.heap[w.heap.size]? = some (.cells #[.int .i64 num, .int .i64 den] 28 (0, 0))) :=
    Lib.hid ⟨_, (Keep.refl None w).alloc _, rfl, heap_alloc_new _ _⟩
  obtain ⟨W, hKW, hWe, ho1⟩ := HBX.out
  have HK := Lib.hid hKW
  have HWE := Lib.hid hWe.symm
  have HBOX : Hid (∀ w', Keep None W w' → w'.heap[w.heap.size]? = some (.cells #[.int .i64 num, .int .i64 den] 28 (0, 0))) := Lib.hid (fun w' h => h.obj ho1 id)
  clear HBX hKW hWe ho1
  cases hs : signs m l with
  | none =>
    have HS : Hid (signsV m l = .tuple #[.int .i64 0, .int .i64 0, .int .i64 1]) := Lib.hid (by unfold signsV; rw [hs])
    have HW : Hid (worseV m l num den = .tuple #[.bool false, .int .i64 1]) := Lib.hid (by unfold worseV; rw [hs])
    clear hs
    go_enter Tryd.func47, Tryd.ntmps47
    go_upto_region 1 with (fail)
    rw [HWE.out]
    go_wp2_with (go_at_call 35; refine (signs_calls q c l m _ (HQ.out.keep HK.out (fun _ _ => id)) hl hm).mono ?_; rintro e w2 ⟨rfl, hk2⟩; rw [HS.out])
    go_ret2
    exact ⟨by rw [HW.out]; rfl, HK.out.trans hk2⟩
  | some p =>
    obtain ⟨b, u⟩ := p
    have hbu := (signs_some hs).2.1
    simp only at hbu
    have HS : Hid (signsV m l = .tuple #[.int .i64 b, .int .i64 u, .int .i64 0]) := Lib.hid (by unfold signsV; rw [hs])
    have HW : Hid (worseV m l num den = .tuple #[.bool (sig (b + u) u num den), .int .i64 0]) := Lib.hid (by unfold worseV; rw [hs])
    clear hs
    go_enter Tryd.func47, Tryd.ntmps47
    go_upto_region 1 with (fail)
    rw [HWE.out]
    go_wp2_with (first
      | (go_at_call 35; refine (signs_calls q c l m _ (HQ.out.keep HK.out (fun _ _ => id)) hl hm).mono ?_; rintro e w2 ⟨rfl, hk2⟩; rw [HS.out])
      | ((with_reducible (show wpList _ _ _ (⟨some 25, .load 28 _, _, _, _, none⟩ :: _) _ _)); refine wpList_loadEl (enc := listEnc) (size := 2) rfl 28 _ rfl _ _ rfl [.int .i64 num, .int .i64 den] _ (range_of_obj (HBOX.out _ (by assumption))) rfl Tryd.underlying28 rfl Tryd.sizeLevel (.agg #[.int .i64 num, .int .i64 den]) rfl ?_)
      | (go_at_call 55; refine (significance_calls (b + u) u num den _ (by omega) (by omega) HLV.out).mono ?_; rintro e w3 ⟨rfl, hk3⟩))
    go_ret2
    exact ⟨by rw [HW.out]; rfl, (HK.out.trans hk2).trans hk3⟩

end Go.Proofs.YtgelfefoiplekaaDoor
