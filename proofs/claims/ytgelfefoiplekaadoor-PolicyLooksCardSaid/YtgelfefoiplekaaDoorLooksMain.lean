/-
  Chapter 44: PolicyLooks of long inputs.
-/
import Derived.Test.YtgelfefoiplekaaDoorOpenPol
namespace Go.Proofs.YtgelfefoiplekaaDoor
open Go.RowKit PN

set_option maxRecDepth 100000 in
set_option maxHeartbeats 8000000 in
theorem looks_long (pc a0 ql : Option Addr) (lb cap n0 c0 nl cl : Nat) (num den mg sg : Int) (w : World) (hE : Env w) (h6 : 6 ≤ w.heap.size) (hl : 20 < n0 ∨ 100 < nl) :
    Calls Tryd.prog 8 #[.slice pc lb cap, .agg #[.slice a0 n0 c0, .int .i64 num, .int .i64 den, .int .i64 mg], .slice ql nl cl, .int .i64 sg] w (Gives None (.bool true) w) := by
  have HE := Lib.hid hE
  clear hE
  have HBX : Hid (∃ W : World, Keep None w W ∧ W = w.alloc (.cells #[.slice a0 n0 c0, .int .i64 num, .int .i64 den, .int .i64 mg] 30) ∧ W.heap[w.heap.size]? = some (.cells #[.slice a0 n0 c0, .int .i64 num, .int .i64 den, .int .i64 mg] 30 (0, 0)) ∧ W.heap.size = w.heap.size + 1) :=
    Lib.hid ⟨_, (Keep.refl None w).alloc _, rfl, heap_alloc_new _ _, by simp⟩
  obtain ⟨W, hKW, hWe, ho1, hsz⟩ := HBX.out
  have HKW := Lib.hid hKW
  have HWE := Lib.hid hWe.symm
  have HT := Lib.hid ho1
  clear HBX hKW hWe ho1
  by_cases hA : (20 : Int) < n0
  · go_enter Tryd.func8, Tryd.ntmps8
    go_wp2_with (go_at_call 9; (try rw [HWE.out]); refine (awake_calls _ (HE.out.still HKW.out) (by omega)).mono ?_; rintro e w1 ⟨rfl, hk1⟩; have q0 : w1.cell? ⟨w.heap.size, 0, none⟩ = some (.slice a0 n0 c0) := cell_of_row _ _ 0 _ _ _ (hk1.obj HT.out id); have HK1 := Lib.hid hk1; clear hk1)
    go_ret
    exact ⟨rfl, HKW.out.trans HK1.out⟩
  · have hB : (100 : Int) < nl := by omega
    go_enter Tryd.func8, Tryd.ntmps8
    go_wp2_with (go_at_call 9; (try rw [HWE.out]); refine (awake_calls _ (HE.out.still HKW.out) (by omega)).mono ?_; rintro e w1 ⟨rfl, hk1⟩; have q0 : w1.cell? ⟨w.heap.size, 0, none⟩ = some (.slice a0 n0 c0) := cell_of_row _ _ 0 _ _ _ (hk1.obj HT.out id); have HK1 := Lib.hid hk1; clear hk1)
    go_ret
    exact ⟨rfl, HKW.out.trans HK1.out⟩

end Go.Proofs.YtgelfefoiplekaaDoor
