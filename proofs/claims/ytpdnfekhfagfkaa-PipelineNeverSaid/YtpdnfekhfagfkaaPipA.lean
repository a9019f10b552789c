/-
  Chapter 19: which lines a fetch touches, walked.
-/
import Derived.Test.YtpdnfekhfagfkaaPipLaw
import Derived.Test.YtpdnfekhfagfkaaBaseTwo
import Derived.Test.YtpdnfekhfagfkaaOwnMore
import Derived.Test.YtpdnfekhfagfkaaNums
import Derived.Test.YtpdnfekhfagfkaaMisc
import Derived.Test.YtpdnfekhfagfkaaRegTail
namespace Go.Proofs.Ytpdnfekhfagfkaa
open Go.RowKit PI

theorem Try.sizeFetch : (Try.prog.info? 37).map (·.size) = some 3 := by kernel_rfl
def feEnc (f : Fe) : List Value := [.int .i64 f.addr, .int .i64 f.size, .int .i64 f.kind]
theorem feEnc_len (f : Fe) : (feEnc f).length = 3 := rfl
def feVal (f : Fe) : Value := .agg #[.int .i64 f.addr, .int .i64 f.size, .int .i64 f.kind]

theorem Own.lower {α : Type} {enc : α → List Value} {size : Nat} {e : TypeId} {base base' : Nat} {w : World} {v : Value} {xs : List α} (h : Own enc size e base w v xs) (hb : base' ≤ base) : Own enc size e base' w v xs := by
  obtain ⟨hl, hr⟩ := h
  refine ⟨hl, ?_⟩
  rcases hr with hr | ⟨g, cap, cur, a, b, c⟩
  · exact .inl hr
  · exact .inr ⟨g, cap, cur, a, by omega, c⟩

/-- A slice of numbers that a call has made. -/
def IntsPost (xs : List Int) (w : World) (e : Ending) (w' : World) : Prop :=
  ∃ p c, e = .returned (.slice p xs.length c) ∧ Own intEnc 1 3 w.heap.size w' (.slice p xs.length c) xs ∧ Keep None w w'

theorem take_snoc {α : Type} {l : List α} {k : Nat} {x : α} (h : l[k]? = some x) : l.take (k + 1) = l.take k ++ [x] := by
  rw [List.take_add_one, h]; rfl
theorem touched_at {most size : Int} {f : Fe} (h : 1 ≤ size ∧ size ≤ most ∧ 1 ≤ f.size ∧ f.size ≤ 1048576 ∧ 0 ≤ f.addr ∧ f.addr ≤ 1048576) {k : Nat} (hk : k < (touched most size f).length) : (touched most size f)[k]? = some (f.addr / size + k) := by
  unfold touched at hk ⊢
  rw [if_pos h] at hk ⊢
  rw [List.length_map, List.length_range] at hk
  rw [List.getElem?_map, List.getElem?_range hk]
  rfl
theorem touched_more {most size : Int} {f : Fe} (h : 1 ≤ size ∧ size ≤ most ∧ 1 ≤ f.size ∧ f.size ≤ 1048576 ∧ 0 ≤ f.addr ∧ f.addr ≤ 1048576) (k : Nat) : f.addr / size + k ≤ (f.addr + f.size - 1) / size ↔ k < (touched most size f).length := by
  unfold touched
  rw [if_pos h, List.length_map, List.length_range]
  have : f.addr / size ≤ (f.addr + f.size - 1) / size := Int.ediv_le_ediv (by omega) (by omega)
  omega
theorem touched_no {most size : Int} {f : Fe} (h : ¬ (1 ≤ size ∧ size ≤ most ∧ 1 ≤ f.size ∧ f.size ≤ 1048576 ∧ 0 ≤ f.addr ∧ f.addr ≤ 1048576)) : touched most size f = [] := by
  unfold touched
  rw [if_neg h]

def TouInv (size : Int) (f : Fe) (base : Nat) (w0 : World) (lv iv : Value) (w : World) : Prop :=
  ∃ (k : Nat) (q : Option Addr) (c : Nat), iv = .int .i64 (f.addr / size + k) ∧ k ≤ (touched 4096 size f).length ∧ lv = .slice q k c ∧ Own intEnc 1 3 base w (.slice q k c) ((touched 4096 size f).take k) ∧ Keep (base ≤ ·) w0 w

set_option maxRecDepth 100000 in
set_option maxHeartbeats 4000000 in
theorem touched_calls (size : Int) (f : Fe) (w : World) (hfs : f.size ≤ 1000) : Calls Try.prog 17 #[.int .i64 size, feVal f] w (IntsPost (touched 4096 size f) w) := by
  unfold feVal
  have HBX : Hid (∃ W : World, Keep None w W ∧ W = w.alloc (.cells #[.int .i64 f.addr, .int .i64 f.size, .int .i64 f.kind] 37) ∧ W.heap[w.heap.size]? = some (.cells #[.int .i64 f.addr, .int .i64 f.size, .int .i64 f.kind] 37 (0, 0))) :=
    Lib.hid ⟨_, (Keep.refl None w).alloc _, rfl, heap_alloc_new _ _⟩
  obtain ⟨W, hKW, hWe, ho1⟩ := HBX.out
  have HK := Lib.hid hKW
  have HWE := Lib.hid hWe.symm
  have q0 : W.cell? ⟨w.heap.size, 0, none⟩ = some (.int .i64 f.addr) := cell_of_row _ _ 0 _ _ _ ho1
  have q1 : W.cell? ⟨w.heap.size, 1, none⟩ = some (.int .i64 f.size) := cell_of_row _ _ 1 _ _ _ ho1
  have HO1 := Lib.hid ho1
  have hwW := heap_lt ho1
  clear HBX hKW hWe ho1
  by_cases h : 1 ≤ size ∧ size ≤ 4096 ∧ 1 ≤ f.size ∧ f.size ≤ 1048576 ∧ 0 ≤ f.addr ∧ f.addr ≤ 1048576
  · obtain ⟨h1, h2, h3, h4, h5, h6⟩ := h
    have hall : 1 ≤ size ∧ size ≤ 4096 ∧ 1 ≤ f.size ∧ f.size ≤ 1048576 ∧ 0 ≤ f.addr ∧ f.addr ≤ 1048576 := ⟨h1, h2, h3, h4, h5, h6⟩
    have HALL := Lib.hid hall
    clear hall
    obtain ⟨i5, hi5, hv0, hv1, hv2⟩ := info_parts Try.infoInt
    have hd0 : 0 ≤ f.addr / size := Int.ediv_nonneg h5 (by omega)
    have hd1 : f.addr / size ≤ f.addr := Int.ediv_le_self _ h5
    have hTL := touched_len 4096 size f
    have hsz : (size == 0) = false := by rw [beq_eq_false_iff_ne]; omega
    have e1 : 0 ≤ (f.addr + f.size - 1) / size := Int.ediv_nonneg (by omega) (by omega)
    have e2 : (f.addr + f.size - 1) / size ≤ f.addr + f.size - 1 := Int.ediv_le_self _ (by omega)
    go_enter Try.func17, Try.ntmps17
    go_upto_region 1 with (fail)
    rw [HWE.out]
    go_wp2_with (fail)
    go_loopw [5, 6] (TouInv size f W.heap.size W) (fun _ i _ => ((touched 4096 size f).length : Int).toNat + (f.addr / size).toNat + 1 - (intOf i).toNat)
    case atStart => exact ⟨0, none, 0, by simp, by omega, rfl, Own.nil _ _ _ _ _, Keep.refl _ _⟩
    case round =>
      obtain ⟨k, q, c, rfl, hk, rfl, hown, hkr⟩ := hrel
      have HOWN := Lib.hid hown
      have HKR := Lib.hid hkr
      have q0 : wr.cell? ⟨w.heap.size, 0, none⟩ = some (.int .i64 f.addr) := cell_of_row _ _ 0 _ _ _ (hkr.obj HO1.out (by omega))
      have q1 : wr.cell? ⟨w.heap.size, 1, none⟩ = some (.int .i64 f.size) := cell_of_row _ _ 1 _ _ _ (hkr.obj HO1.out (by omega))
      have hlen : ((touched 4096 size f).take k).length = k := by rw [List.length_take]; omega
      have hmore := touched_more HALL.out k
      clear hown hkr
      by_cases hlt : k < (touched 4096 size f).length
      · have hlti : f.addr / size + (k : Int) ≤ (f.addr + f.size - 1) / size := hmore.2 hlt
        have HAT := Lib.hid (touched_at HALL.out hlt)
        clear hmore
        go_wp2_with (at_builtin; go_loud (refine wpList_pushAt rfl _ _ 40 rfl W.heap.size _ i5 _ 8 Try.underlying40 hi5 hv0 hv1 hv2 rfl (by decide) intEnc_len (.slice q k c) ((touched 4096 size f).take k) rfl (HOWN.out.keep (S := None) ((Keep.refl _ _).alloc _) (fun _ _ => id)) (f.addr / size + k) wr.heap.size 1 rfl _ (heap_alloc_new _ _) rfl rfl (by simp [Value.oneCell']) (by omega) (by omega) (by have := HKR.out.size; simp; omega) ?_; intro p7 c7 w7 hown7 hk7 _ _; have HO7 := Lib.hid hown7; have HK7 := Lib.hid hk7; clear hown7 hk7))
        go_roundw
        case rel =>
          refine ⟨k + 1, p7, c7, by go_num, by omega, rfl, ?_, (HKR.out.trans ((Keep.refl None wr).alloc _ |>.weaken (fun _ _ q => q.elim))).trans HK7.out⟩
          rw [take_snoc HAT.out]
          have := HO7.out
          rw [hlen] at this
          exact this
        case measure => simp [intOf]; omega
      · have hlti : ¬ f.addr / size + (k : Int) ≤ (f.addr + f.size - 1) / size := fun h => hlt (hmore.1 h)
        have hke : (touched 4096 size f).take k = touched 4096 size f := List.take_of_length_le (by omega)
        have hkl : k = (touched 4096 size f).length := by omega
        have HKE := Lib.hid hke
        have HKL := Lib.hid hkl
        clear hmore hke hkl
        go_wp2_with (fail)
        go_ret
        refine ⟨q, c, by rw [← HKL.out]; rfl, ?_, (HK.out.andThen HKR.out (fun g h1 h2 => by have h3 : W.heap.size ≤ g := h2; have := HK.out.size; omega))⟩
        have := HOWN.out
        rw [HKE.out, HKL.out] at this
        exact this.lower (by have := HK.out.size; omega)
  · have HE := Lib.hid (touched_no h)
    by_cases g1 : size < 1
    · (go_enter Try.func17, Try.ntmps17; go_upto_region 1 with (fail); rw [HWE.out]; go_wp2_with (fail); all_goals (go_ret; rw [HE.out]; exact ⟨none, 0, rfl, Own.nil _ _ _ _ _, HK.out⟩))
    by_cases g2 : 4096 < size
    · (go_enter Try.func17, Try.ntmps17; go_upto_region 1 with (fail); rw [HWE.out]; go_wp2_with (fail); all_goals (go_ret; rw [HE.out]; exact ⟨none, 0, rfl, Own.nil _ _ _ _ _, HK.out⟩))
    by_cases g3 : f.size < 1
    · (go_enter Try.func17, Try.ntmps17; go_upto_region 1 with (fail); rw [HWE.out]; go_wp2_with (fail); all_goals (go_ret; rw [HE.out]; exact ⟨none, 0, rfl, Own.nil _ _ _ _ _, HK.out⟩))
    have g4 : ¬ 1048576 < f.size := by omega
    by_cases g5 : f.addr < 0
    · (go_enter Try.func17, Try.ntmps17; go_upto_region 1 with (fail); rw [HWE.out]; go_wp2_with (fail); all_goals (go_ret; rw [HE.out]; exact ⟨none, 0, rfl, Own.nil _ _ _ _ _, HK.out⟩))
    by_cases g6 : 1048576 < f.addr
    · (go_enter Try.func17, Try.ntmps17; go_upto_region 1 with (fail); rw [HWE.out]; go_wp2_with (fail); all_goals (go_ret; rw [HE.out]; exact ⟨none, 0, rfl, Own.nil _ _ _ _ _, HK.out⟩))
    exact absurd ⟨by omega, by omega, by omega, by omega, by omega, by omega⟩ h

end Go.Proofs.Ytpdnfekhfagfkaa
