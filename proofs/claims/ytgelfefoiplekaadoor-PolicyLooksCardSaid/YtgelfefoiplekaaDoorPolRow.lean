/-
  Chapter 43: the row of the binomials.
-/
import Derived.Test.YtgelfefoiplekaaDoorPolSigns
namespace Go.Proofs.YtgelfefoiplekaaDoor
open Go.RowKit PN

theorem Tryd.sizeRow : (Tryd.prog.info? 124).map (·.size) = some 61 := by kernel_rfl
def rowL (f : Nat → Nat) : List Int := (List.range 61).map fun j => (f j : Int)
theorem rowL_len (f : Nat → Nat) : (rowL f).length = 61 := by simp [rowL]
theorem rowL_at (f : Nat → Nat) {j : Nat} (h : j < 61) : (rowL f)[j]? = some (f j : Int) := by simp [rowL, h]
theorem rowL_ext {f g : Nat → Nat} (h : ∀ j, j < 61 → f j = g j) : rowL f = rowL g := by
  unfold rowL
  apply List.map_congr_left
  intro j hj
  rw [h j (List.mem_range.1 hj)]
theorem rowL_set (f : Nat → Nat) {k : Nat} (h : k < 61) (v : Nat) : (rowL f).set k v = rowL (fun j => if j = k then v else f j) := by
  apply List.ext_getElem?
  intro j
  rw [List.getElem?_set]
  by_cases hj : k = j
  · subst hj
    rw [if_pos rfl, if_pos (by rw [rowL_len]; exact h), rowL_at _ h, if_pos rfl]
  · rw [if_neg hj]
    by_cases h2 : j < 61
    · rw [rowL_at _ h2, rowL_at _ h2, if_neg (fun e => hj e.symm)]
    · rw [List.getElem?_eq_none (by rw [rowL_len]; omega), List.getElem?_eq_none (by rw [rowL_len]; omega)]

def mix (i k j : Nat) : Nat := if k < j then ch i j else ch (i - 1) j
theorem mix_start (i : Nat) : rowL (mix i i) = rowL (ch (i - 1)) := rowL_ext fun j _ => by
  unfold mix
  by_cases h : i < j
  · rw [if_pos h, ch_big i j h, ch_big (i - 1) j (by omega)]
  · rw [if_neg h]
theorem mix_end (i : Nat) : rowL (mix i 0) = rowL (ch i) := rowL_ext fun j _ => by
  unfold mix
  by_cases h : 0 < j
  · rw [if_pos h]
  · rw [if_neg h, show j = 0 by omega, ch_zero, ch_zero]
theorem mix_step {i k : Nat} (hi : 1 ≤ i) : rowL (fun j => if j = k + 1 then ch (i - 1) (k + 1) + ch (i - 1) k else mix i (k + 1) j) = rowL (mix i k) := rowL_ext fun j _ => by
  show (if j = k + 1 then ch (i - 1) (k + 1) + ch (i - 1) k else mix i (k + 1) j) = mix i k j
  unfold mix
  by_cases h : j = k + 1
  · subst h
    rw [if_pos rfl, if_pos (by omega)]
    obtain ⟨m, rfl⟩ : ∃ m, i = m + 1 := ⟨i - 1, by omega⟩
    rw [Nat.add_sub_cancel, ch_succ]
    omega
  · rw [if_neg h]
    by_cases h2 : k < j
    · rw [if_pos h2, if_pos (by omega)]
    · rw [if_neg h2, if_neg (by omega)]
theorem ch60 {n k : Nat} (h : n ≤ 60) : ch n k ≤ 1152921504606846976 := Nat.le_trans (ch_le n k) (Nat.le_trans (Nat.pow_le_pow_right (by decide) h) (by decide))

set_option maxRecDepth 100000 in
theorem row0 : (rowL (ch 0)).flatMap intEnc = Value.int .i64 1 :: List.replicate 60 (Value.int .i64 0) := rfl

def RowInv (n g : Nat) (w0 : World) (iv : Value) (w : World) : Prop :=
  ∃ i : Nat, iv = .int .i64 i ∧ 1 ≤ i ∧ i ≤ n + 1 ∧ Arr intEnc 124 w g (rowL (ch (i - 1))) ∧ Keep (· = g) w0 w
def RowIn (i g : Nat) (w0 : World) (kv : Value) (w : World) : Prop :=
  ∃ k : Nat, kv = .int .i64 k ∧ k ≤ i ∧ Arr intEnc 124 w g (rowL (mix i k)) ∧ Keep (· = g) w0 w

set_option maxRecDepth 100000 in
set_option maxHeartbeats 4000000 in
theorem row_calls (n : Nat) (w : World) (hn : n ≤ 60) :
    Calls Tryd.prog 86 #[.int .i64 n] w (Gives None (.agg ((rowL (ch n)).flatMap intEnc).toArray) w) := by
  go_enter Tryd.func86, Tryd.ntmps86
  go_wp2_with (fail)
  generalize hWW : World.alloc (World.alloc _ _) _ = W
  have hKW : Keep None w W := by rw [← hWW]; exact ((Keep.refl _ _).alloc _).alloc _
  have ho1 : W.heap[w.heap.size]? = some (.cells (List.replicate 61 (Value.int .i64 0)).toArray 124 (0, 0)) := by rw [← hWW]; exact ((Keep.refl None _).alloc _).obj (heap_alloc_new _ _) id
  have ho2 : Arr intEnc 124 W (w.heap.size + 1) (rowL (ch 0)) := by unfold Arr; rw [row0, ← hWW]; exact alloc_at (by simp)
  clear hWW
  have HKW := Lib.hid hKW
  have HO1 := Lib.hid ho1
  have HO2 := Lib.hid ho2
  clear hKW ho1 ho2
  go_loopw [4] (RowInv n (w.heap.size + 1) W) (fun i _ => n + 1 - (intOf i).toNat)
  case atStart => exact ⟨1, rfl, by omega, by omega, HO2.out, Keep.refl _ _⟩
  case round =>
    obtain ⟨i, rfl, hi1, hin, harr, hkp⟩ := hrel
    have HARR := Lib.hid harr
    have HKP := Lib.hid hkp
    clear harr hkp
    by_cases hlt : i ≤ n
    · have hlti : (i : Int) ≤ n := by omega
      go_wp2_with (fail)
      go_loopw [5] (RowIn i (w.heap.size + 1) wr) (fun k _ => (intOf k).toNat)
      case atStart => exact ⟨i, rfl, by omega, by rw [mix_start]; exact HARR.out, Keep.refl _ _⟩
      case round =>
        obtain ⟨k, rfl, hki, harr, hkq⟩ := hrel
        have HARK := Lib.hid harr
        have HKQ := Lib.hid hkq
        clear harr hkq
        by_cases hk0 : 0 < k
        · have hk0i : (0 : Int) < k := by omega
          obtain ⟨j, rfl⟩ : ∃ j, k = j + 1 := ⟨k - 1, by omega⟩
          have hv1 : (rowL (mix i (j + 1)))[j + 1]? = some ((ch (i - 1) (j + 1) : Nat) : Int) := by rw [rowL_at _ (by omega)]; unfold mix; rw [if_neg (by omega)]
          have hv2 : (rowL (mix i (j + 1)))[j]? = some ((ch (i - 1) j : Nat) : Int) := by rw [rowL_at _ (by omega)]; unfold mix; rw [if_neg (by omega)]
          have hcell : ∀ t v, (rowL (mix i (j + 1)))[t]? = some v → wr.cell? ⟨w.heap.size + 1, t, none⟩ = some (.int .i64 v) := fun t v h => by
            have := HARK.out.range intEnc_len h 0 _ rfl
            rwa [Nat.mul_one, Nat.add_zero] at this
          have HC1 := Lib.hid (hcell _ _ hv1)
          have HC2 := Lib.hid (hcell _ _ hv2)
          have hb : ch (i - 1) (j + 1) + ch (i - 1) j ≤ 1152921504606846976 := by
            have := ch60 (n := i) (k := j + 1) (by omega)
            obtain ⟨m, rfl⟩ : ∃ m, i = m + 1 := ⟨i - 1, by omega⟩
            rw [ch_succ] at this
            rw [Nat.add_sub_cancel]; omega
          have HV1 := Lib.hid hv1
          clear hv1 hv2 hcell
          generalize hA : ch (i - 1) (j + 1) = A at *
          generalize hB : ch (i - 1) j = B at *
          have HA := Lib.hid hA
          have HB := Lib.hid hB
          clear hA hB
          have hz1 : IntKind.i64.wrap (((j + 1 : Nat) : Int) - 1) = j := by rw [IntWalk.i64_in _ (by omega)]; omega
          have hz2 : IntKind.i64.wrap ((A : Int) + B) = ((A + B : Nat) : Int) := by rw [IntWalk.i64_in _ (by omega)]; omega
          have hz5 : IntKind.i64.wrap (j : Int) = j := IntWalk.i64_in _ (by omega)
          have hz3 : ((j + 1 : Nat) : Int) < 61 := by omega
          have hz4 : ((j : Nat) : Int) < 61 := by omega
          go_wp2_with (fail)
          refine region_kindsG_tail None [.is (.int .i64 (j + 1 : Nat)), .is (.pointer (some ⟨w.heap.size + 1, j + 1, none⟩)), .is (.int .i64 A), .is (.int .i64 (j + 1 : Nat)), .is (.int .i64 j), .is (.pointer (some ⟨w.heap.size + 1, j, none⟩)), .is (.int .i64 B), .is (.int .i64 (A + B : Nat)), .any, .any]
            (fun w' => Keep None wr w') 27 8 (by kernel_rfl) (by decide) (by kernel_rfl) (by kernel_rfl) (by kernel_rfl) rfl (by kernel_rfl) (Keep.refl _ _).drew ?_ ?_
          · refine ⟨?_, ?_, ?_, ?_, ?_, ?_, ?_, ?_, trivial⟩
            · exact st_free rfl (st_ev1 (dep_f (t := 5) rfl rfl) _ (by intro a w' h1 hI; go_simp) rfl)
            · exact st_free rfl (st_ev2 (dep_f (t := 3) rfl rfl) (dep_e 0 rfl rfl rfl) _ (by intro a w' h1 h2 hI; go_simp; intro h; exact absurd (h (by omega)) (by omega)) rfl)
            · exact st_free rfl (st_ev1 (dep_e 1 rfl rfl rfl) _ (by intro a w' h1 hI; have q0 := hI.cell HC1.out id; go_simp) rfl)
            · exact st_free rfl (st_ev1 (dep_f (t := 5) rfl rfl) _ (by intro a w' h1 hI; go_simp) rfl)
            · exact st_free rfl (st_ev1 (dep_e 3 rfl rfl rfl) _ (by intro a w' h1 hI; go_simp) rfl)
            · exact st_free rfl (st_ev2 (dep_f (t := 3) rfl rfl) (dep_e 4 rfl rfl rfl) _ (by intro a w' h1 h2 hI; go_simp) rfl)
            · exact st_free rfl (st_ev1 (dep_e 5 rfl rfl rfl) _ (by intro a w' h1 hI; have q0 := hI.cell HC2.out id; go_simp) rfl)
            · exact st_free rfl (st_ev2 (dep_e 2 rfl rfl rfl) (dep_e 6 rfl rfl rfl) _ (by intro a w' h1 h2 hI; go_simp) rfl)
          intro f' w5 hkinds hI
          have k17 : f' 17 = .int .i64 (j + 1 : Nat) := hkinds 0 _ 17 (by omega) rfl rfl
          have k24 : f' 24 = .int .i64 (A + B : Nat) := hkinds 7 _ 24 (by omega) rfl rfl
          simp only [putsOf, Act.put, List.take_succ_cons, List.take_zero, List.drop_succ_cons, List.drop_zero, List.setIfInBounds_toArray, List.set_cons_zero, List.set_cons_succ, k17, k24]
          clear hkinds k17 k24
          have harr5 := HARK.out.keep hI id
          have s1 := hI.cell HC1.out id
          have s2 : w5.frozen? ⟨w.heap.size + 1, j + 1, none⟩ = false := by
            have h2 : w5.heap[w.heap.size + 1]? = some _ := harr5
            unfold World.frozen?
            rw [h2]
            simp
          have HAR5 := Lib.hid harr5
          have HKI := Lib.hid (HKQ.out.trans (hI.weaken (T := (· = w.heap.size + 1)) (fun _ _ q => q.elim)))
          clear harr5 hI
          go_wp2_with (fail)
          clear s1 s2
          have hset := HAR5.out.setField intEnc_len HV1.out (j := 0) (by omega) (v := .int .i64 (A + B : Nat)) (c := ((A + B : Nat) : Int)) rfl
          rw [rowL_set _ (by omega), Nat.mul_one, Nat.add_zero] at hset
          have hk9 : Keep (· = w.heap.size + 1) w5 (w5.setCell ⟨w.heap.size + 1, j + 1, none⟩ (.int .i64 (A + B : Nat))) := (Keep.refl (· = w.heap.size + 1) _).setCell (p := ⟨w.heap.size + 1, j + 1, none⟩) (.inl rfl) _
          go_roundw
          case rel =>
            refine ⟨j, by go_num, by omega, ?_, HKI.out.trans hk9⟩
            rw [← mix_step hi1, HA.out, HB.out]
            exact hset
          case measure => simp [intOf] <;> omega
        · have hk0i : ¬ (0 : Int) < k := by omega
          have hk00 : k = 0 := by omega
          subst hk00
          have HF : Hid (Arr intEnc 124 wr (w.heap.size + 1) (rowL (ch i))) := Lib.hid (by rw [← mix_end]; exact HARK.out)
          go_wp2_with (fail)
          go_roundw
          case rel => exact ⟨i + 1, by go_num, by omega, by omega, by rw [Nat.add_sub_cancel]; exact HF.out, HKP.out.trans HKQ.out⟩
          case measure => simp [intOf] <;> omega
    · have hie : i = n + 1 := by omega
      subst hie
      have hlti : ¬ ((n + 1 : Nat) : Int) ≤ n := by omega
      have HF : Hid (wr.heap[w.heap.size + 1]? = some (.cells ((rowL (ch n)).flatMap intEnc).toArray 124 (0, 0))) := Lib.hid (by have := HARR.out; rw [Nat.add_sub_cancel] at this; exact this)
      have hlen : ((rowL (ch n)).flatMap intEnc).length = 61 := by rw [flat_len intEnc_len, rowL_len]
      have HT := Lib.hid (HKP.out.obj HO1.out (by omega))
      go_wp2_with (first
        | ((with_reducible (show wpList _ _ _ (⟨some 26, .load 124 _, _, _, _, none⟩ :: _) _ _)); refine wpList_loadEl (enc := listEnc) (size := 61) rfl 124 _ rfl _ _ rfl ((rowL (ch n)).flatMap intEnc) _ (range_of_obj HF.out) hlen Tryd.underlying124 rfl Tryd.sizeRow (.agg ((rowL (ch n)).flatMap intEnc).toArray) rfl ?_)
        | ((with_reducible (show wpList _ _ _ (⟨_, .store 124 (.tmp 2) _, _, _, _, none⟩ :: _) _ _)); (refine wpList_storeObj rfl 124 _ _ rfl w.heap.size rfl (List.replicate 61 (Value.int .i64 0)) ((rowL (ch n)).flatMap intEnc) rfl _ (by rw [hlen]; rfl) HT.out 61 Tryd.sizeRow hlen (by intro v hv; obtain ⟨y, -, hy⟩ := List.mem_flatMap.1 hv; simp [intEnc] at hy; subst hy; rfl) ?_); intro w9 hres hk9 hs9; have HRES := Lib.hid hres; have HK9 := Lib.hid hk9; clear hres hk9 hs9))
      refine bodyPost_ret (results_obj rfl rfl _ _ (range_of_obj HRES.out) Tryd.underlying124 rfl 61 Tryd.sizeRow hlen) rfl ?_
      exact ⟨rfl, HKW.out.andThen (HKP.out.weaken (T := fun g => w.heap.size ≤ g) (fun g _ h => by omega) |>.trans (HK9.out.weaken (fun g _ h => by have h3 : g = w.heap.size := h; omega))) (fun g h1 h2 => by omega)⟩

end Go.Proofs.YtgelfefoiplekaaDoor
