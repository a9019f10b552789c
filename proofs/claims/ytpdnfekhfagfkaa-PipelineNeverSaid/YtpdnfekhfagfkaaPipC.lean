/-
  Chapter 19: slices.Repeat of one number; predictor.New, Predict and after.
-/
import Derived.Test.YtpdnfekhfagfkaaPipB
import Derived.Test.YtpdnfekhfagfkaaRegAny
namespace Go.Proofs.Ytpdnfekhfagfkaa
open Go.RowKit PI

theorem mul_calls (n : Nat) (hn : n ≤ 4096) (w : World) :
    Calls Try.prog 47 #[.int .u64 1, .int .u64 n] w fun e w' => e = .returned (.tuple #[.int .u64 0, .int .u64 n]) ∧ w' = w := by
  have h := Try.bits_Mul 1 n (by omega) (by omega) w
  rw [Nat.one_mul, Nat.div_eq_of_lt (by omega), Nat.mod_eq_of_lt (by omega)] at h
  exact h

/-- d ones, then zeros. -/
def ones (d n : Nat) : List Int := List.replicate d 1 ++ List.replicate (n - d) 0
theorem ones_len {d n : Nat} (h : d ≤ n) : (ones d n).length = n := by simp [ones]; omega
theorem ones_take {d n m : Nat} (h : m ≤ d) : (ones d n).take m = List.replicate m 1 := by
  unfold ones
  rw [List.take_append_of_le_length (by simp; omega), List.take_replicate]
  congr 1; omega
theorem ones_same {d n m e : Nat} (h : d + m ≤ n) (h1 : d ≤ e) (h2 : e ≤ d + m) : spliceA ((List.replicate m (1 : Int)).flatMap intEnc) d ((ones e n).flatMap intEnc).toArray = ((ones (d + m) n).flatMap intEnc).toArray := by
  rw [← Array.toList_inj, spliceA_list _ _ _ (by rw [flat_len intEnc_len, List.size_toArray, flat_len intEnc_len]; simp [ones]; omega)]
  simp only [ints_flat, ones, List.map_append, List.map_replicate, List.length_replicate]
  rw [List.take_append_of_le_length (by simp; omega), List.take_replicate, List.drop_append, List.drop_of_length_le (by simp; omega), List.nil_append, List.length_replicate, List.drop_replicate]
  rw [List.replicate_append_replicate]
  congr 2 <;> omega
theorem ones_more {d n m : Nat} (h : d + m ≤ n) : spliceA ((List.replicate m (1 : Int)).flatMap intEnc) d ((ones d n).flatMap intEnc).toArray = ((ones (d + m) n).flatMap intEnc).toArray := ones_same h (Nat.le_refl _) (by omega)

def RepInv (n g : Nat) (w0 : World) (t : Value) (w : World) : Prop := ∃ d : Nat, t = .int .i64 d ∧ 1 ≤ d ∧ d ≤ n ∧ Arr intEnc 3 w g (ones d n) ∧ Keep (w0.heap.size ≤ ·) w0 w

set_option maxRecDepth 100000 in
set_option maxHeartbeats 4000000 in
theorem repeat_calls (gx n : Nat) (w : World) (h1 : w.heap[gx]? = some (.cells #[.int .i64 1] 3 (0, 0))) (hn1 : 1 ≤ n) (hn2 : n ≤ 4096) :
    Calls Try.prog 31 #[.slice (some ⟨gx, 0, none⟩) 1 1, .int .i64 n] w (OwnPost intEnc 1 3 (List.replicate n 1) w) := by
  obtain ⟨i5, hi5, hv0, hv1, hv2⟩ := info_parts Try.infoInt
  have HX := Lib.hid h1
  have hgx := heap_lt h1
  clear h1
  go_enter Try.func31, Try.ntmps31
  go_wp2_with (first
    | (go_at_call 47; go_loud (refine (mul_calls n hn2 _).mono ?_; rintro e w1 ⟨rfl, hw⟩; subst w1))
    | ((with_reducible (show wpList _ _ _ (⟨some 30, _, _, _, _, none⟩ :: _) _ _)); go_loud (refine wpList_makeArr (enc := intEnc) _ rfl _ _ 40 rfl 3 i5 _ 8 Try.underlying40 hi5 hv0 hv1 hv2 0 intEnc_len rfl (by decide) .i64 .i64 n n n rfl rfl rfl rfl (by omega) (by omega) ?_; intro w1 ha hk hs; have HA := Lib.hid ha; have HK := Lib.hid hk; clear ha hk))
    | ((with_reducible (show wpList _ _ _ (⟨some 33, _, _, _, _, none⟩ :: _) _ _)); go_loud (refine wpList_copyRow rfl _ _ 40 40 rfl 3 1 i5 Try.underlying40 hi5 hv1 w.heap.size 0 n n gx 0 1 1 1 rfl rfl (by show _ = min _ _; omega) _ 3 HA.out [.int .i64 1] rfl (range_of_obj (HK.out.obj HX.out id)) (by rw [List.size_toArray, flat_len intEnc_len]; simp; omega) (by simp [Value.oneCell']) ?_; intro w2 hcur2 hk2 hs2; have HC2 := Lib.hid hcur2; have HK2 := Lib.hid (HK.out.andThen hk2 (by intro k h1 h2; omega)); clear hcur2 hk2)))
  go_loopw [8] (RepInv n w.heap.size w) (fun t _ => n - (intOf t).toNat)
  case atStart =>
    refine ⟨1, by simp, by omega, hn1, ?_, HK2.out.weaken (fun k hk h => h.elim)⟩
    exact HC2.out.trans (congrArg (fun C => some (Obj.cells C 3 (0, 0))) (ones_more (d := 0) (n := n) (m := 1) (by omega)))
  case round =>
    obtain ⟨d, rfl, hd1, hd2, ha, hk⟩ := hrel
    have HA2 := Lib.hid ha
    have HK3 := Lib.hid hk
    clear ha hk
    by_cases hlt : d < n
    · go_upto_region 9 with (fail)
      have q0 : ¬ (d : Int) < 0 := by omega
      have q6 : ¬ n = d := by omega
      have hm1 : min d (n - d) ≤ d := by omega
      have hm2 : d + min d (n - d) ≤ n := by omega
      have hm3 : 1 ≤ min d (n - d) := by omega
      generalize hmm : min d (n - d) = m at *
      have hbl := HK3.out.size
      refine region_anyV [isV (.int .i64 d), isV (.slice (some ⟨w.heap.size, 0, none⟩) n n), isV (.int .i64 d), isV (.slice (some ⟨w.heap.size, d, none⟩) (n - d) (n - d)), isV (.slice (some ⟨w.heap.size, 0, none⟩) n n), isV (.int .i64 d), isV (.slice (some ⟨w.heap.size, 0, none⟩) d n), fun w' v => v = .int .i64 m ∧ Arr intEnc 3 w' w.heap.size (ones (d + m) n), fun w' v => v = .int .i64 ((d : Int) + m) ∧ Arr intEnc 3 w' w.heap.size (ones (d + m) n)]
        (fun w' => Keep (w.heap.size ≤ ·) w w' ∧ (Arr intEnc 3 w' w.heap.size (ones d n) ∨ Arr intEnc 3 w' w.heap.size (ones (d + m) n))) (fun w1 w2 => Arr intEnc 3 w1 w.heap.size (ones (d + m) n) → Arr intEnc 3 w2 w.heap.size (ones (d + m) n)) 48 9 (by kernel_rfl) (by decide) (by kernel_rfl) (by kernel_rfl) (by kernel_rfl) rfl ?_ (by kernel_rfl) ?_ ⟨HK3.out.drew, .inl (HA2.out.keep ((Keep.refl None wr).drew) id)⟩ ?_ ?_
      · intro i w1 w2 v h1 h2
        match i with
        | 0 => exact h1
        | 1 => exact h1
        | 2 => exact h1
        | 3 => exact h1
        | 4 => exact h1
        | 5 => exact h1
        | 6 => exact h1
        | 7 => exact ⟨h1.1, h2 h1.2⟩
        | 8 => exact ⟨h1.1, h2 h1.2⟩
        | _ + 9 => trivial
      · intro i w o ho hi
        match i with
        | 9 => trivial
        | _ + 10 => trivial
      · refine ⟨?_, ?_, ?_, ?_, ?_, ?_, ?_, ?_, ?_, trivial⟩
        · exact sv_ev [(8, .int .i64 d)] (by simp only [List.forall_mem_singleton]; exact vdep_f rfl rfl) rfl (.int .i64 d) (by simp only [List.forall_mem_singleton]; intro a w' h1 hI; go_simp) (fun _ h => h) (fun _ => rfl)
        · exact sv_ev [(7, _)] (by simp only [List.forall_mem_singleton]; exact vdep_f rfl rfl) rfl _ (by simp only [List.forall_mem_singleton]; intro a w' h1 hI; go_simp) (fun _ h => h) (fun _ => rfl)
        · exact sv_ev [(8, .int .i64 d)] (by simp only [List.forall_mem_singleton]; exact vdep_f rfl rfl) rfl (.int .i64 d) (by simp only [List.forall_mem_singleton]; intro a w' h1 hI; go_simp) (fun _ h => h) (fun _ => rfl)
        · exact sv_ev [(39, .slice (some ⟨w.heap.size, 0, none⟩) n n), (40, .int .i64 d)] (by simp only [List.forall_mem_cons, List.forall_mem_nil, and_true]; exact ⟨vdep_e 1 rfl rfl (fun _ _ h => h), vdep_e 2 rfl rfl (fun _ _ h => h), by simp⟩) rfl _ (by simp only [List.forall_mem_cons]; rintro a w' ⟨h1, h2, -⟩ hI; go_simp) (fun _ h => h) (fun _ => rfl)
        · exact sv_ev [(7, _)] (by simp only [List.forall_mem_singleton]; exact vdep_f rfl rfl) rfl _ (by simp only [List.forall_mem_singleton]; intro a w' h1 hI; go_simp) (fun _ h => h) (fun _ => rfl)
        · exact sv_ev [(8, .int .i64 d)] (by simp only [List.forall_mem_singleton]; exact vdep_f rfl rfl) rfl (.int .i64 d) (by simp only [List.forall_mem_singleton]; intro a w' h1 hI; go_simp) (fun _ h => h) (fun _ => rfl)
        · exact sv_ev [(42, .slice (some ⟨w.heap.size, 0, none⟩) n n), (43, .int .i64 d)] (by simp only [List.forall_mem_cons, List.forall_mem_nil, and_true]; exact ⟨vdep_e 4 rfl rfl (fun _ _ h => h), vdep_e 5 rfl rfl (fun _ _ h => h), by simp⟩) rfl _ (by simp only [List.forall_mem_cons]; rintro a w' ⟨h1, h2, -⟩ hI; go_simp) (fun _ h => h) (fun _ => rfl)
        · intro a w' K' hI hV hF hK
          rw [if_pos (by simp [Region.wanted])]
          have e3 : a.eval (.tmp 41) = .slice (some ⟨w.heap.size, d, none⟩) (n - d) (n - d) := vtells hV 3 41 rfl rfl
          have e6 : a.eval (.tmp 44) = .slice (some ⟨w.heap.size, 0, none⟩) d n := vtells hV 6 44 rfl rfl
          obtain ⟨e, he1, he2, hae⟩ : ∃ e, d ≤ e ∧ e ≤ d + m ∧ Arr intEnc 3 w' w.heap.size (ones e n) := by
            rcases hI.2 with h | h
            · exact ⟨d, Nat.le_refl _, by omega, h⟩
            · exact ⟨d + m, by omega, Nat.le_refl _, h⟩
          have hsrc : w'.rangeAt w.heap.size 0 ((List.replicate m (1 : Int)).flatMap intEnc) := by
            rw [← ones_take (n := n) (show m ≤ e by omega)]
            exact ((hae.slAt intEnc_len).take m).flat intEnc_len (by omega)
          have hrun := run_copy_row (P := Try.prog) w' 40 40 3 3 1 i5 Try.underlying40 hi5 hv1 w.heap.size d (n - d) (n - d) ⟨w.heap.size, 0, none⟩ d n m hmm.symm _ 3 hae ((List.replicate m (1 : Int)).flatMap intEnc) (by rw [flat_len intEnc_len]; simp) (fun j u hj => by rw [Addr.add_mid]; exact hsrc j u hj) (by rw [flat_len intEnc_len, List.size_toArray, flat_len intEnc_len, ones_len (show e ≤ n by omega)]; simp; omega) (by intro u hu; obtain ⟨y, -, hy⟩ := List.mem_flatMap.1 hu; simp [intEnc] at hy; subst hy; rfl)
          unfold Oper.wp execOp
          simp only [resolve, invoke, builtin, Sem.run_bind, Sem.run_pure, Result.andThen_ok, List.map_toArray, List.map_cons, List.map_nil, e3, e6, hrun, Oper.upon_value]
          have hA : Arr intEnc 3 (w'.setCells w.heap.size d ((List.replicate m (1 : Int)).flatMap intEnc)) w.heap.size (ones (d + m) n) := (heap_setCells _ _ _ _ hae).trans (congrArg (fun C => some (Obj.cells C 3 (0, 0))) (ones_same hm2 he1 he2))
          exact hK _ _ ⟨Keep.setCells (.inl (Nat.le_refl _)) _ _ hI.1, .inr hA⟩ (fun _ => hA) ⟨rfl, hA⟩
        · intro a w' K' hI hV hF hK
          rw [if_pos (by simp [Region.wanted])]
          have e0 : a.eval (.tmp 38) = .int .i64 d := vtells hV 0 38 rfl rfl
          have e7 : a.eval (.tmp 45) = .int .i64 m ∧ Arr intEnc 3 w' w.heap.size (ones (d + m) n) := vtells hV 7 45 rfl rfl
          have hw : IntKind.i64.wrap ((d : Int) + m) = (d : Int) + m := IntWalk.i64_in _ (by omega)
          have hrun : (binOp .add 3 (.int .i64 d) (.int .i64 m)).run Try.prog w' = .ok (.int .i64 ((d : Int) + m)) w' := by go_simp
          unfold Oper.wp execOp
          simp only [Sem.run_bind, Sem.run_pure, Result.andThen_ok, e0, e7.1, hrun, Oper.upon_value]
          exact hK _ _ hI (fun h => h) ⟨by rw [hw], e7.2⟩
      intro f' w5 hkinds hI
      have k8 : f' 46 = .int .i64 ((d : Int) + m) ∧ Arr intEnc 3 w5 w.heap.size (ones (d + m) n) := hkinds 8 _ 46 (by omega) rfl rfl
      have HC4 := Lib.hid k8.2
      have HK4 := Lib.hid hI.1
      simp only [putsOf, Act.put, List.take_succ_cons, List.take_zero, List.drop_succ_cons, List.drop_zero, List.setIfInBounds_toArray, List.set_cons_zero, List.set_cons_succ, k8.1]
      clear hkinds k8 hI
      go_wp2_with (fail)
      go_roundw
      case rel =>
        refine ⟨d + m, by go_num, by omega, by omega, ?_, HK4.out⟩
        exact HC4.out
      case measure => simp [intOf]; omega
    · obtain rfl : d = n := by omega
      go_wp2_with (fail)
      go_ret
      refine ⟨some ⟨w.heap.size, 0, none⟩, d, by simp, ?_, HK3.out.weaken (fun k hk h => by have h' : w.heap.size ≤ k := h; omega)⟩
      have := Own.ofArr (enc := intEnc) intEnc_len HA2.out (Nat.le_refl _) (by rw [ones_len (Nat.le_refl _)]; omega)
      rw [ones_len (Nat.le_refl _)] at this
      simpa [ones] using this

def PrPost (xs : List Int) (w : World) (e : Ending) (w' : World) : Prop := OwnPost intEnc 1 3 xs w e w'

theorem prnew_calls (n : Int) (w : World) : Calls Try.prog 22 #[.int .i64 n] w (PrPost (prNew n) w) := by
  by_cases h : 1 ≤ n ∧ n ≤ 4096
  · obtain ⟨k, rfl⟩ : ∃ k : Nat, n = k := ⟨n.toNat, by omega⟩
    have HP : Hid (prNew k = List.replicate k 1) := Lib.hid (by unfold prNew; rw [if_pos h]; rfl)
    obtain ⟨h1, h2⟩ := h
    go_enter Try.func22, Try.ntmps22
    go_wp2_with (go_at_call 31; go_loud (refine (repeat_calls w.heap.size k _ (heap_alloc_new _ _) (by omega) (by omega)).mono ?_; rintro e w1 ⟨p, c, rfl, ho, hk⟩; have HO := Lib.hid ho; have HK := Lib.hid hk; clear ho hk))
    go_ret
    unfold PrPost OwnPost
    rw [HP.out]
    exact ⟨p, c, by rw [List.length_replicate]; rfl, HO.out.lower ((Keep.refl None w).alloc _).size, ((Keep.refl None w).alloc _).trans HK.out⟩
  · have HP : Hid (prNew n = []) := Lib.hid (by unfold prNew; rw [if_neg h])
    by_cases h1 : n < 1
    · (go_enter Try.func22, Try.ntmps22; go_wp2_with (fail); all_goals (go_ret; unfold PrPost OwnPost; rw [HP.out]; exact ⟨none, 0, rfl, Own.nil _ _ _ _ _, Keep.refl _ _⟩))
    · have h2 : 4096 < n := by omega
      (go_enter Try.func22, Try.ntmps22; go_wp2_with (fail); all_goals (go_ret; unfold PrPost OwnPost; rw [HP.out]; exact ⟨none, 0, rfl, Own.nil _ _ _ _ _, Keep.refl _ _⟩))

theorem predict_calls (p : Option Addr) (t : List Int) (c : Nat) (a : Int) (w : World) (h : SliceV intEnc 1 w p t) (ht : 0 < t.length) (hl : t.length ≤ 4096) (ha : 0 ≤ a) (hb : a ≤ 1048576) :
    Calls Try.prog 23 #[.slice p t.length c, .int .i64 a] w fun e w' => e = .returned (.bool (decide (2 ≤ t.getD (a.toNat % t.length) 0))) ∧ w' = w := by
  obtain ⟨k, rfl⟩ : ∃ k : Nat, a = k := ⟨a.toNat, by omega⟩
  have hm := Nat.mod_lt k ht
  rcases h with h | ⟨b, o, rfl, h⟩
  · rw [h] at ht; simp at ht
  have q0 := h.int (getD_at hm)
  have q1 : ((k : Int).tmod (t.length : Int)) = ((k % t.length : Nat) : Int) := by rw [Int.tmod_eq_emod_of_nonneg (by omega)]; rfl
  have q2 : ((t.length : Int) == 0) = false := by rw [beq_eq_false_iff_ne]; omega
  have hx : (k : Int).toNat % t.length = k % t.length := rfl
  rw [hx]
  generalize t.getD (k % t.length) 0 = v at *
  generalize k % t.length = m at *
  clear h
  go_enter Try.func23, Try.ntmps23
  go_wp2_with (fail)
  go_ret
  exact ⟨rfl, rfl⟩

theorem after_calls (n : Int) (b : Bool) (w : World) (h0 : -1000 ≤ n) (h1 : n ≤ 1000) :
    Calls Try.prog 24 #[.int .i64 n, .bool b] w fun e w' => e = .returned (.int .i64 (after n b)) ∧ w' = w := by
  cases b
  · (go_enter Try.func24, Try.ntmps24; go_wp2_with (fail); go_ret; exact ⟨rfl, rfl⟩)
  · (go_enter Try.func24, Try.ntmps24; go_wp2_with (fail); go_ret; exact ⟨rfl, rfl⟩)

end Go.Proofs.Ytpdnfekhfagfkaa
