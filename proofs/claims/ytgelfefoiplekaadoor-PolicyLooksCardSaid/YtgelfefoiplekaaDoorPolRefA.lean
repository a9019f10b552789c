/-
  Chapter 43: the reference's binomial numbers and tails.
-/
import Derived.Test.YtgelfefoiplekaaDoorPolWor
import Derived.Test.YtgelfefoiplekaaDoorRegTail
namespace Go.Proofs.YtgelfefoiplekaaDoor
open Go.RowKit PN

def OneMade (lo : Nat) (x : Int) (w : World) (v : Value) : Prop := ∃ g, v = .slice (some ⟨g, 0, none⟩) 1 1 ∧ lo ≤ g ∧ g < w.heap.size ∧ w.heap[g]? = some (.cells #[.int .i64 x] 3 (0, 0))
theorem oneMade_keep (lo : Nat) (x : Int) : ∀ w w' v, Keep None w w' → OneMade lo x w v → OneMade lo x w' v :=
  fun _ _ _ h ⟨g, h1, h2, h3, h4⟩ => ⟨g, h1, h2, Nat.lt_of_lt_of_le h3 h.size, h.obj h4 id⟩

/-- A row of binomial numbers. -/
def rowc (i : Nat) : List Int := (List.range (i + 1)).map fun j => (ch i j : Int)
theorem rowc_len (i : Nat) : (rowc i).length = i + 1 := by simp [rowc]
theorem rowc_at {i j : Nat} (h : j ≤ i) : (rowc i)[j]? = some (ch i j : Int) := by
  unfold rowc
  rw [List.getElem?_map, List.getElem?_range (by omega)]; rfl
theorem rowc_step {m J : Nat} (h2 : J + 1 < m + 1) : (rowc (m + 1)).take (J + 1 + 1) = (rowc (m + 1)).take (J + 1) ++ [((ch m J : Int) + (ch m (J + 1) : Int))] := by
  rw [take_snoc (rowc_at (i := m + 1) (j := J + 1) (by omega)), ch_succ]; rfl
theorem rowc_one (i : Nat) : (rowc i).take 1 = [1] := by
  have := take_snoc (rowc_at (i := i) (j := 0) (by omega))
  rw [ch_zero] at this
  simpa using this
theorem rowc_last (m : Nat) : (rowc (m + 1)).take (m + 1) ++ [1] = rowc (m + 1) := by
  have := take_snoc (rowc_at (i := m + 1) (j := m + 1) (by omega))
  rw [ch_self] at this
  rw [show ([1] : List Int) = [((1 : Nat) : Int)] from rfl, ← this, List.take_of_length_le (by rw [rowc_len]; omega)]

def ChInv (n : Nat) (w0 : World) (rv iv : Value) (w : World) : Prop :=
  ∃ (m : Nat) (q : Option Addr) (c : Nat), iv = .int .i64 ((m : Int) + 1) ∧ m ≤ n ∧ rv = .slice q (m + 1) c ∧ SliceV intEnc 1 w q (rowc m) ∧ Keep None w0 w
def ChIn (m base : Nat) (w0 : World) (nv jv : Value) (w : World) : Prop :=
  ∃ (J : Nat) (q : Option Addr) (c : Nat), jv = .int .i64 ((J : Int) + 1) ∧ J ≤ m ∧ nv = .slice q (J + 1) c ∧ Own intEnc 1 3 base w (.slice q (J + 1) c) ((rowc (m + 1)).take (J + 1)) ∧ Keep (base ≤ ·) w0 w

set_option maxRecDepth 100000 in
set_option maxHeartbeats 4000000 in
theorem choose_calls (n k : Nat) (w : World) (hn : n ≤ 60) (hk : k ≤ n) :
    Calls Tryd.prog 68 #[.int .i64 n, .int .i64 k] w (Gives None (.tuple #[.int .i64 (ch n k), .int .i64 0]) w) := by
  obtain ⟨i5, hi5, hv0, hv1, hv2⟩ := info_parts Tryd.infoInt
  have hn1 : ¬ (n : Int) < 0 := by omega
  have hn2 : ¬ (60 : Int) < n := by omega
  have hk1 : ¬ (k : Int) < 0 := by omega
  have hk2 : ¬ (n : Int) < k := by omega
  go_enter Tryd.func68, Tryd.ntmps68
  go_wp2_with (fail)
  go_loopw [6, 7] (ChInv n w) (fun _ i _ => n + 2 - (intOf i).toNat)
  case atStart =>
    refine ⟨0, some ⟨w.heap.size, 0, none⟩, 1, rfl, by omega, rfl, .inr ⟨_, _, rfl, fun i x hx j u hu => ?_⟩, (Keep.refl _ _).alloc _⟩
    have h1 : rowc 0 = [1] := rfl
    rw [h1] at hx
    match i, hx with
    | 0, hx =>
      simp at hx
      subst hx
      match j, hu with
      | 0, hu => simp [intEnc] at hu; subst hu; exact cell_of_row _ _ 0 _ _ _ (heap_alloc_new _ _)
      | j + 1, hu => simp [intEnc] at hu
    | i + 1, hx => simp at hx
  case round =>
    obtain ⟨m, q, c, rfl, hm, rfl, hsl, hkp⟩ := hrel
    generalize wr = ws at *
    obtain ⟨qb, qo, rfl, hsa⟩ : ∃ b off, q = some ⟨b, off, none⟩ ∧ SlAt intEnc 1 ws b off (rowc m) := by
      rcases hsl with h | h
      · have := rowc_len m; rw [h] at this; simp at this
      · exact h
    have HSA := Lib.hid hsa
    have HKS := Lib.hid hkp
    clear hsl hsa hkp
    by_cases hlt : m < n
    · have hlti : (m : Int) + 1 ≤ n := by omega
      go_wp2_with (fail)
      go_loopw [8, 9] (ChIn m ws.heap.size ws) (fun _ j _ => m + 2 - (intOf j).toNat)
      case atStart =>
        refine ⟨0, some ⟨ws.heap.size, 0, none⟩, 1, rfl, by omega, rfl, ?_, (Keep.refl _ _).alloc _⟩
        rw [rowc_one]
        exact Own.ofArr (xs := [1]) intEnc_len (show Arr intEnc 3 _ _ [1] from heap_alloc_new _ _) (Nat.le_refl _) (by simp)
      case round =>
        obtain ⟨J, qn, cn, rfl, hJ, rfl, hown, hkr⟩ := hrel
        have HOWN := Lib.hid hown
        have HKR := Lib.hid hkr
        have hsa2 := HSA.out.newer hkr
        have hlen : ((rowc (m + 1)).take (J + 1)).length = J + 1 := by rw [List.length_take, rowc_len]; omega
        have hzr := hkr.size
        clear hown hkr
        by_cases hJm : J < m
        · have hJi : (J : Int) + 1 < (m : Int) + 1 := by omega
          obtain ⟨A, hA⟩ : ∃ A, A = ch m J := ⟨_, rfl⟩
          obtain ⟨B, hB⟩ : ∃ B, B = ch m (J + 1) := ⟨_, rfl⟩
          have hAb : A ≤ 1152921504606846976 := by rw [hA]; exact ch60 (by omega)
          have hBb : B ≤ 1152921504606846976 := by rw [hB]; exact ch60 (by omega)
          have HCA := Lib.hid (hsa2.int (rowc_at (i := m) (j := J) (by omega)))
          have HCB := Lib.hid (hsa2.int (rowc_at (i := m) (j := J + 1) (by omega)))
          rw [← hA] at HCA
          rw [← hB] at HCB
          have HAB : Hid ((A : Int) + B = (ch m J : Int) + (ch m (J + 1) : Int)) := Lib.hid (by rw [hA, hB])
          clear hA hB hsa2
          have hw1 : IntKind.i64.wrap ((J : Int) + 1 - 1) = J := by rw [IntWalk.i64_in _ (by omega)]; omega
          have hw3 : IntKind.i64.wrap (J : Int) = J := IntWalk.i64_in _ (by omega)
          have hz1 : ¬ (J : Int) + 1 < 0 := by omega
          have hz2 : ¬ (m : Int) + 1 ≤ (J : Int) := by omega
          have hz3 : ¬ (m : Int) + 1 ≤ (J : Int) + 1 := by omega
          have hw2 : IntKind.i64.wrap ((A : Int) + B) = (A : Int) + B := IntWalk.i64_in _ (by omega)
          go_upto_region 13 with (fail)
          refine region_kindsH_tail None [.is (.slice qn (J + 1) cn), .is (.slice (some ⟨qb, qo, none⟩) (m + 1) c), .is (.int .i64 ((J : Int) + 1)), .is (.int .i64 J), .is (.pointer (some ⟨qb, qo + J, none⟩)), .is (.int .i64 A), .is (.slice (some ⟨qb, qo, none⟩) (m + 1) c), .is (.int .i64 ((J : Int) + 1)), .is (.pointer (some ⟨qb, qo + (J + 1), none⟩)), .is (.int .i64 B), .is (.int .i64 ((A : Int) + B)), .sat (OneMade ws.heap.size ((A : Int) + B)) (oneMade_keep _ _), .any, .any]
            (fun w' => Keep None wr w') 55 12 (by kernel_rfl) (by decide) (by kernel_rfl) (by kernel_rfl) (by kernel_rfl) rfl (by kernel_rfl) (Keep.refl _ _).drew ?_ ?_
          · refine ⟨?_, ?_, ?_, ?_, ?_, ?_, ?_, ?_, ?_, ?_, ?_, ?_, trivial⟩
            · exact st_evH rfl (t := 8) rfl rfl _ (by intro a w' h1 hI; go_simp) rfl
            · exact InvStepG.toH <| st_free rfl (st_ev1 (dep_f (t := 6) rfl rfl) _ (by intro a w' h1 hI; go_simp) rfl)
            · exact InvStepG.toH <| st_free rfl (st_ev1 (dep_f (t := 9) rfl rfl) _ (by intro a w' h1 hI; go_simp) rfl)
            · exact InvStepG.toH <| st_free rfl (st_ev1 (dep_e 2 rfl rfl rfl) _ (by intro a w' h1 hI; go_simp) rfl)
            · exact InvStepG.toH <| st_free rfl (st_ev2 (dep_e 1 rfl rfl rfl) (dep_e 3 rfl rfl rfl) _ (by intro a w' h1 h2 hI; go_simp) rfl)
            · exact InvStepG.toH <| st_free rfl (st_ev1 (dep_e 4 rfl rfl rfl) _ (by intro a w' h1 hI; have q0 := hI.cell HCA.out id; go_simp) rfl)
            · exact InvStepG.toH <| st_free rfl (st_ev1 (dep_f (t := 6) rfl rfl) _ (by intro a w' h1 hI; go_simp) rfl)
            · exact InvStepG.toH <| st_free rfl (st_ev1 (dep_f (t := 9) rfl rfl) _ (by intro a w' h1 hI; go_simp) rfl)
            · exact InvStepG.toH <| st_free rfl (st_ev2 (dep_e 6 rfl rfl rfl) (dep_e 7 rfl rfl rfl) _ (by intro a w' h1 h2 hI; go_simp) rfl)
            · exact InvStepG.toH <| st_free rfl (st_ev1 (dep_e 8 rfl rfl rfl) _ (by intro a w' h1 hI; have q0 := hI.cell HCB.out id; go_simp) rfl)
            · exact InvStepG.toH <| st_free rfl (st_ev2 (dep_e 5 rfl rfl rfl) (dep_e 9 rfl rfl rfl) _ (by intro a w' h1 h2 hI; go_simp) rfl)
            · refine InvStepG.toH <| st_free rfl ?_
              intro a w' K' hI hV hF hK
              have e0 : a.eval (.tmp 45) = .int .i64 ((A : Int) + B) := tells hV 10 45 rfl rfl
              unfold Oper.wp execOp
              have hb : ∀ v : Value, (Instr.buildSlice 61 1 #[(0, .int .i64 ((A : Int) + B))]).run Tryd.prog w' = .ok (.slice (some ⟨w'.heap.size, 0, none⟩) 1 1) (w'.alloc (.cells #[.int .i64 ((A : Int) + B)] 3)) := by intro _; go_simp
              simp only [List.map_toArray, List.map_cons, List.map_nil, e0, Sem.run_bind, hb undef, Result.andThen_ok, Sem.run_pure, Oper.upon_value]
              have hz := hI.size
              exact hK _ _ (hI.alloc _) ((Keep.refl _ _).alloc _) ⟨w'.heap.size, rfl, by omega, by simp, heap_alloc_new _ _⟩
          intro f' w5 hkinds hI
          have k35 : f' 35 = .slice qn (J + 1) cn := hkinds 0 _ 35 (by omega) rfl rfl
          obtain ⟨gh, k46, hgh, hgw, hgo⟩ : OneMade ws.heap.size ((A : Int) + B) w5 (f' 46) := hkinds 11 _ 46 (by omega) rfl rfl
          simp only [putsOf, Act.put, List.take_succ_cons, List.take_zero, List.drop_succ_cons, List.drop_zero, List.setIfInBounds_toArray, List.set_cons_zero, List.set_cons_succ, k35, k46]
          clear hkinds k35 k46
          have HGO := Lib.hid hgo
          have HOWN5 := Lib.hid (HOWN.out.keep hI (fun _ _ => id))
          have HKI := Lib.hid hI
          have hz5 := hI.size
          clear hI hgo
          go_wp2_with (at_builtin; go_loud (refine wpList_pushAt rfl _ _ 61 rfl ws.heap.size _ i5 _ 8 Tryd.underlying61 hi5 hv0 hv1 hv2 rfl (by decide) intEnc_len (.slice qn (J + 1) cn) ((rowc (m + 1)).take (J + 1)) rfl HOWN5.out ((A : Int) + B) gh 1 rfl _ HGO.out rfl rfl (by simp [Value.oneCell']) (by omega) (by omega) (by omega) ?_; intro p7 c7 w7 hown7 hk7 _ _; have HO7 := Lib.hid hown7; have HK7 := Lib.hid hk7; clear hown7 hk7))
          go_roundw
          case rel =>
            refine ⟨J + 1, p7, c7, by go_num, by omega, rfl, ?_, (HKR.out.trans (HKI.out.weaken (fun _ _ q => q.elim))).trans HK7.out⟩
            rw [rowc_step (by omega), ← HAB.out]
            have := HO7.out
            rw [hlen] at this
            exact this
          case measure => simp [intOf]; omega
        · have hJe : m = J := by omega
          subst hJe
          have hJi : ¬ (m : Int) + 1 < (m : Int) + 1 := by omega
          go_wp2_with (at_builtin; go_loud (refine wpList_pushAt rfl _ _ 61 rfl ws.heap.size _ i5 _ 8 Tryd.underlying61 hi5 hv0 hv1 hv2 rfl (by decide) intEnc_len (.slice qn (m + 1) cn) ((rowc (m + 1)).take (m + 1)) rfl (HOWN.out.keep (S := None) ((Keep.refl _ _).alloc _) (fun _ _ => id)) 1 wr.heap.size 1 rfl _ (heap_alloc_new _ _) rfl rfl (by simp [Value.oneCell']) (by omega) (by omega) (by have := HKR.out.size; simp; omega) ?_; intro p7 c7 w7 hown7 hk7 _ _; have HO7 := Lib.hid hown7; have HK7 := Lib.hid hk7; clear hown7 hk7))
          go_roundw
          case rel =>
            refine ⟨m + 1, p7, c7, by go_num, by omega, rfl, ?_, HKS.out.andThen ((HKR.out.trans ((Keep.refl None wr).alloc _ |>.weaken (fun _ _ q => q.elim))).trans HK7.out) (fun g h1 h2 => by have h3 : ws.heap.size ≤ g := h2; have := HKS.out.size; omega)⟩
            obtain ⟨p8, c8, he8, -, -, hs8, -⟩ := HO7.out.slice intEnc_len
            rw [List.length_append] at he8
            cases he8
            rw [rowc_last] at hs8
            exact hs8
          case measure => simp [intOf]; omega
    · have hme : n = m := by omega
      subst hme
      have hlti : ¬ (n : Int) + 1 ≤ n := by omega
      have q1 : ws.cell? ⟨qb, qo + k, none⟩ = some (.int .i64 (ch n k)) := HSA.out.int (rowc_at hk)
      have hz1 : ¬ (n : Int) + 1 ≤ k := by omega
      have hz2 : (k : Int) < (n : Int) + 1 := by omega
      go_wp2_with (fail)
      go_ret2
      exact ⟨rfl, HKS.out⟩

def TlInv (n k : Nat) (w0 : World) (sv iv : Value) (w : World) : Prop :=
  ∃ j : Nat, iv = .int .i64 (k + j : Nat) ∧ k + j ≤ n + 1 ∧ sv = .int .i64 (up n k j) ∧ Keep None w0 w

set_option maxRecDepth 100000 in
set_option maxHeartbeats 4000000 in
theorem refTail_calls (n k : Nat) (w : World) (hn : n ≤ 60) (hk : k ≤ n) :
    Calls Tryd.prog 56 #[.int .i64 n, .int .i64 k] w (Gives None (.tuple #[.int .i64 (tl n k), .int .i64 0]) w) := by
  have hmax : max (k : Int) 0 = k := by omega
  have hn1 : ¬ (n : Int) < 0 := by omega
  have hn2 : ¬ (60 : Int) < n := by omega
  go_enter Tryd.func56, Tryd.ntmps56
  go_wp2_with (fail)
  go_loopw [6, 7] (TlInv n k w) (fun _ i _ => n + 1 - (intOf i).toNat)
  case atStart => exact ⟨0, rfl, by omega, rfl, Keep.refl _ _⟩
  case round =>
    obtain ⟨j, rfl, hj, rfl, hkp⟩ := hrel
    have HKP := Lib.hid hkp
    clear hkp
    by_cases hlt : k + j ≤ n
    · have hlti : ((k + j : Nat) : Int) ≤ n := by omega
      have hb1 := Nat.le_trans (up_le n k j) (Nat.le_trans (Nat.pow_le_pow_right (by decide : 2 > 0) hn) (by decide : 2 ^ 60 ≤ 1152921504606846976))
      have hb2 := ch60 (n := n) (k := k + j) hn
      have hup : up n k (j + 1) = up n k j + ch n (k + j) := rfl
      have HUP := Lib.hid hup
      have HCC := Lib.hid (choose_calls n (k + j) wr hn hlt)
      clear hup
      generalize hA : ch n (k + j) = A at *
      generalize hB : up n k j = B at *
      have HA := Lib.hid hA
      have HB := Lib.hid hB
      clear hA hB
      have hz2 : IntKind.i64.wrap ((B : Int) + A) = ((B + A : Nat) : Int) := by rw [IntWalk.i64_in _ (by omega)]; omega
      go_wp2_with (go_at_call 68; refine HCC.out.mono ?_; rintro e w1 ⟨rfl, hk1⟩)
      go_roundw
      case rel =>
        refine ⟨j + 1, congrArg _ (by omega), by omega, ?_, HKP.out.trans hk1⟩
        rw [HUP.out]
        exact congrArg _ (by omega)
      case measure => simp [intOf] <;> omega
    · have hj2 : j = n + 1 - k := by omega
      have HV : Hid (up n k j = tl n k) := Lib.hid (by rw [hj2]; rfl)
      have hlti : ¬ ((k + j : Nat) : Int) ≤ n := by omega
      clear hj2
      go_wp2_with (fail)
      go_ret2
      exact ⟨by rw [HV.out]; rfl, HKP.out⟩

end Go.Proofs.YtgelfefoiplekaaDoor
