/-
  Chapter 44: PolicyLevel, walked.
-/
import Derived.Test.YtgelfefoiplekaaDoorPolWor
namespace Go.Proofs.YtgelfefoiplekaaDoor
open Go.RowKit PN

/-- The outcome number s of some pairs. -/
def prs (s B : Nat) : List Pr := (List.range B).map fun i => (10, 9 + 2 * (bit s i : Int))
theorem prs_snoc (s B : Nat) : prs s (B + 1) = prs s B ++ [(10, 9 + 2 * (bit s B : Int))] := by simp [prs, List.range_succ]
theorem prs_len (s B : Nat) : (prs s B).length = B := by simp [prs]
theorem prs_take (s B j : Nat) (h : j ≤ B) : (prs s B).take j = prs s j := by
  unfold prs
  rw [← List.map_take, List.take_range, Nat.min_eq_left h]
theorem bit_lt (s i : Nat) : bit s i < 2 := Nat.mod_lt _ (by decide)
theorem prs_count (s : Nat) : ∀ j, nw 0 (prs s j) = pop s j ∧ nb 0 (prs s j) + pop s j = j
  | 0 => ⟨rfl, rfl⟩
  | j + 1 => by
    obtain ⟨h1, h2⟩ := prs_count s j
    have hb := bit_lt s j
    rw [prs_snoc, nw_snoc, nb_snoc, h1, pop]
    rcases (by omega : bit s j = 0 ∨ bit s j = 1) with hb | hb
    · rw [hb]; simp [worseB, betterB]; omega
    · rw [hb]; simp [worseB, betterB]; omega
theorem prs_ok (s B : Nat) : ∀ x ∈ prs s B, okPr x = true := by
  intro x hx
  unfold prs at hx
  obtain ⟨i, -, rfl⟩ := List.mem_map.1 hx
  have := bit_lt s i
  simp only [okPr, meas, Bool.and_eq_true, decide_eq_true_eq]
  omega

def lvP (N A B : Nat) : Pol := ⟨N, 40, 0, [(10, A), (50, B)]⟩
theorem lvP_valid {N A B : Nat} (hN : N ≤ 40) (hA : 1 ≤ A) (hB : A < B) (hB2 : B ≤ 60) : validB (lvP N A B) = true := by
  unfold validB lvP shareB
  simp [asc]
  omega
theorem lvP_look {N A B s j : Nat} (hj : j ≤ B) : lookB (lvP N A B) (prs s B) j = sig j (pop s j) N 80 := by
  obtain ⟨h1, h2⟩ := prs_count s j
  unfold lookB
  rw [prs_take s B j hj]
  show sig (nb 0 (prs s j) + nw 0 (prs s j)) (nw 0 (prs s j)) (N : Int).toNat (40 * 2) = _
  rw [h1, h2, Int.toNat_natCast]
/-- Whether the outcome number s is withdrawn. -/
def rB (N A B s : Nat) : Bool := decide ((verd (lookB (lvP N A B) (prs s B)) B (lvP N A B).st 0).1 = 2)
theorem rB_law {N A B s : Nat} (hB : A < B) (h : rB N A B s = true) : sig A (pop s A) N 80 = true ∨ sig B (pop s B) N 80 = true := by
  have h := of_decide_eq_true h
  by_cases h1 : lookB (lvP N A B) (prs s B) A = true
  · rw [lvP_look (by omega)] at h1; exact .inl h1
  · by_cases h2 : lookB (lvP N A B) (prs s B) B = true
    · rw [lvP_look (Nat.le_refl _)] at h2; exact .inr h2
    · exfalso
      have e : (lvP N A B).st = [(10, (A : Int)), (50, (B : Int))] := rfl
      rw [e, verd] at h
      simp only [Int.toNat_natCast] at h
      rw [if_neg (by omega), if_neg h1, verd] at h
      simp only [Int.toNat_natCast] at h
      rw [if_neg (by omega), if_neg h2] at h
      simp [verd] at h
theorem lev_law {N A B : Nat} (hB : A < B) : cnt (rB N A B) (2 ^ B) * 40 ≤ N * 2 ^ B :=
  level_law A B N (by omega) _ (fun _ _ h => rB_law hB h)

theorem cnt_le (p : Nat → Bool) : ∀ m, cnt p m ≤ m
  | 0 => Nat.le_refl _
  | m + 1 => by rw [cnt]; have := cnt_le p m; split <;> omega

def LvIn (s B base : Nat) (w0 : World) (lv iv : Value) (w : World) : Prop :=
  ∃ (k : Nat) (q : Option Addr) (c : Nat), iv = .int .i64 k ∧ k ≤ B ∧ lv = .slice q (prs s k).length c ∧ Own prEnc 2 53 base w (.slice q (prs s k).length c) (prs s k) ∧ Keep (base ≤ ·) w0 w
def LvInv (N A B E base : Nat) (w0 : World) (nv sv : Value) (w : World) : Prop :=
  ∃ s : Nat, sv = .int .i64 s ∧ s ≤ E ∧ nv = .int .i64 (cnt (rB N A B) s) ∧ Keep (base ≤ ·) w0 w

set_option maxRecDepth 100000 in
set_option maxHeartbeats 8000000 in
theorem lawLevel_calls (n0 f0 s0 : Int) (w : World) (hn : 0 ≤ n0 ∧ n0 ≤ 255) (hf : 0 ≤ f0 ∧ f0 ≤ 255) (hs : 0 ≤ s0 ∧ s0 ≤ 255) (hE : Env w) (h6 : 6 ≤ w.heap.size) :
    Calls Tryd.prog 7 #[.int .u8 n0, .int .u8 f0, .int .u8 s0] w (Gives None (.bool true) w) := by
  have HE := Lib.hid hE
  clear hE
  obtain ⟨N, hN, hN40⟩ : ∃ N : Nat, n0 % 41 = N ∧ N ≤ 40 := ⟨(n0 % 41).toNat, by omega, by omega⟩
  obtain ⟨A, hA, hA1, hA6⟩ : ∃ A : Nat, 1 + f0 % 6 = A ∧ 1 ≤ A ∧ A ≤ 6 := ⟨(1 + f0 % 6).toNat, by omega, by omega, by omega⟩
  obtain ⟨B, hB, hB1, hB6⟩ : ∃ B : Nat, (A : Int) + 1 + s0 % 4 = B ∧ A < B ∧ B ≤ 10 := ⟨((A : Int) + 1 + s0 % 4).toNat, by omega, by omega, by omega⟩
  have HN := Lib.hid hN
  have HA := Lib.hid hA
  have HB := Lib.hid hB
  have hVAL := lvP_valid hN40 hA1 hB1 (by omega)
  have HVAL := Lib.hid hVAL
  clear hN hA hB hVAL
  go_enter Tryd.func7, Tryd.ntmps7
  go_upto_region 4 with (go_at_call 9; refine (awake_calls _ HE.out h6).mono ?_; rintro e w1 ⟨rfl, hk1⟩; have HK1 := Lib.hid hk1; clear hk1)
  rw [HA.out]
  go_upto_region 5 with (fail)
  rw [HB.out]
  go_upto_region 6 with (fail)
  rw [HN.out]
  obtain ⟨w4, hw4⟩ : ∃ w4, w4 = (w1.alloc (.cells #[.int .i64 10, .int .i64 A, .int .i64 50, .int .i64 B] 45)).alloc (.cells #[.slice (some ⟨w1.heap.size, 0, none⟩) 2 2, .int .i64 N, .int .i64 40, .int .i64 0] 30) := ⟨_, rfl⟩
  rw [← hw4]
  have hk4 : Keep None w1 w4 := by rw [hw4]; exact ((Keep.refl _ _).alloc _).alloc _
  have ho4 : w4.heap[w1.heap.size + 1]? = some (.cells #[.slice (some ⟨w1.heap.size, 0, none⟩) 2 2, .int .i64 N, .int .i64 40, .int .i64 0] 30 (0, 0)) := by rw [hw4]; exact alloc_at (by simp)
  have hst4 : w4.heap[w1.heap.size]? = some (.cells #[.int .i64 10, .int .i64 A, .int .i64 50, .int .i64 B] 45 (0, 0)) := by rw [hw4]; exact ((Keep.refl None _).alloc _).obj (heap_alloc_new _ _) id
  clear hw4
  have hw14 := heap_lt ho4
  have hPA : PolAt w4 (some ⟨w1.heap.size, 0, none⟩) (lvP N A B) := ⟨.inr ⟨_, _, rfl, fun i x hx j u hu => by
    match i, hx with
    | 0, hx =>
      simp [lvP] at hx
      subst hx
      match j, hu with
      | 0, hu => simp [stEnc] at hu; subst hu; exact cell_of_row _ _ 0 _ _ _ hst4
      | 1, hu => simp [stEnc] at hu; subst hu; exact cell_of_row _ _ 1 _ _ _ hst4
      | j + 2, hu => simp [stEnc] at hu
    | 1, hx =>
      simp [lvP] at hx
      subst hx
      match j, hu with
      | 0, hu => simp [stEnc] at hu; subst hu; exact cell_of_row _ _ 2 _ _ _ hst4
      | 1, hu => simp [stEnc] at hu; subst hu; exact cell_of_row _ _ 3 _ _ _ hst4
      | j + 2, hu => simp [stEnc] at hu
    | i + 2, hx => simp [lvP] at hx⟩, by simp [lvP]⟩
  have HBOX : Hid (∀ w', Keep (w4.heap.size ≤ ·) w4 w' → w'.heap[w1.heap.size + 1]? = some (.cells #[.slice (some ⟨w1.heap.size, 0, none⟩) 2 2, .int .i64 N, .int .i64 40, .int .i64 0] 30 (0, 0))) := Lib.hid (fun w' hk => hk.obj ho4 (by omega))
  have HPOL : Hid (∀ w', Keep (w4.heap.size ≤ ·) w4 w' → PolAt w' (some ⟨w1.heap.size, 0, none⟩) (lvP N A B)) := Lib.hid (fun w' hk => ⟨hPA.st.newer hk, hPA.ln⟩)
  have HK4 := Lib.hid (HK1.out.trans hk4)
  clear hk4 ho4 hst4 hPA
  obtain ⟨E, hE⟩ : ∃ E, E = 2 ^ B := ⟨_, rfl⟩
  have hEb : E ≤ 1024 := by rw [hE]; exact Nat.le_trans (Nat.pow_le_pow_right (by decide) hB6) (by decide)
  have HEE := Lib.hid hE
  have hu1 : IntKind.i64.wrap ((2 : Int) ^ B) = E := by rw [show ((2 : Int) ^ B) = ((2 ^ B : Nat) : Int) by simp, ← hE]; exact IntWalk.i64_in _ (by omega)
  have hu2 : IntKind.u64.wrap (B : Int) = B := u64_small (by omega)
  clear hE
  obtain ⟨i5, hi5, hv0, hv1, hv2⟩ := info_parts Tryd.infoPair
  go_wp2_with (fail)
  go_loopw [10, 11] (LvInv N A B E w4.heap.size w4) (fun _ s _ => E - (intOf s).toNat)
  case atStart => exact ⟨0, rfl, by omega, rfl, Keep.refl _ _⟩
  case round =>
    obtain ⟨s, rfl, hsE, rfl, hkp⟩ := hrel
    generalize wr = ws at *
    have HKS := Lib.hid hkp
    clear hkp
    obtain ⟨C, hC⟩ : ∃ C, C = cnt (rB N A B) s := ⟨_, rfl⟩
    rw [← hC]
    have hCs : C ≤ s := by rw [hC]; exact cnt_le _ _
    have HC := Lib.hid hC
    clear hC
    by_cases hlt : s < E
    · have hlti : (s : Int) < E := by omega
      go_wp2_with (fail)
      go_loopw [12, 13] (LvIn s B ws.heap.size ws) (fun _ i _ => B - (intOf i).toNat)
      case atStart => exact ⟨0, none, 0, rfl, by omega, rfl, Own.nil _ _ _ _ _, Keep.refl _ _⟩
      case round =>
        obtain ⟨k, q, c, rfl, hk, rfl, hown, hkp⟩ := hrel
        have HKR := Lib.hid hkp
        have HOWN := Lib.hid hown
        clear hkp hown
        by_cases hkB : k < B
        · have hkBi : (k : Int) < B := by omega
          have hu3 : IntKind.u64.wrap (k : Int) = k := u64_small (by omega)
          have hpl : (prs s k).length = k := prs_len s k
          obtain ⟨u, hu⟩ : ∃ u, u = bit s k := ⟨_, rfl⟩
          have hu01 : u < 2 := by rw [hu]; exact bit_lt s k
          have hbit : bits BinOp.and IntKind.i64 ((s : Int) / 2 ^ k) 1 = (u : Int) := by
            obtain ⟨Z, hZ⟩ : ∃ Z, Z = s / 2 ^ k := ⟨_, rfl⟩
            have h1 : (s : Int) / 2 ^ k = (Z : Int) := by rw [hZ]; simp
            have h2 : Z ≤ s := by rw [hZ]; exact Nat.div_le_self _ _
            have h3 := bits_mask .i64 62 (by decide) (fun n h0 h1 => IntWalk.i64_in _ (by omega)) 1 (by decide) (Z : Int) (by omega) (by omega)
            rw [show ((2 : Int) ^ 1 - 1) = 1 by decide, show ((2 : Int) ^ 1) = 2 by decide] at h3
            rw [h1, h3, hu]
            simp [bit, hZ]
          have HU := Lib.hid hu
          clear hu
          go_wp2_with (at_builtin; go_loud (refine wpList_pushAt rfl _ _ 47 rfl ws.heap.size _ i5 _ 16 Tryd.underlying47 hi5 hv0 hv1 hv2 rfl (by decide) prEnc_len (.slice q (prs s k).length c) (prs s k) rfl (HOWN.out.keep (S := None) ((Keep.refl _ _).alloc _) (fun _ _ => id)) (10, 9 + 2 * (u : Int)) wr.heap.size _ rfl _ (heap_alloc_new _ _) (by simp [prEnc]) rfl (by simp [Value.oneCell']) (by omega) (by omega) (by have := HKR.out.size; simp; omega) ?_; intro p5 c5 w10 hown5 hk5 hk5' hb5; have HE5 := Lib.hid hown5; have HK10 := Lib.hid hk5; clear hown5 hk5 hk5' hb5))
          go_roundw
          case rel =>
            refine ⟨k + 1, p5, c5, by go_num, by omega, by rw [prs_len], ?_, (HKR.out.trans ((Keep.refl None wr).alloc _ |>.weaken (fun _ _ q => q.elim))).trans HK10.out⟩
            rw [prs_len, prs_snoc, ← HU.out]
            rw [hpl] at HE5
            exact HE5.out
          case measure => simp [intOf]; omega
        · have hke : B = k := by omega
          subst hke
          obtain ⟨v, i, e1, g1, o1, b1⟩ := verdict_is HVAL.out (prs_ok s B) (by rw [prs_len]; omega)
          have HR : Hid (rB N A B s = decide (v = 2)) := Lib.hid (by unfold rB; rw [prs_len] at e1; rw [e1])
          have hkr : Keep (w4.heap.size ≤ ·) w4 wr := HKS.out.trans (HKR.out.weaken (fun g _ hg => by have h3 : ws.heap.size ≤ g := hg; have := HKS.out.size; show w4.heap.size ≤ g; omega))
          have hsl := HOWN.out.slice prEnc_len
          obtain ⟨p3, c3, he3, h3, -, h5, -⟩ := hsl
          cases he3
          have HCV : Hid (Calls Tryd.prog 21 #[.agg #[.slice (some ⟨w1.heap.size, 0, none⟩) 2 2, .int .i64 N, .int .i64 40, .int .i64 0], .slice q (prs s B).length c] wr (Gives None (.tuple #[.int .i64 v, .int .i64 i, .int .i64 0]) wr)) := Lib.hid (by
            have h1 := verdict_calls (some ⟨w1.heap.size, 0, none⟩) q 2 c (lvP N A B) (prs s B) wr (HPOL.out _ hkr) h5 h3 (by rw [prs_len]; omega)
            rw [g1] at h1
            exact h1)
          have HCN : Hid (cnt (rB N A B) (s + 1) = C + if decide (v = 2) then 1 else 0) := Lib.hid (by rw [cnt, HR.out, ← HC.out])
          clear e1 g1 h3 h5
          rcases o1 with rfl | rfl | rfl
          all_goals
            go_wp2_with (first | ((with_reducible (show wpList _ _ _ (⟨some 63, .load 30 _, _, _, _, none⟩ :: _) _ _)); refine wpList_loadEl (enc := listEnc) (size := 4) rfl 30 _ rfl _ _ rfl [.slice (some ⟨w1.heap.size, 0, none⟩) 2 2, .int .i64 N, .int .i64 40, .int .i64 0] _ (range_of_obj (HBOX.out _ (by assumption))) rfl Tryd.underlying30 rfl Tryd.sizePolicy (.agg #[.slice (some ⟨w1.heap.size, 0, none⟩) 2 2, .int .i64 N, .int .i64 40, .int .i64 0]) rfl ?_) | (go_at_call 21; refine HCV.out.mono ?_; rintro e w10 ⟨rfl, hk10⟩))
            go_roundw
            case rel => exact ⟨s + 1, by go_num, by omega, by rw [HCN.out]; simp, hkr.trans (hk10.weaken (fun _ _ q => q.elim))⟩
            case measure => simp [intOf]; omega
    · have hse : s = E := by omega
      subst hse
      have hlaw := lev_law (N := N) hB1
      rw [← HEE.out, ← HC.out] at hlaw
      have hlti : ¬ (s : Int) < s := by omega
      have hp1 : (N : Int) * s ≤ 40 * 1024 := Int.mul_le_mul (by omega) (by omega) (by omega) (by omega)
      have hp0 : 0 ≤ (N : Int) * s := Int.mul_nonneg (by omega) (by omega)
      have hle : (C : Int) * 40 ≤ (N : Int) * s := by have : ((C * 40 : Nat) : Int) ≤ ((N * s : Nat) : Int) := by omega
                                                      simpa using this
      have hwn : IntKind.i64.wrap ((N : Int) * s) = (N : Int) * s := IntWalk.i64_in _ (by omega)
      have q1 : ws.cell? ⟨w1.heap.size + 1, 1, none⟩ = some (.int .i64 N) := cell_of_row _ _ 1 _ _ _ (HBOX.out _ HKS.out)
      clear hlaw
      go_wp2_with (fail)
      go_ret
      exact ⟨rfl, (Keep.refl None w).andThen ((HK4.out.weaken (T := (w.heap.size ≤ ·)) (fun _ _ q => q.elim)).trans (HKS.out.weaken (fun g _ hg => by have h3 : w4.heap.size ≤ g := hg; have := HK4.out.size; show w.heap.size ≤ g; omega))) (fun g h1 h2 => by have h3 : w.heap.size ≤ g := h2; omega)⟩


end Go.Proofs.YtgelfefoiplekaaDoor
