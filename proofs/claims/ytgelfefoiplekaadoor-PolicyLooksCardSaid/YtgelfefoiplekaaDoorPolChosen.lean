/-
  Chapter 44: which machines get a release; both functions.
-/
import Derived.Test.YtgelfefoiplekaaDoorPolValidR
namespace Go.Proofs.YtgelfefoiplekaaDoor
open Go.RowKit PN

theorem Tryd.sizePolicy : (Tryd.prog.info? 30).map (·.size) = some 4 := by kernel_rfl
def chosenB (p : Pol) (i m : Int) : Bool := validB p && decide (0 ≤ i) && decide (i < p.st.length) && decide (0 ≤ m) && decide (m % 100 < ((p.st[i.toNat]?).getD (0, 0)).1)

theorem chosen_no {p : Pol} {i m : Int} (h : validB p = false ∨ i < 0 ∨ (p.st.length : Int) ≤ i ∨ m < 0) : chosenB p i m = false := by
  unfold chosenB
  rcases h with h | h | h | h
  · rw [h]; rfl
  · simp [show ¬ 0 ≤ i by omega]
  · simp [show ¬ i < p.st.length by omega]
  · simp [show ¬ 0 ≤ m by omega]
theorem chosen_yes {p : Pol} {k : Nat} {m : Int} {s : Int × Int} (h : validB p = true) (hs : p.st[k]? = some s) (hm : 0 ≤ m) : chosenB p k m = decide (m % 100 < s.1) := by
  unfold chosenB
  have hk : (k : Int) < p.st.length := by have := (List.getElem?_eq_some_iff.1 hs).1; omega
  rw [h, Int.toNat_natCast, hs]
  simp [hk, hm]

set_option maxRecDepth 100000 in
set_option maxHeartbeats 4000000 in
theorem chosen_calls (a : Option Addr) (c : Nat) (p : Pol) (i m : Int) (w : World) (h : PolAt w a p) (hi : i64 i) (hm : i64 m) :
    Calls Tryd.prog 18 #[polVal a c p, .int .i64 i, .int .i64 m] w (Gives None (.bool (chosenB p i m)) w) := by
  unfold i64 at hi hm
  obtain ⟨hi0, hi1⟩ := hi
  obtain ⟨hm0, hm1⟩ := hm
  have ln := h.ln
  have HP := Lib.hid h
  unfold polVal
  clear h
  have HBX : Hid (∃ W : World, Keep None w W ∧ W = w.alloc (.cells #[.slice a p.st.length c, .int .i64 p.num, .int .i64 p.den, .int .i64 p.margin] 30) ∧ W.heap[w.heap.size]? = some (.cells #[.slice a p.st.length c, .int .i64 p.num, .int .i64 p.den, .int .i64 p.margin] 30 (0, 0))) :=
    Lib.hid ⟨_, (Keep.refl None w).alloc _, rfl, heap_alloc_new _ _⟩
  obtain ⟨W, hKW, hWe, ho1⟩ := HBX.out
  have HK := Lib.hid hKW
  have HWE := Lib.hid hWe.symm
  have O1 := Lib.hid ho1
  have hwW := heap_lt ho1
  clear HBX hKW hWe ho1
  have b1 : Hid (∀ W' : World, Keep None W W' → W'.cell? ⟨w.heap.size, 0, none⟩ = some (.slice a p.st.length c) ∧ W'.cell? ⟨w.heap.size, 1, none⟩ = some (.int .i64 p.num) ∧ W'.cell? ⟨w.heap.size, 2, none⟩ = some (.int .i64 p.den) ∧ W'.cell? ⟨w.heap.size, 3, none⟩ = some (.int .i64 p.margin)) := Lib.hid (fun W' hk => by
    have h2 := hk.obj O1.out id
    simp [World.cell?, h2])
  cases hv : validB p with
  | false =>
    have HC := Lib.hid (chosen_no (p := p) (i := i) (m := m) (.inl hv))
    have HV := Lib.hid hv
    clear hv
    (go_enter Tryd.func18, Tryd.ntmps18; go_wp2_with (first | ((with_reducible (show wpList _ _ _ (⟨some 7, .load 30 _, _, _, _, none⟩ :: _) _ _)); (try rw [HWE.out]); refine wpList_loadEl (enc := listEnc) (size := 4) rfl 30 _ rfl _ _ rfl [.slice a p.st.length c, .int .i64 p.num, .int .i64 p.den, .int .i64 p.margin] _ (range_of_obj O1.out) rfl Tryd.underlying30 rfl Tryd.sizePolicy (.agg #[.slice a p.st.length c, .int .i64 p.num, .int .i64 p.den, .int .i64 p.margin]) rfl ?_) | (go_at_call 15; (try rw [HWE.out]); refine (valid_calls _ c p W (HP.out.still HK.out)).mono ?_; rintro e w1 ⟨rfl, hk1⟩; rw [HV.out]; obtain ⟨c0, -⟩ := b1.out _ hk1; have HK1 := Lib.hid hk1; clear hk1)); (go_ret; exact ⟨by rw [HC.out]; rfl, HK.out.trans HK1.out⟩))
  | true =>
  have HV := Lib.hid hv
  clear hv
  cases d1 : decide (i < 0) with
  | true =>
    have HC := Lib.hid (chosen_no (p := p) (i := i) (m := m) (.inr (.inl (of_decide_eq_true d1))))
    (go_enter Tryd.func18, Tryd.ntmps18; go_wp2_with (first | ((with_reducible (show wpList _ _ _ (⟨some 7, .load 30 _, _, _, _, none⟩ :: _) _ _)); (try rw [HWE.out]); refine wpList_loadEl (enc := listEnc) (size := 4) rfl 30 _ rfl _ _ rfl [.slice a p.st.length c, .int .i64 p.num, .int .i64 p.den, .int .i64 p.margin] _ (range_of_obj O1.out) rfl Tryd.underlying30 rfl Tryd.sizePolicy (.agg #[.slice a p.st.length c, .int .i64 p.num, .int .i64 p.den, .int .i64 p.margin]) rfl ?_) | (go_at_call 15; (try rw [HWE.out]); refine (valid_calls _ c p W (HP.out.still HK.out)).mono ?_; rintro e w1 ⟨rfl, hk1⟩; rw [HV.out]; obtain ⟨c0, -⟩ := b1.out _ hk1; have HK1 := Lib.hid hk1; clear hk1)); (go_ret; exact ⟨by rw [HC.out]; rfl, HK.out.trans HK1.out⟩))
  | false =>
  cases d2 : decide ((p.st.length : Int) ≤ i) with
  | true =>
    have HC := Lib.hid (chosen_no (p := p) (i := i) (m := m) (.inr (.inr (.inl (of_decide_eq_true d2)))))
    (go_enter Tryd.func18, Tryd.ntmps18; go_wp2_with (first | ((with_reducible (show wpList _ _ _ (⟨some 7, .load 30 _, _, _, _, none⟩ :: _) _ _)); (try rw [HWE.out]); refine wpList_loadEl (enc := listEnc) (size := 4) rfl 30 _ rfl _ _ rfl [.slice a p.st.length c, .int .i64 p.num, .int .i64 p.den, .int .i64 p.margin] _ (range_of_obj O1.out) rfl Tryd.underlying30 rfl Tryd.sizePolicy (.agg #[.slice a p.st.length c, .int .i64 p.num, .int .i64 p.den, .int .i64 p.margin]) rfl ?_) | (go_at_call 15; (try rw [HWE.out]); refine (valid_calls _ c p W (HP.out.still HK.out)).mono ?_; rintro e w1 ⟨rfl, hk1⟩; rw [HV.out]; obtain ⟨c0, -⟩ := b1.out _ hk1; have HK1 := Lib.hid hk1; clear hk1)); (go_ret; exact ⟨by rw [HC.out]; rfl, HK.out.trans HK1.out⟩))
  | false =>
  cases d3 : decide (m < 0) with
  | true =>
    have HC := Lib.hid (chosen_no (p := p) (i := i) (m := m) (.inr (.inr (.inr (of_decide_eq_true d3)))))
    (go_enter Tryd.func18, Tryd.ntmps18; go_wp2_with (first | ((with_reducible (show wpList _ _ _ (⟨some 7, .load 30 _, _, _, _, none⟩ :: _) _ _)); (try rw [HWE.out]); refine wpList_loadEl (enc := listEnc) (size := 4) rfl 30 _ rfl _ _ rfl [.slice a p.st.length c, .int .i64 p.num, .int .i64 p.den, .int .i64 p.margin] _ (range_of_obj O1.out) rfl Tryd.underlying30 rfl Tryd.sizePolicy (.agg #[.slice a p.st.length c, .int .i64 p.num, .int .i64 p.den, .int .i64 p.margin]) rfl ?_) | (go_at_call 15; (try rw [HWE.out]); refine (valid_calls _ c p W (HP.out.still HK.out)).mono ?_; rintro e w1 ⟨rfl, hk1⟩; rw [HV.out]; obtain ⟨c0, -⟩ := b1.out _ hk1; have HK1 := Lib.hid hk1; clear hk1)); (go_ret; exact ⟨by rw [HC.out]; rfl, HK.out.trans HK1.out⟩))
  | false =>
    have g1 := of_decide_eq_false d1
    have g2 := of_decide_eq_false d2
    have g3 : 0 ≤ m := by have := of_decide_eq_false d3; omega
    obtain ⟨k, rfl⟩ : ∃ k : Nat, i = k := ⟨i.toNat, by omega⟩
    have hlt : k < p.st.length := by omega
    have hlti : (k : Int) < p.st.length := by omega
    obtain ⟨⟨x, y⟩, hx⟩ : ∃ s, p.st[k]? = some s := ⟨p.st[k], by simp [hlt]⟩
    have HC := Lib.hid (chosen_yes HV.out hx g3)
    obtain ⟨b, off, rfl, hsl⟩ : ∃ b off, a = some ⟨b, off, none⟩ ∧ SlAt stEnc 2 W b off p.st := by
      rcases (HP.out.still HK.out).st with h | h
      · rw [h] at hlt; simp at hlt
      · exact h
    have HX := Lib.hid (hsl k _ hx 0 _ rfl)
    have d2' : decide (p.st.length ≤ k) = false := by simp; omega
    clear hsl hx g1 g2 d1 d2
    go_enter Tryd.func18, Tryd.ntmps18
    go_wp2_with (first | ((with_reducible (show wpList _ _ _ (⟨some 7, .load 30 _, _, _, _, none⟩ :: _) _ _)); (try rw [HWE.out]); refine wpList_loadEl (enc := listEnc) (size := 4) rfl 30 _ rfl _ _ rfl [.slice a p.st.length c, .int .i64 p.num, .int .i64 p.den, .int .i64 p.margin] _ (range_of_obj O1.out) rfl Tryd.underlying30 rfl Tryd.sizePolicy (.agg #[.slice a p.st.length c, .int .i64 p.num, .int .i64 p.den, .int .i64 p.margin]) rfl ?_) | (((go_at_call 15; (try rw [HWE.out]); refine (valid_calls _ c p W (HP.out.still HK.out)).mono ?_; rintro e w1 ⟨rfl, hk1⟩; rw [HV.out]; obtain ⟨c0, -⟩ := b1.out _ hk1; have HK1 := Lib.hid hk1; clear hk1)); have q1 : w1.cell? ⟨b, off + k * 2, none⟩ = some (.int .i64 x) := HK1.out.cell HX.out id))
    (go_ret; exact ⟨by rw [HC.out]; rfl, HK.out.trans HK1.out⟩)

set_option maxRecDepth 100000 in
set_option maxHeartbeats 4000000 in
theorem refChosen_calls (a : Option Addr) (c : Nat) (p : Pol) (i m : Int) (w : World) (h : PolAt w a p) (hi : i64 i) (hm : i64 m) :
    Calls Tryd.prog 19 #[polVal a c p, .int .i64 i, .int .i64 m] w (Gives None (.bool (chosenB p i m)) w) := by
  unfold i64 at hi hm
  obtain ⟨hi0, hi1⟩ := hi
  obtain ⟨hm0, hm1⟩ := hm
  have ln := h.ln
  have HP := Lib.hid h
  unfold polVal
  clear h
  have HBX : Hid (∃ W : World, Keep None w W ∧ W = w.alloc (.cells #[.slice a p.st.length c, .int .i64 p.num, .int .i64 p.den, .int .i64 p.margin] 30) ∧ W.heap[w.heap.size]? = some (.cells #[.slice a p.st.length c, .int .i64 p.num, .int .i64 p.den, .int .i64 p.margin] 30 (0, 0))) :=
    Lib.hid ⟨_, (Keep.refl None w).alloc _, rfl, heap_alloc_new _ _⟩
  obtain ⟨W, hKW, hWe, ho1⟩ := HBX.out
  have HK := Lib.hid hKW
  have HWE := Lib.hid hWe.symm
  have O1 := Lib.hid ho1
  have hwW := heap_lt ho1
  clear HBX hKW hWe ho1
  have b1 : Hid (∀ W' : World, Keep None W W' → W'.cell? ⟨w.heap.size, 0, none⟩ = some (.slice a p.st.length c) ∧ W'.cell? ⟨w.heap.size, 1, none⟩ = some (.int .i64 p.num) ∧ W'.cell? ⟨w.heap.size, 2, none⟩ = some (.int .i64 p.den) ∧ W'.cell? ⟨w.heap.size, 3, none⟩ = some (.int .i64 p.margin)) := Lib.hid (fun W' hk => by
    have h2 := hk.obj O1.out id
    simp [World.cell?, h2])
  cases hv : validB p with
  | false =>
    have HC := Lib.hid (chosen_no (p := p) (i := i) (m := m) (.inl hv))
    have HV := Lib.hid hv
    clear hv
    (go_enter Tryd.func19, Tryd.ntmps19; go_wp2_with (first | ((with_reducible (show wpList _ _ _ (⟨some 7, .load 30 _, _, _, _, none⟩ :: _) _ _)); (try rw [HWE.out]); refine wpList_loadEl (enc := listEnc) (size := 4) rfl 30 _ rfl _ _ rfl [.slice a p.st.length c, .int .i64 p.num, .int .i64 p.den, .int .i64 p.margin] _ (range_of_obj O1.out) rfl Tryd.underlying30 rfl Tryd.sizePolicy (.agg #[.slice a p.st.length c, .int .i64 p.num, .int .i64 p.den, .int .i64 p.margin]) rfl ?_) | (go_at_call 34; (try rw [HWE.out]); refine (refValid_calls _ c p W (HP.out.still HK.out)).mono ?_; rintro e w1 ⟨rfl, hk1⟩; rw [HV.out]; obtain ⟨c0, -⟩ := b1.out _ hk1; have HK1 := Lib.hid hk1; clear hk1)); (go_ret; exact ⟨by rw [HC.out]; rfl, HK.out.trans HK1.out⟩))
  | true =>
  have HV := Lib.hid hv
  clear hv
  cases d1 : decide (0 ≤ i) with
  | false =>
    have HC := Lib.hid (chosen_no (p := p) (i := i) (m := m) (.inr (.inl (by have := of_decide_eq_false d1; omega))))
    (go_enter Tryd.func19, Tryd.ntmps19; go_wp2_with (first | ((with_reducible (show wpList _ _ _ (⟨some 7, .load 30 _, _, _, _, none⟩ :: _) _ _)); (try rw [HWE.out]); refine wpList_loadEl (enc := listEnc) (size := 4) rfl 30 _ rfl _ _ rfl [.slice a p.st.length c, .int .i64 p.num, .int .i64 p.den, .int .i64 p.margin] _ (range_of_obj O1.out) rfl Tryd.underlying30 rfl Tryd.sizePolicy (.agg #[.slice a p.st.length c, .int .i64 p.num, .int .i64 p.den, .int .i64 p.margin]) rfl ?_) | (go_at_call 34; (try rw [HWE.out]); refine (refValid_calls _ c p W (HP.out.still HK.out)).mono ?_; rintro e w1 ⟨rfl, hk1⟩; rw [HV.out]; obtain ⟨c0, -⟩ := b1.out _ hk1; have HK1 := Lib.hid hk1; clear hk1)); (go_ret; exact ⟨by rw [HC.out]; rfl, HK.out.trans HK1.out⟩))
  | true =>
  cases d2 : decide (i < (p.st.length : Int)) with
  | false =>
    have HC := Lib.hid (chosen_no (p := p) (i := i) (m := m) (.inr (.inr (.inl (by have := of_decide_eq_false d2; omega)))))
    (go_enter Tryd.func19, Tryd.ntmps19; go_wp2_with (first | ((with_reducible (show wpList _ _ _ (⟨some 7, .load 30 _, _, _, _, none⟩ :: _) _ _)); (try rw [HWE.out]); refine wpList_loadEl (enc := listEnc) (size := 4) rfl 30 _ rfl _ _ rfl [.slice a p.st.length c, .int .i64 p.num, .int .i64 p.den, .int .i64 p.margin] _ (range_of_obj O1.out) rfl Tryd.underlying30 rfl Tryd.sizePolicy (.agg #[.slice a p.st.length c, .int .i64 p.num, .int .i64 p.den, .int .i64 p.margin]) rfl ?_) | (go_at_call 34; (try rw [HWE.out]); refine (refValid_calls _ c p W (HP.out.still HK.out)).mono ?_; rintro e w1 ⟨rfl, hk1⟩; rw [HV.out]; obtain ⟨c0, -⟩ := b1.out _ hk1; have HK1 := Lib.hid hk1; clear hk1)); (go_ret; exact ⟨by rw [HC.out]; rfl, HK.out.trans HK1.out⟩))
  | true =>
  cases d3 : decide (0 ≤ m) with
  | false =>
    have HC := Lib.hid (chosen_no (p := p) (i := i) (m := m) (.inr (.inr (.inr (by have := of_decide_eq_false d3; omega)))))
    (go_enter Tryd.func19, Tryd.ntmps19; go_wp2_with (first | ((with_reducible (show wpList _ _ _ (⟨some 7, .load 30 _, _, _, _, none⟩ :: _) _ _)); (try rw [HWE.out]); refine wpList_loadEl (enc := listEnc) (size := 4) rfl 30 _ rfl _ _ rfl [.slice a p.st.length c, .int .i64 p.num, .int .i64 p.den, .int .i64 p.margin] _ (range_of_obj O1.out) rfl Tryd.underlying30 rfl Tryd.sizePolicy (.agg #[.slice a p.st.length c, .int .i64 p.num, .int .i64 p.den, .int .i64 p.margin]) rfl ?_) | (go_at_call 34; (try rw [HWE.out]); refine (refValid_calls _ c p W (HP.out.still HK.out)).mono ?_; rintro e w1 ⟨rfl, hk1⟩; rw [HV.out]; obtain ⟨c0, -⟩ := b1.out _ hk1; have HK1 := Lib.hid hk1; clear hk1)); (go_ret; exact ⟨by rw [HC.out]; rfl, HK.out.trans HK1.out⟩))
  | true =>
    have g1 := of_decide_eq_true d1
    have g2 := of_decide_eq_true d2
    have g3 := of_decide_eq_true d3
    obtain ⟨k, rfl⟩ : ∃ k : Nat, i = k := ⟨i.toNat, by omega⟩
    have hlt : k < p.st.length := by omega
    obtain ⟨⟨x, y⟩, hx⟩ : ∃ s, p.st[k]? = some s := ⟨p.st[k], by simp [hlt]⟩
    have HC := Lib.hid (chosen_yes HV.out hx g3)
    obtain ⟨b, off, rfl, hsl⟩ : ∃ b off, a = some ⟨b, off, none⟩ ∧ SlAt stEnc 2 W b off p.st := by
      rcases (HP.out.still HK.out).st with h | h
      · rw [h] at hlt; simp at hlt
      · exact h
    have HX := Lib.hid (hsl k _ hx 0 _ rfl)
    clear hsl hx
    go_enter Tryd.func19, Tryd.ntmps19
    go_wp2_with (first | ((with_reducible (show wpList _ _ _ (⟨some 7, .load 30 _, _, _, _, none⟩ :: _) _ _)); (try rw [HWE.out]); refine wpList_loadEl (enc := listEnc) (size := 4) rfl 30 _ rfl _ _ rfl [.slice a p.st.length c, .int .i64 p.num, .int .i64 p.den, .int .i64 p.margin] _ (range_of_obj O1.out) rfl Tryd.underlying30 rfl Tryd.sizePolicy (.agg #[.slice a p.st.length c, .int .i64 p.num, .int .i64 p.den, .int .i64 p.margin]) rfl ?_) | (((go_at_call 34; (try rw [HWE.out]); refine (refValid_calls _ c p W (HP.out.still HK.out)).mono ?_; rintro e w1 ⟨rfl, hk1⟩; rw [HV.out]; obtain ⟨c0, -⟩ := b1.out _ hk1; have HK1 := Lib.hid hk1; clear hk1)); have q1 : w1.cell? ⟨b, off + k * 2, none⟩ = some (.int .i64 x) := HK1.out.cell HX.out id))
    (go_ret; exact ⟨by rw [HC.out]; rfl, HK.out.trans HK1.out⟩)

end Go.Proofs.YtgelfefoiplekaaDoor
