/-
  Chapter 44: equal policies are the same.
-/
import Derived.Test.YtgelfefoiplekaaDoorPolSpoil
namespace Go.Proofs.YtgelfefoiplekaaDoor
open Go.RowKit PN

def SameInv (n : Nat) (w0 : World) (iv : Value) (w : World) : Prop := ∃ k : Nat, iv = .int .i64 k ∧ k ≤ n ∧ Keep None w0 w

set_option maxRecDepth 100000 in
set_option maxHeartbeats 4000000 in
theorem same_calls (a a' : Option Addr) (c c' : Nat) (p : Pol) (w : World) (h : PolAt w a p) (h' : PolAt w a' p) :
    Calls Tryd.prog 14 #[polVal a c p, polVal a' c' p] w (Gives None (.bool true) w) := by
  have ln := h.ln
  have HP := Lib.hid h
  have HP' := Lib.hid h'
  unfold polVal
  clear h h'
  have HBX : Hid (∃ W : World, Keep None w W ∧ W = (w.alloc (.cells #[.slice a p.st.length c, .int .i64 p.num, .int .i64 p.den, .int .i64 p.margin] 30)).alloc (.cells #[.slice a' p.st.length c', .int .i64 p.num, .int .i64 p.den, .int .i64 p.margin] 30) ∧ W.heap[w.heap.size]? = some (.cells #[.slice a p.st.length c, .int .i64 p.num, .int .i64 p.den, .int .i64 p.margin] 30 (0, 0)) ∧ W.heap[w.heap.size + 1]? = some (.cells #[.slice a' p.st.length c', .int .i64 p.num, .int .i64 p.den, .int .i64 p.margin] 30 (0, 0))) :=
    Lib.hid ⟨_, ((Keep.refl None w).alloc _).alloc _, rfl, ((Keep.refl None _).alloc _).obj (heap_alloc_new _ _) id, alloc_at (by simp)⟩
  obtain ⟨W, hKW, hWe, ho1, ho2⟩ := HBX.out
  have HK := Lib.hid hKW
  have HWE := Lib.hid hWe.symm
  have O1 := Lib.hid ho1
  have O2 := Lib.hid ho2
  have lv : ∀ (g : Nat) (x y : Value) (C : Array Value), W.heap[g]? = some (.cells C 30 (0, 0)) → C[1]? = some x → C[2]? = some y → W.rangeAt g 1 (listEnc [x, y]) := fun g x y C ho hx hy j u hu => by
    have hj : j < 2 := (List.getElem?_eq_some_iff.1 hu).1
    match j, hj, hu with
    | 0, _, hu => simp [listEnc] at hu; subst hu; rw [cell_of_row _ _ 1 _ _ _ ho]; exact hx
    | 1, _, hu => simp [listEnc] at hu; subst hu; rw [cell_of_row _ _ 2 _ _ _ ho]; exact hy
  have HLV7 : Hid (W.rangeAt w.heap.size 1 (listEnc [.int .i64 p.num, .int .i64 p.den])) := Lib.hid (lv _ _ _ _ ho1 rfl rfl)
  have HLV9 : Hid (W.rangeAt (w.heap.size + 1) 1 (listEnc [.int .i64 p.num, .int .i64 p.den])) := Lib.hid (lv _ _ _ _ ho2 rfl rfl)
  have b1 : Hid (∀ W' : World, Keep None W W' → W'.cell? ⟨w.heap.size, 0, none⟩ = some (.slice a p.st.length c) ∧ W'.cell? ⟨w.heap.size, 3, none⟩ = some (.int .i64 p.margin) ∧ W'.cell? ⟨w.heap.size + 1, 0, none⟩ = some (.slice a' p.st.length c') ∧ W'.cell? ⟨w.heap.size + 1, 3, none⟩ = some (.int .i64 p.margin)) := Lib.hid (fun W' hk => by
    have h2 := hk.obj O1.out id
    have h3 := hk.obj O2.out id
    simp [World.cell?, h2, h3])
  clear HBX hKW hWe ho1 ho2 lv
  obtain ⟨q0, q1, q2, q3⟩ := b1.out _ (Keep.refl _ _)
  go_enter Tryd.func14, Tryd.ntmps14
  go_upto_region 1 with (fail)
  rw [HWE.out]
  go_wp2_with (first | ((with_reducible (show wpList _ _ _ (⟨some 7, .load 28 _, _, _, _, none⟩ :: _) _ _)); refine wpList_loadEl (enc := listEnc) (size := 2) rfl 28 _ rfl _ _ rfl [.int .i64 p.num, .int .i64 p.den] _ HLV7.out rfl Tryd.underlying28 rfl Tryd.sizeLevel (.agg #[.int .i64 p.num, .int .i64 p.den]) rfl ?_) | ((with_reducible (show wpList _ _ _ (⟨some 9, .load 28 _, _, _, _, none⟩ :: _) _ _)); refine wpList_loadEl (enc := listEnc) (size := 2) rfl 28 _ rfl _ _ rfl [.int .i64 p.num, .int .i64 p.den] _ HLV9.out rfl Tryd.underlying28 rfl Tryd.sizeLevel (.agg #[.int .i64 p.num, .int .i64 p.den]) rfl ?_))
  go_loopw [5] (SameInv p.st.length W) (fun i _ => p.st.length - (intOf i).toNat)
  case atStart => exact ⟨0, rfl, by omega, Keep.refl _ _⟩
  case round =>
    obtain ⟨k, rfl, hk, hkp⟩ := hrel
    have HKP := Lib.hid hkp
    clear hkp q0 q1 q2 q3
    obtain ⟨q0, -, q2, -⟩ := b1.out _ HKP.out
    by_cases hlt : k < p.st.length
    · have hlti : (k : Int) < p.st.length := by omega
      obtain ⟨⟨x, y⟩, hx⟩ : ∃ s, p.st[k]? = some s := ⟨p.st[k], by simp [hlt]⟩
      obtain ⟨b, off, rfl, hsl⟩ : ∃ b off, a = some ⟨b, off, none⟩ ∧ SlAt stEnc 2 wr b off p.st := by
        rcases ((HP.out.still HK.out).still HKP.out).st with h | h
        · rw [h] at hlt; simp at hlt
        · exact h
      obtain ⟨b', off', rfl, hsl'⟩ : ∃ b off, a' = some ⟨b, off, none⟩ ∧ SlAt stEnc 2 wr b off p.st := by
        rcases ((HP'.out.still HK.out).still HKP.out).st with h | h
        · rw [h] at hlt; simp at hlt
        · exact h
      have HRG := Lib.hid (hsl.range hx)
      have HRG' := Lib.hid (hsl'.range hx)
      have HQ0 := Lib.hid q0
      have HQ2 := Lib.hid q2
      clear hsl hsl' hx
      go_wp2_with (fail)
      refine region_kindsG None [.is (.pointer (some ⟨w.heap.size, 0, none⟩)), .is (.slice (some ⟨b, off, none⟩) p.st.length c), .is (.int .i64 k), .is (.pointer (some ⟨b, off + k * 2, none⟩)), .is (.agg #[.int .i64 x, .int .i64 y]), .is (.pointer (some ⟨w.heap.size + 1, 0, none⟩)), .is (.slice (some ⟨b', off', none⟩) p.st.length c'), .is (.int .i64 k), .is (.pointer (some ⟨b', off' + k * 2, none⟩)), .is (.agg #[.int .i64 x, .int .i64 y]), .is (.bool false)]
        (fun w' => Keep None wr w') 45 (by kernel_rfl) (by kernel_rfl) rfl (by kernel_rfl) (Keep.refl _ _).drew ?_ ?_
      · refine ⟨?_, ?_, ?_, ?_, ?_, ?_, ?_, ?_, ?_, ?_, ?_, trivial⟩
        · exact st_free rfl (st_ev1 (dep_f (t := 2) rfl rfl) _ (by intro a w' h1 hI; go_simp) rfl)
        · exact st_free rfl (st_ev1 (dep_e 0 rfl rfl rfl) _ (by intro a w' h1 hI; have q0 := hI.cell HQ0.out id; go_simp) rfl)
        · exact st_free rfl (st_ev1 (dep_f (t := 5) rfl rfl) _ (by intro a w' h1 hI; go_simp) rfl)
        · exact st_free rfl (st_ev2 (dep_e 1 rfl rfl rfl) (dep_e 2 rfl rfl rfl) _ (by intro a w' h1 h2 hI; go_simp) rfl)
        · exact st_free rfl (st_loadD 45 b (off + k * 2) (stEnc (x, y)) rfl (dep_e 3 rfl rfl rfl) (fun w' hI j u hu => hI.cell (HRG.out j u hu) id) _ Tryd.underlying45 rfl 2 Tryd.sizeStage rfl rfl)
        · exact st_free rfl (st_ev1 (dep_f (t := 3) rfl rfl) _ (by intro a w' h1 hI; go_simp) rfl)
        · exact st_free rfl (st_ev1 (dep_e 5 rfl rfl rfl) _ (by intro a w' h1 hI; have q0 := hI.cell HQ2.out id; go_simp) rfl)
        · exact st_free rfl (st_ev1 (dep_f (t := 5) rfl rfl) _ (by intro a w' h1 hI; go_simp) rfl)
        · exact st_free rfl (st_ev2 (dep_e 6 rfl rfl rfl) (dep_e 7 rfl rfl rfl) _ (by intro a w' h1 h2 hI; go_simp) rfl)
        · exact st_free rfl (st_loadD 45 b' (off' + k * 2) (stEnc (x, y)) rfl (dep_e 8 rfl rfl rfl) (fun w' hI j u hu => hI.cell (HRG'.out j u hu) id) _ Tryd.underlying45 rfl 2 Tryd.sizeStage rfl rfl)
        · exact st_free rfl (st_ev2 (dep_e 4 rfl rfl rfl) (dep_e 9 rfl rfl rfl) _ (by intro a w' h1 h2 hI; go_simp) rfl)
      intro f' w9 hkinds hI
      have k44 : f' 44 = .bool false := hkinds 10 _ 44 rfl rfl
      simp only [putsOf, Act.put, List.setIfInBounds_toArray, List.set_cons_zero, List.set_cons_succ, k44]
      clear hkinds k44
      have HKI := Lib.hid (HKP.out.trans hI)
      clear hI
      go_wp2_with (fail)
      go_roundw
      case rel => exact ⟨k + 1, by go_num, by omega, HKI.out⟩
      case measure => simp [intOf]; omega
    · have hlti : ¬ (k : Int) < p.st.length := by omega
      go_wp2_with (fail)
      go_ret
      exact ⟨rfl, HK.out.trans HKP.out⟩

end Go.Proofs.YtgelfefoiplekaaDoor
