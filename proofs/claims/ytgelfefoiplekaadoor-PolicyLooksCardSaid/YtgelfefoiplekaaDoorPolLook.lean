/-
  Chapter 44: what is seen at the look of a stage.
-/
import Derived.Test.YtgelfefoiplekaaDoorPolWorse
namespace Go.Proofs.YtgelfefoiplekaaDoor
open Go.RowKit PN

section
variable {P : Program} {ops : Array Oper} {Q : Exit → Act → World → Prop} {S : Nat → Prop} {ks : List (VK S)} {Inv : World → Prop} {a0 : Act} {i : Nat} {o : Oper}
theorem st_call3 {t t' t'' : Nat} {u u' u'' : Value} (d : Dep ops S ks a0 o t u) (d' : Dep ops S ks a0 o t' u') (d'' : Dep ops S ks a0 o t'' u'') (f : FuncId) (args : Array Value) (hx : ∀ (a : Act) (w : World), (a.tmps[t]?).getD undef = u → (a.tmps[t']?).getD undef = u' → (a.tmps[t'']?).getD undef = u'' → (execOp a.eval o).run P w = .ok (.enter f args) w)
    (hc : ∀ w, Inv w → Calls P f args w fun e w' => ∃ u, e = .returned u ∧ (kindOf ks i).holds S w' u ∧ Inv w' ∧ Keep S w w') : KStep P ops Q S ks Inv a0 i o := by
  intro a w K hI hV hF hK
  unfold Oper.wp
  rw [hx a w ((eval_tmp _ _).symm.trans (d a w hV hF)) ((eval_tmp _ _).symm.trans (d' a w hV hF)) ((eval_tmp _ _).symm.trans (d'' a w hV hF))]
  simp only [Oper.upon_enter]
  refine (hc w hI).mono ?_
  rintro e w' ⟨u, rfl, h2, h3, h4⟩
  exact hK _ _ h3 h4 h2
end

/-- What look returns. -/
def lookV (p : Pol) (l : List Pr) (y : Nat) : Value := worseV p.margin (l.take y) p.num.toNat (p.den.toNat * p.st.length)

theorem worseV_two (m : Int) (l : List Pr) (n d : Nat) : ∃ (b : Bool) (e : Int), worseV m l n d = .tuple #[.bool b, .int .i64 e] := by
  unfold worseV
  split
  · exact ⟨_, _, rfl⟩
  · exact ⟨_, _, rfl⟩

set_option maxRecDepth 100000 in
set_option maxHeartbeats 4000000 in
theorem look_calls (a q : Option Addr) (c cq : Nat) (p : Pol) (l : List Pr) (k x y : Nat) (w : World) (h : PolAt w a p) (hq : SliceV prEnc 2 w q l) (hv : validB p = true) (hk : p.st[k]? = some ((x : Int), (y : Int))) (hy : y ≤ l.length) (hcq : l.length ≤ cq) (hl : l.length ≤ 1000000000000) :
    Calls Tryd.prog 36 #[polVal a c p, .slice q l.length cq, .int .i64 k] w (Gives None (lookV p l y) w) := by
  have ln := h.ln
  have HP := Lib.hid h
  have HQ := Lib.hid hq
  have hg := valid_good hv
  have hlt : k < p.st.length := by simpa using (List.getElem?_eq_some_iff.1 hk).1
  have hy1 : 1 ≤ y := by have := (hg.st _ (List.mem_of_getElem? hk)).2; simp only at this; omega
  have HSV : Hid (shareV p.num p.den p.st.length = .tuple #[.agg #[.int .i64 p.num, .int .i64 (p.den * p.st.length)], .int .i64 0]) := Lib.hid (share_good (by simp [lvlB, hg.d1, hg.d2, hg.u0, hg.u1]) hg.n1 hg.n8 hg.dl)
  obtain ⟨N, hN⟩ : ∃ N : Nat, p.num = N := ⟨p.num.toNat, by have := hg.u0; omega⟩
  obtain ⟨D, hD⟩ : ∃ D : Nat, p.den * p.st.length = D := ⟨(p.den * p.st.length).toNat, by have := Int.mul_nonneg (by have := hg.d1; omega : 0 ≤ p.den) (by omega : 0 ≤ (p.st.length : Int)); omega⟩
  have HLB : Hid (lvlB N D = true) := Lib.hid (by
    have h1 := hg.dl
    have h2 : p.den * 1 ≤ p.den * (p.st.length : Int) := Int.mul_le_mul_of_nonneg_left (by omega) (by have := hg.d1; omega)
    have h3 := hg.d1; have h4 := hg.u0; have h5 := hg.u1
    simp only [lvlB, Bool.and_eq_true, decide_eq_true_eq]
    omega)
  have HMG : Hid (i64 p.margin) := Lib.hid (by have := hg.m0; have := hg.m1; unfold i64; omega)
  have HLK : Hid (lookV p l y = worseV p.margin (l.take y) N D) := Lib.hid (by
    have h3 := hg.d1
    have : p.den.toNat * p.st.length = D := by
      have h6 : ((p.den.toNat * p.st.length : Nat) : Int) = D := by rw [← hD, Int.natCast_mul, Int.toNat_of_nonneg (by omega)]
      exact Int.ofNat.inj h6
    unfold lookV
    rw [this, hN, Int.toNat_natCast])
  obtain ⟨bv, ev, hbe⟩ := worseV_two p.margin (l.take y) N D
  have HBE := Lib.hid hbe
  have HTL : Hid ((l.take y).length = y) := Lib.hid (by rw [List.length_take]; omega)
  rw [hN, hD] at HSV
  have HN := Lib.hid hN
  have HD := Lib.hid hD
  have hltb : ¬ (k : Int) < 0 := by omega
  clear hg hv hbe h hq
  unfold polVal
  rw [hN]
  have HBX : Hid (∃ W : World, Keep None w W ∧ W = w.alloc (.cells #[.slice a p.st.length c, .int .i64 N, .int .i64 p.den, .int .i64 p.margin] 30) ∧ W.heap[w.heap.size]? = some (.cells #[.slice a p.st.length c, .int .i64 N, .int .i64 p.den, .int .i64 p.margin] 30 (0, 0))) :=
    Lib.hid ⟨_, (Keep.refl None w).alloc _, rfl, heap_alloc_new _ _⟩
  clear hN hD
  obtain ⟨W, hKW, hWe, ho1⟩ := HBX.out
  have HK := Lib.hid hKW
  have HWE := Lib.hid hWe.symm
  have O1 := Lib.hid ho1
  have hwW := heap_lt ho1
  clear HBX hKW hWe ho1
  obtain ⟨qb, qo, rfl, hsl⟩ : ∃ b off, q = some ⟨b, off, none⟩ ∧ SlAt prEnc 2 w b off l := by
    rcases HQ.out with h | h
    · rw [h] at hy; simp at hy; omega
    · exact h
  obtain ⟨ab, ao, rfl, hal⟩ : ∃ b off, a = some ⟨b, off, none⟩ ∧ SlAt stEnc 2 w b off p.st := by
    rcases HP.out.st with h | h
    · rw [h] at hlt; simp at hlt
    · exact h
  have HX1 := Lib.hid (HK.out.cell (hal k _ hk 1 _ rfl) id)
  have HSL := Lib.hid hsl
  clear hsl hal hk
  have HLV : Hid (W.rangeAt w.heap.size 1 (listEnc [.int .i64 N, .int .i64 p.den])) := Lib.hid (fun j u hu => by
    have hj : j < 2 := (List.getElem?_eq_some_iff.1 hu).1
    match j, hj, hu with
    | 0, _, hu => simp [listEnc] at hu; subst hu; exact cell_of_row _ _ 1 _ _ _ O1.out
    | 1, _, hu => simp [listEnc] at hu; subst hu; exact cell_of_row _ _ 2 _ _ _ O1.out)
  have q0 : W.cell? ⟨w.heap.size, 0, none⟩ = some (.slice (some ⟨ab, ao, none⟩) p.st.length c) := cell_of_row _ _ 0 _ _ _ O1.out
  go_enter Tryd.func36, Tryd.ntmps36
  go_upto_region 4 with (first
    | ((with_reducible (show wpList _ _ _ (⟨some 12, .load 28 _, _, _, _, none⟩ :: _) _ _)); rw [HWE.out]; refine wpList_loadEl (enc := listEnc) (size := 2) rfl 28 _ rfl _ _ rfl [.int .i64 N, .int .i64 p.den] _ HLV.out rfl Tryd.underlying28 rfl Tryd.sizeLevel (.agg #[.int .i64 N, .int .i64 p.den]) rfl ?_)
    | (go_at_call 33; refine (share_statistics N p.den p.st.length W ln).mono ?_; rintro e w5 ⟨rfl, hk5⟩; rw [HSV.out]; have HK5 := Lib.hid hk5; clear hk5))
  generalize hw8 : World.alloc _ _ = w8
  have hk8 : Keep None w5 w8 := by rw [← hw8]; exact (Keep.refl _ _).alloc _
  have ho8 : w8.heap[w5.heap.size]? = some (.cells #[.int .i64 N, .int .i64 D] 28 (0, 0)) := by rw [← hw8]; exact heap_alloc_new _ _
  clear hw8
  have HK8 := Lib.hid (HK5.out.trans hk8)
  have HB8 := Lib.hid (HK8.out.obj O1.out id)
  have HX8 := Lib.hid (HK8.out.cell HX1.out id)
  have HO8 := Lib.hid ho8
  have HSL8 : Hid (SliceV prEnc 2 w8 (some ⟨qb, qo, none⟩) (l.take y)) := Lib.hid (SliceV.take (.inr ⟨qb, qo, rfl, HSL.out.keep (HK.out.trans HK8.out) id⟩) y)
  clear hk8 ho8 q0
  have hyc : ¬ cq < y := by omega
  have hyn : ¬ (y : Int) < 0 := by omega
  have hki : (k : Int) < p.st.length := by omega
  have HCW : Hid (∀ (w' : World), Keep None w8 w' → Calls Tryd.prog 47 #[.slice (some ⟨qb, qo, none⟩) y cq, .int .i64 p.margin, .agg #[.int .i64 N, .int .i64 D]] w' (fun e w'' => ∃ u, e = .returned u ∧ u = .tuple #[.bool bv, .int .i64 ev] ∧ Keep None w8 w'' ∧ Keep None w' w'')) := Lib.hid (fun w' hk => by
    have h1 := worse_calls (some ⟨qb, qo, none⟩) cq (l.take y) p.margin N D w' (HSL8.out.keep hk (fun _ _ => id)) (by rw [HTL.out]; omega) HMG.out HLB.out
    rw [HTL.out, HBE.out] at h1
    exact h1.mono (fun e w'' h => ⟨_, h.1, rfl, hk.trans h.2, h.2⟩))
  refine region_kindsG_tail None [.is (.slice (some ⟨qb, qo, none⟩) l.length cq), .is (.pointer (some ⟨w.heap.size, 0, none⟩)), .is (.slice (some ⟨ab, ao, none⟩) p.st.length c), .is (.int .i64 k), .is (.pointer (some ⟨ab, ao + k * 2, none⟩)), .is (.pointer (some ⟨ab, ao + k * 2 + 1, none⟩)), .is (.int .i64 y), .is (.slice (some ⟨qb, qo, none⟩) y cq), .is (.pointer (some ⟨w.heap.size, 3, none⟩)), .is (.int .i64 p.margin), .is (.agg #[.int .i64 N, .int .i64 D]), .is (.tuple #[.bool bv, .int .i64 ev]), .is (.bool bv), .is (.int .i64 ev), .any, .any]
    (fun w' => Keep None w8 w') 36 14 (by kernel_rfl) (by decide) (by kernel_rfl) (by kernel_rfl) (by kernel_rfl) rfl (by kernel_rfl) (Keep.refl _ _).drew ?_ ?_
  · refine ⟨?_, ?_, ?_, ?_, ?_, ?_, ?_, ?_, ?_, ?_, ?_, ?_, ?_, ?_, trivial⟩
    · exact st_free rfl (st_ev1 (dep_f (t := 1) rfl rfl) _ (by intro a w' h1 hI; go_simp) rfl)
    · exact st_free rfl (st_ev1 (dep_f (t := 3) rfl rfl) _ (by intro a w' h1 hI; go_simp) rfl)
    · exact st_free rfl (st_ev1 (dep_e 1 rfl rfl rfl) _ (by intro a w' h1 hI; have q0 := cell_of_row _ _ 0 _ _ _ (hI.obj HB8.out id); go_simp) rfl)
    · exact st_free rfl (st_ev1 (dep_f (t := 2) rfl rfl) _ (by intro a w' h1 hI; go_simp) rfl)
    · exact st_free rfl (st_ev2 (dep_e 2 rfl rfl rfl) (dep_e 3 rfl rfl rfl) _ (by intro a w' h1 h2 hI; go_simp) rfl)
    · exact st_free rfl (st_ev1 (dep_e 4 rfl rfl rfl) _ (by intro a w' h1 hI; go_simp) rfl)
    · exact st_free rfl (st_ev1 (dep_e 5 rfl rfl rfl) _ (by intro a w' h1 hI; have q0 := hI.cell HX8.out id; go_simp) rfl)
    · exact st_free rfl (st_ev2 (dep_e 0 rfl rfl rfl) (dep_e 6 rfl rfl rfl) _ (by intro a w' h1 h2 hI; go_simp) rfl)
    · exact st_free rfl (st_ev1 (dep_f (t := 3) rfl rfl) _ (by intro a w' h1 hI; go_simp) rfl)
    · exact st_free rfl (st_ev1 (dep_e 8 rfl rfl rfl) _ (by intro a w' h1 hI; have q0 := cell_of_row _ _ 3 _ _ _ (hI.obj HB8.out id); go_simp) rfl)
    · exact st_free rfl (st_loadD 28 w5.heap.size 0 [.int .i64 N, .int .i64 D] rfl (dep_f (t := 8) rfl rfl) (fun w' hI => range_of_obj (hI.obj HO8.out id)) _ Tryd.underlying28 rfl 2 Tryd.sizeLevel rfl rfl)
    · exact st_free rfl (st_call3 (dep_e 7 rfl rfl rfl) (dep_e 9 rfl rfl rfl) (dep_e 10 rfl rfl rfl) _ _ (by intro a w' h1 h2 h3; go_simp) HCW.out)
    · exact st_free rfl (st_ev1 (dep_e 11 rfl rfl rfl) _ (by intro a w' h1 hI; go_simp) rfl)
    · exact st_free rfl (st_ev1 (dep_e 11 rfl rfl rfl) _ (by intro a w' h1 hI; go_simp) rfl)
  intro f' w9 hkinds hI
  have k34 : f' 34 = .bool bv := hkinds 12 _ 34 (by omega) rfl rfl
  have k35 : f' 35 = .int .i64 ev := hkinds 13 _ 35 (by omega) rfl rfl
  simp only [putsOf, Act.put, List.take_succ_cons, List.take_zero, List.drop_succ_cons, List.drop_zero, List.setIfInBounds_toArray, List.set_cons_zero, List.set_cons_succ, k34, k35]
  clear hkinds k34 k35
  go_wp2_with (fail)
  go_ret2
  exact ⟨by rw [HLK.out, HBE.out]; rfl, (HK.out.trans HK8.out).trans hI⟩

end Go.Proofs.YtgelfefoiplekaaDoor
