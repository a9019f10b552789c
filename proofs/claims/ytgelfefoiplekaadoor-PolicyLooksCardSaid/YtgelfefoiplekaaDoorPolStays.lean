/-
  Chapter 44: PolicyStays, walked.
-/
import Derived.Test.YtgelfefoiplekaaDoorPolVer
import Derived.Test.YtgelfefoiplekaaDoorPolRes
import Derived.Test.YtgelfefoiplekaaDoorPolDraw
namespace Go.Proofs.YtgelfefoiplekaaDoor
open Go.RowKit PN

theorem Keep.afresh {b : Nat} {w w' : World} (h : Keep (· = b) w w') (hb : w.heap.size ≤ b) : Keep None w w' :=
  (Keep.refl None w).andThen h (fun g h1 h2 => by have h3 : g = b := h2; omega)

theorem small_ok {x : Pr} (h : smallPr x) : okPr x = true := by
  unfold smallPr at h
  simp only [okPr, meas, Bool.and_eq_true, decide_eq_true_eq]
  omega
theorem ok_signs {p : Pol} {l : List Pr} (hv : validB p = true) (hs : ∀ x ∈ l, okPr x = true) (hl : l.length ≤ 60) : ∃ s, signs p.margin l = some s := by
  have hg := valid_good hv
  exact ⟨_, signs_yes hg.m0 hg.m1 hl (List.all_eq_true.2 hs)⟩

theorem verd_le (look : Nat → Bool) (len : Nat) : ∀ (st : List (Int × Int)) (i : Nat), (verd look len st i).2 ≤ i + st.length
  | [], i => by simp [verd]
  | s :: r, i => by
    unfold verd
    split
    · simp
    · split
      · simp
      · have := verd_le look len r (i + 1)
        simp only [List.length_cons]
        omega

theorem verdict_is {p : Pol} {l : List Pr} (hv : validB p = true) (hs : ∀ x ∈ l, okPr x = true) (hl : l.length ≤ 60) : ∃ (v : Int) (i : Nat), verd (lookB p l) l.length p.st 0 = (v, i) ∧ verdictV p l = .tuple #[.int .i64 v, .int .i64 i, .int .i64 0] ∧ (v = 1 ∨ v = 2 ∨ v = 3) ∧ i ≤ 8 := by
  obtain ⟨s, h⟩ := ok_signs hv hs hl
  have h1 := verd_ge (lookB p l) l.length p.st 0
  have h2 := verd_le (lookB p l) l.length p.st 0
  have h3 := (valid_good hv).n8
  exact ⟨_, _, rfl, verdict_some hv h rfl, by omega, by omega⟩

theorem stays_law {p : Pol} {l : List Pr} (hv : validB p = true) (hs : ∀ x ∈ l, okPr x = true) (hl : l.length ≤ 60) (K : Nat) (hK : K ≤ l.length) : ∃ (v1 v2 : Int) (i1 i2 : Nat),
    verdictV p (l.take K) = .tuple #[.int .i64 v1, .int .i64 i1, .int .i64 0] ∧ verdictV p l = .tuple #[.int .i64 v2, .int .i64 i2, .int .i64 0] ∧ i1 ≤ i2 ∧ (v2 = 1 ∨ v2 = 2 ∨ v2 = 3) ∧ (v1 = 1 ∨ v1 = v2 ∧ i1 = i2) ∧ i2 ≤ 8 := by
  obtain ⟨v2, i2, e2, g2, o2, b2⟩ := verdict_is hv hs hl
  have hlt : (l.take K).length = K := by rw [List.length_take]; omega
  obtain ⟨v1, i1, e1, g1, o1, b1⟩ := verdict_is hv (l := l.take K) (fun x hx => hs x (List.mem_of_mem_take hx)) (by omega)
  have h := verd_stays (look := lookB p (l.take K)) (look' := lookB p l) hK (fun j hj => look_take hj) p.st 0
  rw [hlt] at e1
  rw [e1, e2] at h
  refine ⟨v1, v2, i1, i2, g1, g2, h.1, o2, ?_, b2⟩
  rcases h.2 with h | h
  · exact .inl h
  · exact .inr ⟨congrArg Prod.fst h, congrArg Prod.snd h⟩

set_option maxRecDepth 100000 in
set_option maxHeartbeats 8000000 in
theorem lawStays_calls (pc : Option Addr) (bs : List Int) (cap : Nat) (ct : Int) (w : World) (h : SliceV byteEnc 1 w pc bs) (hv : ∀ x ∈ bs, (0 : Int) ≤ x ∧ x ≤ 255) (hcap : bs.length ≤ cap) (hct : 0 ≤ ct ∧ ct ≤ 255) (hE : Env w) (h6 : 6 ≤ w.heap.size) :
    Calls Tryd.prog 5 #[.slice pc bs.length cap, .int .u8 ct] w (Gives None (.bool true) w) := by
  have H0 := Lib.hid h
  have HE := Lib.hid hE
  clear h hE
  go_enter Tryd.func5, Tryd.ntmps5
  go_wp2_with (go_at_call 9; refine (awake_calls _ HE.out h6).mono ?_; rintro e w1 ⟨rfl, hk1⟩; have HK1 := Lib.hid hk1; clear hk1)
  refine (new_calls pc bs cap 300 _ (H0.out.keep HK1.out (fun _ _ => id)) hv (by omega) hcap).mono ?_
  rintro e w2 ⟨b, bl', rfl, hbb, hc, hk2, -⟩
  have HC2 := Lib.hid hc
  have HK2 := Lib.hid (HK1.out.trans hk2)
  have hbw := Nat.le_trans HK1.out.size hbb
  clear hc hk2 hbb
  go_wp2_with (fail)
  refine (draw_calls b bl' _ _ HC2.out).mono ?_
  rintro e w3 ⟨a, c, p, r, rfl, hpa, hval, hfr, hcc1, hcc2, hc3, hk3⟩
  have hb2 := HC2.out.lt
  have HPA := Lib.hid hpa
  have HVAL := Lib.hid hval
  have hoff : OffS (· = b) a := fun x hx hxb => by have := hfr x hx; have h3 : x.block = b := hxb; omega
  have HOFF := Lib.hid hoff
  have HK3 : Hid (Keep (· = b) w w3) := Lib.hid ((HK2.out.weaken (fun _ _ q => q.elim)).trans hk3)
  have HC3 := Lib.hid hc3
  clear hpa hval hfr hoff hk3 hc3
  unfold polVal
  go_wp2_with (fail)
  generalize hw4 : World.alloc _ _ = w4
  have hk4 : Keep None w3 w4 := by rw [← hw4]; exact (Keep.refl _ _).alloc _
  have ho4 : w4.heap[w3.heap.size]? = some (.cells #[.slice a p.st.length c, .int .i64 p.num, .int .i64 p.den, .int .i64 p.margin] 30 (0, 0)) := by rw [← hw4]; exact heap_alloc_new _ _
  clear hw4
  have hb3 := HC3.out.lt
  have hw34 := heap_lt ho4
  have HC4 := Lib.hid (HC3.out.same hk4)
  have HK4 : Hid (Keep (· = b) w w4) := Lib.hid (HK3.out.trans (hk4.weaken (fun _ _ q => q.elim)))
  have HP4 := Lib.hid (HPA.out.still hk4)
  have HO4 := Lib.hid ho4
  clear hk4 ho4 HC3 HK3
  refine (results_calls b bl' 60 _ _ HC4.out (by omega)).mono ?_
  rintro e w5 ⟨q, cq, l, r5, rfl, hsl, hfrq, hlc, hcm, hl60, hsm, hc5, hk5⟩
  have HSM := Lib.hid hsm
  have HBOX : Hid (∀ w', Keep None w5 w' → w'.heap[w3.heap.size]? = some (.cells #[.slice a p.st.length c, .int .i64 p.num, .int .i64 p.den, .int .i64 p.margin] 30 (0, 0))) := Lib.hid (fun w' hk => hk.obj (hk5.obj HO4.out (by omega)) id)
  have HPOL : Hid (∀ w', Keep None w5 w' → PolAt w' a p) := Lib.hid (fun w' hk => (HP4.out.keep hk5 HOFF.out).still hk)
  have HSL : Hid (∀ w', Keep None w5 w' → SliceV prEnc 2 w' q l) := Lib.hid (fun w' hk => hsl.keep hk (fun _ _ => id))
  have HKW : Hid (Keep (· = b) w w5) := Lib.hid (HK4.out.trans hk5)
  clear hsl hfrq hsm hc5 hk5 HO4 HP4 HC4 HK4 HPA HC2 HK2 H0
  obtain ⟨K, hK, hKl⟩ : ∃ K : Nat, ct % ((l.length : Int) + 1) = K ∧ K ≤ l.length := by
    have h1 : 0 ≤ ct % ((l.length : Int) + 1) := Int.emod_nonneg _ (by omega)
    have h2 : ct % ((l.length : Int) + 1) < (l.length : Int) + 1 := Int.emod_lt_of_pos _ (by omega)
    exact ⟨(ct % ((l.length : Int) + 1)).toNat, by omega, by omega⟩
  have HKE := Lib.hid hK
  have hne : (((l.length : Int) + 1) == 0) = false := by rw [beq_eq_false_iff_ne]; omega
  clear hK
  obtain ⟨v1, v2, i1, i2, g1, g2, hi12, ho2, ho1, hi8⟩ := stays_law HVAL.out (fun x hx => small_ok (HSM.out x hx)) hl60 K hKl
  have G1 := Lib.hid g1
  have G2 := Lib.hid g2
  clear g1 g2
  have hlt : (l.take K).length = K := by rw [List.length_take]; omega
  have HLT := Lib.hid hlt
  clear hlt
  go_upto_region 7 with (fail)
  rw [HKE.out]
  have hKc : ¬ cq < K := by omega
  have hKn : ¬ (K : Int) < 0 := by omega
  have HCA : Hid (∀ (w' : World), Keep None w5 w' → Calls Tryd.prog 21 #[.agg #[.slice a p.st.length c, .int .i64 p.num, .int .i64 p.den, .int .i64 p.margin], .slice q K cq] w' (fun e w'' => ∃ u, e = .returned u ∧ u = .tuple #[.int .i64 v1, .int .i64 i1, .int .i64 0] ∧ Keep None w5 w'' ∧ Keep None w' w'')) := Lib.hid (fun w' hk => by
    have h1 := verdict_calls a q c cq p (l.take K) w' (HPOL.out _ hk) ((HSL.out _ hk).take K) (by rw [HLT.out]; omega) (by rw [HLT.out]; omega)
    rw [HLT.out, G1.out] at h1
    exact h1.mono (fun e w'' h => ⟨_, h.1, rfl, hk.trans h.2, h.2⟩))
  have HCB : Hid (∀ (w' : World), Keep None w5 w' → Calls Tryd.prog 21 #[.agg #[.slice a p.st.length c, .int .i64 p.num, .int .i64 p.den, .int .i64 p.margin], .slice q l.length cq] w' (Gives None (.tuple #[.int .i64 v2, .int .i64 i2, .int .i64 0]) w')) := Lib.hid (fun w' hk => by
    have h1 := verdict_calls a q c cq p l w' (HPOL.out _ hk) (HSL.out _ hk) hlc (by omega)
    rw [G2.out] at h1
    exact h1)
  have HB5 := Lib.hid (HBOX.out _ (Keep.refl _ _))
  refine region_kindsG None [.is (.agg #[.slice a p.st.length c, .int .i64 p.num, .int .i64 p.den, .int .i64 p.margin]), .is (.slice q l.length cq), .is (.int .i64 K), .is (.slice q K cq), .is (.tuple #[.int .i64 v1, .int .i64 i1, .int .i64 0]), .is (.tuple #[.int .i64 v1, .int .i64 i1, .int .i64 0]), .is (.int .i64 v1), .is (.int .i64 i1), .is (.int .i64 0), .is (.int .i64 v1), .is (.int .i64 i1), .is (.int .i64 0)]
    (fun w' => Keep None w5 w') 76 (by kernel_rfl) (by kernel_rfl) rfl (by kernel_rfl) (Keep.refl _ _).drew ?_ ?_
  · refine ⟨?_, ?_, ?_, ?_, ?_, ?_, ?_, ?_, ?_, ?_, ?_, ?_, trivial⟩
    · exact st_free rfl (st_loadD 30 w3.heap.size 0 [.slice a p.st.length c, .int .i64 p.num, .int .i64 p.den, .int .i64 p.margin] rfl (dep_f (t := 6) rfl rfl) (fun w' hI => range_of_obj (hI.obj HB5.out id)) _ Tryd.underlying30 rfl 4 Tryd.sizePolicy rfl rfl)
    · exact st_free rfl (st_ev1 (dep_f (t := 7) rfl rfl) _ (by intro a w' h1 hI; go_simp) rfl)
    · exact st_free rfl (st_ev1 (dep_f (t := 8) rfl rfl) _ (by intro a w' h1 hI; go_simp) rfl)
    · exact st_free rfl (st_ev2 (dep_e 1 rfl rfl rfl) (dep_e 2 rfl rfl rfl) _ (by intro a w' h1 h2 hI; go_simp) rfl)
    · exact st_free rfl (st_callD2 (dep_e 0 rfl rfl rfl) (dep_e 3 rfl rfl rfl) _ _ (by intro a w' h1 h2; go_simp) HCA.out)
    · exact st_free rfl (st_ev1 (dep_e 4 rfl rfl rfl) _ (by intro a w' h1 hI; go_simp) rfl)
    · exact st_free rfl (st_ev1 (dep_e 5 rfl rfl rfl) _ (by intro a w' h1 hI; go_simp) rfl)
    · exact st_free rfl (st_ev1 (dep_e 5 rfl rfl rfl) _ (by intro a w' h1 hI; go_simp) rfl)
    · exact st_free rfl (st_ev1 (dep_e 5 rfl rfl rfl) _ (by intro a w' h1 hI; go_simp) rfl)
    · exact st_free rfl (st_ev1 (dep_e 6 rfl rfl rfl) _ (by intro a w' h1 hI; go_simp) rfl)
    · exact st_free rfl (st_ev1 (dep_e 7 rfl rfl rfl) _ (by intro a w' h1 hI; go_simp) rfl)
    · exact st_free rfl (st_ev1 (dep_e 8 rfl rfl rfl) _ (by intro a w' h1 hI; go_simp) rfl)
  intro f' w9 hkinds hI
  have k9 : f' 9 = .int .i64 v1 := hkinds 9 _ 9 rfl rfl
  have k10 : f' 10 = .int .i64 i1 := hkinds 10 _ 10 rfl rfl
  have k11 : f' 11 = .int .i64 0 := hkinds 11 _ 11 rfl rfl
  simp only [putsOf, Act.put, List.setIfInBounds_toArray, List.set_cons_zero, List.set_cons_succ, k9, k10, k11]
  clear hkinds k9 k10 k11
  have hib : ¬ (i2 : Int) < i1 := by omega
  have hic : ¬ i2 < i1 := by omega
  go_upto_region 9 with (first | ((with_reducible (show wpList _ _ _ (⟨some 39, .load 30 _, _, _, _, none⟩ :: _) _ _)); refine wpList_loadEl (enc := listEnc) (size := 4) rfl 30 _ rfl _ _ rfl [.slice a p.st.length c, .int .i64 p.num, .int .i64 p.den, .int .i64 p.margin] _ (range_of_obj (HBOX.out _ (by assumption))) rfl Tryd.underlying30 rfl Tryd.sizePolicy (.agg #[.slice a p.st.length c, .int .i64 p.num, .int .i64 p.den, .int .i64 p.margin]) rfl ?_) | (go_at_call 21; refine (HCB.out _ hI).mono ?_; rintro e w10 ⟨rfl, hk10⟩))
  have HEND : Hid (Keep None w w10) := Lib.hid ((HKW.out.trans ((hI.trans hk10).weaken (T := (· = b)) (fun _ _ q => q.elim))).afresh hbw)
  clear hI hk10 hct hi12
  rcases ho1 with rfl | ⟨rfl, rfl⟩
  · rcases ho2 with rfl | rfl | rfl
    all_goals
      go_wp2_with (fail)
      go_ret
      exact ⟨rfl, HEND.out⟩
  · rcases ho2 with rfl | rfl | rfl
    all_goals
      go_wp2_with (fail)
      go_ret
      exact ⟨rfl, HEND.out⟩

end Go.Proofs.YtgelfefoiplekaaDoor
