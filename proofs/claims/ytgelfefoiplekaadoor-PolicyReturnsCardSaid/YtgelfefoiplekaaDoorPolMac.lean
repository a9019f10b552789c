/-
  Chapter 44: PolicyMachines, walked.
-/
import Derived.Test.YtgelfefoiplekaaDoorPolOdd
namespace Go.Proofs.YtgelfefoiplekaaDoor
open Go.RowKit PN

section
variable {P : Program} {ops : Array Oper} {Q : Exit → Act → World → Prop} {S : Nat → Prop} {ks : List (VK S)} {Inv : World → Prop} {a0 : Act} {i : Nat} {o : Oper}
theorem st_callD3 {t t' t'' : Nat} {u u' u'' : Value} (d : Dep ops S ks a0 o t u) (d' : Dep ops S ks a0 o t' u') (d'' : Dep ops S ks a0 o t'' u'') (f : FuncId) (args : Array Value) (hx : ∀ (a : Act) (w : World), (a.tmps[t]?).getD undef = u → (a.tmps[t']?).getD undef = u' → (a.tmps[t'']?).getD undef = u'' → (execOp a.eval o).run P w = .ok (.enter f args) w)
    (hc : ∀ w, Inv w → Calls P f args w fun e w' => ∃ u, e = .returned u ∧ (kindOf ks i).holds S w' u ∧ Inv w' ∧ Keep S w w') : KStep P ops Q S ks Inv a0 i o := by
  intro a w K hI hV hF hK
  unfold Oper.wp
  rw [hx a w ((eval_tmp _ _).symm.trans (d a w hV hF)) ((eval_tmp _ _).symm.trans (d' a w hV hF)) ((eval_tmp _ _).symm.trans (d'' a w hV hF))]
  simp only [Oper.upon_enter]
  refine (hc w hI).mono ?_
  rintro e w' ⟨u, rfl, h2, h3, h4⟩
  exact hK _ _ h3 h4 h2
end

theorem asc_next : ∀ (st : List (Int × Int)) (l : Int × Int) (j : Nat) (s s' : Int × Int), asc l st = true → st[j]? = some s → st[j + 1]? = some s' → s.1 < s'.1
  | [], _, _, _, _, _, h, _ => by simp at h
  | [x], _, j, _, _, _, _, h => by simp at h
  | (u, v) :: (x, y) :: st, (a, b), 0, s, s', h, h1, h2 => by
    simp only [asc, Bool.and_eq_true, decide_eq_true_eq] at h
    simp at h1 h2
    subst h1 h2
    exact h.2.1.1.1.1
  | (u, v) :: (x, y) :: st, (a, b), j + 1, s, s', h, h1, h2 => by
    simp only [asc, Bool.and_eq_true, decide_eq_true_eq] at h
    refine asc_next ((x, y) :: st) (u, v) j s s' ?_ (by simpa using h1) (by simpa using h2)
    simp only [asc, Bool.and_eq_true, decide_eq_true_eq]
    exact h.2

theorem tmod_64 (m : Int) : i64 (m.tmod 200) := by
  unfold i64
  have h : (m.tmod 200).natAbs < 200 := by rw [Int.natAbs_tmod]; exact Nat.mod_lt _ (by decide)
  omega
theorem mac_mod {f : Int} {k : Nat} (hk : k < 100) : (100 * f + (k : Int)) % 100 = k := by omega

theorem Keep.fresh {b : Nat} {w w' : World} (h : Keep (· = b) w w') (hb : w.heap.size ≤ b) : Keep None w w' :=
  (Keep.refl None w).andThen h (fun g h1 h2 => by have h3 : g = b := h2; omega)

def MacInv (b bl n : Nat) (w0 : World) (iv : Value) (w : World) : Prop :=
  ∃ (i : Int) (r : List Int), iv = .int .i64 i ∧ -1 ≤ i ∧ i ≤ n + 1 ∧ CodesAt w b bl r ∧ Keep (· = b) w0 w
def MacIn (P : Int) (w0 : World) (nv kv : Value) (w : World) : Prop :=
  ∃ (k : Nat) (n : Int), kv = .int .i64 k ∧ k ≤ 100 ∧ nv = .int .i64 n ∧ ((k : Int) ≤ P ∧ n = k ∨ P < k ∧ n = P) ∧ Keep None w0 w

set_option maxRecDepth 100000 in
set_option maxHeartbeats 8000000 in
theorem lawMac_calls (pc : Option Addr) (bs : List Int) (cap : Nat) (m f : Int) (w : World) (h : SliceV byteEnc 1 w pc bs) (hv : ∀ x ∈ bs, (0 : Int) ≤ x ∧ x ≤ 255) (hcap : bs.length ≤ cap) (hm : i64 m) (hf : 0 ≤ f ∧ f ≤ 65535) (hE : Env w) (h6 : 6 ≤ w.heap.size) :
    Calls Tryd.prog 4 #[.slice pc bs.length cap, .int .i64 m, .int .u16 f] w (Gives None (.bool true) w) := by
  have H0 := Lib.hid h
  have HE := Lib.hid hE
  have HM := Lib.hid hm
  clear h hE hm
  go_enter Tryd.func4, Tryd.ntmps4
  go_wp2_with (go_at_call 9; refine (awake_calls _ HE.out h6).mono ?_; rintro e w1 ⟨rfl, hk1⟩; have HK1 := Lib.hid hk1; clear hk1)
  refine (new_calls pc bs cap 100 _ (H0.out.keep HK1.out (fun _ _ => id)) hv (by omega) hcap).mono ?_
  rintro e w2 ⟨b, bl', rfl, hbb, hc, hk2, -⟩
  have HC2 := Lib.hid hc
  have HK2 := Lib.hid (HK1.out.trans hk2)
  have hbw := Nat.le_trans HK1.out.size hbb
  clear hc hk2 hbb
  go_wp2_with (fail)
  refine (draw_calls b bl' _ _ HC2.out).mono ?_
  rintro e w3 ⟨a, c, p, r, rfl, hpa, hval, hfr, hcc1, hcc2, hc3, hk3⟩
  have hb2 := HC2.out.lt
  have HPA := Lib.hid hpa
  have HVAL := Lib.hid hval
  have HG := Lib.hid (valid_good hval)
  have HASC : Hid (asc (0, 0) p.st = true) := Lib.hid (by unfold validB at hval; simp only [Bool.and_eq_true] at hval; exact hval.1.2)
  have hoff : OffS (· = b) a := fun x hx hxb => by have := hfr x hx; have h3 : x.block = b := hxb; omega
  have HOFF := Lib.hid hoff
  have HK3 : Hid (Keep (· = b) w w3) := Lib.hid ((HK2.out.weaken (fun _ _ q => q.elim)).trans hk3)
  have HC3 := Lib.hid hc3
  have hn1 := HG.out.n1
  have hn8 := HG.out.n8
  clear hpa hval hfr hoff hk3 hc3
  unfold polVal
  go_wp2_with (fail)
  generalize hw4 : World.alloc _ _ = w4
  have hk4 : Keep None w3 w4 := by rw [← hw4]; exact (Keep.refl _ _).alloc _
  have ho4 : w4.heap[w3.heap.size]? = some (.cells #[.slice a p.st.length c, .int .i64 p.num, .int .i64 p.den, .int .i64 p.margin] 30 (0, 0)) := by rw [← hw4]; exact heap_alloc_new _ _
  clear hw4
  have hb3 := HC3.out.lt
  have hw34 := heap_lt ho4
  have HC4 := Lib.hid (HC3.out.same hk4)
  have HK4 : Hid (Keep (· = b) w w4) := Lib.hid (HK3.out.trans (hk4.weaken (fun _ _ q => q.elim)))
  have HBOX : Hid (∀ w', Keep (· = b) w4 w' → w'.heap[w3.heap.size]? = some (.cells #[.slice a p.st.length c, .int .i64 p.num, .int .i64 p.den, .int .i64 p.margin] 30 (0, 0))) := Lib.hid (fun w' hk => hk.obj ho4 (by omega))
  have HPOL : Hid (∀ w', Keep (· = b) w4 w' → PolAt w' a p) := Lib.hid (fun w' hk => (HPA.out.still hk4).keep hk HOFF.out)
  clear hk4 ho4 HC3 HK3
  go_loopw [9] (MacInv b bl' p.st.length w4) (fun i _ => p.st.length + 2 - (intOf i + 1).toNat)
  case atStart => exact ⟨-1, r, rfl, by omega, by omega, HC4.out, Keep.refl _ _⟩
  case round =>
    obtain ⟨i, r, rfl, hi0, hi1, hcr, hkr⟩ := hrel
    have HCR := Lib.hid hcr
    have HKR := Lib.hid hkr
    have q0 : wr.cell? ⟨w3.heap.size, 0, none⟩ = some (.slice a p.st.length c) := cell_of_row _ _ 0 _ _ _ (HBOX.out _ hkr)
    clear hcr
    by_cases hil : i ≤ p.st.length
    · go_wp2_with ((with_reducible (show wpList _ _ _ (⟨some _, .load 30 (.tmp 8), _, _, _, none⟩ :: _) _ _)); refine wpList_loadEl (enc := listEnc) (size := 4) rfl 30 _ rfl _ _ rfl [.slice a p.st.length c, .int .i64 p.num, .int .i64 p.den, .int .i64 p.margin] _ (range_of_obj (HBOX.out _ (by assumption))) rfl Tryd.underlying30 rfl Tryd.sizePolicy (.agg #[.slice a p.st.length c, .int .i64 p.num, .int .i64 p.den, .int .i64 p.margin]) rfl ?_)
      refine (odd_calls b bl' _ a c p _ HCR.out (HPOL.out _ hkr) (by omega) (by omega)).mono ?_
      rintro e w7 ⟨a', c', p', r', rfl, hpa', hfr', -, -, hn9, hc7, hk7⟩
      have HPA' := Lib.hid hpa'
      have HC7 := Lib.hid hc7
      have HK7 := Lib.hid (HKR.out.trans hk7)
      clear hpa' hfr' hc7 hk7 q0 hkr
      unfold polVal
      go_upto_region 9 with (fail)
      generalize hw8 : World.alloc _ _ = w8
      have hk8 : Keep None w7 w8 := by rw [← hw8]; exact (Keep.refl _ _).alloc _
      have ho8 : w8.heap[w7.heap.size]? = some (.cells #[.slice a' p'.st.length c', .int .i64 p'.num, .int .i64 p'.den, .int .i64 p'.margin] 30 (0, 0)) := by rw [← hw8]; exact heap_alloc_new _ _
      clear hw8
      have HK8 := Lib.hid (HK7.out.trans (hk8.weaken (T := (· = b)) (fun _ _ q => q.elim)))
      have HC8 := Lib.hid (HC7.out.same hk8)
      have HO8 := Lib.hid ho8
      have HP8 := Lib.hid (HPA'.out.still hk8)
      have hi64 : i64 i := by unfold i64; omega
      have hr200 : i64 (m.tmod 200) := tmod_64 m
      clear hk8 ho8
      have HB8 := Lib.hid (HBOX.out _ HK8.out)
      have HPL8 := Lib.hid (HPOL.out _ HK8.out)
      refine region_kindsG None [.is (.agg #[.slice a p.st.length c, .int .i64 p.num, .int .i64 p.den, .int .i64 p.margin]), .is (.int .i64 i), .is (.int .i64 m), .is (.bool (chosenB p i m)), .is (.agg #[.slice a p.st.length c, .int .i64 p.num, .int .i64 p.den, .int .i64 p.margin]), .is (.int .i64 i), .is (.int .i64 m), .is (.bool (chosenB p i m)), .is (.bool false), .is (.bool false),
          .is (.agg #[.slice a' p'.st.length c', .int .i64 p'.num, .int .i64 p'.den, .int .i64 p'.margin]), .is (.int .i64 i), .is (.int .i64 m), .is (.int .i64 (m.tmod 200)), .is (.bool (chosenB p' i (m.tmod 200))), .is (.agg #[.slice a' p'.st.length c', .int .i64 p'.num, .int .i64 p'.den, .int .i64 p'.margin]), .is (.int .i64 i), .is (.int .i64 m), .is (.int .i64 (m.tmod 200)), .is (.bool (chosenB p' i (m.tmod 200))), .is (.bool false), .is (.bool false)]
        (fun w' => Keep None w8 w') 100 (by kernel_rfl) (by kernel_rfl) rfl (by kernel_rfl) (Keep.refl _ _).drew ?_ ?_
      · have hca : ∀ (w' : World), Keep None w8 w' → Calls Tryd.prog 18 #[.agg #[.slice a p.st.length c, .int .i64 p.num, .int .i64 p.den, .int .i64 p.margin], .int .i64 i, .int .i64 m] w' (fun e w'' => ∃ u, e = .returned u ∧ u = .bool (chosenB p i m) ∧ Keep None w8 w'' ∧ Keep None w' w'') := fun w' hk => (chosen_calls a c p i m w' (HPL8.out.still hk) hi64 HM.out).mono (fun e w'' h => ⟨_, h.1, rfl, hk.trans h.2, h.2⟩)
        have hcb : ∀ (w' : World), Keep None w8 w' → Calls Tryd.prog 19 #[.agg #[.slice a p.st.length c, .int .i64 p.num, .int .i64 p.den, .int .i64 p.margin], .int .i64 i, .int .i64 m] w' (fun e w'' => ∃ u, e = .returned u ∧ u = .bool (chosenB p i m) ∧ Keep None w8 w'' ∧ Keep None w' w'') := fun w' hk => (refChosen_calls a c p i m w' (HPL8.out.still hk) hi64 HM.out).mono (fun e w'' h => ⟨_, h.1, rfl, hk.trans h.2, h.2⟩)
        have hcc : ∀ (w' : World), Keep None w8 w' → Calls Tryd.prog 18 #[.agg #[.slice a' p'.st.length c', .int .i64 p'.num, .int .i64 p'.den, .int .i64 p'.margin], .int .i64 i, .int .i64 (m.tmod 200)] w' (fun e w'' => ∃ u, e = .returned u ∧ u = .bool (chosenB p' i (m.tmod 200)) ∧ Keep None w8 w'' ∧ Keep None w' w'') := fun w' hk => (chosen_calls a' c' p' i _ w' (HP8.out.still hk) hi64 hr200).mono (fun e w'' h => ⟨_, h.1, rfl, hk.trans h.2, h.2⟩)
        have hcd : ∀ (w' : World), Keep None w8 w' → Calls Tryd.prog 19 #[.agg #[.slice a' p'.st.length c', .int .i64 p'.num, .int .i64 p'.den, .int .i64 p'.margin], .int .i64 i, .int .i64 (m.tmod 200)] w' (fun e w'' => ∃ u, e = .returned u ∧ u = .bool (chosenB p' i (m.tmod 200)) ∧ Keep None w8 w'' ∧ Keep None w' w'') := fun w' hk => (refChosen_calls a' c' p' i _ w' (HP8.out.still hk) hi64 hr200).mono (fun e w'' h => ⟨_, h.1, rfl, hk.trans h.2, h.2⟩)
        have HCA := Lib.hid hca
        have HCB := Lib.hid hcb
        have HCC := Lib.hid hcc
        have HCD := Lib.hid hcd
        clear hca hcb hcc hcd
        refine ⟨?_, ?_, ?_, ?_, ?_, ?_, ?_, ?_, ?_, ?_, ?_, ?_, ?_, ?_, ?_, ?_, ?_, ?_, ?_, ?_, ?_, ?_, trivial⟩
        · exact st_free rfl (st_loadD 30 w3.heap.size 0 [.slice a p.st.length c, .int .i64 p.num, .int .i64 p.den, .int .i64 p.margin] rfl (dep_f (t := 8) rfl rfl) (fun w' hI => range_of_obj (hI.obj HB8.out id)) _ Tryd.underlying30 rfl 4 Tryd.sizePolicy rfl rfl)
        · exact st_free rfl (st_ev1 (dep_f (t := 9) rfl rfl) _ (by intro a w' h1 hI; go_simp) rfl)
        · exact st_free rfl (st_ev1 (dep_f (t := 1) rfl rfl) _ (by intro a w' h1 hI; go_simp) rfl)
        · exact st_free rfl (st_callD3 (dep_e 0 rfl rfl rfl) (dep_e 1 rfl rfl rfl) (dep_e 2 rfl rfl rfl) _ _ (by intro a w' h1 h2 h3; go_simp) HCA.out)
        · exact st_free rfl (st_loadD 30 w3.heap.size 0 [.slice a p.st.length c, .int .i64 p.num, .int .i64 p.den, .int .i64 p.margin] rfl (dep_f (t := 8) rfl rfl) (fun w' hI => range_of_obj (hI.obj HB8.out id)) _ Tryd.underlying30 rfl 4 Tryd.sizePolicy rfl rfl)
        · exact st_free rfl (st_ev1 (dep_f (t := 9) rfl rfl) _ (by intro a w' h1 hI; go_simp) rfl)
        · exact st_free rfl (st_ev1 (dep_f (t := 1) rfl rfl) _ (by intro a w' h1 hI; go_simp) rfl)
        · exact st_free rfl (st_callD3 (dep_e 4 rfl rfl rfl) (dep_e 5 rfl rfl rfl) (dep_e 6 rfl rfl rfl) _ _ (by intro a w' h1 h2 h3; go_simp) HCB.out)
        · exact st_free rfl (st_ev2 (dep_e 3 rfl rfl rfl) (dep_e 7 rfl rfl rfl) _ (by intro a w' h1 h2 hI; cases chosenB p i m <;> go_simp) rfl)
        · exact st_free rfl (st_ev1 (dep_e 8 rfl rfl rfl) _ (by intro a w' h1 hI; go_simp) rfl)
        · exact st_on 9 39 false rfl rfl rfl rfl (st_loadD 30 w7.heap.size 0 [.slice a' p'.st.length c', .int .i64 p'.num, .int .i64 p'.den, .int .i64 p'.margin] rfl (dep_f (t := 10) rfl rfl) (fun w' hI => range_of_obj (hI.obj HO8.out id)) _ Tryd.underlying30 rfl 4 Tryd.sizePolicy rfl rfl)
        · exact st_on 9 39 false rfl rfl rfl rfl (st_ev1 (dep_f (t := 9) rfl rfl) _ (by intro a w' h1 hI; go_simp) rfl)
        · exact st_on 9 39 false rfl rfl rfl rfl (st_ev1 (dep_f (t := 1) rfl rfl) _ (by intro a w' h1 hI; go_simp) rfl)
        · exact st_on 9 39 false rfl rfl rfl rfl (st_ev1 (dep_e 12 rfl rfl rfl) _ (by intro a w' h1 hI; go_simp) rfl)
        · exact st_on 9 39 false rfl rfl rfl rfl (st_callD3 (dep_e 10 rfl rfl rfl) (dep_e 11 rfl rfl rfl) (dep_e 13 rfl rfl rfl) _ _ (by intro a w' h1 h2 h3; go_simp) HCC.out)
        · exact st_on 9 39 false rfl rfl rfl rfl (st_loadD 30 w7.heap.size 0 [.slice a' p'.st.length c', .int .i64 p'.num, .int .i64 p'.den, .int .i64 p'.margin] rfl (dep_f (t := 10) rfl rfl) (fun w' hI => range_of_obj (hI.obj HO8.out id)) _ Tryd.underlying30 rfl 4 Tryd.sizePolicy rfl rfl)
        · exact st_on 9 39 false rfl rfl rfl rfl (st_ev1 (dep_f (t := 9) rfl rfl) _ (by intro a w' h1 hI; go_simp) rfl)
        · exact st_on 9 39 false rfl rfl rfl rfl (st_ev1 (dep_f (t := 1) rfl rfl) _ (by intro a w' h1 hI; go_simp) rfl)
        · exact st_on 9 39 false rfl rfl rfl rfl (st_ev1 (dep_e 17 rfl rfl rfl) _ (by intro a w' h1 hI; go_simp) rfl)
        · exact st_on 9 39 false rfl rfl rfl rfl (st_callD3 (dep_e 15 rfl rfl rfl) (dep_e 16 rfl rfl rfl) (dep_e 18 rfl rfl rfl) _ _ (by intro a w' h1 h2 h3; go_simp) HCD.out)
        · exact st_on 9 39 false rfl rfl rfl rfl (st_ev2 (dep_e 14 rfl rfl rfl) (dep_e 19 rfl rfl rfl) _ (by intro a w' h1 h2 hI; cases chosenB p' i (m.tmod 200) <;> go_simp) rfl)
        · exact st_free rfl (st_ev2 (dep_e 9 rfl rfl rfl) (dep_e 20 rfl rfl rfl) _ (by intro a w' h1 h2 hI; go_simp) rfl)
      intro f' w9 hkinds hI
      have k51 : f' 51 = .bool false := hkinds 21 _ 51 rfl rfl
      simp only [putsOf, Act.put, List.setIfInBounds_toArray, List.set_cons_zero, List.set_cons_succ, k51]
      clear hkinds k51
      have HK9 := Lib.hid (HK8.out.trans (hI.weaken (T := (· = b)) (fun _ _ q => q.elim)))
      have HC9 := Lib.hid (HC8.out.same hI)
      have q0 : w9.cell? ⟨w3.heap.size, 0, none⟩ = some (.slice a p.st.length c) := cell_of_row _ _ 0 _ _ _ (HBOX.out _ HK9.out)
      clear hI HC8 HO8 HP8 HB8 HPL8 HPA' HC7 HK7
      by_cases hneg : i < 0
      · go_wp2_with (fail)
        go_roundw
        case rel => exact ⟨i + 1, r', by go_num, by omega, by omega, HC9.out, HK9.out⟩
        case measure => simp [intOf]; omega
      · by_cases hend : i = p.st.length
        · have hge : (p.st.length : Int) ≤ i := by omega
          go_wp2_with (fail)
          go_roundw
          case rel => exact ⟨i + 1, r', by go_num, by omega, by omega, HC9.out, HK9.out⟩
          case measure => simp [intOf]; omega
        · obtain ⟨j, rfl⟩ : ∃ j : Nat, i = j := ⟨i.toNat, by omega⟩
          have hj : j < p.st.length := by omega
          have hge : ¬ (p.st.length : Int) ≤ j := by omega
          obtain ⟨⟨P, R⟩, hs⟩ : ∃ s, p.st[j]? = some s := ⟨p.st[j], by simp [hj]⟩
          have hP := (HG.out.st _ (List.mem_of_getElem? hs)).1
          simp only at hP
          have HS := Lib.hid hs
          clear hs hend
          go_wp2_with (fail)
          go_loopw [11, 12] (MacIn P w9) (fun _ k _ => 100 - (intOf k).toNat)
          case atStart => exact ⟨0, 0, rfl, by omega, rfl, .inl ⟨by omega, rfl⟩, Keep.refl _ _⟩
          case round =>
            obtain ⟨k, n, rfl, hk, rfl, hn, hki⟩ := hrel
            have hkr : Keep None wr wr := Keep.refl _ _
            have HN := Lib.hid hn
            have HKI := Lib.hid hki
            have HKIR : Hid (Keep (· = b) w4 wr) := Lib.hid (HK9.out.trans (hki.weaken (fun _ _ q => q.elim)))
            have HBOX2 : Hid (∀ w', Keep None wr w' → w'.heap[w3.heap.size]? = some (.cells #[.slice a p.st.length c, .int .i64 p.num, .int .i64 p.den, .int .i64 p.margin] 30 (0, 0))) := Lib.hid (fun w' h => HBOX.out _ (HKIR.out.trans (h.weaken (fun _ _ q => q.elim))))
            have HPOL2 : Hid (∀ w', Keep None wr w' → PolAt w' a p) := Lib.hid (fun w' h => HPOL.out _ (HKIR.out.trans (h.weaken (fun _ _ q => q.elim))))
            clear hn hki q0
            by_cases hk100 : k < 100
            · have hkl : (k : Int) < 100 := by omega
              have hM0 : 0 ≤ 100 * f + (k : Int) := by omega
              have hM64 : i64 (100 * f + (k : Int)) := by unfold i64; omega
              have hj64 : i64 (j : Int) := by unfold i64; omega
              have hj164 : i64 ((j : Int) - 1) := by unfold i64; omega
              have hcv : chosenB p j (100 * f + (k : Int)) = decide ((k : Int) < P) := by rw [chosen_yes HVAL.out HS.out hM0, mac_mod hk100]
              have hn1' : n + 1 ≤ 200 := by have := HN.out; omega
              have hn0' : 0 ≤ n := by have := HN.out; omega
              by_cases hkp : (k : Int) < P
              · have HC1 : Hid (∀ w', Keep None wr w' → Calls Tryd.prog 18 #[.agg #[.slice a p.st.length c, .int .i64 p.num, .int .i64 p.den, .int .i64 p.margin], .int .i64 j, .int .i64 (100 * f + (k : Int))] w' (fun e w'' => e = .returned (.bool true) ∧ Keep None wr w'')) := Lib.hid (fun w' h => (chosen_calls a c p j _ w' (HPOL2.out _ h) hj64 hM64).mono (fun e w'' h2 => ⟨by rw [h2.1, hcv, decide_eq_true hkp], h.trans h2.2⟩))
                clear hcv
                by_cases hj0 : j = 0
                · have hj0' : ¬ (0 : Int) < j := by omega
                  have hj0n : ¬ 0 < j := by omega
                  clear hj0
                  go_wp2_with (first | ((with_reducible (show wpList _ _ _ (⟨some _, .load 30 (.tmp 8), _, _, _, none⟩ :: _) _ _)); refine wpList_loadEl (enc := listEnc) (size := 4) rfl 30 _ rfl _ _ rfl [.slice a p.st.length c, .int .i64 p.num, .int .i64 p.den, .int .i64 p.margin] _ (range_of_obj (HBOX2.out _ (by assumption))) rfl Tryd.underlying30 rfl Tryd.sizePolicy (.agg #[.slice a p.st.length c, .int .i64 p.num, .int .i64 p.den, .int .i64 p.margin]) rfl ?_) | ((with_reducible (show Calls _ _ #[_, .int .i64 (j : Int), _] _ _)); refine (HC1.out _ (by assumption)).mono ?_; rintro e wx ⟨rfl, hkx⟩))
                  go_roundw
                  case rel => exact ⟨k + 1, n + 1, by go_num, by omega, rfl, by have := HN.out; omega, HKI.out.trans (by assumption)⟩
                  case measure => simp [intOf]; omega
                · have hj0' : (0 : Int) < j := by omega
                  have hjp : 0 < j := by omega
                  clear hj0
                  obtain ⟨bb, hbb⟩ : ∃ bb, bb = chosenB p ((j : Int) - 1) (100 * f + (k : Int)) := ⟨_, rfl⟩
                  have HC0 : Hid (∀ w', Keep None wr w' → Calls Tryd.prog 18 #[.agg #[.slice a p.st.length c, .int .i64 p.num, .int .i64 p.den, .int .i64 p.margin], .int .i64 ((j : Int) - 1), .int .i64 (100 * f + (k : Int))] w' (fun e w'' => e = .returned (.bool bb) ∧ Keep None wr w'')) := Lib.hid (fun w' h => (chosen_calls a c p _ _ w' (HPOL2.out _ h) hj164 hM64).mono (fun e w'' h2 => ⟨by rw [h2.1, hbb], h.trans h2.2⟩))
                  clear hbb
                  cases bb
                  all_goals
                    go_wp2_with (first | ((with_reducible (show wpList _ _ _ (⟨some _, .load 30 (.tmp 8), _, _, _, none⟩ :: _) _ _)); refine wpList_loadEl (enc := listEnc) (size := 4) rfl 30 _ rfl _ _ rfl [.slice a p.st.length c, .int .i64 p.num, .int .i64 p.den, .int .i64 p.margin] _ (range_of_obj (HBOX2.out _ (by assumption))) rfl Tryd.underlying30 rfl Tryd.sizePolicy (.agg #[.slice a p.st.length c, .int .i64 p.num, .int .i64 p.den, .int .i64 p.margin]) rfl ?_) | ((with_reducible (show wpList _ _ _ (⟨some _, .load 30 (.tmp 8), _, _, _, some _⟩ :: _) _ _)); refine wpList_loadElG (enc := listEnc) (size := 4) rfl 30 _ rfl _ _ rfl [.slice a p.st.length c, .int .i64 p.num, .int .i64 p.den, .int .i64 p.margin] _ (range_of_obj (HBOX2.out _ (by assumption))) rfl Tryd.underlying30 rfl Tryd.sizePolicy (.agg #[.slice a p.st.length c, .int .i64 p.num, .int .i64 p.den, .int .i64 p.margin]) rfl ?_) | ((with_reducible (show Calls _ _ #[_, .int .i64 ((j : Int) - 1), _] _ _)); refine (HC0.out _ (by assumption)).mono ?_; rintro e wx ⟨rfl, hkx⟩) | ((with_reducible (show Calls _ _ #[_, .int .i64 (j : Int), _] _ _)); refine (HC1.out _ (by assumption)).mono ?_; rintro e wx ⟨rfl, hkx⟩))
                    go_roundw
                    case rel => exact ⟨k + 1, n + 1, by go_num, by omega, rfl, by have := HN.out; omega, HKI.out.trans (by assumption)⟩
                    case measure => simp [intOf]; omega
              · have HC1 : Hid (∀ w', Keep None wr w' → Calls Tryd.prog 18 #[.agg #[.slice a p.st.length c, .int .i64 p.num, .int .i64 p.den, .int .i64 p.margin], .int .i64 j, .int .i64 (100 * f + (k : Int))] w' (fun e w'' => e = .returned (.bool false) ∧ Keep None wr w'')) := Lib.hid (fun w' h => (chosen_calls a c p j _ w' (HPOL2.out _ h) hj64 hM64).mono (fun e w'' h2 => ⟨by rw [h2.1, hcv, decide_eq_false hkp], h.trans h2.2⟩))
                clear hcv
                by_cases hj0 : j = 0
                · have hj0' : ¬ (0 : Int) < j := by omega
                  have hj0n : ¬ 0 < j := by omega
                  clear hj0
                  go_wp2_with (first | ((with_reducible (show wpList _ _ _ (⟨some _, .load 30 (.tmp 8), _, _, _, none⟩ :: _) _ _)); refine wpList_loadEl (enc := listEnc) (size := 4) rfl 30 _ rfl _ _ rfl [.slice a p.st.length c, .int .i64 p.num, .int .i64 p.den, .int .i64 p.margin] _ (range_of_obj (HBOX2.out _ (by assumption))) rfl Tryd.underlying30 rfl Tryd.sizePolicy (.agg #[.slice a p.st.length c, .int .i64 p.num, .int .i64 p.den, .int .i64 p.margin]) rfl ?_) | ((with_reducible (show Calls _ _ #[_, .int .i64 (j : Int), _] _ _)); refine (HC1.out _ (by assumption)).mono ?_; rintro e wx ⟨rfl, hkx⟩))
                  go_roundw
                  case rel => exact ⟨k + 1, n, by go_num, by omega, rfl, by have := HN.out; omega, HKI.out.trans (by assumption)⟩
                  case measure => simp [intOf]; omega
                · have hj0' : (0 : Int) < j := by omega
                  have hjp : 0 < j := by omega
                  clear hj0
                  obtain ⟨⟨P0, R0⟩, hs0⟩ : ∃ s, p.st[j - 1]? = some s := ⟨p.st[j - 1], by rw [List.getElem?_eq_getElem]⟩
                  have hlt := asc_next p.st (0, 0) (j - 1) _ _ HASC.out hs0 (by rw [show j - 1 + 1 = j by omega]; exact HS.out)
                  simp only at hlt
                  have HC0 : Hid (∀ w', Keep None wr w' → Calls Tryd.prog 18 #[.agg #[.slice a p.st.length c, .int .i64 p.num, .int .i64 p.den, .int .i64 p.margin], .int .i64 ((j : Int) - 1), .int .i64 (100 * f + (k : Int))] w' (fun e w'' => e = .returned (.bool false) ∧ Keep None wr w'')) := Lib.hid (fun w' h => (chosen_calls a c p _ _ w' (HPOL2.out _ h) hj164 hM64).mono (fun e w'' h2 => ⟨by rw [h2.1, show ((j : Int) - 1) = ((j - 1 : Nat) : Int) by omega, chosen_yes HVAL.out hs0 hM0, mac_mod hk100, decide_eq_false (by simp only; omega)], h.trans h2.2⟩))
                  clear hs0 hlt
                  go_wp2_with (first | ((with_reducible (show wpList _ _ _ (⟨some _, .load 30 (.tmp 8), _, _, _, none⟩ :: _) _ _)); refine wpList_loadEl (enc := listEnc) (size := 4) rfl 30 _ rfl _ _ rfl [.slice a p.st.length c, .int .i64 p.num, .int .i64 p.den, .int .i64 p.margin] _ (range_of_obj (HBOX2.out _ (by assumption))) rfl Tryd.underlying30 rfl Tryd.sizePolicy (.agg #[.slice a p.st.length c, .int .i64 p.num, .int .i64 p.den, .int .i64 p.margin]) rfl ?_) | ((with_reducible (show wpList _ _ _ (⟨some _, .load 30 (.tmp 8), _, _, _, some _⟩ :: _) _ _)); refine wpList_loadElG (enc := listEnc) (size := 4) rfl 30 _ rfl _ _ rfl [.slice a p.st.length c, .int .i64 p.num, .int .i64 p.den, .int .i64 p.margin] _ (range_of_obj (HBOX2.out _ (by assumption))) rfl Tryd.underlying30 rfl Tryd.sizePolicy (.agg #[.slice a p.st.length c, .int .i64 p.num, .int .i64 p.den, .int .i64 p.margin]) rfl ?_) | ((with_reducible (show Calls _ _ #[_, .int .i64 ((j : Int) - 1), _] _ _)); refine (HC0.out _ (by assumption)).mono ?_; rintro e wx ⟨rfl, hkx⟩) | ((with_reducible (show Calls _ _ #[_, .int .i64 (j : Int), _] _ _)); refine (HC1.out _ (by assumption)).mono ?_; rintro e wx ⟨rfl, hkx⟩))
                  go_roundw
                  case rel => exact ⟨k + 1, n, by go_num, by omega, rfl, by have := HN.out; omega, HKI.out.trans (by assumption)⟩
                  case measure => simp [intOf]; omega
            · have hnP : n = P := by have := HN.out; omega
              subst hnP
              have hkl : ¬ (k : Int) < 100 := by omega
              obtain ⟨ab, off, rfl, hsl⟩ : ∃ ab off, a = some ⟨ab, off, none⟩ ∧ SlAt stEnc 2 wr ab off p.st := by
                rcases (HPOL2.out _ hkr).st with h | h
                · rw [h] at hj; simp at hj
                · exact h
              have q1 : wr.cell? ⟨ab, off + j * 2, none⟩ = some (.int .i64 n) := by have := hsl j _ HS.out 0 _ rfl; simpa using this
              have q0 : wr.cell? ⟨w3.heap.size, 0, none⟩ = some (.slice (some ⟨ab, off, none⟩) p.st.length c) := cell_of_row _ _ 0 _ _ _ (HBOX2.out _ hkr)
              clear hsl
              go_wp2_with (fail)
              go_roundw
              case rel => exact ⟨(j : Int) + 1, r', by go_num, by omega, by omega, HC9.out.same HKI.out, HKIR.out⟩
              case measure => simp [intOf]; omega
    · have hie : ¬ i ≤ p.st.length := hil
      go_wp2_with (fail)
      go_ret
      exact ⟨rfl, (HK4.out.trans HKR.out).fresh hbw⟩

end Go.Proofs.YtgelfefoiplekaaDoor
