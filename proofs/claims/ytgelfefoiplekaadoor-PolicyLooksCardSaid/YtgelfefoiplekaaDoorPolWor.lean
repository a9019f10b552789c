/-
  Chapter 44: PolicyWorse, walked.
-/
import Derived.Test.YtgelfefoiplekaaDoorPolStays
import Derived.Test.YtgelfefoiplekaaDoorPolOdd
namespace Go.Proofs.YtgelfefoiplekaaDoor
open Go.RowKit PN

theorem SlAt.newer {α : Type} {enc : α → List Value} {size : Nat} {w w' : World} {b off : Nat} {xs : List α} (h : SlAt enc size w b off xs) (k : Keep (w.heap.size ≤ ·) w w') : SlAt enc size w' b off xs := fun i x hx j u hu =>
  k.cell (h i x hx j u hu) (by have := World.block_lt_of_cell? w _ (h i x hx j u hu); simp at this ⊢; exact this)
theorem SliceV.newer {α : Type} {enc : α → List Value} {size : Nat} {w w' : World} {p : Option Addr} {xs : List α} (h : SliceV enc size w p xs) (k : Keep (w.heap.size ≤ ·) w w') : SliceV enc size w' p xs := by
  rcases h with h | ⟨b, off, rfl, h⟩
  · exact .inl h
  · exact .inr ⟨b, off, rfl, h.newer k⟩
theorem SliceV.newerN {α : Type} {enc : α → List Value} {size n : Nat} {w w' : World} {p : Option Addr} {xs : List α} (h : SliceV enc size w p xs) (hn : w.heap.size ≤ n) (k : Keep (n ≤ ·) w w') : SliceV enc size w' p xs :=
  h.newer (k.weaken (fun g _ hg => by have h3 : n ≤ g := hg; show w.heap.size ≤ g; omega))

def midPr (x : Pr) : Prop := (0 ≤ x.1 ∧ x.1 ≤ 3000) ∧ 0 ≤ x.2 ∧ x.2 ≤ 3000
theorem small_mid {x : Pr} (h : smallPr x) : midPr x := by unfold smallPr at h; unfold midPr; omega
theorem mid_ok {x : Pr} (h : midPr x) : okPr x = true := by
  unfold midPr at h
  simp only [okPr, meas, Bool.and_eq_true, decide_eq_true_eq]
  omega

theorem Worse.set : ∀ {l m : List Pr} {k : Nat} {x : Pr} {v : Int}, PN.Worse l m → m[k]? = some x → x.2 ≤ v → PN.Worse l (m.set k (x.1, v))
  | [], [], _, _, _, _, h, _ => by simp at h
  | a :: l, b :: m, 0, x, v, h, hx, hv => by
    simp at hx
    subst hx
    exact ⟨h.1, Int.le_trans h.2.1 hv, h.2.2⟩
  | a :: l, b :: m, k + 1, x, v, h, hx, hv => ⟨h.1, h.2.1, Worse.set h.2.2 (by simpa using hx) hv⟩

theorem worse_law {p : Pol} {l m : List Pr} (hv : validB p = true) (hl : ∀ x ∈ l, okPr x = true) (hm : ∀ x ∈ m, okPr x = true) (hw : PN.Worse l m) (h60 : l.length ≤ 60) : ∃ (v1 v2 : Int) (i1 i2 : Nat),
    verdictV p l = .tuple #[.int .i64 v1, .int .i64 i1, .int .i64 0] ∧ verdictV p m = .tuple #[.int .i64 v2, .int .i64 i2, .int .i64 0] ∧ i1 ≤ 8 ∧ i2 ≤ 8 ∧
    ((v1 = 1 ∧ v2 = 1 ∧ i1 = i2) ∨ (v1 = 1 ∧ v2 = 2) ∨ (v1 = 2 ∧ v2 = 2 ∧ (i2 : Int) ≤ i1) ∨ (v1 = 3 ∧ v2 = 2) ∨ (v1 = 3 ∧ v2 = 3)) := by
  obtain ⟨v1, i1, e1, g1, o1, b1⟩ := verdict_is hv hl h60
  obtain ⟨v2, i2, e2, g2, o2, b2⟩ := verdict_is hv hm (by rw [← hw.len]; exact h60)
  have h := verd_worse (look := lookB p l) (look' := lookB p m) (n := l.length) (fun j hj => look_worse (valid_good hv).m0 hw j hj) p.st 0
  rw [← hw.len] at e2
  rw [e1, e2] at h
  simp only at h
  refine ⟨v1, v2, i1, i2, g1, g2, b1, b2, ?_⟩
  omega

def WorInv (p2 : Option Addr) (c2 : Nat) (l : List Pr) (base : Nat) (w0 : World) (iv : Value) (w : World) : Prop :=
  ∃ (k : Nat) (m : List Pr), iv = .int .i64 k ∧ k ≤ l.length ∧ m.length = l.length ∧ PN.Worse l m ∧ (∀ x ∈ m, midPr x) ∧ m.drop k = l.drop k ∧ Own prEnc 2 53 base w (.slice p2 m.length c2) m ∧ Keep (base ≤ ·) w0 w

set_option maxRecDepth 100000 in
set_option maxHeartbeats 8000000 in
theorem lawWorse_calls (pc pw : Option Addr) (bs ws : List Int) (cap capw : Nat) (w : World) (h : SliceV byteEnc 1 w pc bs) (hv : ∀ x ∈ bs, (0 : Int) ≤ x ∧ x ≤ 255) (hcap : bs.length ≤ cap) (hw : SliceV byteEnc 1 w pw ws) (hvw : ∀ x ∈ ws, (0 : Int) ≤ x ∧ x ≤ 255) (hE : Env w) (h6 : 6 ≤ w.heap.size) :
    Calls Tryd.prog 6 #[.slice pc bs.length cap, .slice pw ws.length capw] w (Gives None (.bool true) w) := by
  have H0 := Lib.hid h
  have HW0 := Lib.hid hw
  have HVW := Lib.hid hvw
  have HE := Lib.hid hE
  clear h hE hw hvw
  go_enter Tryd.func6, Tryd.ntmps6
  go_wp2_with (go_at_call 9; refine (awake_calls _ HE.out h6).mono ?_; rintro e w1 ⟨rfl, hk1⟩; have HK1 := Lib.hid hk1; clear hk1)
  refine (new_calls pc bs cap 300 _ (H0.out.keep HK1.out (fun _ _ => id)) hv (by omega) hcap).mono ?_
  rintro e w2 ⟨b, bl', rfl, hbb, hc, hk2, -⟩
  have HC2 := Lib.hid hc
  have HK2 := Lib.hid (HK1.out.trans hk2)
  have hbw := Nat.le_trans HK1.out.size hbb
  clear hc hk2 hbb
  go_wp2_with (fail)
  refine (draw_calls b bl' _ _ HC2.out).mono ?_
  rintro e w3 ⟨a, c, p, r, rfl, hpa, hval, hfr, hcc1, hcc2, hc3, hk3⟩
  have hb2 := HC2.out.lt
  have HPA := Lib.hid hpa
  have HVAL := Lib.hid hval
  have hoff : OffS (· = b) a := fun x hx hxb => by have := hfr x hx; have h3 : x.block = b := hxb; omega
  have HOFF := Lib.hid hoff
  have HK3 : Hid (Keep (· = b) w w3) := Lib.hid ((HK2.out.weaken (fun _ _ q => q.elim)).trans hk3)
  have HC3 := Lib.hid hc3
  clear hpa hval hfr hoff hk3 hc3 hcc1 hcc2
  unfold polVal
  go_wp2_with (fail)
  generalize hw4 : World.alloc _ _ = w4
  have hk4 : Keep None w3 w4 := by rw [← hw4]; exact (Keep.refl _ _).alloc _
  have ho4 : w4.heap[w3.heap.size]? = some (.cells #[.slice a p.st.length c, .int .i64 p.num, .int .i64 p.den, .int .i64 p.margin] 30 (0, 0)) := by rw [← hw4]; exact heap_alloc_new _ _
  clear hw4
  have hb3 := HC3.out.lt
  have hw34 := heap_lt ho4
  have HC4 := Lib.hid (HC3.out.same hk4)
  have HK4 : Hid (Keep (· = b) w w4) := Lib.hid (HK3.out.trans (hk4.weaken (fun _ _ q => q.elim)))
  have HP4 := Lib.hid (HPA.out.still hk4)
  have HO4 := Lib.hid ho4
  clear hk4 ho4 HC3 HK3
  refine (results_calls b bl' 60 _ _ HC4.out (by omega)).mono ?_
  rintro e w5 ⟨q, cq, l, r5, rfl, hsl, hfrq, hlc, hcm, hl60, hsm, hc5, hk5⟩
  have hw45 := hk5.size
  have HSM := Lib.hid hsm
  have HKW : Hid (Keep (· = b) w w5) := Lib.hid (HK4.out.trans hk5)
  have HBOX : Hid (∀ w', Keep (w5.heap.size ≤ ·) w5 w' → w'.heap[w3.heap.size]? = some (.cells #[.slice a p.st.length c, .int .i64 p.num, .int .i64 p.den, .int .i64 p.margin] 30 (0, 0))) := Lib.hid (fun w' hk => hk.obj (hk5.obj HO4.out (by omega)) (by omega))
  have HPOL : Hid (∀ w', Keep (w5.heap.size ≤ ·) w5 w' → PolAt w' a p) := Lib.hid (fun w' hk => ⟨(HP4.out.keep hk5 HOFF.out).st.newer hk, HP4.out.ln⟩)
  have HSL : Hid (∀ w', Keep (w5.heap.size ≤ ·) w5 w' → SliceV prEnc 2 w' q l) := Lib.hid (fun w' hk => hsl.newer hk)
  have HWS : Hid (∀ w', Keep (w5.heap.size ≤ ·) w5 w' → SliceV byteEnc 1 w' pw ws) := Lib.hid (fun w' hk => by
    refine HW0.out.newer ((Keep.refl (w.heap.size ≤ ·) w).andThen ((HKW.out.weaken (T := (w.heap.size ≤ ·)) (fun g _ hg => by have h3 : g = b := hg; show w.heap.size ≤ g; omega)).trans (hk.weaken (fun g _ hg => by have h3 : w5.heap.size ≤ g := hg; have := HKW.out.size; show w.heap.size ≤ g; omega))) (fun g _ hg => hg)))
  clear hsl hfrq hsm hc5 hk5 HO4 HP4 HC4 HK4 HPA HC2 HK2 H0 HW0
  obtain ⟨i5, hi5, hv0, hv1, hv2⟩ := info_parts Tryd.infoPair
  go_wp2_with (at_builtin; go_loud (refine wpList_copyAll rfl _ _ 47 rfl 53 i5 _ 16 Tryd.underlying47 hi5 hv0 hv1 hv2 rfl (by decide) prEnc_len rfl q l cq rfl (HSL.out _ (Keep.refl _ _)) (by intro x u hu; simp [prEnc] at hu; rcases hu with rfl | rfl <;> rfl) (by omega) (by omega) ?_; intro v2 w6 hown6 hk6; obtain ⟨p2, c2, rfl, hcc1, hcc2, -, hfr2⟩ := hown6.slice prEnc_len; have HOWN6 := Lib.hid hown6; have HK6 := Lib.hid hk6; clear hown6 hk6 hfr2))
  go_loopw [9] (WorInv p2 c2 l w5.heap.size w5) (fun i _ => l.length - (intOf i).toNat)
  case atStart => exact ⟨0, l, rfl, by omega, rfl, Worse.refl l, fun x hx => small_mid (HSM.out x hx), rfl, HOWN6.out, HK6.out.weaken (fun _ _ q => q.elim)⟩
  case round =>
    obtain ⟨k, m, rfl, hk, hml, hwr, hmid, hdr, hown, hkp⟩ := hrel
    have HWR := Lib.hid hwr
    have HMID := Lib.hid hmid
    have HDR := Lib.hid hdr
    have HOWN := Lib.hid hown
    have HKR := Lib.hid hkp
    clear hwr hmid hdr hown hkp
    by_cases hkl : k < l.length
    · have hkli : (k : Int) < l.length := by omega
      by_cases hkw : k < ws.length
      · have hkwi : (k : Int) < ws.length := by omega
        obtain ⟨⟨o, n⟩, hx⟩ : ∃ s, m[k]? = some s := ⟨m[k]'(by omega), by rw [List.getElem?_eq_getElem]⟩
        obtain ⟨u, hu⟩ : ∃ u, ws[k]? = some u := ⟨ws[k], by simp [hkw]⟩
        have hlx : l[k]? = some (o, n) := by
          have h1 : (m.drop k)[0]? = (l.drop k)[0]? := by rw [HDR.out]
          rw [List.getElem?_drop, List.getElem?_drop, Nat.add_zero] at h1
          rw [← h1]; exact hx
        have hsn := HSM.out _ (List.mem_of_getElem? hlx)
        unfold smallPr at hsn
        simp only at hsn
        have hub := HVW.out _ (List.mem_of_getElem? hu)
        obtain ⟨g, rfl, hg⟩ := HOWN.out.row prEnc_len (by omega)
        have hgw : g < wr.heap.size := (World.ownsRow.lt HOWN.out g rfl).2
        obtain ⟨wb, wo, rfl, hwsl⟩ : ∃ b off, pw = some ⟨b, off, none⟩ ∧ SlAt byteEnc 1 wr b off ws := by
          rcases HWS.out _ HKR.out with h | h
          · rw [h] at hkw; simp at hkw
          · exact h
        have HU := Lib.hid (hwsl k _ hu 0 _ rfl)
        have HC0 : Hid (wr.cell? ⟨g, k * 2 + 1, none⟩ = some (.int .i64 n)) := Lib.hid (by
          obtain ⟨p8, c8, he8, -, -, hs8, -⟩ := HOWN.out.slice prEnc_len
          cases he8
          rcases hs8 with h | ⟨b', o', he, hsl⟩
          · rw [h] at hml; simp at hml; omega
          · cases he
            have := hsl k _ hx 1 _ rfl
            simpa using this)
        have HX := Lib.hid hx
        clear hx hlx hu hwsl
        have hw1 : IntKind.i64.wrap u = u := IntWalk.i64_in _ (by omega)
        have hw2 : IntKind.i64.wrap (n + u) = n + u := IntWalk.i64_in _ (by omega)
        have hkn : ¬ (k : Int) < 0 := by omega
        go_upto_region 10 with (fail)
        refine region_kindsG_tail None [.is (.slice (some ⟨g, 0, none⟩) l.length c2), .is (.int .i64 k), .is (.pointer (some ⟨g, k * 2, none⟩)), .is (.pointer (some ⟨g, k * 2 + 1, none⟩)), .is (.int .i64 n), .is (.slice (some ⟨wb, wo, none⟩) ws.length capw), .is (.int .i64 k), .is (.pointer (some ⟨wb, wo + k, none⟩)), .is (.int .u8 u), .is (.int .i64 u), .is (.int .i64 (n + u)), .any, .any, .any]
          (fun w' => Keep None wr w') 103 11 (by kernel_rfl) (by decide) (by kernel_rfl) (by kernel_rfl) (by kernel_rfl) rfl (by kernel_rfl) (Keep.refl _ _).drew ?_ ?_
        · refine ⟨?_, ?_, ?_, ?_, ?_, ?_, ?_, ?_, ?_, ?_, ?_, trivial⟩
          · exact st_free rfl (st_ev1 (dep_f (t := 8) rfl rfl) _ (by intro a w' h1 hI; go_simp) rfl)
          · exact st_free rfl (st_ev1 (dep_f (t := 9) rfl rfl) _ (by intro a w' h1 hI; go_simp) rfl)
          · exact st_free rfl (st_ev2 (dep_e 0 rfl rfl rfl) (dep_e 1 rfl rfl rfl) _ (by intro a w' h1 h2 hI; go_simp) rfl)
          · exact st_free rfl (st_ev1 (dep_e 2 rfl rfl rfl) _ (by intro a w' h1 hI; go_simp) rfl)
          · exact st_free rfl (st_ev1 (dep_e 3 rfl rfl rfl) _ (by intro a w' h1 hI; have q0 := hI.cell HC0.out id; go_simp) rfl)
          · exact st_free rfl (st_ev1 (dep_f (t := 1) rfl rfl) _ (by intro a w' h1 hI; go_simp) rfl)
          · exact st_free rfl (st_ev1 (dep_f (t := 9) rfl rfl) _ (by intro a w' h1 hI; go_simp) rfl)
          · exact st_free rfl (st_ev2 (dep_e 5 rfl rfl rfl) (dep_e 6 rfl rfl rfl) _ (by intro a w' h1 h2 hI; go_simp) rfl)
          · exact st_free rfl (st_ev1 (dep_e 7 rfl rfl rfl) _ (by intro a w' h1 hI; have q0 : w'.cell? ⟨wb, wo + k, none⟩ = some (.int .u8 u) := (by have := hI.cell HU.out id; simpa using this); go_simp) rfl)
          · exact st_free rfl (st_ev1 (dep_e 8 rfl rfl rfl) _ (by intro a w' h1 hI; go_simp) rfl)
          · exact st_free rfl (st_ev2 (dep_e 4 rfl rfl rfl) (dep_e 9 rfl rfl rfl) _ (by intro a w' h1 h2 hI; go_simp) rfl)
        intro f' w9 hkinds hI
        have k38 : f' 38 = .slice (some ⟨g, 0, none⟩) l.length c2 := hkinds 0 _ 38 (by omega) rfl rfl
        have k39 : f' 39 = .int .i64 k := hkinds 1 _ 39 (by omega) rfl rfl
        have k48 : f' 48 = .int .i64 (n + u) := hkinds 10 _ 48 (by omega) rfl rfl
        simp only [putsOf, Act.put, List.take_succ_cons, List.take_zero, List.drop_succ_cons, List.drop_zero, List.setIfInBounds_toArray, List.set_cons_zero, List.set_cons_succ, k38, k39, k48]
        clear hkinds k38 k39 k48
        have s1 := hI.cell HC0.out id
        have HOWN9 := Lib.hid (HOWN.out.keep hI (fun _ _ => id))
        have s2 : w9.frozen? ⟨g, k * 2 + 1, none⟩ = false := own_free HOWN9.out _
        have HKI := Lib.hid hI
        clear hI
        go_wp2_with (fail)
        clear s1 s2
        have hset := HOWN9.out.setField prEnc_len HX.out (j := 1) (by omega) (v := .int .i64 (n + u)) (c := (o, n + u)) rfl
        have hk9 : Keep (w5.heap.size ≤ ·) w9 (w9.setCell ⟨g, k * 2 + 1, none⟩ (.int .i64 (n + u))) := (Keep.refl _ _).setCell (p := ⟨g, k * 2 + 1, none⟩) (.inl hg) _
        go_roundw
        case rel =>
          refine ⟨k + 1, m.set k (o, n + u), by go_num, by omega, by rw [List.length_set]; exact hml, Worse.set HWR.out HX.out (by simp only; omega), ?_, ?_, ?_, (HKR.out.trans (HKI.out.weaken (fun _ _ q => q.elim))).trans hk9⟩
          · intro x hx
            rcases List.mem_or_eq_of_mem_set hx with hx | rfl
            · exact HMID.out x hx
            · unfold midPr; simp only; omega
          · rw [List.drop_set_of_lt (by omega), ← List.drop_drop, ← List.drop_drop, HDR.out]
          · rw [List.length_set]; exact hset
        case measure => simp [intOf]; omega
      · have hkwi : ¬ (k : Int) < ws.length := by omega
        have hlm : m.length = l.length := hml
        obtain ⟨v1, v2, i1, i2, g1, g2, hi8, hj8, hcs⟩ := worse_law HVAL.out (fun x hx => mid_ok (small_mid (HSM.out x hx))) (fun x hx => mid_ok (HMID.out x hx)) HWR.out hl60
        have G1 := Lib.hid g1
        have G2 := Lib.hid g2
        clear g1 g2
        have hkr : Keep (w5.heap.size ≤ ·) w5 wr := HKR.out
        have HCA : Hid (∀ (w' : World), Keep (w5.heap.size ≤ ·) w5 w' → Calls Tryd.prog 21 #[.agg #[.slice a p.st.length c, .int .i64 p.num, .int .i64 p.den, .int .i64 p.margin], .slice q l.length cq] w' (Gives None (.tuple #[.int .i64 v1, .int .i64 i1, .int .i64 0]) w')) := Lib.hid (fun w' hk => by
          have h1 := verdict_calls a q c cq p l w' (HPOL.out _ hk) (HSL.out _ hk) hlc (by omega)
          rw [G1.out] at h1
          exact h1)
        have HCB : Hid (∀ (w' : World), Keep None wr w' → Calls Tryd.prog 21 #[.agg #[.slice a p.st.length c, .int .i64 p.num, .int .i64 p.den, .int .i64 p.margin], .slice p2 l.length c2] w' (Gives None (.tuple #[.int .i64 v2, .int .i64 i2, .int .i64 0]) w')) := Lib.hid (fun w' hk => by
          have hsl2 := (HOWN.out.slice prEnc_len)
          obtain ⟨p3, c3, he3, h3, -, h5, -⟩ := hsl2
          rw [hml] at he3 h3
          cases he3
          have h1 := verdict_calls a p2 c c2 p m w' (HPOL.out _ (HKR.out.trans (hk.weaken (fun _ _ q => q.elim)))) (h5.keep hk (fun _ _ => id)) (by omega) (by omega)
          rw [G2.out, hml] at h1
          exact h1)
        go_upto_region 13 with (first | ((with_reducible (show wpList _ _ _ (⟨some 52, .load 30 _, _, _, _, none⟩ :: _) _ _)); refine wpList_loadEl (enc := listEnc) (size := 4) rfl 30 _ rfl _ _ rfl [.slice a p.st.length c, .int .i64 p.num, .int .i64 p.den, .int .i64 p.margin] _ (range_of_obj (HBOX.out _ (by assumption))) rfl Tryd.underlying30 rfl Tryd.sizePolicy (.agg #[.slice a p.st.length c, .int .i64 p.num, .int .i64 p.den, .int .i64 p.margin]) rfl ?_) | ((with_reducible (show wpList _ _ _ (⟨some 59, .load 30 _, _, _, _, none⟩ :: _) _ _)); refine wpList_loadEl (enc := listEnc) (size := 4) rfl 30 _ rfl _ _ rfl [.slice a p.st.length c, .int .i64 p.num, .int .i64 p.den, .int .i64 p.margin] _ (range_of_obj (HBOX.out _ (by assumption))) rfl Tryd.underlying30 rfl Tryd.sizePolicy (.agg #[.slice a p.st.length c, .int .i64 p.num, .int .i64 p.den, .int .i64 p.margin]) rfl ?_) | ((with_reducible (show Calls _ _ #[_, .slice q _ cq] _ _)); refine (HCA.out _ hkr).mono ?_; rintro e w10 ⟨rfl, hk10⟩; have hkr2 : Keep (w5.heap.size ≤ ·) w5 w10 := hkr.trans (hk10.weaken (fun _ _ q => q.elim))) | ((with_reducible (show Calls _ _ #[_, .slice p2 _ c2] _ _)); refine (HCB.out _ hk10).mono ?_; rintro e w11 ⟨rfl, hk11⟩))
        have HEND : Hid (Keep None w w11) := Lib.hid (((HKW.out.andThen (hkr2.trans (hk11.weaken (T := (w5.heap.size ≤ ·)) (fun _ _ q => q.elim))) (fun g h1 h2 => by have h3 : w5.heap.size ≤ g := h2; have := HKW.out.size; omega))).afresh hbw)
        clear hkr hkr2 hk10 hk11
        rcases hcs with ⟨rfl, rfl, rfl⟩ | ⟨rfl, rfl⟩ | ⟨rfl, rfl, hij⟩ | ⟨rfl, rfl⟩ | ⟨rfl, rfl⟩
        all_goals
          go_wp2_with (fail)
          go_ret
          exact ⟨rfl, HEND.out⟩
    · have hkli : ¬ (k : Int) < l.length := by omega
      all_goals
        have hlm : m.length = l.length := hml
        obtain ⟨v1, v2, i1, i2, g1, g2, hi8, hj8, hcs⟩ := worse_law HVAL.out (fun x hx => mid_ok (small_mid (HSM.out x hx))) (fun x hx => mid_ok (HMID.out x hx)) HWR.out hl60
        have G1 := Lib.hid g1
        have G2 := Lib.hid g2
        clear g1 g2
        have hkr : Keep (w5.heap.size ≤ ·) w5 wr := HKR.out
        have HCA : Hid (∀ (w' : World), Keep (w5.heap.size ≤ ·) w5 w' → Calls Tryd.prog 21 #[.agg #[.slice a p.st.length c, .int .i64 p.num, .int .i64 p.den, .int .i64 p.margin], .slice q l.length cq] w' (Gives None (.tuple #[.int .i64 v1, .int .i64 i1, .int .i64 0]) w')) := Lib.hid (fun w' hk => by
          have h1 := verdict_calls a q c cq p l w' (HPOL.out _ hk) (HSL.out _ hk) hlc (by omega)
          rw [G1.out] at h1
          exact h1)
        have HCB : Hid (∀ (w' : World), Keep None wr w' → Calls Tryd.prog 21 #[.agg #[.slice a p.st.length c, .int .i64 p.num, .int .i64 p.den, .int .i64 p.margin], .slice p2 l.length c2] w' (Gives None (.tuple #[.int .i64 v2, .int .i64 i2, .int .i64 0]) w')) := Lib.hid (fun w' hk => by
          have hsl2 := (HOWN.out.slice prEnc_len)
          obtain ⟨p3, c3, he3, h3, -, h5, -⟩ := hsl2
          rw [hml] at he3 h3
          cases he3
          have h1 := verdict_calls a p2 c c2 p m w' (HPOL.out _ (HKR.out.trans (hk.weaken (fun _ _ q => q.elim)))) (h5.keep hk (fun _ _ => id)) (by omega) (by omega)
          rw [G2.out, hml] at h1
          exact h1)
        go_upto_region 13 with (first | ((with_reducible (show wpList _ _ _ (⟨some 52, .load 30 _, _, _, _, none⟩ :: _) _ _)); refine wpList_loadEl (enc := listEnc) (size := 4) rfl 30 _ rfl _ _ rfl [.slice a p.st.length c, .int .i64 p.num, .int .i64 p.den, .int .i64 p.margin] _ (range_of_obj (HBOX.out _ (by assumption))) rfl Tryd.underlying30 rfl Tryd.sizePolicy (.agg #[.slice a p.st.length c, .int .i64 p.num, .int .i64 p.den, .int .i64 p.margin]) rfl ?_) | ((with_reducible (show wpList _ _ _ (⟨some 59, .load 30 _, _, _, _, none⟩ :: _) _ _)); refine wpList_loadEl (enc := listEnc) (size := 4) rfl 30 _ rfl _ _ rfl [.slice a p.st.length c, .int .i64 p.num, .int .i64 p.den, .int .i64 p.margin] _ (range_of_obj (HBOX.out _ (by assumption))) rfl Tryd.underlying30 rfl Tryd.sizePolicy (.agg #[.slice a p.st.length c, .int .i64 p.num, .int .i64 p.den, .int .i64 p.margin]) rfl ?_) | ((with_reducible (show Calls _ _ #[_, .slice q _ cq] _ _)); refine (HCA.out _ hkr).mono ?_; rintro e w10 ⟨rfl, hk10⟩; have hkr2 : Keep (w5.heap.size ≤ ·) w5 w10 := hkr.trans (hk10.weaken (fun _ _ q => q.elim))) | ((with_reducible (show Calls _ _ #[_, .slice p2 _ c2] _ _)); refine (HCB.out _ hk10).mono ?_; rintro e w11 ⟨rfl, hk11⟩))
        have HEND : Hid (Keep None w w11) := Lib.hid (((HKW.out.andThen (hkr2.trans (hk11.weaken (T := (w5.heap.size ≤ ·)) (fun _ _ q => q.elim))) (fun g h1 h2 => by have h3 : w5.heap.size ≤ g := h2; have := HKW.out.size; omega))).afresh hbw)
        clear hkr hkr2 hk10 hk11
        rcases hcs with ⟨rfl, rfl, rfl⟩ | ⟨rfl, rfl⟩ | ⟨rfl, rfl, hij⟩ | ⟨rfl, rfl⟩ | ⟨rfl, rfl⟩
        all_goals
          go_wp2_with (fail)
          go_ret
          exact ⟨rfl, HEND.out⟩

end Go.Proofs.YtgelfefoiplekaaDoor
