/-
  Chapter 44: PolicyLooks, walked.
-/
import Derived.Test.YtgelfefoiplekaaDoorPolRefE
import Derived.Test.YtgelfefoiplekaaDoorPolOdd
namespace Go.Proofs.YtgelfefoiplekaaDoor
open Go.RowKit PN

theorem lookF_two (p : Pol) (l : List Pr) (i : Int) : ∃ (b : Bool) (e : Int), lookF p l i = .tuple #[.bool b, .int .i64 e] := by
  unfold lookF
  split
  · exact ⟨_, _, rfl⟩
  · split
    · exact ⟨_, _, rfl⟩
    · split
      · exact ⟨_, _, rfl⟩
      · exact worseV_two _ _ _ _

theorem SliceV.newerOr {α : Type} {enc : α → List Value} {size b n : Nat} {w w' : World} {p : Option Addr} {xs : List α} (h : SliceV enc size w p xs) (hn : w.heap.size ≤ n) (ho : OffS (· = b) p) (k : Keep (fun i => i = b ∨ n ≤ i) w w') : SliceV enc size w' p xs := by
  rcases h with h | ⟨b', off, rfl, h⟩
  · exact .inl h
  · refine .inr ⟨b', off, rfl, fun i x hx j u hu => k.cell (h i x hx j u hu) ?_⟩
    have h1 := World.block_lt_of_cell? w _ (h i x hx j u hu)
    have h2 := ho _ rfl
    simp only at h1 h2 ⊢
    omega

/-- A policy and a list of pairs, as elements. -/
def polEnc (x : Option Addr × Nat × Pol) : List Value := [.slice x.1 x.2.2.st.length x.2.1, .int .i64 x.2.2.num, .int .i64 x.2.2.den, .int .i64 x.2.2.margin]
def prsEnc (y : Option Addr × Nat × List Pr) : List Value := [.slice y.1 y.2.2.length y.2.1]
theorem polEnc_len (x : Option Addr × Nat × Pol) : (polEnc x).length = 4 := rfl
theorem prsEnc_len (x : Option Addr × Nat × List Pr) : (prsEnc x).length = 1 := rfl

def OddVal (b : Nat) (w : World) (v : Value) : Prop := ∃ a c p, v = polVal a c p ∧ PolAt w a p ∧ From (b + 1) a
theorem oddVal_keep (b : Nat) : ∀ w w' v, Keep (· = b) w w' → OddVal b w v → OddVal b w' v :=
  fun _ _ _ h ⟨a, c, p, h1, h2, h3⟩ => ⟨a, c, p, h1, h2.keep h (fun x hx e => by have := h3 x hx; have h4 : x.block = b := e; omega), h3⟩
def Polies (b : Nat) (x y : Option Addr × Nat × Pol) (w : World) (v : Value) : Prop :=
  ∃ a c p g, v = .slice (some ⟨g, 0, none⟩) 3 3 ∧ b < g ∧ w.heap[g]? = some (.cells ([x, y, (a, c, p)].flatMap polEnc).toArray 30 (0, 0)) ∧ PolAt w a p ∧ From (b + 1) a
theorem polies_keep (b : Nat) (x y : Option Addr × Nat × Pol) : ∀ w w' v, Keep (· = b) w w' → Polies b x y w v → Polies b x y w' v :=
  fun _ _ _ h ⟨a, c, p, g, h1, h2, h3, h4, h5⟩ => ⟨a, c, p, g, h1, h2, h.obj h3 (by omega), h4.keep h (fun x hx e => by have := h5 x hx; have h4 : x.block = b := e; omega), h5⟩

/-- A block of elements, known whole, reads as its list. -/
theorem slAt_of {α : Type} {enc : α → List Value} {size : Nat} (hsz : ∀ x, (enc x).length = size) {w : World} {g : Nat} {e : TypeId} {xs : List α} (h : w.heap[g]? = some (.cells (xs.flatMap enc).toArray e (0, 0))) : SlAt enc size w g 0 xs := fun i x hx j u hu => by
  have h1 := flat_get hsz xs i x hx j u hu
  have := cell_of_row w g (0 + i * size + j) _ _ _ h
  rw [this]
  simpa using h1

def LkCut (b bl n base : Nat) (p2 : Option Addr) (w0 : World) (w : World) : Prop :=
  ∃ (bad : List Pr) (r : List Int), bad.length = n ∧ SliceV prEnc 2 w p2 bad ∧ CodesAt w b bl r ∧ Keep (fun i => i = b ∨ base ≤ i) w0 w
def LkInv (b bl n : Nat) (w0 : World) (iv : Value) (w : World) : Prop :=
  ∃ (k : Nat) (r : List Int), iv = .int .i64 k ∧ k ≤ n ∧ CodesAt w b bl r ∧ Keep (· = b) w0 w

def LzInv (w0 : World) (iv : Value) (w : World) : Prop :=
  ∃ k : Nat, iv = .int .i64 k ∧ k ≤ 2 ∧ Keep None w0 w

section
variable {P : Program} {ops : Array Oper} {Q : Exit → Act → World → Prop} {S : Nat → Prop} {ks : List (VK S)} {Inv : World → Prop} {a0 : Act} {i : Nat} {o : Oper}
/-- An operation of one value that is known by a fact, whose outcome is known. -/
theorem st_ev1S (j t : Nat) {f : World → Value → Prop} {hf : ∀ w w' v, Keep S w w' → f w v → f w' v} {v : Value} (he : o.after.toList.any (fun e => e.on == j && Region.binds .any e) = true) (hj : (ops[j]?.bind (·.dst)) = some t) (hkj : kindOf ks j = .sat f hf)
    (hx : ∀ (a : Act) (w : World), f w ((a.tmps[t]?).getD undef) → Inv w → (execOp a.eval o).run P w = .ok (.value v) w) (hk : kindOf ks i = .is v) : KStep P ops Q S ks Inv a0 i o := by
  refine st_evS (dep_s j he hj hkj) fun a w h1 hI => ⟨v, hx a w h1 hI, ?_⟩
  rw [hk]; rfl
end

set_option maxRecDepth 100000 in
set_option maxHeartbeats 16000000 in
theorem lawLooks_calls (pc a0 ql : Option Addr) (bs : List Int) (cap c0 cl : Nat) (p0 : Pol) (l : List Pr) (sg : Int) (w : World) (h : SliceV byteEnc 1 w pc bs) (hv : ∀ x ∈ bs, (0 : Int) ≤ x ∧ x ≤ 255) (hcap : bs.length ≤ cap)
    (hp : PolAt w a0 p0) (hl : SliceV prEnc 2 w ql l) (hcl : l.length ≤ cl) (hsg : i64 sg) (hE : Env w) (h6 : 6 ≤ w.heap.size) :
    Calls Tryd.prog 8 #[.slice pc bs.length cap, polVal a0 c0 p0, .slice ql l.length cl, .int .i64 sg] w (Gives None (.bool true) w) := by
  have H0 := Lib.hid h
  have HE := Lib.hid hE
  have HP0 := Lib.hid hp
  have HL0 := Lib.hid hl
  have HSGN := Lib.hid hsg
  clear h hE hp hl hsg
  unfold polVal
  have HBX : Hid (∃ W : World, Keep None w W ∧ W = w.alloc (.cells #[.slice a0 p0.st.length c0, .int .i64 p0.num, .int .i64 p0.den, .int .i64 p0.margin] 30) ∧ W.heap[w.heap.size]? = some (.cells #[.slice a0 p0.st.length c0, .int .i64 p0.num, .int .i64 p0.den, .int .i64 p0.margin] 30 (0, 0)) ∧ W.heap.size = w.heap.size + 1) :=
    Lib.hid ⟨_, (Keep.refl None w).alloc _, rfl, heap_alloc_new _ _, by simp⟩
  obtain ⟨W, hKW, hWe, ho1, hsz⟩ := HBX.out
  have HKW := Lib.hid hKW
  have HWE := Lib.hid hWe.symm
  have HT := Lib.hid ho1
  clear HBX hKW hWe ho1
  by_cases hA : (20 : Int) < p0.st.length
  · go_enter Tryd.func8, Tryd.ntmps8
    go_wp2_with (go_at_call 9; (try rw [HWE.out]); refine (awake_calls _ (HE.out.still HKW.out) (by omega)).mono ?_; rintro e w1 ⟨rfl, hk1⟩; have q0 : w1.cell? ⟨w.heap.size, 0, none⟩ = some (.slice a0 p0.st.length c0) := cell_of_row _ _ 0 _ _ _ (hk1.obj HT.out id); have HK1 := Lib.hid hk1; clear hk1)
    go_ret
    exact ⟨rfl, HKW.out.trans HK1.out⟩
  · by_cases hB : (100 : Int) < l.length
    · go_enter Tryd.func8, Tryd.ntmps8
      go_wp2_with (go_at_call 9; (try rw [HWE.out]); refine (awake_calls _ (HE.out.still HKW.out) (by omega)).mono ?_; rintro e w1 ⟨rfl, hk1⟩; have q0 : w1.cell? ⟨w.heap.size, 0, none⟩ = some (.slice a0 p0.st.length c0) := cell_of_row _ _ 0 _ _ _ (hk1.obj HT.out id); have HK1 := Lib.hid hk1; clear hk1)
      go_ret
      exact ⟨rfl, HKW.out.trans HK1.out⟩
    · go_enter Tryd.func8, Tryd.ntmps8
      go_upto_region 3 with (go_at_call 9; (try rw [HWE.out]); refine (awake_calls _ (HE.out.still HKW.out) (by omega)).mono ?_; rintro e w1 ⟨rfl, hk1⟩; have q0 : w1.cell? ⟨w.heap.size, 0, none⟩ = some (.slice a0 p0.st.length c0) := cell_of_row _ _ 0 _ _ _ (hk1.obj HT.out id); have HK1 := Lib.hid hk1; clear hk1)
      clear q0
      go_wp2_with (fail)
      refine (new_calls pc bs cap 300 _ (H0.out.keep (HKW.out.trans HK1.out) (fun _ _ => id)) hv (by omega) hcap).mono ?_
      rintro e w2 ⟨b, bl', rfl, hbb, hc, hk2, -⟩
      have HC2 := Lib.hid hc
      have HK2 := Lib.hid (HK1.out.trans hk2)
      have hbw : w.heap.size + 1 ≤ b := by have := HK1.out.size; omega
      clear hc hk2 hbb
      go_wp2_with (fail)
      refine (draw_calls b bl' _ _ HC2.out).mono ?_
      rintro e w3 ⟨a, c, p, r, rfl, hpa, hval, hfr, hcc1, hcc2, hc3, hk3⟩
      have hb2 := HC2.out.lt
      have HPA := Lib.hid hpa
      have hg := valid_good hval
      have hpn1 := hg.n1
      have hpn8 := hg.n8
      have hoff : OffS (· = b) a := fun x hx hxb => by have := hfr x hx; have h3 : x.block = b := hxb; omega
      have HOFF := Lib.hid hoff
      have HK3 : Hid (Keep (· = b) W w3) := Lib.hid ((HK2.out.weaken (fun _ _ q => q.elim)).trans hk3)
      have HC3 := Lib.hid hc3
      clear hpa hval hg hfr hoff hk3 hc3 hcc1 hcc2
      unfold polVal
      go_wp2_with (fail)
      generalize hw4 : World.alloc _ _ = w4
      have hk4 : Keep None w3 w4 := by rw [← hw4]; exact (Keep.refl _ _).alloc _
      have ho4 : w4.heap[w3.heap.size]? = some (.cells #[.slice a p.st.length c, .int .i64 p.num, .int .i64 p.den, .int .i64 p.margin] 30 (0, 0)) := by rw [← hw4]; exact heap_alloc_new _ _
      clear hw4
      have hb3 := HC3.out.lt
      have hw34 := heap_lt ho4
      have HC4 := Lib.hid (HC3.out.same hk4)
      have HK4 : Hid (Keep (· = b) W w4) := Lib.hid (HK3.out.trans (hk4.weaken (fun _ _ q => q.elim)))
      have HP4 := Lib.hid (HPA.out.still hk4)
      have HO4 := Lib.hid ho4
      clear hk4 ho4 HC3 HK3 HPA HC2 HK2 H0
      refine (results_calls b bl' 60 _ _ HC4.out (by omega)).mono ?_
      rintro e w5 ⟨qm, cm, m, r5, rfl, hsl, hfrq, hlc, hcm, hl60, -, hc5, hk5⟩
      have hw45 := hk5.size
      have HSM := Lib.hid hsl
      have HQOFF : Hid (OffS (· = b) qm) := Lib.hid (fun x hx hxb => by have := hfrq x hx; have h3 : x.block = b := hxb; omega)
      have HKW5 : Hid (Keep (· = b) W w5) := Lib.hid (HK4.out.trans hk5)
      have HO5 := Lib.hid (hk5.obj HO4.out (by omega))
      have HP5 := Lib.hid (HP4.out.keep hk5 HOFF.out)
      have HC5 := Lib.hid hc5
      have hb5 := hc5.lt
      clear hsl hfrq hc5 hk5 HO4 HP4 HC4 HK4 hcm
      obtain ⟨i5, hi5, hv0, hv1, hv2⟩ := info_parts Tryd.infoPair
      go_upto_if 61 with (at_builtin; go_loud (refine wpList_copyAll rfl _ _ 47 rfl 53 i5 _ 16 Tryd.underlying47 hi5 hv0 hv1 hv2 rfl (by decide) prEnc_len rfl qm m cm rfl HSM.out (by intro x u hu; simp [prEnc] at hu; rcases hu with rfl | rfl <;> rfl) (by omega) (by omega) ?_; intro v2 w6 hown6 hk6; obtain ⟨p2, c2, rfl, hcc1, hcc2, -, hfr2⟩ := hown6.slice prEnc_len; have HOWN6 := Lib.hid hown6; have HK6 := Lib.hid hk6; clear hown6 hk6))
      have HC6 := Lib.hid (HC5.out.same HK6.out)
      have hz6 := HK6.out.size
      go_cut [] (LkCut b bl' m.length w5.heap.size p2 w5)
      case first =>
        by_cases hm0 : 0 < m.length
        · have hm0i : (0 : Int) < m.length := by omega
          obtain ⟨g, rfl, hgg⟩ := HOWN6.out.row prEnc_len hm0
          have hgw := (World.ownsRow.lt HOWN6.out g rfl).2
          go_wp2_with (fail)
          refine (next_in b bl' _ _ _ HC6.out (by omega) (by omega)).mono ?_
          rintro e w7 ⟨rfl, hc7, hk7, e0, e1⟩
          generalize next m.length r5 = q7 at *
          obtain ⟨K, r7⟩ := q7
          simp only at hc7 e0 e1
          have HC7 := Lib.hid hc7
          have HK7 := Lib.hid hk7
          clear hc7 hk7
          obtain ⟨k, rfl⟩ : ∃ k : Nat, K = k := ⟨K.toNat, by omega⟩
          have hkm : k < m.length := by omega
          go_wp2_with (fail)
          refine (int_in b bl' _ _ HC7.out).mono ?_
          rintro e w8 ⟨X, r8, rfl, hc8, hk8, hX⟩
          have HC8 := Lib.hid hc8
          have HK8 := Lib.hid (HK7.out.trans hk8)
          clear hc8 hk8
          have HOWN8 := Lib.hid (HOWN6.out.keepOld HK8.out (fun i hi => by omega))
          obtain ⟨⟨o, n⟩, hx⟩ : ∃ s, m[k]? = some s := ⟨m[k], by simp [hkm]⟩
          have HX := Lib.hid hx
          have HC0 : Hid (w8.cell? ⟨g, k * 2, none⟩ = some (.int .i64 o)) := Lib.hid (by
            obtain ⟨p8, c8, he8, -, -, hs8, -⟩ := HOWN8.out.slice prEnc_len
            cases he8
            rcases hs8 with h | ⟨b', o', he, hsl⟩
            · rw [h] at hm0; simp at hm0
            · cases he
              have := hsl k _ hx 0 _ rfl
              simpa using this)
          have s1 := HC0.out
          have s2 : w8.frozen? ⟨g, k * 2, none⟩ = false := own_free HOWN8.out _
          have hkn : ¬ (k : Int) < 0 := by omega
          have hki : (k : Int) < m.length := by omega
          clear hx
          go_wp2_with (fail)
          clear s1 s2
          have hset := HOWN8.out.setField prEnc_len HX.out (j := 0) (by omega) (v := .int .i64 X) (c := (X, n)) rfl
          have hk9 : Keep (· = g) w8 (w8.setCell ⟨g, k * 2 + 0, none⟩ (.int .i64 X)) := (Keep.refl (· = g) _).setCell (p := ⟨g, k * 2 + 0, none⟩) (.inl rfl) _
          have hb8 := HC8.out.lt
          go_meet
          case rel =>
            refine ⟨m.set k (X, n), r8, by rw [List.length_set], ?_, HC8.out.keep hk9 (by omega) (by omega), (HK6.out.weaken (fun _ _ q => q.elim)).trans ((HK8.out.weaken (fun g _ hg => .inl hg)).trans (hk9.weaken (fun i _ hi => .inr (by have h3 : i = g := hi; omega))))⟩
            obtain ⟨p8, c8, he8, -, -, hs8, -⟩ := hset.slice prEnc_len
            rw [List.length_set] at he8
            cases he8
            exact hs8
        · have hm0i : ¬ (0 : Int) < m.length := by omega
          go_wp2_with (fail)
          go_meet
          case rel => exact ⟨m, r5, rfl, by obtain ⟨p8, c8, he8, -, -, hs8, -⟩ := HOWN6.out.slice prEnc_len; cases he8; exact hs8, HC6.out, HK6.out.weaken (fun _ _ q => q.elim)⟩
      case rest =>
        obtain ⟨bad, r9, hbl, hbs, hcx, hkx⟩ := hcut
        have HBL := Lib.hid hbl
        have HCX := Lib.hid hcx
        have hbx := hcx.lt
        have hzx := hkx.size
        have hTx := hkx.obj (HKW5.out.obj HT.out (by omega)) (by have := HKW5.out.size; omega)
        have hOx := hkx.obj HO5.out (by omega)
        have HTX := Lib.hid hTx
        have HOX := Lib.hid hOx
        have HKWX : Hid (Keep (w.heap.size ≤ ·) w wc) := Lib.hid (((HKW.out.weaken (fun _ _ q => q.elim)).trans (HKW5.out.weaken (T := (w.heap.size ≤ ·)) (fun g _ hg => by have h3 : g = b := hg; show w.heap.size ≤ g; omega))).trans (hkx.weaken (fun g _ hg => by have := HKW5.out.size; show w.heap.size ≤ g; omega)))
        have HPA0 : Hid (∀ w', Keep (· = b) wc w' → PolAt w' a0 p0) := Lib.hid (fun w' hk => ⟨HP0.out.st.newer (HKWX.out.trans (hk.weaken (fun g _ hg => by have h3 : g = b := hg; show w.heap.size ≤ g; omega))), HP0.out.ln⟩)
        have HLS : Hid (∀ w', Keep (· = b) wc w' → SliceV prEnc 2 w' ql l) := Lib.hid (fun w' hk => HL0.out.newer (HKWX.out.trans (hk.weaken (fun g _ hg => by have h3 : g = b := hg; show w.heap.size ≤ g; omega))))
        have HPAX : Hid (∀ w', Keep (· = b) wc w' → PolAt w' a p) := Lib.hid (fun w' hk => ⟨(HP5.out.st.newerOr (Nat.le_refl _) HOFF.out hkx).keep hk HOFF.out, HP5.out.ln⟩)
        have HMS : Hid (∀ w', Keep (· = b) wc w' → SliceV prEnc 2 w' qm m) := Lib.hid (fun w' hk => (HSM.out.newerOr (Nat.le_refl _) HQOFF.out hkx).keep hk HQOFF.out)
        have HBS : Hid (∀ w', Keep (· = b) wc w' → SliceV prEnc 2 w' p2 bad) := Lib.hid (fun w' hk => hbs.keep hk (fun x hx e => by have := hfr2 x hx; have h3 : x.block = b := e; omega))
        clear hTx hOx hbs hcx hkx HT HO5 HP5 HSM HC5 HC6 HOWN6 HK6 HP0 HL0 hfr2 hbl
        go_wp2_with (fail)
        have hpc : p.st.length ≤ 8 := hpn8
        refine region_kindsG (· = b) [.is (.agg #[.slice a0 p0.st.length c0, .int .i64 p0.num, .int .i64 p0.den, .int .i64 p0.margin]), .is (.agg #[.slice a p.st.length c, .int .i64 p.num, .int .i64 p.den, .int .i64 p.margin]), .is (.pointer (some ⟨b, 0, none⟩)), .is (.agg #[.slice a p.st.length c, .int .i64 p.num, .int .i64 p.den, .int .i64 p.margin]), .sat (OddVal b) (oddVal_keep b), .sat (Polies b (a0, c0, p0) (a, c, p)) (polies_keep b _ _), .is (.int .i64 3), .is (.int .i64 0)]
          (fun w' => (∃ r, CodesAt w' b bl' r) ∧ Keep (· = b) wc w') 153 (by kernel_rfl) (by kernel_rfl) rfl (by kernel_rfl) ⟨⟨_, HCX.out.same (Keep.refl _ _).drew⟩, (Keep.refl _ _).drew⟩ ?_ ?_
        · refine ⟨?_, ?_, ?_, ?_, ?_, ?_, ?_, ?_, trivial⟩
          · exact st_free rfl (st_loadD 30 w.heap.size 0 [.slice a0 p0.st.length c0, .int .i64 p0.num, .int .i64 p0.den, .int .i64 p0.margin] rfl (dep_f (t := 5) rfl rfl) (fun w' hI => range_of_obj (hI.2.obj HTX.out (by omega))) _ Tryd.underlying30 rfl 4 Tryd.sizePolicy rfl rfl)
          · exact st_free rfl (st_loadD 30 w3.heap.size 0 [.slice a p.st.length c, .int .i64 p.num, .int .i64 p.den, .int .i64 p.margin] rfl (dep_f (t := 10) rfl rfl) (fun w' hI => range_of_obj (hI.2.obj HOX.out (by omega))) _ Tryd.underlying30 rfl 4 Tryd.sizePolicy rfl rfl)
          · exact st_free rfl (st_ev1 (dep_f (t := 9) rfl rfl) _ (by intro a w' h1 hI; go_simp) rfl)
          · exact st_free rfl (st_loadD 30 w3.heap.size 0 [.slice a p.st.length c, .int .i64 p.num, .int .i64 p.den, .int .i64 p.margin] rfl (dep_f (t := 10) rfl rfl) (fun w' hI => range_of_obj (hI.2.obj HOX.out (by omega))) _ Tryd.underlying30 rfl 4 Tryd.sizePolicy rfl rfl)
          · exact st_free rfl (st_callD2 (dep_e 2 rfl rfl rfl) (dep_e 3 rfl rfl rfl) 17 #[.pointer (some ⟨b, 0, none⟩), .agg #[.slice a p.st.length c, .int .i64 p.num, .int .i64 p.den, .int .i64 p.margin]] (by intro a w' h1 h2; go_simp) (by rintro w' ⟨⟨rr', hcc⟩, hI⟩; refine (odd_calls b bl' rr' a c p w' hcc (HPAX.out _ hI) (by omega) (by omega)).mono ?_; rintro e w'' ⟨a', c', p', r', rfl, hpa', hfr', -, -, -, hc', hk'⟩; exact ⟨_, rfl, ⟨a', c', p', rfl, hpa', (fun x hx => by have := hfr' x hx; have := hcc.lt; omega)⟩, ⟨⟨_, hc'⟩, hI.trans hk'⟩, hk'⟩))
          · refine st_free rfl ?_
            intro act w' K' hI hV hF hK
            have e0 : act.eval (.tmp 71) = .agg #[.slice a0 p0.st.length c0, .int .i64 p0.num, .int .i64 p0.den, .int .i64 p0.margin] := tells hV 0 71 rfl rfl
            have e1 : act.eval (.tmp 72) = .agg #[.slice a p.st.length c, .int .i64 p.num, .int .i64 p.den, .int .i64 p.margin] := tells hV 1 72 rfl rfl
            obtain ⟨a', c', p', e4, hpa', hfr'⟩ : OddVal b w' (act.eval (.tmp 75)) := tells hV 4 75 rfl rfl
            unfold polVal at e4
            unfold Oper.wp execOp
            have hb : ∀ v : Value, (Instr.buildSlice 59 3 #[(0, .agg #[.slice a0 p0.st.length c0, .int .i64 p0.num, .int .i64 p0.den, .int .i64 p0.margin]), (1, .agg #[.slice a p.st.length c, .int .i64 p.num, .int .i64 p.den, .int .i64 p.margin]), (2, .agg #[.slice a' p'.st.length c', .int .i64 p'.num, .int .i64 p'.den, .int .i64 p'.margin])]).run Tryd.prog w' = .ok (.slice (some ⟨w'.heap.size, 0, none⟩) 3 3) (w'.alloc (.cells #[.slice a0 p0.st.length c0, .int .i64 p0.num, .int .i64 p0.den, .int .i64 p0.margin, .slice a p.st.length c, .int .i64 p.num, .int .i64 p.den, .int .i64 p.margin, .slice a' p'.st.length c', .int .i64 p'.num, .int .i64 p'.den, .int .i64 p'.margin] 30)) := by intro _; go_simp
            simp only [List.map_toArray, List.map_cons, List.map_nil, e0, e1, e4, Sem.run_bind, hb undef, Result.andThen_ok, Sem.run_pure, Oper.upon_value]
            have hal : Keep None w' (w'.alloc (.cells #[.slice a0 p0.st.length c0, .int .i64 p0.num, .int .i64 p0.den, .int .i64 p0.margin, .slice a p.st.length c, .int .i64 p.num, .int .i64 p.den, .int .i64 p.margin, .slice a' p'.st.length c', .int .i64 p'.num, .int .i64 p'.den, .int .i64 p'.margin] 30)) := (Keep.refl None w').alloc _
            obtain ⟨⟨r7, a1⟩, a2⟩ := hI
            exact hK _ _ ⟨⟨r7, a1.same hal⟩, a2.alloc _⟩ ((Keep.refl _ _).alloc _) ⟨a', c', p', w'.heap.size, rfl, a1.lt.1, heap_alloc_new _ _, hpa'.still hal, hfr'⟩
          · refine st_free rfl (st_ev1S 5 76 rfl rfl rfl ?_ rfl)
            rintro act w' ⟨a', c', p', g, e5, -, -, -, -⟩ hI
            go_simp
          · exact st_free rfl (st_ev0 _ (by intro a w' hI; go_simp) rfl)
        intro f' w9 hkinds hI
        obtain ⟨a', c', p', g, k76, hgb, hgo, hpa', hfr'⟩ : Polies b (a0, c0, p0) (a, c, p) w9 (f' 76) := hkinds 5 _ 76 rfl rfl
        have k77 : f' 77 = .int .i64 3 := hkinds 6 _ 77 rfl rfl
        have k78 : f' 78 = .int .i64 0 := hkinds 7 _ 78 rfl rfl
        simp only [putsOf, Act.put, List.setIfInBounds_toArray, List.set_cons_zero, List.set_cons_succ, k76, k77, k78]
        clear hkinds k76 k77 k78
        obtain ⟨⟨r9', hc9⟩, hk9⟩ := hI
        obtain ⟨ps, hps⟩ : ∃ ps : List (Option Addr × Nat × Pol), ps = [(a0, c0, p0), (a, c, p), (a', c', p')] := ⟨_, rfl⟩
        have hpsl : ps.length = 3 := by rw [hps]; rfl
        rw [← hps] at hgo
        have HGO : Hid (∀ w', Keep (· = b) w9 w' → SlAt polEnc 4 w' g 0 ps) := Lib.hid (fun w' hk => (slAt_of polEnc_len hgo).keep hk (by omega))
        have HPS : Hid (∀ x ∈ ps, ∀ w', Keep (· = b) w9 w' → PolAt w' x.1 x.2.2) := Lib.hid (fun x hx w' hk => by
          rw [hps] at hx
          simp only [List.mem_cons, List.not_mem_nil, or_false] at hx
          rcases hx with rfl | rfl | rfl
          · exact HPA0.out _ (hk9.trans hk)
          · exact HPAX.out _ (hk9.trans hk)
          · exact hpa'.keep hk (fun x hx e => by have := hfr' x hx; have h4 : x.block = b := e; omega))
        obtain ⟨ys, hys⟩ : ∃ ys : List (Option Addr × Nat × List Pr), ys = [(ql, cl, l), (qm, cm, m), (p2, c2, bad)] := ⟨_, rfl⟩
        have hysl : ys.length = 3 := by rw [hys]; rfl
        have HYE : Hid (ys.flatMap prsEnc = [.slice ql l.length cl, .slice qm m.length cm, .slice p2 m.length c2]) := Lib.hid (by rw [hys]; show [Value.slice ql l.length cl, Value.slice qm m.length cm, Value.slice p2 bad.length c2] = _; rw [HBL.out])
        have HYS : Hid (∀ y ∈ ys, (∀ w', Keep (· = b) w9 w' → SliceV prEnc 2 w' y.1 y.2.2) ∧ y.2.2.length ≤ y.2.1 ∧ y.2.2.length ≤ 1000000000000) := Lib.hid (fun y hy => by
          rw [hys] at hy
          simp only [List.mem_cons, List.not_mem_nil, or_false] at hy
          rcases hy with rfl | rfl | rfl
          · exact ⟨fun w' hk => HLS.out _ (hk9.trans hk), hcl, by simp only; omega⟩
          · exact ⟨fun w' hk => HMS.out _ (hk9.trans hk), hlc, by simp only; omega⟩
          · exact ⟨fun w' hk => HBS.out _ (hk9.trans hk), by simp only; rw [HBL.out]; exact hcc1, by simp only; rw [HBL.out]; omega⟩)
        have HC9 := Lib.hid hc9
        have HKW9 : Hid (Keep (w.heap.size ≤ ·) w w9) := Lib.hid (HKWX.out.trans (hk9.weaken (fun g _ hg => by have h3 : g = b := hg; show w.heap.size ≤ g; omega)))
        clear hgo hpa' hfr' hc9 hk9 hps hys HPA0 HPAX HLS HMS HBS HTX HOX HCX HKWX
        go_wp2_with (fail)
        go_loopw [78] (LkInv b bl' 3 w9) (fun i _ => 3 - (intOf i).toNat)
        case atStart => exact ⟨0, _, rfl, by omega, HC9.out, Keep.refl _ _⟩
        case round =>
          obtain ⟨k, rk, rfl, hk3, hck, hkk⟩ := hrel
          generalize wr = wA at *
          have HCK := Lib.hid hck
          have HKK := Lib.hid hkk
          have hbA := hck.lt
          clear hck hkk
          by_cases hk : k < 3
          · have hki : (k : Int) < 3 := by omega
            obtain ⟨⟨ax, cx, px⟩, hx⟩ : ∃ x, ps[k]? = some x := ⟨ps[k]'(by omega), by rw [List.getElem?_eq_getElem]⟩
            have hrg := (HGO.out _ HKK.out).range hx
            rw [Nat.zero_add] at hrg
            have HRG := Lib.hid hrg
            clear hrg
            have HPX := Lib.hid (HPS.out _ (List.mem_of_getElem? hx))
            have hkn : ¬ (k : Int) < 0 := by omega
            clear hx
            go_upto_region 12 with ((with_reducible (show wpList _ _ _ (⟨some 81, .load 30 _, _, _, _, none⟩ :: _) _ _)); refine wpList_loadEl (enc := polEnc) (size := 4) rfl 30 _ rfl _ _ rfl (ax, cx, px) _ HRG.out rfl Tryd.underlying30 rfl Tryd.sizePolicy (.agg #[.slice ax px.st.length cx, .int .i64 px.num, .int .i64 px.den, .int .i64 px.margin]) rfl ?_)
            generalize hw11 : World.alloc _ _ = w11
            have hk11 : Keep None wA w11 := by rw [← hw11]; exact (Keep.refl _ _).alloc _
            have ho11 : w11.heap[wA.heap.size]? = some (.cells #[.slice ax px.st.length cx, .int .i64 px.num, .int .i64 px.den, .int .i64 px.margin] 30 (0, 0)) := by rw [← hw11]; exact heap_alloc_new _ _
            clear hw11
            have hwA := heap_lt ho11
            have HBOX : Hid (∀ w', Keep (· = b) w11 w' → w'.heap[wA.heap.size]? = some (.cells #[.slice ax px.st.length cx, .int .i64 px.num, .int .i64 px.den, .int .i64 px.margin] 30 (0, 0))) := Lib.hid (fun w' hk => hk.obj ho11 (by omega))
            have HK11 := Lib.hid (HKK.out.trans (hk11.weaken (T := (· = b)) (fun _ _ q => q.elim)))
            have HPOL : Hid (∀ w', Keep (· = b) w11 w' → PolAt w' ax px) := Lib.hid (fun w' hk => HPX.out _ (HK11.out.trans hk))
            have HC11 := Lib.hid (HCK.out.same hk11)
            clear hk11 ho11 HRG HPX
            go_upto_block 2 with (fail)
            generalize hw12 : World.alloc _ _ = w12
            have hk12 : Keep None w11 w12 := by rw [← hw12]; exact (Keep.refl _ _).alloc _
            have ho12 : w12.heap[w11.heap.size]? = some (.cells (ys.flatMap prsEnc).toArray 47 (0, 0)) := by rw [HYE.out, ← hw12]; exact heap_alloc_new _ _
            clear hw12
            have hw11b := heap_lt ho12
            have HYA : Hid (∀ w', Keep (· = b) w12 w' → SlAt prsEnc 1 w' w11.heap.size 0 ys) := Lib.hid (fun w' hk => (slAt_of prsEnc_len ho12).keep hk (by have := HC11.out.lt; omega))
            have HK12 : Hid (Keep (· = b) w11 w12) := Lib.hid (hk12.weaken (fun _ _ q => q.elim))
            have HC12 := Lib.hid (HC11.out.same hk12)
            clear hk12 ho12
            go_wp2_with (fail)
            go_loopw [87] (LkInv b bl' 3 w12) (fun i _ => 3 - (intOf i).toNat)
            case atStart => exact ⟨0, _, rfl, by omega, HC12.out, Keep.refl _ _⟩
            case round =>
              obtain ⟨k2, r2, rfl, hk23, hck2, hkk2⟩ := hrel
              generalize wr = wB at *
              have HCK2 := Lib.hid hck2
              have HKM := Lib.hid hkk2
              have HKK2 := Lib.hid (HK12.out.trans hkk2)
              by_cases hk2 : k2 < 3
              · have hk2i : (k2 : Int) < 3 := by omega
                obtain ⟨⟨qy, cy, ly⟩, hy⟩ : ∃ y, ys[k2]? = some y := ⟨ys[k2]'(by omega), by rw [List.getElem?_eq_getElem]⟩
                have q1 : wB.cell? ⟨w11.heap.size, k2, none⟩ = some (.slice qy ly.length cy) := by have := HYA.out _ hkk2 k2 _ hy 0 _ rfl; simpa using this
                have hyy := HYS.out _ (List.mem_of_getElem? hy)
                have HYY := Lib.hid hyy.1
                have hy1 : ly.length ≤ cy := hyy.2.1
                have hy2 : ly.length ≤ 1000000000000 := hyy.2.2
                have hk2n : ¬ (k2 : Int) < 0 := by omega
                clear hy hyy hck2 hkk2
                go_wp2_with (fail)
                refine (next_in b bl' _ _ _ HCK2.out (by omega) (by omega)).mono ?_
                rintro e wC ⟨rfl, hc3, hk3', d0, d1⟩
                generalize next 6 r2 = q3 at *
                obtain ⟨V, r3⟩ := q3
                simp only at hc3 d0 d1
                have HC3 := Lib.hid hc3
                have HKB := Lib.hid hk3'
                have HKC := Lib.hid (HKK2.out.trans hk3')
                clear hc3 hk3' q1
                go_upto_block 4 with (fail)
                generalize hw13 : World.alloc _ _ = w13
                have hk13 : Keep None wC w13 := by rw [← hw13]; exact (Keep.refl _ _).alloc _
                have ho13 : w13.heap[wC.heap.size]? = some (.cells ([sg, V - 1].flatMap intEnc).toArray 3 (0, 0)) := by rw [← hw13]; exact heap_alloc_new _ _
                clear hw13
                have hw13b := heap_lt ho13
                have HZA : Hid (∀ w', Keep None w13 w' → SlAt intEnc 1 w' wC.heap.size 0 [sg, V - 1]) := Lib.hid (fun w' hk => (slAt_of intEnc_len ho13).keep hk id)
                have HK13 : Hid (Keep (· = b) w11 w13) := Lib.hid (HKC.out.trans (hk13.weaken (fun _ _ q => q.elim)))
                have HKN : Hid (Keep (· = b) wB w13) := Lib.hid (HKB.out.trans (hk13.weaken (fun _ _ q => q.elim)))
                have HC13 := Lib.hid (HC3.out.same hk13)
                clear hk13 ho13
                go_wp2_with (fail)
                go_loopw [97] (LzInv w13) (fun i _ => 2 - (intOf i).toNat)
                case atStart => exact ⟨0, rfl, by omega, Keep.refl _ _⟩
                case round =>
                  obtain ⟨k4, rfl, hk42, hkz⟩ := hrel
                  have HKZ := Lib.hid hkz
                  have hkb : Keep (· = b) w11 wr := HK13.out.trans (hkz.weaken (fun _ _ q => q.elim))
                  by_cases hk4 : k4 < 2
                  · have hk4i : (k4 : Int) < 2 := by omega
                    obtain ⟨z, hz, hz64⟩ : ∃ z, [sg, V - 1][k4]? = some z ∧ i64 z := by
                      rcases (by omega : k4 = 0 ∨ k4 = 1) with rfl | rfl
                      · exact ⟨sg, rfl, HSGN.out⟩
                      · exact ⟨V - 1, rfl, by unfold i64; omega⟩
                    have q1 : wr.cell? ⟨wC.heap.size, k4, none⟩ = some (.int .i64 z) := by have := (HZA.out _ hkz).int hz; simpa using this
                    have HZ64 := Lib.hid hz64
                    obtain ⟨bv, ev, hbe⟩ := lookF_two px ly z
                    have HBE := Lib.hid hbe
                    have hk4n : ¬ (k4 : Int) < 0 := by omega
                    clear hz hz64 hbe hkz
                    go_wp2_with (first
                      | ((with_reducible (show wpList _ _ _ (⟨some 102, .load 30 _, _, _, _, none⟩ :: _) _ _)); refine wpList_loadEl (enc := listEnc) (size := 4) rfl 30 _ rfl _ _ rfl [.slice ax px.st.length cx, .int .i64 px.num, .int .i64 px.den, .int .i64 px.margin] _ (range_of_obj (HBOX.out _ (by assumption))) rfl Tryd.underlying30 rfl Tryd.sizePolicy (.agg #[.slice ax px.st.length cx, .int .i64 px.num, .int .i64 px.den, .int .i64 px.margin]) rfl ?_)
                      | ((with_reducible (show wpList _ _ _ (⟨some 109, .load 30 _, _, _, _, none⟩ :: _) _ _)); refine wpList_loadEl (enc := listEnc) (size := 4) rfl 30 _ rfl _ _ rfl [.slice ax px.st.length cx, .int .i64 px.num, .int .i64 px.den, .int .i64 px.margin] _ (range_of_obj (HBOX.out _ (by assumption))) rfl Tryd.underlying30 rfl Tryd.sizePolicy (.agg #[.slice ax px.st.length cx, .int .i64 px.num, .int .i64 px.den, .int .i64 px.margin]) rfl ?_)
                      | (go_at_call 24; refine (lookF_calls ax qy cx cy px ly z _ (HPOL.out _ hkb) (HYY.out _ (HK11.out.trans hkb)) hy1 hy2 HZ64.out).mono ?_; rintro e wD ⟨rfl, hkD⟩; rw [HBE.out]; have hkb2 : Keep (· = b) w11 wD := hkb.trans (hkD.weaken (fun _ _ q => q.elim)))
                      | (go_at_call 25; refine (refLook_calls ax qy cx cy px ly z _ (HPOL.out _ hkb2) (HYY.out _ (HK11.out.trans hkb2)) hy1 hy2 HZ64.out).mono ?_; rintro e wE ⟨rfl, hkE⟩; rw [HBE.out]))
                    go_roundw
                    case rel => exact ⟨k4 + 1, by go_num, by omega, (HKZ.out.trans hkD).trans hkE⟩
                    case measure => simp [intOf]; omega
                  · have hk4i : ¬ (k4 : Int) < 2 := by omega
                    obtain ⟨v1, v2, v3, hvv⟩ : ∃ v1 v2 v3 : Int, verdictV px ly = .tuple #[.int .i64 v1, .int .i64 v2, .int .i64 v3] := ⟨_, _, _, rfl⟩
                    have HVV := Lib.hid hvv
                    clear hvv hkz
                    go_wp2_with (first
                      | ((with_reducible (show wpList _ _ _ (⟨some 125, .load 30 _, _, _, _, none⟩ :: _) _ _)); refine wpList_loadEl (enc := listEnc) (size := 4) rfl 30 _ rfl _ _ rfl [.slice ax px.st.length cx, .int .i64 px.num, .int .i64 px.den, .int .i64 px.margin] _ (range_of_obj (HBOX.out _ (by assumption))) rfl Tryd.underlying30 rfl Tryd.sizePolicy (.agg #[.slice ax px.st.length cx, .int .i64 px.num, .int .i64 px.den, .int .i64 px.margin]) rfl ?_)
                      | ((with_reducible (show wpList _ _ _ (⟨some 132, .load 30 _, _, _, _, none⟩ :: _) _ _)); refine wpList_loadEl (enc := listEnc) (size := 4) rfl 30 _ rfl _ _ rfl [.slice ax px.st.length cx, .int .i64 px.num, .int .i64 px.den, .int .i64 px.margin] _ (range_of_obj (HBOX.out _ (by assumption))) rfl Tryd.underlying30 rfl Tryd.sizePolicy (.agg #[.slice ax px.st.length cx, .int .i64 px.num, .int .i64 px.den, .int .i64 px.margin]) rfl ?_)
                      | (go_at_call 21; refine (verdict_calls ax qy cx cy px ly _ (HPOL.out _ hkb) (HYY.out _ (HK11.out.trans hkb)) hy1 hy2).mono ?_; rintro e wD ⟨rfl, hkD⟩; rw [HVV.out]; have hkb2 : Keep (· = b) w11 wD := hkb.trans (hkD.weaken (fun _ _ q => q.elim)))
                      | (go_at_call 26; refine (refVerdict_calls ax qy cx cy px ly _ (HPOL.out _ hkb2) (HYY.out _ (HK11.out.trans hkb2)) hy1 hy2).mono ?_; rintro e wE ⟨rfl, hkE⟩; rw [HVV.out]))
                    go_roundw
                    case rel =>
                      refine ⟨k2 + 1, r3, by go_num, by omega, (HC13.out.same HKZ.out).same (hkD.trans hkE), ?_⟩
                      exact HKM.out.trans (((HKN.out.trans (HKZ.out.weaken (fun _ _ q => q.elim))).trans (hkD.weaken (fun _ _ q => q.elim))).trans (hkE.weaken (fun _ _ q => q.elim)))
                    case measure => simp [intOf]; omega
              · have hk2i : ¬ (k2 : Int) < 3 := by omega
                go_wp2_with (fail)
                go_roundw
                case rel => exact ⟨k + 1, r2, by go_num, by omega, HCK2.out, HK11.out.trans HKK2.out⟩
                case measure => simp [intOf]; omega
          · have hki : ¬ (k : Int) < 3 := by omega
            go_wp2_with (fail)
            go_ret
            exact ⟨rfl, (Keep.refl None w).andThen (HKW9.out.trans (HKK.out.weaken (fun g _ hg => by have h3 : g = b := hg; show w.heap.size ≤ g; omega))) (fun g h1 h2 => by have h3 : w.heap.size ≤ g := h2; omega)⟩

end Go.Proofs.YtgelfefoiplekaaDoor
