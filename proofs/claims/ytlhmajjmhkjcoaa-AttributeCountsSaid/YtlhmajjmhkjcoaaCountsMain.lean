/-
  AttributeCounts: the whole law, walked.
-/
import Derived.Test.YtlhmajjmhkjcoaaCountsB
import Derived.Test.YtlhmajjmhkjcoaaAddsMain
namespace Go.Proofs.Ytlhmajjmhkjcoaa
open Go.RowKit

theorem fcs_lens {l : List Lk} {p : Int} {B : Nat} : ∀ (rows : List (List Int)) (k : Nat), (∀ row ∈ rows, row.length ≤ B) → ∀ f ∈ fcsFrom l p k rows, f.bl.length ≤ B
  | [], _, _, f, hf => by simp [fcsFrom] at hf
  | r :: rs, k, h, f, hf => by
    simp only [fcsFrom, List.mem_cons] at hf
    rcases hf with rfl | hf
    · simpa [fcOf] using h r (by simp)
    · exact fcs_lens rs (k + 1) (fun row hr => h row (by simp [hr])) f hf

theorem counts_lens {sh : List Int} {h : Hits} {p : Int} {B : Nat} (hr : ∀ row ∈ h.blocks, row.length ≤ B) : ∀ f ∈ (countsR sh h p).1, f.bl.length ≤ B := by
  intro f hf
  unfold countsR at hf
  by_cases h1 : p < 1 ∨ 1099511627776 < p
  · rw [if_pos h1] at hf; simp at hf
  · rw [if_neg h1] at hf
    by_cases h2 : fitsB sh h = false
    · rw [if_pos h2] at hf; simp at hf
    · rw [if_neg h2] at hf
      by_cases h3 : allB nonnegB h = false
      · rw [if_pos h3] at hf; simp at hf
      · rw [if_neg h3] at hf
        by_cases h4 : overL h.links p h.blocks.length ∨ overR h.blocks p
        · rw [if_pos h4] at hf; simp at hf
        · rw [if_neg h4] at hf
          exact fcs_lens _ _ hr f hf

set_option maxRecDepth 100000 in
set_option maxHeartbeats 4000000 in
theorem counts_long (v0 : Value) (pa : Option Addr) (na ca : Nat) (qa : Option Addr) (la da : Nat) (ua oa : Int) (P : Int) (w : World) (h0 : ∃ p n c, v0 = .slice p n c)
    (m0 : na ≤ maxLen) (m2 : la ≤ maxLen) (h : 30 < na ∨ 30 < la) :
    Calls Try.prog 5 #[v0, .agg #[.slice pa na ca, .slice qa la da, .int .i64 ua, .int .i64 oa], .int .i64 P] w (Gives None (.bool true) w) := by
  obtain ⟨p, n, c, rfl⟩ := h0
  unfold maxLen at m0 m2
  have b1 : Hid (∀ W' : World, Keep None (w.alloc (.cells #[.slice pa na ca, .slice qa la da, .int .i64 ua, .int .i64 oa] 40)) W' → W'.cell? ⟨w.heap.size, 0, none⟩ = some (.slice pa na ca) ∧ W'.cell? ⟨w.heap.size, 1, none⟩ = some (.slice qa la da)) := Lib.hid (fun W' hk => by
    have h1 := hk.obj (heap_alloc_new w (.cells #[.slice pa na ca, .slice qa la da, .int .i64 ua, .int .i64 oa] 40)) id
    simp [World.cell?, h1])
  by_cases g1 : 30 < na
  · have e1 : (30 : Int) < na := by omega
    (clear h; go_enter Try.func5, Try.ntmps5; go_wp2_with (go_at_call 6; refine (awake_calls _).mono ?_; rintro e w1 ⟨rfl, hk1⟩; obtain ⟨d1, d2⟩ := b1.out _ hk1; have HK1 := Lib.hid (((Keep.refl None _).alloc _).trans hk1); clear hk1); go_ret; exact ⟨rfl, HK1.out⟩)
  · have e1 : ¬ (30 : Int) < na := by omega
    have g2 : 30 < la := by omega
    have e2 : (30 : Int) < la := by omega
    (clear h; go_enter Try.func5, Try.ntmps5; go_wp2_with (go_at_call 6; refine (awake_calls _).mono ?_; rintro e w1 ⟨rfl, hk1⟩; obtain ⟨d1, d2⟩ := b1.out _ hk1; have HK1 := Lib.hid (((Keep.refl None _).alloc _).trans hk1); clear hk1); go_ret; exact ⟨rfl, HK1.out⟩)

def HMade (lo : Nat) (w : World) (v : Value) : Prop := ∃ p c q d h, v = hitsVal p c q d h ∧ HitsAt (fun x => lo ≤ x) w p q h
theorem hMade_keep (b lo : Nat) (hb : b < lo) : ∀ w w' v, Keep (· = b) w w' → HMade lo w v → HMade lo w' v := fun w w' v hk ⟨p, c, q, d, h, h1, h2⟩ => ⟨p, c, q, d, h, h1, h2.keep hk (fun x hx hxb => by omega)⟩

/-- The three hits of the law. -/
def ThreeMade (lo : Nat) (A : List Value) (w : World) (v : Value) : Prop := ∃ g px cx qx dx hx py cy qy dy hy, v = .slice (some ⟨g, 0, none⟩) 3 3 ∧ lo ≤ g ∧
  w.heap[g]? = some (.cells (A ++ hitsCells px cx qx dx hx ++ hitsCells py cy qy dy hy).toArray 40 (0, 0)) ∧ HitsAt (fun x => lo ≤ x) w px qx hx ∧ HitsAt (fun x => lo ≤ x) w py qy hy
theorem threeMade_keep (b lo : Nat) (A : List Value) (hb : b < lo) : ∀ w w' v, Keep (· = b) w w' → ThreeMade lo A w v → ThreeMade lo A w' v :=
  fun w w' v hk ⟨g, px, cx, qx, dx, hx, py, cy, qy, dy, hy, h1, h2, h3, h4, h5⟩ =>
    ⟨g, px, cx, qx, dx, hx, py, cy, qy, dy, hy, h1, h2, hk.obj h3 (by omega), h4.keep hk (fun x hx hxb => by omega), h5.keep hk (fun x hx hxb => by omega)⟩

def EachTo (n : Nat) (w0 : World) (i : Value) (w : World) : Prop := ∃ k : Nat, i = .int .i64 k ∧ k ≤ n ∧ Keep None w0 w

/-- The period that is drawn. -/
def PeriodCut (b bl : Nat) (w4 : World) (t : Value) (w : World) : Prop := ∃ m : Int, t = .int .i64 m ∧ i64 m ∧ (∃ r, CodesAt w b bl r) ∧ Keep (· = b) w4 w

set_option maxRecDepth 100000 in
set_option maxHeartbeats 8000000 in
theorem lawCounts_calls (pc : Option Addr) (bs : List Int) (cap : Nat) (pa : Option Addr) (ca : Nat) (qa : Option Addr) (da : Nat) (a : Hits) (P : Int) (w : World) (h : SliceV byteEnc 1 w pc bs) (hv : valid bs) (hcap : bs.length ≤ cap)
    (ha : HitsAt (fun _ => True) w pa qa a) (n0 : a.blocks.length ≤ 30) (n2 : a.links.length ≤ 30) (hP : i64 P) :
    Calls Try.prog 5 #[.slice pc bs.length cap, hitsVal pa ca qa da a, .int .i64 P] w (Gives None (.bool true) w) := by
  obtain ⟨ab, al, au, ao⟩ := a
  simp only at n0 n2
  simp only [hitsVal]
  have H0 := Lib.hid h
  have HA0 := Lib.hid ha
  have HPP := Lib.hid hP
  clear h ha hP
  have e1 : ¬ (30 : Int) < ab.length := by omega
  have e3 : ¬ (30 : Int) < al.length := by omega
  have HBX : Hid (∃ W : World, Keep None w W ∧ W = w.alloc (.cells #[.slice pa ab.length ca, .slice qa al.length da, .int .i64 au, .int .i64 ao] 40) ∧
      W.heap[w.heap.size]? = some (.cells #[.slice pa ab.length ca, .slice qa al.length da, .int .i64 au, .int .i64 ao] 40 (0, 0))) :=
    Lib.hid ⟨_, (Keep.refl None w).alloc _, rfl, heap_alloc_new _ _⟩
  obtain ⟨W, hKW, hWe, ho1⟩ := HBX.out
  have HK := Lib.hid hKW
  have O1 := Lib.hid ho1
  have HWE := Lib.hid hWe.symm
  have hwW := heap_lt ho1
  clear HBX hKW ho1 hWe
  have b1 : Hid (∀ W' : World, Keep None W W' → W'.cell? ⟨w.heap.size, 0, none⟩ = some (.slice pa ab.length ca) ∧ W'.cell? ⟨w.heap.size, 1, none⟩ = some (.slice qa al.length da)) := Lib.hid (fun W' hk => by
    have h1 := hk.obj O1.out id
    simp [World.cell?, h1])
  go_enter Try.func5, Try.ntmps5
  go_upto_region 3 with (go_at_call 6; rw [HWE.out]; refine (awake_calls _).mono ?_; rintro e w1 ⟨rfl, hk1⟩; obtain ⟨d1, d2⟩ := b1.out _ hk1; have HK1 := Lib.hid hk1; clear hk1)
  clear d1 d2 e1 e3
  go_wp2_with (fail)
  refine (new_calls pc bs cap 200 _ (H0.out.keep (HK.out.trans HK1.out) (fun _ _ => id)) hv (by omega) hcap).mono ?_
  rintro e w2 ⟨b, bl', rfl, hbb, hc, hk2, -⟩
  have HC2 := Lib.hid hc
  have HK2 := Lib.hid (HK1.out.trans hk2)
  have hbw : w1.heap.size ≤ b := hbb
  clear hc hk2 hbb
  go_wp2_with (fail)
  refine (places_calls b bl' _ _ HC2.out).mono ?_
  rintro e w3 ⟨v, n, ps, r, rfl, him, hc3, hk3, hn, hps, hfr⟩
  have hbl2 := HC2.out.lt
  have hoff : OffS (· = b) (imgAddr v) := fun x hx hxb => by have := hfr x hx; have h2 : x.block = b := hxb; omega
  have HIM := Lib.hid him
  have HOFF := Lib.hid hoff
  have HC3 := Lib.hid hc3
  have hW1 : W.heap.size ≤ w1.heap.size := HK1.out.size
  have HK3 : Hid (Keep (fun x => x = b) W w3) := Lib.hid ((HK2.out.weaken (fun _ _ q => q.elim)).trans hk3)
  obtain ⟨⟨p0, n0', c0, p1, c1, p2, n2', c2, p3, n3', c3, k4, k5, p6, n6, c6, p7, c7, rfl, -⟩, -, -, -⟩ := him
  clear hc3 hk3 hfr hoff
  go_wp2_with (fail)
  generalize hw4 : World.alloc _ _ = w4
  have hk4 : Keep None w3 w4 := by rw [← hw4]; exact (Keep.refl _ _).alloc _
  have hbi : w4.heap[w3.heap.size]? = some (.cells #[.slice p0 n0' c0, .slice p1 n c1, .slice p2 n2' c2, .slice p3 n3' c3, .int .i64 k4, .int .i64 k5, .slice p6 n6 c6, .slice p7 ps.length c7] 29 (0, 0)) := by rw [← hw4]; exact heap_alloc_new _ _
  have HBI4 := Lib.hid hbi
  have HC4 := Lib.hid (HC3.out.still hk4)
  have HIM4 := Lib.hid (HIM.out.keep hk4)
  have HK4 := Lib.hid (HK3.out.trans (hk4.weaken (T := (· = b)) (fun _ _ q => q.elim)))
  have hb3 := HC3.out.lt
  have hw34 : w3.heap.size < w4.heap.size := heap_lt hbi
  have hb4 : b < w4.heap.size := by omega
  clear hw4 hk4 hbi HC3 HIM HK3
  refine (next_in b bl' _ _ _ HC4.out (by omega) (by omega)).mono ?_
  rintro e w5 ⟨rfl, hc5, hk5, a0, a1⟩
  generalize next 20 r = q5 at *
  obtain ⟨m5, r5⟩ := q5
  simp only at hc5 a0 a1
  have HC5 := Lib.hid hc5
  have HK5 := Lib.hid hk5
  clear hc5 hk5 HC4
  go_wp2_with (fail)
  refine (next_in b bl' _ _ _ HC5.out (by omega) (by omega)).mono ?_
  rintro e w6 ⟨rfl, hc6, hk6, b0, b1'⟩
  generalize next 6 r5 = q6 at *
  obtain ⟨m6, r6⟩ := q6
  simp only at hc6 b0 b1'
  have HC6 := Lib.hid hc6
  have HK6 := Lib.hid (HK5.out.trans hk6)
  clear hc6 hk6 HC5
  go_upto_if 51 with (fail)
  go_cut [9] (PeriodCut b bl' w4)
  case first =>
    by_cases h0 : m6 = 0
    · have e0 : (m6 == 0) = true := by simp [h0]
      go_wp2_with (go_at_call 16; refine (int_in b bl' _ _ HC6.out).mono ?_; rintro e w7 ⟨m7, r7, rfl, hc7, hk7, hi7⟩; have HC7 := Lib.hid hc7; have HK7 := Lib.hid (HK6.out.trans hk7); have HI7 := Lib.hid hi7; clear hc7 hk7 hi7)
      go_meet
      case rel => exact ⟨m7, rfl, HI7.out, ⟨_, HC7.out⟩, HK7.out⟩
    · have e0 : (m6 == 0) = false := by simp [h0]
      go_wp2_with (fail)
      go_meet
      case rel => exact ⟨1 + m5, rfl, by unfold i64; omega, ⟨_, HC6.out⟩, HK6.out⟩
  case rest =>
    obtain ⟨N, rfl, hN, ⟨r7, hc7⟩, hk7⟩ := hcut
    obtain ⟨w7, rfl⟩ : ∃ w7 : World, w7 = wc := ⟨_, rfl⟩
    have HN := Lib.hid hN
    have HC7 := Lib.hid hc7
    have HBI := Lib.hid (hk7.obj HBI4.out (by omega))
    have HIM7 := Lib.hid (HIM4.out.keepOff hk7 HOFF.out)
    have hkw7 := HK4.out.andThen hk7 (fun x _ h => h)
    have HK7 := Lib.hid hkw7
    have O17 := Lib.hid (hkw7.obj O1.out (by omega))
    have hb7 : b < w7.heap.size := HC7.out.lt.1
    have hwb : w.heap.size ≠ b := by omega
    have h3b : w3.heap.size ≠ b := by omega
    clear hN hc7 hk7 hkw7 HC6 HK5 HK6 HIM4 HBI4
    go_wp2_with (fail)
    refine region_kindsG (· = b) [.is (.agg #[.slice pa ab.length ca, .slice qa al.length da, .int .i64 au, .int .i64 ao]), .is (.pointer (some ⟨b, 0, none⟩)), .is (.agg #[.slice p0 n0' c0, .slice p1 n c1, .slice p2 n2' c2, .slice p3 n3' c3, .int .i64 k4, .int .i64 k5, .slice p6 n6 c6, .slice p7 ps.length c7]), .sat (HMade w7.heap.size) (hMade_keep b _ hb7), .is (.pointer (some ⟨b, 0, none⟩)), .is (.agg #[.slice p0 n0' c0, .slice p1 n c1, .slice p2 n2' c2, .slice p3 n3' c3, .int .i64 k4, .int .i64 k5, .slice p6 n6 c6, .slice p7 ps.length c7]), .sat (HMade w7.heap.size) (hMade_keep b _ hb7), .sat (ThreeMade w7.heap.size [.slice pa ab.length ca, .slice qa al.length da, .int .i64 au, .int .i64 ao]) (threeMade_keep b _ _ hb7), .is (.int .i64 3), .is (.int .i64 0)]
      (fun w' => (∃ r, CodesAt w' b bl' r) ∧ Keep (· = b) w7 w') 100 (by kernel_rfl) (by kernel_rfl) rfl (by kernel_rfl) ⟨⟨_, HC7.out.still (Keep.refl _ _).drew⟩, (Keep.refl _ _).drew⟩ ?_ ?_
    · refine ⟨?_, ?_, ?_, ?_, ?_, ?_, ?_, ?_, ?_, ?_, trivial⟩
      · exact st_free rfl (st_loadD 40 w.heap.size 0 [.slice pa ab.length ca, .slice qa al.length da, .int .i64 au, .int .i64 ao] rfl (dep_f rfl rfl) (fun w' hI => range_of_obj (hI.2.obj O17.out hwb)) _ Try.underlying40 rfl 4 Try.sizeHits rfl rfl)
      · exact st_free rfl (st_ev1 (dep_f (t := 7) rfl rfl) _ (by intro a w' h1 hI; go_simp) rfl)
      · exact st_free rfl (st_loadD 29 w3.heap.size 0 [.slice p0 n0' c0, .slice p1 n c1, .slice p2 n2' c2, .slice p3 n3' c3, .int .i64 k4, .int .i64 k5, .slice p6 n6 c6, .slice p7 ps.length c7] rfl (dep_f rfl rfl) (fun w' hI => range_of_obj (hI.2.obj HBI.out (by omega))) _ Try.underlying29 rfl 8 Try.sizeImg rfl rfl)
      · exact st_free rfl (st_callD2 (dep_e 1 rfl rfl rfl) (dep_e (1 + 1) rfl rfl rfl) 11 #[.pointer (some ⟨b, 0, none⟩), .agg #[.slice p0 n0' c0, .slice p1 n c1, .slice p2 n2' c2, .slice p3 n3' c3, .int .i64 k4, .int .i64 k5, .slice p6 n6 c6, .slice p7 ps.length c7]] (by intro a w' h1 h2; go_simp) (by rintro w' ⟨⟨rr, hcc⟩, hkk⟩; refine (hits_calls b bl' rr _ n ps w' hcc (HIM7.out.keepOff hkk HOFF.out) hn HOFF.out).mono ?_; rintro e w'' ⟨hp, hc, hq, hd, hh, r7, rfl, a1, a2, -, a3, a4⟩; exact ⟨_, rfl, ⟨hp, hc, hq, hd, hh, rfl, a1.weaken (fun x hx => Nat.le_trans hkk.size hx.1)⟩, ⟨⟨r7, a3⟩, hkk.trans a4⟩, a4⟩))
      · exact st_free rfl (st_ev1 (dep_f (t := 7) rfl rfl) _ (by intro a w' h1 hI; go_simp) rfl)
      · exact st_free rfl (st_loadD 29 w3.heap.size 0 [.slice p0 n0' c0, .slice p1 n c1, .slice p2 n2' c2, .slice p3 n3' c3, .int .i64 k4, .int .i64 k5, .slice p6 n6 c6, .slice p7 ps.length c7] rfl (dep_f rfl rfl) (fun w' hI => range_of_obj (hI.2.obj HBI.out (by omega))) _ Try.underlying29 rfl 8 Try.sizeImg rfl rfl)
      · exact st_free rfl (st_callD2 (dep_e 4 rfl rfl rfl) (dep_e (4 + 1) rfl rfl rfl) 11 #[.pointer (some ⟨b, 0, none⟩), .agg #[.slice p0 n0' c0, .slice p1 n c1, .slice p2 n2' c2, .slice p3 n3' c3, .int .i64 k4, .int .i64 k5, .slice p6 n6 c6, .slice p7 ps.length c7]] (by intro a w' h1 h2; go_simp) (by rintro w' ⟨⟨rr, hcc⟩, hkk⟩; refine (hits_calls b bl' rr _ n ps w' hcc (HIM7.out.keepOff hkk HOFF.out) hn HOFF.out).mono ?_; rintro e w'' ⟨hp, hc, hq, hd, hh, r7, rfl, a1, a2, -, a3, a4⟩; exact ⟨_, rfl, ⟨hp, hc, hq, hd, hh, rfl, a1.weaken (fun x hx => Nat.le_trans hkk.size hx.1)⟩, ⟨⟨r7, a3⟩, hkk.trans a4⟩, a4⟩))
      · refine st_free rfl ?_
        intro a' w' K hI hV hF hK
        have h54 := (eval_tmp a' 54).symm.trans (show a'.eval (.tmp 54) = .agg #[.slice pa ab.length ca, .slice qa al.length da, .int .i64 au, .int .i64 ao] from tells hV 0 54 rfl rfl)
        obtain ⟨px, cx, qx, dx, hx, h57, hax⟩ := (show HMade w7.heap.size w' (a'.eval (.tmp 57)) from tells hV 3 57 rfl rfl)
        obtain ⟨py, cy, qy, dy, hy, h60, hay⟩ := (show HMade w7.heap.size w' (a'.eval (.tmp 60)) from tells hV 6 60 rfl rfl)
        have h57' := (eval_tmp a' 57).symm.trans h57
        have h60' := (eval_tmp a' 60).symm.trans h60
        simp only [hitsVal] at h57' h60'
        have HAX := Lib.hid hax
        have HAY := Lib.hid hay
        have HHK := Lib.hid hK
        have HII := Lib.hid hI
        clear h57 h60 hax hay hK hV hF hI
        unfold Oper.wp
        have hrun : ∀ o : Oper, o.op = .buildSlice 51 3 #[(0, .tmp 54), (1, .tmp 57), (2, .tmp 60)] → (execOp a'.eval o).run Try.prog w' = .ok (.value (.slice (some ⟨w'.heap.size, 0, none⟩) 3 3)) (w'.alloc (.cells (([.slice pa ab.length ca, .slice qa al.length da, .int .i64 au, .int .i64 ao] : List Value) ++ hitsCells px cx qx dx hx ++ hitsCells py cy qy dy hy).toArray 40)) := by
          intro o ho
          unfold execOp
          simp only [ho]
          simp only [hitsCells]
          go_simp
        rw [hrun _ rfl]
        refine HHK.out _ _ ⟨?_, HII.out.2.alloc _⟩ ((Keep.refl _ _).alloc _) ?_
        · obtain ⟨⟨rr, hcc⟩, hkk⟩ := HII.out
          exact ⟨rr, hcc.still ((Keep.refl _ _).alloc _)⟩
        · exact ⟨w'.heap.size, px, cx, qx, dx, hx, py, cy, qy, dy, hy, rfl, HII.out.2.size, heap_alloc_new _ _, HAX.out.keep (S := None) ((Keep.refl _ _).alloc _) (fun _ _ => id), HAY.out.keep (S := None) ((Keep.refl _ _).alloc _) (fun _ _ => id)⟩
      · exact st_free rfl (st_evS (dep_s 7 rfl rfl rfl) (by rintro a w' ⟨g, px, cx, qx, dx, hx, py, cy, qy, dy, hy, h1, -⟩ hI; refine ⟨.int .i64 3, ?_, rfl⟩; go_simp))
      · exact st_free rfl (st_ev0 _ (by intro a w' hI; go_simp) rfl)
    intro f w8 hkinds hI
    obtain ⟨g, px, cx, qx, dx, hx, py, cy, qy, dy, hy, k61, hg, hgo, hax, hay⟩ : ThreeMade w7.heap.size _ w8 (f 61) := hkinds 7 _ 61 rfl rfl
    have k62 : f 62 = .int .i64 3 := hkinds 8 _ 62 rfl rfl
    have k63 : f 63 = .int .i64 0 := hkinds 9 _ 63 rfl rfl
    simp only [putsOf, Act.put, List.setIfInBounds_toArray, List.set_cons_zero, List.set_cons_succ, k61, k62, k63]
    obtain ⟨-, hkk⟩ := hI
    have hkw8 : Keep None W w8 := ((HK7.out.andThen hkk (T := (· = b)) (fun k _ h => h)).weaken (fun k h1 h2 => by have := HK1.out.size; have h3 : k = b := h2; omega))
    have HK8 := Lib.hid hkw8
    have HBI8 := Lib.hid (hkk.obj HBI.out h3b)
    have HIM8 := Lib.hid (HIM7.out.keepOff hkk HOFF.out)
    obtain ⟨xb, xl, xu, xo⟩ := hx
    obtain ⟨yb, yl, yu, yo⟩ := hy
    simp only [hitsCells] at hgo
    have HPICK : Hid (∀ W' : World, Keep None w8 W' → ∀ k, k < 3 → ∃ (p1 : Option Addr) (c1 : Nat) (q1 : Option Addr) (d1 : Nat) (h1 : Hits), W'.rangeAt g (k * 4) (listEnc (hitsCells p1 c1 q1 d1 h1)) ∧ HitsAt (fun _ => True) W' p1 q1 h1) := Lib.hid (fun W' hk k hk4 => by
      have hg := hk.obj hgo id
      have hA : HitsAt (fun _ => True) W' pa qa ⟨ab, al, au, ao⟩ := HA0.out.still ((HK.out.trans hkw8).trans hk)
      have hX : HitsAt (fun _ => True) W' px qx ⟨xb, xl, xu, xo⟩ := (hax.weaken (fun _ _ => trivial)).still hk
      have hY : HitsAt (fun _ => True) W' py qy ⟨yb, yl, yu, yo⟩ := (hay.weaken (fun _ _ => trivial)).still hk
      match k, hk4 with
      | 0, _ => exact ⟨pa, ca, qa, da, ⟨ab, al, au, ao⟩, range_mid hg [] _ rfl _ rfl, hA⟩
      | 1, _ => exact ⟨px, cx, qx, dx, ⟨xb, xl, xu, xo⟩, range_mid hg [.slice pa ab.length ca, .slice qa al.length da, .int .i64 au, .int .i64 ao] _ rfl _ rfl, hX⟩
      | 2, _ => exact ⟨py, cy, qy, dy, ⟨yb, yl, yu, yo⟩, range_mid hg [.slice pa ab.length ca, .slice qa al.length da, .int .i64 au, .int .i64 ao, .slice px xb.length cx, .slice qx xl.length dx, .int .i64 xu, .int .i64 xo] [] rfl _ rfl, hY⟩)
    clear hkinds k61 k62 k63 hgo hax hay hkk hkw8 HBI HIM7 HC7 O17 HK7
    go_wp2_with (fail)
    go_loopw [63] (EachTo 3 w8) (fun i _ => 3 - (intOf i).toNat)
    case atStart => exact ⟨0, rfl, by omega, Keep.refl _ _⟩
    case round =>
      obtain ⟨wo, rfl⟩ : ∃ wo : World, wo = wr := ⟨_, rfl⟩
      obtain ⟨k, rfl, hk, hkp⟩ := hrel
      have HKP := Lib.hid hkp
      clear hkp
      by_cases hlt : k < 3
      · obtain ⟨pz, cz, qz, dz, hz, hrg, ha1⟩ := HPICK.out wo HKP.out k hlt
        have HA1 := Lib.hid ha1
        have HRG := Lib.hid hrg
        have hlt' : (k : Int) < 3 := by omega
        obtain ⟨hz, lz, uz, oz⟩ := hz
        clear ha1 hrg
        go_wp2_with (first
          | ((with_reducible (show wpList _ _ _ (⟨some 66, .load 40 _, _, _, _, none⟩ :: _) _ _)); refine wpList_loadEl (enc := listEnc) (size := 4) rfl 40 _ rfl _ _ rfl [.slice pz hz.length cz, .slice qz lz.length dz, .int .i64 uz, .int .i64 oz] _ HRG.out rfl Try.underlying40 rfl Try.sizeHits (.agg #[.slice pz hz.length cz, .slice qz lz.length dz, .int .i64 uz, .int .i64 oz]) rfl ?_)
          | ((with_reducible (show wpList _ _ _ (⟨_, .store 40 (.tmp 11) _, _, _, _, none⟩ :: _) _ _)); (refine wpList_storeObj rfl 40 _ _ rfl wo.heap.size rfl [.slice none 0 0, .slice none 0 0, .int .i64 0, .int .i64 0] [.slice pz hz.length cz, .slice qz lz.length dz, .int .i64 uz, .int .i64 oz] rfl _ (by simp) (heap_alloc_new _ _) 4 Try.sizeHits rfl (by simp [Value.oneCell']) ?_); intro w9 hres9 hk9 hs9; have HRES9 := Lib.hid hres9; have HK9 := Lib.hid (((Keep.refl None wo).alloc _).andThen hk9 (by intro k h1 h2; omega)); clear hres9 hk9 hs9))
        generalize hw10 : World.alloc _ _ = w10
        have hk10 : Keep None w9 w10 := by rw [← hw10]; exact (Keep.refl _ _).alloc _
        have ho10 : w10.heap[w9.heap.size]? = some (.cells #[.int .i64 P, .int .i64 N] 3 (0, 0)) := by rw [← hw10]; exact heap_alloc_new _ _
        have HO10 := Lib.hid ho10
        have HK10 := Lib.hid (HK9.out.trans hk10)
        have HR10 := Lib.hid (hk10.obj HRES9.out id)
        have hk810 := HKP.out.trans HK10.out
        have HIB0 := Lib.hid (hk810.obj HBI8.out id)
        have HIV0 := Lib.hid (HIM8.out.keep hk810)
        have HHV0 := Lib.hid (HA1.out.still HK10.out)
        clear hw10 hk10 ho10 hk810
        go_loopw [71] (EachTo 2 w10) (fun i _ => 2 - (intOf i).toNat)
        case atStart => exact ⟨0, rfl, by omega, Keep.refl _ _⟩
        case round =>
          obtain ⟨wi, rfl⟩ : ∃ wi : World, wi = wr := ⟨_, rfl⟩
          obtain ⟨j, rfl, hj, hkj⟩ := hrel
          have HKJ := Lib.hid hkj
          by_cases hjl : j < 2
          · obtain ⟨M, hM, hMc⟩ : ∃ M, i64 M ∧ wi.cell? ⟨w9.heap.size, j, none⟩ = some (.int .i64 M) := by
              have ho := hkj.obj HO10.out id
              match j, hjl with
              | 0, _ => exact ⟨P, HPP.out, cell_of_row _ _ 0 _ _ _ ho⟩
              | 1, _ => exact ⟨N, HN.out, cell_of_row _ _ 1 _ _ _ ho⟩
            have hji : (j : Int) < 2 := by omega
            have HIB := Lib.hid (hkj.obj HIB0.out id)
            have HIV := Lib.hid (HIV0.out.keep hkj)
            have HHV := Lib.hid (HHV0.out.still hkj)
            have HHB := Lib.hid (hkj.obj HR10.out id)
            have HFS0 := Lib.hid (counts_lens (sh := shapeL n ps) (p := M) HHV.out.nr)
            have HCA0 := Lib.hid (fun w' hi hh => counts_calls (fun _ => True) (.agg #[.slice p0 n0' c0, .slice p1 n c1, .slice p2 n2' c2, .slice p3 n3' c3, .int .i64 k4, .int .i64 k5, .slice p6 n6 c6, .slice p7 ps.length c7]) n ps pz qz cz dz ⟨hz, lz, uz, oz⟩ M w' hi hh hM)
            have HCB0 := Lib.hid (fun w' hi hh => refCounts_calls (fun _ => True) (.agg #[.slice p0 n0' c0, .slice p1 n c1, .slice p2 n2' c2, .slice p3 n3' c3, .int .i64 k4, .int .i64 k5, .slice p6 n6 c6, .slice p7 ps.length c7]) n ps pz qz cz dz ⟨hz, lz, uz, oz⟩ M w' hi hh hM)
            generalize countsR (shapeL n ps) ⟨hz, lz, uz, oz⟩ M = R at HFS0 HCA0 HCB0
            obtain ⟨fs, er⟩ := R
            have HFS := Lib.hid HFS0.out
            have HCA := Lib.hid HCA0.out
            have HCB := Lib.hid HCB0.out
            simp only [hitsVal] at HCA HCB HFS
            clear HFS0 HCA0 HCB0 hkj hM
            go_wp2_with (first
              | ((with_reducible (show wpList _ _ _ (⟨some 76, .load 29 _, _, _, _, _⟩ :: _) _ _)); refine wpList_loadEl (enc := listEnc) (size := 8) rfl 29 _ rfl _ _ rfl [.slice p0 n0' c0, .slice p1 n c1, .slice p2 n2' c2, .slice p3 n3' c3, .int .i64 k4, .int .i64 k5, .slice p6 n6 c6, .slice p7 ps.length c7] _ (by first | exact range_of_obj HIB.out | exact range_of_obj HIC.out) rfl Try.underlying29 rfl Try.sizeImg (.agg #[.slice p0 n0' c0, .slice p1 n c1, .slice p2 n2' c2, .slice p3 n3' c3, .int .i64 k4, .int .i64 k5, .slice p6 n6 c6, .slice p7 ps.length c7]) rfl ?_)
              | ((with_reducible (show wpList _ _ _ (⟨some 77, .load 40 _, _, _, _, _⟩ :: _) _ _)); refine wpList_loadEl (enc := listEnc) (size := 4) rfl 40 _ rfl _ _ rfl [.slice pz hz.length cz, .slice qz lz.length dz, .int .i64 uz, .int .i64 oz] _ (by first | exact range_of_obj HHB.out | exact range_of_obj HHC.out) rfl Try.underlying40 rfl Try.sizeHits (.agg #[.slice pz hz.length cz, .slice qz lz.length dz, .int .i64 uz, .int .i64 oz]) rfl ?_)
              | (go_at_call 17; refine (HCA.out _ HIV.out HHV.out).mono ?_; rintro e wA ⟨pA, cA, vA, rfl, hmA, hcvA, hlA, hkA⟩; simp only at hmA ⊢; have HMA := Lib.hid hmA; have HCVA := Lib.hid hcvA; have HLA := Lib.hid hlA; have HKA := Lib.hid hkA; clear hmA hcvA hlA hkA)
              | ((with_reducible (show wpList _ _ _ (⟨_, .store 54 (.tmp 14) _, _, _, _, none⟩ :: _) _ _)); (refine wpList_storeObj rfl 54 _ _ rfl wA.heap.size rfl [.slice none 0 0] [.slice pA vA.length cA] rfl _ (by simp) (heap_alloc_new _ _) 1 Try.sizeCounts rfl (by simp [Value.oneCell']) ?_); intro wB hresB hkB hsB; have HRB := Lib.hid hresB; have HKB := Lib.hid (HKA.out.trans (((Keep.refl None wA).alloc _).andThen hkB (by intro k h1 h2; omega))); have HKAB := Lib.hid (((Keep.refl None wA).alloc _).andThen hkB (by intro k h1 h2; omega)); have HIC := Lib.hid (HKB.out.obj HIB.out id); have HHC := Lib.hid (HKB.out.obj HHB.out id); clear hresB hkB hsB)
              | ((with_reducible (show wpList _ _ _ (⟨some 83, .load 29 _, _, _, _, _⟩ :: _) _ _)); refine wpList_loadEl (enc := listEnc) (size := 8) rfl 29 _ rfl _ _ rfl [.slice p0 n0' c0, .slice p1 n c1, .slice p2 n2' c2, .slice p3 n3' c3, .int .i64 k4, .int .i64 k5, .slice p6 n6 c6, .slice p7 ps.length c7] _ (by first | exact range_of_obj HIB.out | exact range_of_obj HIC.out) rfl Try.underlying29 rfl Try.sizeImg (.agg #[.slice p0 n0' c0, .slice p1 n c1, .slice p2 n2' c2, .slice p3 n3' c3, .int .i64 k4, .int .i64 k5, .slice p6 n6 c6, .slice p7 ps.length c7]) rfl ?_)
              | ((with_reducible (show wpList _ _ _ (⟨some 84, .load 40 _, _, _, _, _⟩ :: _) _ _)); refine wpList_loadEl (enc := listEnc) (size := 4) rfl 40 _ rfl _ _ rfl [.slice pz hz.length cz, .slice qz lz.length dz, .int .i64 uz, .int .i64 oz] _ (by first | exact range_of_obj HHB.out | exact range_of_obj HHC.out) rfl Try.underlying40 rfl Try.sizeHits (.agg #[.slice pz hz.length cz, .slice qz lz.length dz, .int .i64 uz, .int .i64 oz]) rfl ?_)
              | (go_at_call 18; refine (HCB.out _ (HIV.out.keep HKB.out) (HHV.out.still HKB.out)).mono ?_; rintro e wC ⟨pC, cC, vC, rfl, hmC, hcvC, hlC, hkC⟩; simp only at hmC ⊢; have HMC := Lib.hid hmC; have HCVC := Lib.hid hcvC; have HRC := Lib.hid (hkC.obj HRB.out id); have HKC := Lib.hid hkC; clear hmC hcvC hlC hkC)
              | ((with_reducible (show wpList _ _ _ (⟨_, .store 54 (.tmp 16) _, _, _, _, none⟩ :: _) _ _)); (refine wpList_storeObj rfl 54 _ _ rfl wC.heap.size rfl [.slice none 0 0] [.slice pC vC.length cC] rfl _ (by simp) (heap_alloc_new _ _) 1 Try.sizeCounts rfl (by simp [Value.oneCell']) ?_); intro wD hresD hkD hsD; have HRD := Lib.hid hresD; have HKCD := Lib.hid (((Keep.refl None wC).alloc _).andThen hkD (by intro k h1 h2; omega)); have HRC' := Lib.hid (HKCD.out.obj HRC.out id); clear hresD hkD hsD)
              | ((with_reducible (show wpList _ _ _ (⟨some 93, .load 54 _, _, _, _, _⟩ :: _) _ _)); refine wpList_loadElG (enc := listEnc) (size := 1) rfl 54 _ rfl _ _ rfl [.slice pA vA.length cA] _ (range_of_obj HRC'.out) rfl Try.underlying54 rfl Try.sizeCounts (.agg #[.slice pA vA.length cA]) rfl ?_)
              | ((with_reducible (show wpList _ _ _ (⟨some 94, .load 54 _, _, _, _, _⟩ :: _) _ _)); refine wpList_loadElG (enc := listEnc) (size := 1) rfl 54 _ rfl _ _ rfl [.slice pC vC.length cC] _ (range_of_obj HRD.out) rfl Try.underlying54 rfl Try.sizeCounts (.agg #[.slice pC vC.length cC]) rfl ?_)
              | (go_at_call 19; refine (sameAll_calls pA pC cA cC vA vC wD (HCVA.out.still (HKAB.out.trans (HKC.out.trans HKCD.out))) (HCVC.out.still HKCD.out) (by rw [HMA.out, HMC.out]) HLA.out (by have hm := HMA.out; have hb := HFS.out; intro f hf; have h1 : f.fc ∈ fs := (by rw [← hm]; exact List.mem_map.2 ⟨f, hf, rfl⟩); exact Nat.le_trans (hb _ h1) (by unfold maxLen; decide))).mono ?_; rintro e wE ⟨rfl, hkE⟩; have HKE := Lib.hid hkE; clear hkE))
            go_roundw
            case rel => exact ⟨j + 1, by go_num, by omega, HKJ.out.trans (HKB.out.trans (HKC.out.trans (HKCD.out.trans HKE.out)))⟩
            case measure => simp [intOf]; omega
          · have hje : j = 2 := by omega
            subst hje
            clear hkj
            go_wp2_with (fail)
            go_roundw
            case rel => exact ⟨k + 1, by go_num, by omega, HKP.out.trans (HK10.out.trans HKJ.out)⟩
            case measure => simp [intOf]; omega
      · have hke : k = 3 := by omega
        subst hke
        go_wp2_with (fail)
        go_ret
        exact ⟨rfl, (HK.out.trans HK8.out).trans HKP.out⟩

end Go.Proofs.Ytlhmajjmhkjcoaa
