/-
  AttributeAdds: the whole law, walked.
-/
import Derived.Test.YtlhmajjmhkjcoaaAddRef
import Derived.Test.YtlhmajjmhkjcoaaHitsDrawn
import Derived.Test.YtlhmajjmhkjcoaaLocMain
namespace Go.Proofs.Ytlhmajjmhkjcoaa
open Go.RowKit

def hitsCells (p : Option Addr) (c : Nat) (q : Option Addr) (d : Nat) (h : Hits) : List Value := [.slice p h.blocks.length c, .slice q h.links.length d, .int .i64 h.unk, .int .i64 h.lost]

/-- Some hits, by their cells. -/
def SomeHits (m : Nat) (w : World) (cs : List Value) : Prop := ∃ p c q d h, cs = hitsCells p c q d h ∧ HitsAt (fun _ => True) w p q h ∧ h.links.length ≤ m

theorem SomeHits.still {m : Nat} {w w' : World} {cs : List Value} (h : SomeHits m w cs) (k : Keep None w w') : SomeHits m w' cs := by
  obtain ⟨p, c, q, d, hh, h1, h2, h3⟩ := h
  exact ⟨p, c, q, d, hh, h1, h2.still k, h3⟩

set_option maxRecDepth 100000 in
set_option maxHeartbeats 4000000 in
theorem adds_long (v0 : Value) (pa : Option Addr) (na ca : Nat) (qa : Option Addr) (la da : Nat) (ua oa : Int) (pb : Option Addr) (nb cb : Nat) (qb : Option Addr) (lb db : Nat) (ub ob : Int) (w : World) (h0 : ∃ p n c, v0 = .slice p n c)
    (m0 : na ≤ maxLen) (m1 : nb ≤ maxLen) (m2 : la ≤ maxLen) (m3 : lb ≤ maxLen) (h : 30 < na ∨ 30 < nb ∨ 30 < la ∨ 30 < lb) :
    Calls Try.prog 4 #[v0, .agg #[.slice pa na ca, .slice qa la da, .int .i64 ua, .int .i64 oa], .agg #[.slice pb nb cb, .slice qb lb db, .int .i64 ub, .int .i64 ob]] w (Gives None (.bool true) w) := by
  obtain ⟨p, n, c, rfl⟩ := h0
  unfold maxLen at m0 m1 m2 m3
  have b1 : Hid (∀ W' : World, Keep None ((w.alloc (.cells #[.slice pa na ca, .slice qa la da, .int .i64 ua, .int .i64 oa] 40)).alloc (.cells #[.slice pb nb cb, .slice qb lb db, .int .i64 ub, .int .i64 ob] 40)) W' → W'.cell? ⟨w.heap.size, 0, none⟩ = some (.slice pa na ca) ∧ W'.cell? ⟨w.heap.size, 1, none⟩ = some (.slice qa la da) ∧ W'.cell? ⟨w.heap.size + 1, 0, none⟩ = some (.slice pb nb cb) ∧ W'.cell? ⟨w.heap.size + 1, 1, none⟩ = some (.slice qb lb db)) := Lib.hid (fun W' hk => by
    have h1 := hk.obj (((Keep.refl None _).alloc _).obj (heap_alloc_new w (.cells #[.slice pa na ca, .slice qa la da, .int .i64 ua, .int .i64 oa] 40)) id) id
    have h2 := hk.obj (alloc_at (show w.heap.size + 1 = _ by simp)) id
    simp [World.cell?, h1, h2])
  by_cases g1 : 30 < na
  · have e1 : (30 : Int) < na := by omega
    (clear h; go_enter Try.func4, Try.ntmps4; go_wp2_with (go_at_call 6; refine (awake_calls _).mono ?_; rintro e w1 ⟨rfl, hk1⟩; obtain ⟨d1, d2, d3, d4⟩ := b1.out _ hk1; have HK1 := Lib.hid ((((Keep.refl None _).alloc _).alloc _).trans hk1); clear hk1); go_ret; exact ⟨rfl, HK1.out⟩)
  · have e1 : ¬ (30 : Int) < na := by omega
    by_cases g2 : 30 < nb
    · have e2 : (30 : Int) < nb := by omega
      (clear h; go_enter Try.func4, Try.ntmps4; go_wp2_with (go_at_call 6; refine (awake_calls _).mono ?_; rintro e w1 ⟨rfl, hk1⟩; obtain ⟨d1, d2, d3, d4⟩ := b1.out _ hk1; have HK1 := Lib.hid ((((Keep.refl None _).alloc _).alloc _).trans hk1); clear hk1); go_ret; exact ⟨rfl, HK1.out⟩)
    · have e2 : ¬ (30 : Int) < nb := by omega
      by_cases g3 : 30 < la
      · have e3 : (30 : Int) < la := by omega
        (clear h; go_enter Try.func4, Try.ntmps4; go_wp2_with (go_at_call 6; refine (awake_calls _).mono ?_; rintro e w1 ⟨rfl, hk1⟩; obtain ⟨d1, d2, d3, d4⟩ := b1.out _ hk1; have HK1 := Lib.hid ((((Keep.refl None _).alloc _).alloc _).trans hk1); clear hk1); go_ret; exact ⟨rfl, HK1.out⟩)
      · have e3 : ¬ (30 : Int) < la := by omega
        have g4 : 30 < lb := by omega
        have e4 : (30 : Int) < lb := by omega
        (clear h; go_enter Try.func4, Try.ntmps4; go_wp2_with (go_at_call 6; refine (awake_calls _).mono ?_; rintro e w1 ⟨rfl, hk1⟩; obtain ⟨d1, d2, d3, d4⟩ := b1.out _ hk1; have HK1 := Lib.hid ((((Keep.refl None _).alloc _).alloc _).trans hk1); clear hk1); go_ret; exact ⟨rfl, HK1.out⟩)

theorem Try.sizePair : (Try.prog.info? 42).map (·.size) = some 8 := by kernel_rfl

theorem range_mid {w : World} {g : Nat} {l cs : List Value} {e : TypeId} {fr : Nat × Nat} (h : w.heap[g]? = some (.cells l.toArray e fr)) (pre post : List Value) (hl : l = pre ++ (cs ++ post)) (o : Nat) (ho : pre.length = o) : w.rangeAt g o (listEnc cs) := by
  subst hl ho
  intro j u hu
  have hj : j < cs.length := (List.getElem?_eq_some_iff.1 hu).1
  have hu' : cs[j]? = some u := hu
  simp only [World.cell?, h]
  simp [List.getElem?_append_right, List.getElem?_append_left hj, hu']

def pairAt (m : Nat) (w : World) (L : List (List Value)) : Prop := ∀ cs ∈ L, ∃ x y, cs = x ++ y ∧ SomeHits m w x ∧ SomeHits m w y

def EachPair (w0 : World) (i : Value) (w : World) : Prop := ∃ k : Nat, i = .int .i64 k ∧ k ≤ 4 ∧ Keep None w0 w

def HitsMade (lo : Nat) (w : World) (v : Value) : Prop := ∃ p c q d h, v = hitsVal p c q d h ∧ HitsAt (fun x => lo ≤ x ∧ NB w x) w p q h ∧ h.links.length ≤ 28
theorem HitsAt.nb' {lo : Nat} {w w' : World} {p q : Option Addr} {h : Hits} {S : Nat → Prop} (a : HitsAt (fun x => lo ≤ x ∧ NB w x) w p q h) (k : Keep S w w') (hs : ∀ x, lo ≤ x → NB w x → ¬ S x) : HitsAt (fun x => lo ≤ x ∧ NB w' x) w' p q h :=
  (a.keep k (fun x hx => hs x hx.1 hx.2)).weaken (fun x hx => ⟨hx.1, hx.2.keep k (hs x hx.1 hx.2)⟩)
theorem hitsMade_keep (b lo : Nat) (hb : b < lo) : ∀ w w' v, Keep (· = b) w w' → HitsMade lo w v → HitsMade lo w' v := fun w w' v hk ⟨p, c, q, d, h, h1, h2, h3⟩ => ⟨p, c, q, d, h, h1, h2.nb' hk (fun x hx _ hxb => by omega), h3⟩

theorem HitsMade.box {lo g : Nat} {w w' : World} {v : Value} (h : HitsMade lo w v) (hk : Keep (· = g) w w') (hg : Typed w 40 g) : HitsMade lo w' v := by
  obtain ⟨p, c, q, d, h, h1, h2, h3⟩ := h
  exact ⟨p, c, q, d, h, h1, h2.nb' hk (fun x _ hx hxg => hx.ne hg hxg), h3⟩

theorem HitsMade.some {lo : Nat} {w : World} {v : Value} (h : HitsMade lo w v) : ∃ cs, v = .agg cs.toArray ∧ cs.length = 4 ∧ SomeHits 28 w cs := by
  obtain ⟨p, c, q, d, h, rfl, h2, h3⟩ := h
  exact ⟨hitsCells p c q d h, rfl, rfl, p, c, q, d, h, rfl, h2.weaken (fun _ _ => trivial), h3⟩

theorem hitsCells_one (p : Option Addr) (c : Nat) (q : Option Addr) (d : Nat) (h : Hits) : ∀ v ∈ hitsCells p c q d h, v.oneCell' = true := by
  simp [hitsCells, Value.oneCell']

set_option maxRecDepth 100000 in
set_option maxHeartbeats 8000000 in
theorem adds_calls (pc : Option Addr) (bs : List Int) (cap : Nat) (pa : Option Addr) (ca : Nat) (qa : Option Addr) (da : Nat) (a : Hits) (pb : Option Addr) (cb : Nat) (qb : Option Addr) (db : Nat) (b : Hits) (w : World) (h : SliceV byteEnc 1 w pc bs) (hv : valid bs) (hcap : bs.length ≤ cap)
    (ha : HitsAt (fun _ => True) w pa qa a) (hb : HitsAt (fun _ => True) w pb qb b) (n0 : a.blocks.length ≤ 30) (n1 : b.blocks.length ≤ 30) (n2 : a.links.length ≤ 30) (n3 : b.links.length ≤ 30) :
    Calls Try.prog 4 #[.slice pc bs.length cap, hitsVal pa ca qa da a, hitsVal pb cb qb db b] w (Gives None (.bool true) w) := by
  have SA : Hid (SomeHits 30 w (hitsCells pa ca qa da a)) := Lib.hid ⟨_, _, _, _, _, rfl, ha, n2⟩
  have SB : Hid (SomeHits 30 w (hitsCells pb cb qb db b)) := Lib.hid ⟨_, _, _, _, _, rfl, hb, n3⟩
  obtain ⟨ab, al, au, ao⟩ := a
  obtain ⟨bb, bl, bu, bo⟩ := b
  simp only [hitsCells] at SA SB
  simp only at n0 n1 n2 n3
  simp only [hitsVal]
  have H0 := Lib.hid h
  have HA0 := Lib.hid ha
  have HB0 := Lib.hid hb
  clear h ha hb
  have e1 : ¬ (30 : Int) < ab.length := by omega
  have e2 : ¬ (30 : Int) < bb.length := by omega
  have e3 : ¬ (30 : Int) < al.length := by omega
  have e4 : ¬ (30 : Int) < bl.length := by omega
  have HBX : Hid (∃ W : World, Keep None w W ∧ W = (w.alloc (.cells #[.slice pa ab.length ca, .slice qa al.length da, .int .i64 au, .int .i64 ao] 40)).alloc (.cells #[.slice pb bb.length cb, .slice qb bl.length db, .int .i64 bu, .int .i64 bo] 40) ∧
      W.heap[w.heap.size]? = some (.cells #[.slice pa ab.length ca, .slice qa al.length da, .int .i64 au, .int .i64 ao] 40 (0, 0)) ∧
      W.heap[w.heap.size + 1]? = some (.cells #[.slice pb bb.length cb, .slice qb bl.length db, .int .i64 bu, .int .i64 bo] 40 (0, 0))) :=
    Lib.hid ⟨_, ((Keep.refl None w).alloc _).alloc _, rfl, ((Keep.refl None _).alloc _).obj (heap_alloc_new _ _) id, alloc_at (by simp)⟩
  obtain ⟨W, hKW, hWe, ho1, ho2⟩ := HBX.out
  have HK := Lib.hid hKW
  have O1 := Lib.hid ho1
  have O2 := Lib.hid ho2
  have HWE := Lib.hid hWe.symm
  clear HBX hKW ho1 ho2 hWe
  have b1 : Hid (∀ W' : World, Keep None W W' → W'.cell? ⟨w.heap.size, 0, none⟩ = some (.slice pa ab.length ca) ∧ W'.cell? ⟨w.heap.size, 1, none⟩ = some (.slice qa al.length da) ∧ W'.cell? ⟨w.heap.size + 1, 0, none⟩ = some (.slice pb bb.length cb) ∧ W'.cell? ⟨w.heap.size + 1, 1, none⟩ = some (.slice qb bl.length db)) := Lib.hid (fun W' hk => by
    have h1 := hk.obj O1.out id
    have h2 := hk.obj O2.out id
    simp [World.cell?, h1, h2])
  go_enter Try.func4, Try.ntmps4
  go_upto_region 3 with (go_at_call 6; rw [HWE.out]; refine (awake_calls _).mono ?_; rintro e w1 ⟨rfl, hk1⟩; obtain ⟨d1, d2, d3, d4⟩ := b1.out _ hk1; have HK1 := Lib.hid hk1; clear hk1)
  clear d1 d2 d3 d4 e1 e2 e3 e4
  go_wp2_with (fail)
  refine (new_calls pc bs cap 200 _ (H0.out.keep (HK.out.trans HK1.out) (fun _ _ => id)) hv (by omega) hcap).mono ?_
  rintro e w2 ⟨b, bl', rfl, hbb, hc, hk2, -⟩
  have HC2 := Lib.hid hc
  have HK2 := Lib.hid (HK1.out.trans hk2)
  have hbw : w1.heap.size ≤ b := hbb
  clear hc hk2 hbb
  go_wp2_with (fail)
  refine (places_calls b bl' _ _ HC2.out).mono ?_
  rintro e w3 ⟨v, n, ps, r, rfl, him, hc3, hk3, hn, hps, hfr⟩
  have hbl2 := HC2.out.lt
  have hoff : OffS (· = b) (imgAddr v) := fun x hx hxb => by have := hfr x hx; have h2 : x.block = b := hxb; omega
  have HIM := Lib.hid him
  have HOFF := Lib.hid hoff
  have HC3 := Lib.hid hc3
  have hW1 : W.heap.size ≤ w1.heap.size := HK1.out.size
  have HK3 : Hid (Keep (fun x => x = b) W w3) := Lib.hid ((HK2.out.weaken (fun _ _ q => q.elim)).trans hk3)
  obtain ⟨⟨p0, n0', c0, p1, c1, p2, n2', c2, p3, n3', c3, k4, k5, p6, n6, c6, p7, c7, rfl, -⟩, -, -, -⟩ := him
  clear hc3 hk3 hfr hoff
  go_wp2_with (fail)
  generalize hw4 : World.alloc _ _ = w4
  have hk4 : Keep None w3 w4 := by rw [← hw4]; exact (Keep.refl _ _).alloc _
  have hbi : w4.heap[w3.heap.size]? = some (.cells #[.slice p0 n0' c0, .slice p1 n c1, .slice p2 n2' c2, .slice p3 n3' c3, .int .i64 k4, .int .i64 k5, .slice p6 n6 c6, .slice p7 ps.length c7] 29 (0, 0)) := by rw [← hw4]; exact heap_alloc_new _ _
  have HBI := Lib.hid hbi
  have HC4 := Lib.hid (HC3.out.still hk4)
  have HIM4 := Lib.hid (HIM.out.keep hk4)
  have HK4 := Lib.hid (HK3.out.trans (hk4.weaken (T := (· = b)) (fun _ _ q => q.elim)))
  have hb3 := HC3.out.lt
  have hw34 : w3.heap.size < w4.heap.size := heap_lt hbi
  have hb4 : b < w4.heap.size := by omega
  clear hw4 hk4 hbi HC3 HIM HK3
  refine region_kindsG_tail (· = b) [.is (.pointer (some ⟨b, 0, none⟩)), .is (.agg #[.slice p0 n0' c0, .slice p1 n c1, .slice p2 n2' c2, .slice p3 n3' c3, .int .i64 k4, .int .i64 k5, .slice p6 n6 c6, .slice p7 ps.length c7]), .sat (HitsMade w4.heap.size) (hitsMade_keep b _ hb4), .is (.pointer (some ⟨b, 0, none⟩)), .is (.agg #[.slice p0 n0' c0, .slice p1 n c1, .slice p2 n2' c2, .slice p3 n3' c3, .int .i64 k4, .int .i64 k5, .slice p6 n6 c6, .slice p7 ps.length c7]), .sat (HitsMade w4.heap.size) (hitsMade_keep b _ hb4), .sat (BoxMade w4.heap.size) (boxMade_keep b _ hb4), .sat (BoxMade w4.heap.size) (boxMade_keep b _ hb4), .any, .any]
    (fun w' => (∃ r, CodesAt w' b bl' r) ∧ Keep (· = b) w4 w') 119 8 (by kernel_rfl) (by decide) (by kernel_rfl) (by kernel_rfl) (by kernel_rfl) rfl (by kernel_rfl) ⟨⟨_, HC4.out.still (Keep.refl _ _).drew⟩, (Keep.refl _ _).drew⟩ ?_ ?_
  · refine ⟨?_, ?_, ?_, ?_, ?_, ?_, ?_, ?_, trivial⟩
    · exact st_free rfl (st_ev1 (dep_f (t := 7) rfl rfl) _ (by intro a w' h1 hI; go_simp) rfl)
    · exact st_free rfl (st_loadD 29 w3.heap.size 0 [.slice p0 n0' c0, .slice p1 n c1, .slice p2 n2' c2, .slice p3 n3' c3, .int .i64 k4, .int .i64 k5, .slice p6 n6 c6, .slice p7 ps.length c7] rfl (dep_f rfl rfl) (fun w' hI => range_of_obj (hI.2.obj HBI.out (by omega))) _ Try.underlying29 rfl 8 Try.sizeImg rfl rfl)
    · exact st_free rfl (st_callD2 (dep_e 0 rfl rfl rfl) (dep_e (0 + 1) rfl rfl rfl) 11 #[.pointer (some ⟨b, 0, none⟩), .agg #[.slice p0 n0' c0, .slice p1 n c1, .slice p2 n2' c2, .slice p3 n3' c3, .int .i64 k4, .int .i64 k5, .slice p6 n6 c6, .slice p7 ps.length c7]] (by intro a w' h1 h2; go_simp) (by rintro w' ⟨⟨rr, hcc⟩, hkk⟩; refine (hits_calls b bl' rr _ n ps w' hcc (HIM4.out.keepOff hkk HOFF.out) hn HOFF.out).mono ?_; rintro e w'' ⟨hp, hc, hq, hd, hh, r7, rfl, a1, a2, -, a3, a4⟩; exact ⟨_, rfl, ⟨hp, hc, hq, hd, hh, rfl, a1.weaken (fun x hx => ⟨Nat.le_trans hkk.size hx.1, hx.2⟩), a2⟩, ⟨⟨r7, a3⟩, hkk.trans a4⟩, a4⟩))
    · exact st_free rfl (st_ev1 (dep_f (t := 7) rfl rfl) _ (by intro a w' h1 hI; go_simp) rfl)
    · exact st_free rfl (st_loadD 29 w3.heap.size 0 [.slice p0 n0' c0, .slice p1 n c1, .slice p2 n2' c2, .slice p3 n3' c3, .int .i64 k4, .int .i64 k5, .slice p6 n6 c6, .slice p7 ps.length c7] rfl (dep_f rfl rfl) (fun w' hI => range_of_obj (hI.2.obj HBI.out (by omega))) _ Try.underlying29 rfl 8 Try.sizeImg rfl rfl)
    · exact st_free rfl (st_callD2 (dep_e 3 rfl rfl rfl) (dep_e (3 + 1) rfl rfl rfl) 11 #[.pointer (some ⟨b, 0, none⟩), .agg #[.slice p0 n0' c0, .slice p1 n c1, .slice p2 n2' c2, .slice p3 n3' c3, .int .i64 k4, .int .i64 k5, .slice p6 n6 c6, .slice p7 ps.length c7]] (by intro a w' h1 h2; go_simp) (by rintro w' ⟨⟨rr, hcc⟩, hkk⟩; refine (hits_calls b bl' rr _ n ps w' hcc (HIM4.out.keepOff hkk HOFF.out) hn HOFF.out).mono ?_; rintro e w'' ⟨hp, hc, hq, hd, hh, r7, rfl, a1, a2, -, a3, a4⟩; exact ⟨_, rfl, ⟨hp, hc, hq, hd, hh, rfl, a1.weaken (fun x hx => ⟨Nat.le_trans hkk.size hx.1, hx.2⟩), a2⟩, ⟨⟨r7, a3⟩, hkk.trans a4⟩, a4⟩))
    · exact st_free rfl (st_alloc 40 #[.slice none 0 0, .slice none 0 0, .int .i64 0, .int .i64 0] (by intro a w'; go_simp) (by rintro w' ⟨⟨rr, hcc⟩, hkk⟩; exact ⟨⟨w'.heap.size, rfl, hkk.size, heap_alloc_new _ _⟩, ⟨rr, hcc.still ((Keep.refl _ _).alloc _)⟩, hkk.alloc _⟩))
    · exact st_free rfl (st_alloc 40 #[.slice none 0 0, .slice none 0 0, .int .i64 0, .int .i64 0] (by intro a w'; go_simp) (by rintro w' ⟨⟨rr, hcc⟩, hkk⟩; exact ⟨⟨w'.heap.size, rfl, hkk.size, heap_alloc_new _ _⟩, ⟨rr, hcc.still ((Keep.refl _ _).alloc _)⟩, hkk.alloc _⟩))
  intro f w5 hkinds hI
  obtain ⟨x, k71, hx4, -⟩ := (show HitsMade w4.heap.size w5 (f 71) from hkinds 2 _ 71 (by omega) rfl rfl).some
  obtain ⟨y, k74, hy4, -⟩ := (show HitsMade w4.heap.size w5 (f 74) from hkinds 5 _ 74 (by omega) rfl rfl).some
  have hmx : HitsMade w4.heap.size w5 (.agg x.toArray) := k71 ▸ (show HitsMade w4.heap.size w5 (f 71) from hkinds 2 _ 71 (by omega) rfl rfl)
  have hmy : HitsMade w4.heap.size w5 (.agg y.toArray) := k74 ▸ (show HitsMade w4.heap.size w5 (f 74) from hkinds 5 _ 74 (by omega) rfl rfl)
  obtain ⟨g1, k9, hg1, hgo1⟩ : BoxMade w4.heap.size w5 (f 9) := hkinds 6 _ 9 (by omega) rfl rfl
  obtain ⟨g2, k10, hg2, hgo2⟩ : BoxMade w4.heap.size w5 (f 10) := hkinds 7 _ 10 (by omega) rfl rfl
  simp only [putsOf, Act.put, List.take_succ_cons, List.take_zero, List.drop_succ_cons, List.drop_zero, List.setIfInBounds_toArray, List.set_cons_zero, List.set_cons_succ, k71, k74, k9, k10]
  clear hkinds k71 k74 k9 k10
  obtain ⟨-, hkk⟩ := hI
  have hx1 : ∀ v ∈ x, v.oneCell' = true := by
    obtain ⟨p, c, q, d, h, e, -⟩ := hmx
    have : x = hitsCells p c q d h := by have := Value.agg.inj e; simpa [hitsCells] using congrArg Array.toList this
    rw [this]; exact hitsCells_one p c q d h
  have hy1 : ∀ v ∈ y, v.oneCell' = true := by
    obtain ⟨p, c, q, d, h, e, -⟩ := hmy
    have : y = hitsCells p c q d h := by have := Value.agg.inj e; simpa [hitsCells] using congrArg Array.toList this
    rw [this]; exact hitsCells_one p c q d h
  refine wpList_storeObj rfl 40 _ _ rfl g1 rfl [.slice none 0 0, .slice none 0 0, .int .i64 0, .int .i64 0] x rfl _ (by rw [hx4]; rfl) hgo1 4 Try.sizeHits hx4 hx1 ?_
  intro w6 hres6 hk6 hs6
  clear hs6
  simp only [Act.put]
  obtain ⟨old, hold, hol⟩ : ∃ old : List Value, w6.heap[g2]? = some (.cells old.toArray 40 (0, 0)) ∧ old.length = 4 := by
    by_cases hg : g2 = g1
    · subst hg; exact ⟨x, hres6, hx4⟩
    · exact ⟨_, hk6.obj hgo2 hg, rfl⟩
  refine wpList_storeObj rfl 40 _ _ rfl g2 rfl old y rfl _ (by rw [hol, hy4]) hold 4 Try.sizeHits hy4 hy1 ?_
  intro w7 hres7 hk7 hs7
  clear hs7
  simp only [Act.put]
  have hmx7 := (hmx.box hk6 (typed_obj hgo1)).box hk7 (typed_obj hold)
  have hmy7 := (hmy.box hk6 (typed_obj hgo1)).box hk7 (typed_obj hold)
  have hfin : ∃ x' : List Value, x'.length = 4 ∧ w7.heap[g1]? = some (.cells x'.toArray 40 (0, 0)) ∧ HitsMade w4.heap.size w7 (.agg x'.toArray) := by
    by_cases hg : g1 = g2
    · subst hg; exact ⟨y, hy4, hres7, hmy7⟩
    · exact ⟨x, hx4, hk7.obj hres6 hg, hmx7⟩
  obtain ⟨x', hx4', hres1, hmx'⟩ := hfin
  obtain ⟨px, cx, qx, dx, hx, ex, hax, hlx⟩ := hmx'
  obtain ⟨py, cy, qy, dy, hy, ey, hay, hly⟩ := hmy7
  have ex' : x' = hitsCells px cx qx dx hx := by have := Value.agg.inj ex; simpa [hitsCells] using congrArg Array.toList this
  have ey' : y = hitsCells py cy qy dy hy := by have := Value.agg.inj ey; simpa [hitsCells] using congrArg Array.toList this
  subst ex' ey'
  have hkw7 : Keep None W w7 := ((HK4.out.andThen hkk (T := (· = b)) (fun k _ h => h)).weaken (T := (fun k => k = b ∨ k = g1 ∨ k = g2)) (fun k _ h => .inl h)).trans ((hk6.weaken (fun k _ h => .inr (.inl h))).trans (hk7.weaken (fun k _ h => .inr (.inr h)))) |>.weaken (fun k h1 h2 => by
    have := HK4.out.size
    rcases h2 with h | h | h <;> omega)
  have HK7 := Lib.hid hkw7
  have HX : Hid (HitsAt (fun _ => True) w7 px qx hx) := Lib.hid (hax.weaken (fun _ _ => trivial))
  have HY : Hid (HitsAt (fun _ => True) w7 py qy hy) := Lib.hid (hay.weaken (fun _ _ => trivial))
  obtain ⟨xb, xl, xu, xo⟩ := hx
  obtain ⟨yb, yl, yu, yo⟩ := hy
  simp only [hitsCells] at hres1 hres7
  simp only at hlx hly
  have R1 := Lib.hid (range_of_obj hres1)
  have R2 := Lib.hid (range_of_obj hres7)
  have RA := Lib.hid (range_of_obj (hkw7.obj O1.out id))
  have RB := Lib.hid (range_of_obj (hkw7.obj O2.out id))
  clear hx1 hy1 hx4 hy4 hx4' hmx hmy hmx7 hgo1 hgo2 hkk hres6 hk6 hold hol hres7 hk7 hres1 ex ey hax hay hkw7 HC4 HIM4 HK4 HBI hb4
  go_wp2_with (first
    | ((with_reducible (show wpList _ _ _ (⟨_, .load 40 (.tmp 4), _, _, _, none⟩ :: _) _ _)); refine wpList_loadEl (enc := listEnc) (size := 4) rfl 40 _ rfl _ _ rfl [.slice pa ab.length ca, .slice qa al.length da, .int .i64 au, .int .i64 ao] _ RA.out rfl Try.underlying40 rfl Try.sizeHits (.agg #[.slice pa ab.length ca, .slice qa al.length da, .int .i64 au, .int .i64 ao]) rfl ?_)
    | ((with_reducible (show wpList _ _ _ (⟨_, .load 40 (.tmp 5), _, _, _, none⟩ :: _) _ _)); refine wpList_loadEl (enc := listEnc) (size := 4) rfl 40 _ rfl _ _ rfl [.slice pb bb.length cb, .slice qb bl.length db, .int .i64 bu, .int .i64 bo] _ RB.out rfl Try.underlying40 rfl Try.sizeHits (.agg #[.slice pb bb.length cb, .slice qb bl.length db, .int .i64 bu, .int .i64 bo]) rfl ?_)
    | ((with_reducible (show wpList _ _ _ (⟨_, .load 40 (.tmp 9), _, _, _, none⟩ :: _) _ _)); refine wpList_loadEl (enc := listEnc) (size := 4) rfl 40 _ rfl _ _ rfl [.slice px xb.length cx, .slice qx xl.length dx, .int .i64 xu, .int .i64 xo] _ R1.out rfl Try.underlying40 rfl Try.sizeHits (.agg #[.slice px xb.length cx, .slice qx xl.length dx, .int .i64 xu, .int .i64 xo]) rfl ?_)
    | ((with_reducible (show wpList _ _ _ (⟨_, .load 40 (.tmp 10), _, _, _, none⟩ :: _) _ _)); refine wpList_loadEl (enc := listEnc) (size := 4) rfl 40 _ rfl _ _ rfl [.slice py yb.length cy, .slice qy yl.length dy, .int .i64 yu, .int .i64 yo] _ R2.out rfl Try.underlying40 rfl Try.sizeHits (.agg #[.slice py yb.length cy, .slice qy yl.length dy, .int .i64 yu, .int .i64 yo]) rfl ?_))
  generalize hw8 : World.alloc _ _ = w8
  have hk8 : Keep None w7 w8 := by rw [← hw8]; exact (Keep.refl _ _).alloc _
  have hG : w8.heap[w7.heap.size]? = some (.cells ([.slice pa ab.length ca, .slice qa al.length da, .int .i64 au, .int .i64 ao, .slice pb bb.length cb, .slice qb bl.length db, .int .i64 bu, .int .i64 bo, .slice px xb.length cx, .slice qx xl.length dx, .int .i64 xu, .int .i64 xo, .slice py yb.length cy, .slice qy yl.length dy, .int .i64 yu, .int .i64 yo, .slice pa ab.length ca, .slice qa al.length da, .int .i64 au, .int .i64 ao, .slice pa ab.length ca, .slice qa al.length da, .int .i64 au, .int .i64 ao, .slice px xb.length cx, .slice qx xl.length dx, .int .i64 xu, .int .i64 xo, .slice pa ab.length ca, .slice qa al.length da, .int .i64 au, .int .i64 ao] : List Value).toArray 42 (0, 0)) := by rw [← hw8]; exact heap_alloc_new _ _
  have HPAIR : Hid (∀ W' : World, Keep None w8 W' → ∀ k, k < 4 → ∃ (p1 : Option Addr) (c1 : Nat) (q1 : Option Addr) (d1 : Nat) (h1 : Hits) (p2 : Option Addr) (c2 : Nat) (q2 : Option Addr) (d2 : Nat) (h2 : Hits), W'.rangeAt w7.heap.size (k * 8) (listEnc (hitsCells p1 c1 q1 d1 h1 ++ hitsCells p2 c2 q2 d2 h2)) ∧ HitsAt (fun _ => True) W' p1 q1 h1 ∧ HitsAt (fun _ => True) W' p2 q2 h2 ∧ h1.links.length + h2.links.length ≤ 100) := Lib.hid (fun W' hk k hk4 => by
    have hg := hk.obj hG id
    have hkk := (HK.out.trans HK7.out).trans (hk8.trans hk)
    obtain ⟨_, _, _, _, _, e1, a1, _⟩ := SA.out
    obtain ⟨_, _, _, _, _, e2, a2, _⟩ := SB.out
    have hA : HitsAt (fun _ => True) W' pa qa ⟨ab, al, au, ao⟩ := HA0.out.still hkk
    have hB : HitsAt (fun _ => True) W' pb qb ⟨bb, bl, bu, bo⟩ := HB0.out.still hkk
    have hX := HX.out.still (hk8.trans hk)
    have hY := HY.out.still (hk8.trans hk)
    match k, hk4 with
    | 0, _ => exact ⟨pa, ca, qa, da, ⟨ab, al, au, ao⟩, pb, cb, qb, db, ⟨bb, bl, bu, bo⟩, range_mid hg [] _ rfl _ rfl, hA, hB, by simp only; omega⟩
    | 1, _ => exact ⟨px, cx, qx, dx, ⟨xb, xl, xu, xo⟩, py, cy, qy, dy, ⟨yb, yl, yu, yo⟩, range_mid hg ([.slice pa ab.length ca, .slice qa al.length da, .int .i64 au, .int .i64 ao, .slice pb bb.length cb, .slice qb bl.length db, .int .i64 bu, .int .i64 bo, .slice px xb.length cx, .slice qx xl.length dx, .int .i64 xu, .int .i64 xo, .slice py yb.length cy, .slice qy yl.length dy, .int .i64 yu, .int .i64 yo, .slice pa ab.length ca, .slice qa al.length da, .int .i64 au, .int .i64 ao, .slice pa ab.length ca, .slice qa al.length da, .int .i64 au, .int .i64 ao, .slice px xb.length cx, .slice qx xl.length dx, .int .i64 xu, .int .i64 xo, .slice pa ab.length ca, .slice qa al.length da, .int .i64 au, .int .i64 ao].take 8) _ rfl _ rfl, hX, hY, by simp only; omega⟩
    | 2, _ => exact ⟨pa, ca, qa, da, ⟨ab, al, au, ao⟩, pa, ca, qa, da, ⟨ab, al, au, ao⟩, range_mid hg ([.slice pa ab.length ca, .slice qa al.length da, .int .i64 au, .int .i64 ao, .slice pb bb.length cb, .slice qb bl.length db, .int .i64 bu, .int .i64 bo, .slice px xb.length cx, .slice qx xl.length dx, .int .i64 xu, .int .i64 xo, .slice py yb.length cy, .slice qy yl.length dy, .int .i64 yu, .int .i64 yo, .slice pa ab.length ca, .slice qa al.length da, .int .i64 au, .int .i64 ao, .slice pa ab.length ca, .slice qa al.length da, .int .i64 au, .int .i64 ao, .slice px xb.length cx, .slice qx xl.length dx, .int .i64 xu, .int .i64 xo, .slice pa ab.length ca, .slice qa al.length da, .int .i64 au, .int .i64 ao].take 16) _ rfl _ rfl, hA, hA, by simp only; omega⟩
    | 3, _ => exact ⟨px, cx, qx, dx, ⟨xb, xl, xu, xo⟩, pa, ca, qa, da, ⟨ab, al, au, ao⟩, range_mid hg ([.slice pa ab.length ca, .slice qa al.length da, .int .i64 au, .int .i64 ao, .slice pb bb.length cb, .slice qb bl.length db, .int .i64 bu, .int .i64 bo, .slice px xb.length cx, .slice qx xl.length dx, .int .i64 xu, .int .i64 xo, .slice py yb.length cy, .slice qy yl.length dy, .int .i64 yu, .int .i64 yo, .slice pa ab.length ca, .slice qa al.length da, .int .i64 au, .int .i64 ao, .slice pa ab.length ca, .slice qa al.length da, .int .i64 au, .int .i64 ao, .slice px xb.length cx, .slice qx xl.length dx, .int .i64 xu, .int .i64 xo, .slice pa ab.length ca, .slice qa al.length da, .int .i64 au, .int .i64 ao].take 24) [] rfl _ rfl, hX, hA, by simp only; omega⟩)
  have HK8 := Lib.hid (HK7.out.trans hk8)
  have hG8 := heap_lt hG
  clear hw8 hG hk8 HX HY RA RB R1 R2 HK7 H0 HC2 HK2
  go_loopw [89] (EachPair w8) (fun i _ => 4 - (intOf i).toNat)
  case atStart => exact ⟨0, rfl, by omega, Keep.refl _ _⟩
  case round =>
    obtain ⟨k, rfl, hk, hkp⟩ := hrel
    have HKP := Lib.hid hkp
    clear hkp
    by_cases hlt : k < 4
    · obtain ⟨p1, c1, q1, d1, h1, p2, c2, q2, d2, h2, hrg, ha1, ha2, hll⟩ := HPAIR.out wr HKP.out k hlt
      have HA1 := Lib.hid ha1
      have HA2 := Lib.hid ha2
      have HRG := Lib.hid hrg
      have hlt' : (k : Int) < 4 := by omega
      generalize hsum : addR h1 h2 = sm
      have HSUM := Lib.hid hsum
      obtain ⟨⟨sb, sl, su, so⟩, se⟩ := sm
      obtain ⟨h1, l1, u1, o1⟩ := h1
      obtain ⟨h2, l2, u2, o2⟩ := h2
      simp only at hll
      clear ha1 ha2 hrg hsum
      go_wp2_with (first
        | ((with_reducible (show wpList _ _ _ (⟨some 92, .load 42 _, _, _, _, none⟩ :: _) _ _)); refine wpList_loadEl (enc := listEnc) (size := 8) rfl 42 _ rfl _ _ rfl [.slice p1 h1.length c1, .slice q1 l1.length d1, .int .i64 u1, .int .i64 o1, .slice p2 h2.length c2, .slice q2 l2.length d2, .int .i64 u2, .int .i64 o2] _ HRG.out rfl Try.underlying42 rfl Try.sizePair (.agg #[.slice p1 h1.length c1, .slice q1 l1.length d1, .int .i64 u1, .int .i64 o1, .slice p2 h2.length c2, .slice q2 l2.length d2, .int .i64 u2, .int .i64 o2]) rfl ?_)
        | ((with_reducible (show wpList _ _ _ (⟨_, .store 42 _ _, _, _, _, none⟩ :: _) _ _)); (refine wpList_storeObj rfl 42 _ _ rfl wr.heap.size rfl [.slice none 0 0, .slice none 0 0, .int .i64 0, .int .i64 0, .slice none 0 0, .slice none 0 0, .int .i64 0, .int .i64 0] [.slice p1 h1.length c1, .slice q1 l1.length d1, .int .i64 u1, .int .i64 o1, .slice p2 h2.length c2, .slice q2 l2.length d2, .int .i64 u2, .int .i64 o2] rfl _ (by simp) (heap_alloc_new _ _) 8 Try.sizePair rfl (by simp [Value.oneCell']) ?_); intro w9 hres9 hk9 hs9; have HRES9 := Lib.hid hres9; have HK9 := Lib.hid (((Keep.refl None wr).alloc _).andThen hk9 (by intro k h1 h2; omega)); have hwr9 := heap_lt hres9; clear hres9 hk9 hs9)
        | ((with_reducible (show wpList _ _ _ (⟨some 95, .load 40 _, _, _, _, _⟩ :: _) _ _)); refine wpList_loadEl (enc := listEnc) (size := 4) rfl 40 _ rfl _ _ rfl [.slice p1 h1.length c1, .slice q1 l1.length d1, .int .i64 u1, .int .i64 o1] _ (range_mid HRES9.out [] _ rfl _ rfl) rfl Try.underlying40 rfl Try.sizeHits (.agg #[.slice p1 h1.length c1, .slice q1 l1.length d1, .int .i64 u1, .int .i64 o1]) rfl ?_)
        | ((with_reducible (show wpList _ _ _ (⟨some 97, .load 40 _, _, _, _, _⟩ :: _) _ _)); refine wpList_loadEl (enc := listEnc) (size := 4) rfl 40 _ rfl _ _ rfl [.slice p2 h2.length c2, .slice q2 l2.length d2, .int .i64 u2, .int .i64 o2] _ (range_mid HRES9.out [.slice p1 h1.length c1, .slice q1 l1.length d1, .int .i64 u1, .int .i64 o1] [] rfl _ rfl) rfl Try.underlying40 rfl Try.sizeHits (.agg #[.slice p2 h2.length c2, .slice q2 l2.length d2, .int .i64 u2, .int .i64 o2]) rfl ?_)
        | (go_at_call 12; refine (add_calls (fun _ => True) (fun _ => True) p1 q1 p2 q2 c1 d1 c2 d2 ⟨h1, l1, u1, o1⟩ ⟨h2, l2, u2, o2⟩ w9 (HA1.out.still HK9.out) (HA2.out.still HK9.out) hll).mono ?_; rintro e w10 ⟨ps, cs, qs, ds, rfl, hat10, hk10⟩; rw [HSUM.out] at hat10 ⊢; simp only [hitsVal]; have HAT10 := Lib.hid hat10; have HR10 := Lib.hid (hk10.obj HRES9.out id); have HK10 := Lib.hid (HK9.out.trans hk10); clear hat10 hk10)
        | ((with_reducible (show wpList _ _ _ (⟨_, .store 40 (.tmp 13) _, _, _, _, none⟩ :: _) _ _)); (refine wpList_storeObj rfl 40 _ _ rfl w10.heap.size rfl [.slice none 0 0, .slice none 0 0, .int .i64 0, .int .i64 0] [.slice ps sb.length cs, .slice qs sl.length ds, .int .i64 su, .int .i64 so] rfl _ (by simp) (heap_alloc_new _ _) 4 Try.sizeHits rfl (by simp [Value.oneCell']) ?_); intro w11 hres11 hk11 hs11; have HRES11 := Lib.hid hres11; have HK11 := Lib.hid (((Keep.refl None w10).alloc _).andThen hk11 (by intro k h1 h2; omega)); have HR11 := Lib.hid (HK11.out.obj HR10.out id); clear hres11 hk11 hs11)
        | ((with_reducible (show wpList _ _ _ (⟨some 103, .load 40 _, _, _, _, _⟩ :: _) _ _)); refine wpList_loadEl (enc := listEnc) (size := 4) rfl 40 _ rfl _ _ rfl [.slice p1 h1.length c1, .slice q1 l1.length d1, .int .i64 u1, .int .i64 o1] _ (range_mid HR11.out [] _ rfl _ rfl) rfl Try.underlying40 rfl Try.sizeHits (.agg #[.slice p1 h1.length c1, .slice q1 l1.length d1, .int .i64 u1, .int .i64 o1]) rfl ?_)
        | ((with_reducible (show wpList _ _ _ (⟨some 105, .load 40 _, _, _, _, _⟩ :: _) _ _)); refine wpList_loadEl (enc := listEnc) (size := 4) rfl 40 _ rfl _ _ rfl [.slice p2 h2.length c2, .slice q2 l2.length d2, .int .i64 u2, .int .i64 o2] _ (range_mid HR11.out [.slice p1 h1.length c1, .slice q1 l1.length d1, .int .i64 u1, .int .i64 o1] [] rfl _ rfl) rfl Try.underlying40 rfl Try.sizeHits (.agg #[.slice p2 h2.length c2, .slice q2 l2.length d2, .int .i64 u2, .int .i64 o2]) rfl ?_)
        | (go_at_call 13; refine (addRef_calls (fun _ => True) (fun _ => True) p1 q1 p2 q2 c1 d1 c2 d2 ⟨h1, l1, u1, o1⟩ ⟨h2, l2, u2, o2⟩ w11 (HA1.out.still (HK10.out.trans HK11.out)) (HA2.out.still (HK10.out.trans HK11.out)) hll).mono ?_; rintro e w12 ⟨ps2, cs2, qs2, ds2, rfl, hat12, hk12⟩; rw [HSUM.out] at hat12 ⊢; simp only [hitsVal]; have HAT12 := Lib.hid hat12; have HR12 := Lib.hid (hk12.obj HRES11.out id); have HK12 := Lib.hid (HK11.out.trans hk12); clear hat12 hk12)
        | ((with_reducible (show wpList _ _ _ (⟨_, .store 40 (.tmp 15) _, _, _, _, none⟩ :: _) _ _)); (refine wpList_storeObj rfl 40 _ _ rfl w12.heap.size rfl [.slice none 0 0, .slice none 0 0, .int .i64 0, .int .i64 0] [.slice ps2 sb.length cs2, .slice qs2 sl.length ds2, .int .i64 su, .int .i64 so] rfl _ (by simp) (heap_alloc_new _ _) 4 Try.sizeHits rfl (by simp [Value.oneCell']) ?_); intro w13 hres13 hk13 hs13; have HRES13 := Lib.hid hres13; have HK13 := Lib.hid (((Keep.refl None w12).alloc _).andThen hk13 (by intro k h1 h2; omega)); have HR13 := Lib.hid (HK13.out.obj HR12.out id); clear hres13 hk13 hs13)
        | ((with_reducible (show wpList _ _ _ (⟨some 113, .load 40 _, _, _, _, _⟩ :: _) _ _)); refine wpList_loadElG (enc := listEnc) (size := 4) rfl 40 _ rfl _ _ rfl [.slice ps sb.length cs, .slice qs sl.length ds, .int .i64 su, .int .i64 so] _ (range_of_obj HR13.out) rfl Try.underlying40 rfl Try.sizeHits (.agg #[.slice ps sb.length cs, .slice qs sl.length ds, .int .i64 su, .int .i64 so]) rfl ?_)
        | ((with_reducible (show wpList _ _ _ (⟨some 114, .load 40 _, _, _, _, _⟩ :: _) _ _)); refine wpList_loadElG (enc := listEnc) (size := 4) rfl 40 _ rfl _ _ rfl [.slice ps2 sb.length cs2, .slice qs2 sl.length ds2, .int .i64 su, .int .i64 so] _ (range_of_obj HRES13.out) rfl Try.underlying40 rfl Try.sizeHits (.agg #[.slice ps2 sb.length cs2, .slice qs2 sl.length ds2, .int .i64 su, .int .i64 so]) rfl ?_)
        | (go_at_call 14; refine (same_calls _ _ ps qs ps2 qs2 cs ds cs2 ds2 ⟨sb, sl, su, so⟩ w13 (HAT10.out.still (HK12.out.trans HK13.out)) (HAT12.out.still HK13.out)).mono ?_; rintro e w14 ⟨rfl, hk14⟩; have HK14 := Lib.hid hk14; clear hk14))
      go_roundw
      case rel => exact ⟨k + 1, by go_num, by omega, HKP.out.trans ((HK10.out.trans (HK12.out.trans HK13.out)).trans HK14.out)⟩
      case measure => simp [intOf]; omega
    · have hke : k = 4 := by omega
      subst hke
      go_wp2_with (fail)
      go_ret
      exact ⟨rfl, (HK.out.trans HK8.out).trans HKP.out⟩

end Go.Proofs.Ytlhmajjmhkjcoaa
