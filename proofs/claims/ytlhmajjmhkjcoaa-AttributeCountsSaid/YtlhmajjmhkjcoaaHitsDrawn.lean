/-
  Chapter 23: hits that are drawn.
-/
import Derived.Test.YtlhmajjmhkjcoaaSamples
import Derived.Test.YtlhmajjmhkjcoaaColRef
import Derived.Test.YtlhmajjmhkjcoaaPlaces
namespace Go.Proofs.Ytlhmajjmhkjcoaa
open Go.RowKit

/-- The hits in block g. -/
def HSt (lo g : Nat) (ne : Bool) (w : World) : Prop :=
  ∃ (p : Option Addr) (c : Nat) (lns : List Int) (q : Option Addr) (d : Nat) (lk : List Lk) (u o : Int), w.heap[g]? = some (.cells #[.slice p lns.length c, .slice q lk.length d, .int .i64 u, .int .i64 o] 40 (0, 0)) ∧ lo ≤ g ∧
    WRows lo w (.slice p lns.length c) lns ∧ Own Lk.enc 4 72 lo w (.slice q lk.length d) lk ∧ lk.length ≤ 27 ∧ lns.length ≤ 3 ∧ (ne = true → 0 < lns.length)

theorem HSt.keep {lo g : Nat} {ne : Bool} {w w' : World} {S : Nat → Prop} (h : HSt lo g ne w) (k : Keep S w w') (hs : ∀ x, S x → x < lo) : HSt lo g ne w' := by
  obtain ⟨p, c, lns, q, d, lk, u, o, h1, h2, h3, h4, h5⟩ := h
  exact ⟨p, c, lns, q, d, lk, u, o, k.obj h1 (fun hg => by have := hs g hg; omega), h2, h3.keep k (fun b hb hsb => by have := hs b hsb; omega), h4.keepOld k hs, h5⟩

theorem HSt.weak {lo g : Nat} {ne : Bool} {w : World} (h : HSt lo g ne w) : HSt lo g false w := by
  obtain ⟨p, c, lns, q, d, lk, u, o, h1, h2, h3, h4, h5, h6, h7⟩ := h
  exact ⟨p, c, lns, q, d, lk, u, o, h1, h2, h3, h4, h5, h6, by simp⟩

/-- At the end there may be one link or one row more. -/
def HEnd (lo g : Nat) (w : World) : Prop :=
  ∃ (p : Option Addr) (c : Nat) (lns : List Int) (q : Option Addr) (d : Nat) (lk : List Lk) (u o : Int), w.heap[g]? = some (.cells #[.slice p lns.length c, .slice q lk.length d, .int .i64 u, .int .i64 o] 40 (0, 0)) ∧ lo ≤ g ∧
    WRows lo w (.slice p lns.length c) lns ∧ Own Lk.enc 4 72 lo w (.slice q lk.length d) lk ∧ lk.length ≤ 28 ∧ lns.length ≤ 4

theorem HSt.fin {lo g : Nat} {ne : Bool} {w : World} (h : HSt lo g ne w) : HEnd lo g w := by
  obtain ⟨p, c, lns, q, d, lk, u, o, h1, h2, h3, h4, h5, h6, h7⟩ := h
  exact ⟨p, c, lns, q, d, lk, u, o, h1, h2, h3, h4, by omega, by omega⟩

theorem typed_obj {w : World} {g : Nat} {C : Array Value} {e : TypeId} {fr : Nat × Nat} (h : w.heap[g]? = some (.cells C e fr)) : Typed w e g := ⟨C, fr, h⟩

/-- A store into the block of the hits. -/
theorem HEnd.mk {lo g : Nat} {w : World} (j : Nat) (v : Value) (p : Option Addr) (c : Nat) (lns : List Int) (q : Option Addr) (d : Nat) (lk : List Lk) (u o : Int) (C : Array Value) (h1 : w.heap[g]? = some (.cells C 40 (0, 0))) (hC : C.setIfInBounds j v = #[.slice p lns.length c, .slice q lk.length d, .int .i64 u, .int .i64 o]) (h2 : lo ≤ g)
    (h3 : WRows lo w (.slice p lns.length c) lns) (h4 : Own Lk.enc 4 72 lo w (.slice q lk.length d) lk) (h5 : lk.length ≤ 28) (h6 : lns.length ≤ 4) : HEnd lo g (w.setCell ⟨g, j, none⟩ v) := by
  have hk : Keep (· = g) w (w.setCell ⟨g, j, none⟩ v) := (Keep.refl (· = g) w).setCell (p := ⟨g, j, none⟩) (.inl rfl) _
  refine ⟨p, c, lns, q, d, lk, u, o, by rw [← hC]; exact heap_setCell' h1, h2, h3.keep hk (fun b _ hb => ?_), h4.keep hk (fun b hb hbg => (h4.typed hb).ne (typed_obj h1) (by decide) hbg), h5, h6⟩
  subst hb
  exact ⟨fun h => h.ne (typed_obj h1) (by decide) rfl, fun h => h.ne (typed_obj h1) (by decide) rfl⟩

theorem HSt.row {lo g : Nat} {ne : Bool} {w : World} (h : HSt lo g ne w) {b j : Nat} {r : List Int} (hb : Arr intEnc 3 w b r) (hj : j < r.length) (x : Int) : HSt lo g ne (w.setCell ⟨b, j, none⟩ (.int .i64 x)) := by
  have hk : Keep (· = b) w (w.setCell ⟨b, j, none⟩ (.int .i64 x)) := (Keep.refl (· = b) w).setCell (p := ⟨b, j, none⟩) (.inl rfl) _
  obtain ⟨p, c, lns, q, d, lk, u, o, h1, h2, h3, h4, h5⟩ := h
  exact ⟨p, c, lns, q, d, lk, u, o, hk.obj h1 (fun e => (typed_obj h1).ne hb.typed (by decide) e), h2, h3.set hb hj x, h4.keep hk (fun g hg e => (h4.typed hg).ne hb.typed (by decide) e), h5⟩

def Good (b bl lo g : Nat) (ne : Bool) (W w : World) : Prop := (∃ r, CodesAt w b bl r) ∧ HSt lo g ne w ∧ Keep (fun x => x = b ∨ lo ≤ x) W w
def GoodEnd (b bl lo g : Nat) (W w : World) : Prop := (∃ r, CodesAt w b bl r) ∧ HEnd lo g w ∧ Keep (fun x => x = b ∨ lo ≤ x) W w

def HitsPost (b bl : Nat) (w : World) (e : Ending) (w' : World) : Prop :=
  ∃ (p : Option Addr) (c : Nat) (q : Option Addr) (d : Nat) (h : Hits) (r : List Int), e = .returned (hitsVal p c q d h) ∧ HitsAt (fun x => w.heap.size ≤ x ∧ NB w' x) w' p q h ∧ h.links.length ≤ 28 ∧ h.blocks.length ≤ 4 ∧ CodesAt w' b bl r ∧ Keep (· = b) w w'

def SmpMade (lo : Nat) (w : World) (v : Value) : Prop := ∃ p l c, v = .slice p (l : List Smp).length c ∧ Own Smp.enc 4 62 lo w (.slice p l.length c) l ∧ (∀ s ∈ l, ChainAt lo w s) ∧ l.length ≤ 9
theorem smpMade_keep (b lo : Nat) (hb : b < lo) : ∀ w w' v, Keep (· = b) w w' → SmpMade lo w v → SmpMade lo w' v := fun w w' v hk ⟨p, l, c, h1, h2, h3, h4⟩ =>
  ⟨p, l, c, h1, h2.keepOld hk (fun g hg => by omega), fun s hs => (h3 s hs).keep hk (fun g h1 _ h3 => by omega), h4⟩
def ColMade (lo n : Nat) (sh : List Int) (w : World) (v : Value) : Prop := ∃ p c q d lk u o, v = .agg #[.slice p n c, .slice q (lk : List Lk).length d, .int .i64 u, .int .i64 o] ∧ WRows lo w (.slice p n c) sh ∧ Own Lk.enc 4 72 lo w (.slice q lk.length d) lk ∧ lk.length ≤ 27
theorem colMade_keep (b lo n : Nat) (sh : List Int) (hb : b < lo) : ∀ w w' v, Keep (· = b) w w' → ColMade lo n sh w v → ColMade lo n sh w' v := fun w w' v hk ⟨p, c, q, d, lk, u, o, h1, h2, h3, h4⟩ =>
  ⟨p, c, q, d, lk, u, o, h1, h2.keep hk (fun x hx hxb => by omega), h3.keepOld hk (fun g hg => by omega), h4⟩
def BoxMade (lo : Nat) (w : World) (v : Value) : Prop := ∃ g, v = .pointer (some ⟨g, 0, none⟩) ∧ lo ≤ g ∧ w.heap[g]? = some (.cells #[.slice none 0 0, .slice none 0 0, .int .i64 0, .int .i64 0] 40 (0, 0))
theorem boxMade_keep (b lo : Nat) (hb : b < lo) : ∀ w w' v, Keep (· = b) w w' → BoxMade lo w v → BoxMade lo w' v := fun w w' v hk ⟨g, h1, h2, h3⟩ => ⟨g, h1, h2, hk.obj h3 (by omega)⟩
def LkVal (_ : World) (v : Value) : Prop := ∃ x : Lk, v = .agg #[.int .i64 x.func, .int .i64 x.block, .int .i64 x.callee, .int .i64 x.count]
theorem lkVal_keep (S : Nat → Prop) : ∀ w w' v, Keep S w w' → LkVal w v → LkVal w' v := fun _ _ _ _ h => h
def LkMade (lo : Nat) (w : World) (v : Value) : Prop := ∃ h, ∃ x : Lk, v = .slice (some ⟨h, 0, none⟩) 1 1 ∧ lo ≤ h ∧ w.heap[h]? = some (.cells x.enc.toArray 72 (0, 0))
theorem lkMade_keep (b lo : Nat) (hb : b < lo) : ∀ w w' v, Keep (· = b) w w' → LkMade lo w v → LkMade lo w' v := fun w w' v hk ⟨g, x, h1, h2, h3⟩ => ⟨g, x, h1, h2, hk.obj h3 (by omega)⟩

set_option maxRecDepth 100000 in
set_option maxHeartbeats 8000000 in
theorem hits_calls (b bl : Nat) (r : List Int) (v : Value) (n : Nat) (ps : List Pl) (w : World) (h : CodesAt w b bl r) (hi : ImgV w v n ps) (hn : n ≤ 3) (ho : OffS (· = b) (imgAddr v)) :
    Calls Try.prog 11 #[.pointer (some ⟨b, 0, none⟩), v] w (HitsPost b bl w) := by
  obtain ⟨i1, hi1, hy0, hy1, hy2⟩ := info_parts Try.infoInt
  obtain ⟨i3, hi3, hx0, hx1, hx2⟩ := info_parts Try.infoLk
  obtain ⟨i4, hi4, hz0, hz1, hz2⟩ := info_parts Try.infoRow
  obtain ⟨hbw, hblb⟩ := h.lt
  have HH := Lib.hid h
  have HIM := Lib.hid hi
  obtain ⟨⟨p0, n0, c0, p1, c1, p2, n2, c2, p3, n3, c3, k4, k5, p6, n6, c6, p7, c7, rfl, -⟩, -, -, -⟩ := hi
  clear h
  go_enter Try.func11, Try.ntmps11
  go_wp2_with (fail)
  generalize hW : World.alloc _ _ = W
  have hkW : Keep None w W := by rw [← hW]; exact ((Keep.refl _ _).alloc _).alloc _
  have hB0 : W.heap[w.heap.size]? = some (.cells #[.slice p0 n0 c0, .slice p1 n c1, .slice p2 n2 c2, .slice p3 n3 c3, .int .i64 k4, .int .i64 k5, .slice p6 n6 c6, .slice p7 ps.length c7] 29 (0, 0)) := by rw [← hW]; exact ((Keep.refl None _).alloc _).obj (heap_alloc_new _ _) id
  have hB1 : W.heap[w.heap.size + 1]? = some (.cells #[.slice none 0 0, .slice none 0 0, .int .i64 0, .int .i64 0] 40 (0, 0)) := by rw [← hW]; exact alloc_at (by simp)
  have hsW : W.heap.size = w.heap.size + 2 := by rw [← hW]; simp
  have HKW := Lib.hid hkW
  have HB0 := Lib.hid hB0
  have HB1 := Lib.hid hB1
  have HSW := Lib.hid hsW
  have hlw : w.heap.size < W.heap.size := by omega
  clear hW hkW hB0 hB1 hsW
  have hbW : b < W.heap.size := by omega
  have HSN := Lib.hid (shapeL_len n ps)
  generalize hsh : shapeL n ps = sh at *
  have HSH := Lib.hid hsh
  clear hsh
  refine region_kindsG_tail (· = b) [.is (.agg #[.slice p0 n0 c0, .slice p1 n c1, .slice p2 n2 c2, .slice p3 n3 c3, .int .i64 k4, .int .i64 k5, .slice p6 n6 c6, .slice p7 ps.length c7]), .is (.pointer (some ⟨b, 0, none⟩)), .sat (SmpMade W.heap.size) (smpMade_keep b _ hbW), .sat (ColMade W.heap.size n sh) (colMade_keep b _ _ _ hbW), .sat (BoxMade W.heap.size) (boxMade_keep b _ hbW), .any]
    (fun w' => (∃ r, CodesAt w' b bl r) ∧ Keep (· = b) W w') 85 5 (by kernel_rfl) (by decide) (by kernel_rfl) (by kernel_rfl) (by kernel_rfl) rfl (by kernel_rfl) ⟨⟨_, (HH.out.still HKW.out).still (Keep.refl _ _).drew⟩, (Keep.refl _ _).drew⟩ ?_ ?_
  · refine ⟨?_, ?_, ?_, ?_, ?_, trivial⟩
    · exact st_free rfl (st_loadD 29 w.heap.size 0 [.slice p0 n0 c0, .slice p1 n c1, .slice p2 n2 c2, .slice p3 n3 c3, .int .i64 k4, .int .i64 k5, .slice p6 n6 c6, .slice p7 ps.length c7] rfl (dep_f rfl rfl) (fun w' hI => range_of_obj (hI.2.obj HB0.out (by omega))) _ Try.underlying29 rfl 8 Try.sizeImg rfl rfl)
    · exact st_free rfl (st_ev1 (dep_f (t := 0) rfl rfl) _ (by intro a w' h1 hI; go_simp) rfl)
    · refine st_free rfl (st_callD1 (dep_e 1 rfl rfl rfl) 25 #[.pointer (some ⟨b, 0, none⟩), .int .i64 9, .int .i64 30] (by intro a w' h1; go_simp) ?_)
      rintro w' ⟨⟨rr, hcc⟩, hI⟩
      refine (samples_calls b bl 9 30 rr w' hcc (by omega) (by omega) (by omega)).mono ?_
      rintro e w'' ⟨p, l, c, r7, rfl, a1, a2, a3, a4, a5⟩
      refine ⟨_, rfl, ⟨p, l, c, rfl, a1.lower hI.size, fun s hs => ?_, a3⟩, ⟨⟨r7, a4⟩, hI.trans a5⟩, a5⟩
      obtain ⟨q1, q2⟩ := a2 s hs
      exact ⟨q1.imp id fun ⟨g, e1, e2, e3⟩ => ⟨g, e1, Nat.le_trans hI.size e2, e3⟩, q2⟩
    · refine st_free rfl (st_callES (dep_e 0 rfl rfl rfl) (dep_s 2 rfl rfl rfl) 24 (fun u => #[.agg #[.slice p0 n0 c0, .slice p1 n c1, .slice p2 n2 c2, .slice p3 n3 c3, .int .i64 k4, .int .i64 k5, .slice p6 n6 c6, .slice p7 ps.length c7], u]) (by intro a w' v' h1 h2; go_simp) ?_)
      rintro w' v' ⟨⟨rr, hcc⟩, hkk⟩ ⟨p, l, c, rfl, e1, e2, e3⟩
      have him : ImgV w' (.agg #[.slice p0 n0 c0, .slice p1 n c1, .slice p2 n2 c2, .slice p3 n3 c3, .int .i64 k4, .int .i64 k5, .slice p6 n6 c6, .slice p7 ps.length c7]) n ps := (HIM.out.keep HKW.out).keepOff hkk ho
      obtain ⟨_, _, _, hsl, _⟩ := e1.reads Smp.enc_len
      refine (refCollect_calls _ n ps p l c w' him ⟨hsl, fun s hs => (e2 s hs).ok, e3⟩).mono ?_
      rw [HSH.out]
      rintro e w'' ⟨pp, cc, qq, dd, lk, u, o, rfl, b1, b2, b3, b4⟩
      have hk' : Keep (· = b) w' w'' := b4.weaken (fun _ _ q => q.elim)
      refine ⟨_, rfl, ⟨pp, cc, qq, dd, lk, u, o, by rw [HSN.out], by rw [HSN.out] at b1; exact b1.lower hkk.size, b2.lower hkk.size, b3⟩, ⟨⟨rr, hcc.still b4⟩, hkk.trans hk'⟩, hk'⟩
    · refine st_free rfl (st_alloc 40 #[.slice none 0 0, .slice none 0 0, .int .i64 0, .int .i64 0] (by intro a w'; go_simp) ?_)
      rintro w' ⟨⟨rr, hcc⟩, hkk⟩
      exact ⟨⟨w'.heap.size, rfl, hkk.size, heap_alloc_new _ _⟩, ⟨rr, hcc.still ((Keep.refl _ _).alloc _)⟩, hkk.alloc _⟩
  intro f w1 hkinds hI
  obtain ⟨pp, cc, qq, dd, lk, u, o, k11, e1, e2, e3⟩ : ColMade W.heap.size n sh w1 (f 11) := hkinds 3 _ 11 (by omega) rfl rfl
  obtain ⟨g, k5, hg, hgo⟩ : BoxMade W.heap.size w1 (f 5) := hkinds 4 _ 5 (by omega) rfl rfl
  simp only [putsOf, Act.put, List.take_succ_cons, List.take_zero, List.drop_succ_cons, List.drop_zero, List.setIfInBounds_toArray, List.set_cons_zero, List.set_cons_succ, k11, k5]
  clear hkinds k11 k5
  obtain ⟨⟨rr, hcc⟩, hkk⟩ := hI
  have HE1 := Lib.hid e1
  have HE2 := Lib.hid e2
  have HGO := Lib.hid hgo
  have HCC := Lib.hid hcc
  have HKK := Lib.hid hkk
  have hlen := e1.len
  clear e1 e2 hgo hcc hkk
  refine wpList_storeObj rfl 40 _ _ rfl g rfl [.slice none 0 0, .slice none 0 0, .int .i64 0, .int .i64 0] [.slice pp n cc, .slice qq lk.length dd, .int .i64 u, .int .i64 o] rfl _ (by simp) HGO.out 4 Try.sizeHits rfl (by simp [Value.oneCell']) ?_
  intro w2 hres hk2 hs2
  have HRES := Lib.hid hres
  have HK2 := Lib.hid hk2
  clear hres hk2 hs2
  simp only [Act.put]
  go_upto_region 2 with (fail)
  have hgood : Good b bl W.heap.size g (decide (0 < n)) W w2 := by
    have hk2 := HK2.out
    refine ⟨⟨rr, HCC.out.keep hk2 (by omega) (by omega)⟩, ⟨pp, cc, sh, qq, dd, lk, u, o, by rw [← hlen]; exact HRES.out, hg, ?_, ?_, e3, by omega, by simp; omega⟩, (HKK.out.weaken (fun x _ hx => .inl hx)).trans (hk2.weaken (fun x _ hx => by have : x = g := hx; right; omega))⟩
    · rw [← hlen]
      refine HE1.out.keep hk2 (fun x _ hx => ?_)
      subst hx
      exact ⟨fun h => h.ne (typed_obj HGO.out) (by decide) rfl, fun h => h.ne (typed_obj HGO.out) (by decide) rfl⟩
    · exact HE2.out.keep hk2 (fun x hx hxg => (HE2.out.typed hx).ne (typed_obj HGO.out) (by decide) hxg)
  have HG := Lib.hid hgood
  clear hgood HE1 HE2 HGO HCC HKK HRES HK2 hlen
  have hbg : b < g := by omega
  have hlb : bl < W.heap.size := by omega
  go_cut [20] (fun t20 wx => ∃ bo : Bool, t20 = .bool bo ∧ Good b bl W.heap.size g bo W wx)
  case first =>
    obtain ⟨⟨rr, hcc⟩, hst, hkk⟩ := HG.out
    obtain ⟨p, c, lns, q, d, lk, u, o, h1, h2, h3, h4, h5, h6, h7⟩ := hst
    have c0 : w2.cell? ⟨g, 0, none⟩ = some (.slice p lns.length c) := by simp [World.cell?, h1]
    have HCC := Lib.hid hcc
    have HKK := Lib.hid hkk
    have HST : Hid (∀ ne, (ne = true → 0 < lns.length) → HSt W.heap.size g ne w2) := Lib.hid (fun ne hne => ⟨p, c, lns, q, d, lk, u, o, h1, h2, h3, h4, h5, h6, hne⟩)
    clear hcc hkk h1 h2 h3 h4 h5 h7
    by_cases h0 : 0 < lns.length
    · have h0' : (0 : Int) < lns.length := by omega
      go_wp2_with (go_at_call 15; refine (next_ex b bl _ rr _ HCC.out (by omega) (by omega)).mono ?_; rintro e w3 ⟨m3, r3, rfl, hc3, hk3, hm0, hm1⟩; have HC3 := Lib.hid hc3; have HK3 := Lib.hid hk3; clear hc3 hk3)
      go_meet
      case rel =>
        refine ⟨_, rfl, ⟨r3, HC3.out⟩, (HST.out _ (fun _ => h0)).keep HK3.out (fun x hx => by omega), HKK.out.trans (HK3.out.weaken (fun x _ hx => .inl hx))⟩
    · have h0' : lns.length = 0 := by omega
      rw [h0'] at c0
      go_wp2_with (fail)
      go_meet
      case rel =>
        exact ⟨_, rfl, ⟨rr, HCC.out⟩, HST.out _ (by simp), HKK.out⟩
  case rest =>
    obtain ⟨bo, rfl, hgood⟩ := hcut
    have HG := Lib.hid hgood
    clear hgood
    go_upto_if 20 with (fail)
    go_cut [] (fun wx => Good b bl W.heap.size g false W wx)
    case first =>
      obtain ⟨⟨rr, hcc⟩, hst, hkk⟩ := HG.out
      have HCC := Lib.hid hcc
      have HKK := Lib.hid hkk
      have HST := Lib.hid hst
      clear hcc hkk
      cases bo with
      | false =>
        go_wp2_with (fail)
        go_meet
        case rel => exact ⟨⟨rr, HCC.out⟩, HST.out.weak, HKK.out⟩
      | true =>
        obtain ⟨p, c, lns, q, d, lk, u, o, h1, h2, h3, h4, h5, h6, h7⟩ := hst
        have hlp : 0 < lns.length := h7 rfl
        have c0 : wc.cell? ⟨g, 0, none⟩ = some (.slice p lns.length c) := by simp [World.cell?, h1]
        have H1 := Lib.hid h1
        have H3 := Lib.hid h3
        clear h1 h2 h3 h4 h5 h7
        go_wp2_with (fail)
        refine (next_ex b bl _ rr _ HCC.out (by omega) (by omega)).mono ?_
        rintro e w3 ⟨F, r3, rfl, hc3, hk3, hF0, hF1⟩
        obtain ⟨F, rfl⟩ : ∃ k : Nat, F = k := ⟨F.toNat, by omega⟩
        have hFl : F < lns.length := by omega
        have HC3 := Lib.hid hc3
        have HK3 := Lib.hid hk3
        have H13 := Lib.hid (hk3.obj H1.out (by omega))
        have H33 := Lib.hid (H3.out.keep hk3 (fun x hx hxb => by omega))
        have c3' : w3.cell? ⟨g, 0, none⟩ = some (.slice p lns.length c) := by simp [World.cell?, hk3.obj H1.out (by omega)]
        clear hc3 hk3 c0
        obtain ⟨gs, rb, row, rfl, hgs, hcell, hrb, hra, hrl⟩ := H33.out.get2 hFl
        have HRA := Lib.hid hra
        have HCELL := Lib.hid hcell
        clear hra
        go_wp2_with (fail)
        · have hrp : 0 < row.length := by first | omega | (have : (0 : Int) < row.length := by assumption; omega)
          clear c3' hcell
          have HCI : Hid (∀ w', Keep (· = b) w3 w' → w'.cell? ⟨g, 0, none⟩ = some (.slice (some ⟨gs, 0, none⟩) lns.length c) ∧ w'.cell? ⟨gs, F, none⟩ = some (.slice (some ⟨rb, 0, none⟩) row.length row.length)) := Lib.hid (fun w' hk' => ⟨cell_of_row _ _ 0 _ _ _ (hk'.obj H13.out (by omega)), hk'.cell HCELL.out (by simp; omega)⟩)
          have hlm : lns.length ≤ 9223372036854775807 := by omega
          have hFi : (F : Int) < lns.length := by omega
          refine region_kindsG_tail (· = b) [.is (.pointer (some ⟨g, 0, none⟩)), .is (.slice (some ⟨gs, 0, none⟩) lns.length c), .is (.int .i64 F), .is (.pointer (some ⟨gs, F, none⟩)), .is (.slice (some ⟨rb, 0, none⟩) row.length row.length), .is (.pointer (some ⟨b, 0, none⟩)), .is (.int .i64 row.length), .sat (SubIn 0 row.length) (subIn_keep _ _ _), .is (.pointer (some ⟨b, 0, none⟩)), .int, .any, .any]
            (fun w' => (∃ r, CodesAt w' b bl r) ∧ Keep (· = b) w3 w') 85 10 (by kernel_rfl) (by decide) (by kernel_rfl) (by kernel_rfl) (by kernel_rfl) rfl (by kernel_rfl) ⟨⟨_, HC3.out.still (Keep.refl _ _).drew⟩, (Keep.refl _ _).drew⟩ ?_ ?_
          · refine ⟨?_, ?_, ?_, ?_, ?_, ?_, ?_, ?_, ?_, ?_, trivial⟩
            · exact st_free rfl (st_ev1 (dep_f (t := 5) rfl rfl) _ (by intro a w' h1 hI; go_simp) rfl)
            · exact st_free rfl (st_ev1 (dep_e 0 rfl rfl rfl) _ (by intro a w' h1 hI; obtain ⟨q0, -⟩ := HCI.out _ hI.2; go_simp) rfl)
            · exact st_free rfl (st_ev1 (dep_f (t := 6) rfl rfl) _ (by intro a w' h1 hI; go_simp) rfl)
            · exact st_free rfl (st_ev2 (dep_e 1 rfl rfl rfl) (dep_e 2 rfl rfl rfl) _ (by intro a w' h1 h2 hI; go_simp) rfl)
            · exact st_free rfl (st_ev1 (dep_e 3 rfl rfl rfl) _ (by intro a w' h1 hI; obtain ⟨-, q0⟩ := HCI.out _ hI.2; go_simp) rfl)
            · exact st_free rfl (st_ev1 (dep_f (t := 0) rfl rfl) _ (by intro a w' h1 hI; go_simp) rfl)
            · exact st_free rfl (st_ev1 (dep_f (t := 7) rfl rfl) _ (by intro a w' h1 hI; go_simp) rfl)
            · refine st_free rfl (st_callD2 (dep_e 5 rfl rfl rfl) (dep_e 6 rfl rfl rfl) 15 #[.pointer (some ⟨b, 0, none⟩), .int .i64 row.length] (by intro a w' h1 h2; go_simp) ?_)
              rintro w' ⟨⟨rr', hcc⟩, hI⟩
              refine (next_ex b bl _ rr' w' hcc (by omega) (by omega)).mono ?_
              rintro e w'' ⟨mm, r7, rfl, a1, a2, a3, a4⟩
              exact ⟨_, rfl, ⟨mm, rfl, a3, a4⟩, ⟨⟨r7, a1⟩, hI.trans a2⟩, a2⟩
            · exact st_free rfl (st_ev1 (dep_f (t := 0) rfl rfl) _ (by intro a w' h1 hI; go_simp) rfl)
            · refine st_free rfl (st_callD1 (dep_e 8 rfl rfl rfl) 16 #[.pointer (some ⟨b, 0, none⟩)] (by intro a w' h1; go_simp) ?_)
              rintro w' ⟨⟨rr', hcc⟩, hI⟩
              refine (int_any b bl rr' w' hcc).mono ?_
              rintro e w'' ⟨mm, r7, rfl, a1, a2⟩
              exact ⟨_, rfl, ⟨mm, rfl⟩, ⟨⟨r7, a1⟩, hI.trans a2⟩, a2⟩
          · intro f' w4 hkinds hI
            have k4 : f' 38 = .slice (some ⟨rb, 0, none⟩) row.length row.length := hkinds 4 _ 38 (by omega) rfl rfl
            obtain ⟨m7, k7, hm0, hm1⟩ : SubIn 0 row.length w4 (f' 41) := hkinds 7 _ 41 (by omega) rfl rfl
            obtain ⟨m9, k9⟩ : ∃ n, f' 43 = .int .i64 n := hkinds 9 _ 43 (by omega) rfl rfl
            simp only [putsOf, Act.put, List.take_succ_cons, List.take_zero, List.drop_succ_cons, List.drop_zero, List.setIfInBounds_toArray, List.set_cons_zero, List.set_cons_succ, k4, k7, k9]
            clear hkinds k4 k7 k9
            obtain ⟨⟨r7, hc7⟩, hki⟩ := hI
            obtain ⟨M7, rfl⟩ : ∃ k : Nat, m7 = k := ⟨m7.toNat, by omega⟩
            have hM : M7 < row.length := by omega
            have hra4 := HRA.out.keep hki (by omega)
            have hst4 := (HST.out.keep HK3.out (fun x hx => by omega)).keep hki (fun x hx => by omega)
            have hcx : w4.cell? ⟨rb, M7, none⟩ = some (.int .i64 (row[M7]'hM)) := by
              have := (hra4.slAt intEnc_len).int (List.getElem?_eq_getElem hM)
              simpa using this
            have hfx : w4.frozen? ⟨rb, M7, none⟩ = false := by
              have h : w4.heap[rb]? = some _ := hra4
              simp [World.frozen?, h]
            have HRA4 := Lib.hid hra4
            have HST4 := Lib.hid hst4
            have HC7 := Lib.hid hc7
            have HK7 := Lib.hid ((HKK.out.trans (HK3.out.weaken (T := (fun x => x = b ∨ W.heap.size ≤ x)) (fun x _ hx => .inl hx))).trans (hki.weaken (fun x _ hx => .inl hx)))
            clear hra4 hst4 hc7 hki
            go_wp2_with (fail)
            go_meet
            case rel =>
              have hks : Keep (· = rb) w4 (w4.setCell ⟨rb, M7, none⟩ (.int .i64 m9)) := (Keep.refl (· = rb) w4).setCell (p := ⟨rb, M7, none⟩) (.inl rfl) _
              exact ⟨⟨r7, HC7.out.keep hks (by omega) (by omega)⟩, (HST4.out.row HRA4.out hM m9).weak, HK7.out.trans (hks.weaken (fun x _ hx => by have : x = rb := hx; right; omega))⟩
        · go_meet
          case rel => exact ⟨⟨r3, HC3.out⟩, (HST.out.keep HK3.out (fun x hx => by omega)).weak, HKK.out.trans (HK3.out.weaken (fun x _ hx => .inl hx))⟩
    case rest =>
      have HG2 := Lib.hid hcut
      obtain ⟨⟨rr, hcc⟩, hst, hkk⟩ := hcut
      have HCC := Lib.hid hcc
      have HST := Lib.hid hst
      have HKK := Lib.hid hkk
      clear hcc hst hkk HG
      go_upto_block 0 with (go_at_call 15; refine (next_ex b bl _ rr _ HCC.out (by omega) (by omega)).mono ?_; rintro e w3 ⟨M, r3, rfl, hc3, hk3, hM0, hM1⟩; have HC3 := Lib.hid hc3; have HK3 := Lib.hid (HKK.out.trans (hk3.weaken (T := (fun x => x = b ∨ W.heap.size ≤ x)) (fun x _ hx => .inl hx))); have HST3 := Lib.hid (HST.out.keep hk3 (fun x hx => by omega)); clear hc3 hk3)
      go_cut [] (fun wx => GoodEnd b bl W.heap.size g W wx)
      case first =>
        by_cases hM : M = 4 ∨ M = 5 ∨ M = 6 ∨ M = 7
        · obtain ⟨p, c, lns, q, d, lk, u, o, h1, h2, h3, h4, h5, h6, -⟩ := HST3.out
          have H1 := Lib.hid h1
          have H3 := Lib.hid h3
          have H4 := Lib.hid h4
          have hgw := heap_lt h1
          have HCG : Hid (∀ w', Keep (· = b) w3 w' → w'.heap[g]? = some (.cells #[.slice p lns.length c, .slice q lk.length d, .int .i64 u, .int .i64 o] 40 (0, 0))) := Lib.hid (fun w' hk' => hk'.obj h1 (by omega))
          clear h1 h3 h4
          have hbw3 := HC3.out.lt
          rcases hM with rfl | rfl | rfl | rfl
          · go_wp2_with (fail)
            refine region_kindsG_tail (· = b) [.is (.pointer (some ⟨g, 1, none⟩)), .is (.slice q lk.length d), .is (.pointer (some ⟨b, 0, none⟩)), .sat (SubIn 0 4) (subIn_keep _ _ _), .sat (SubIn (-1) 3) (subIn_keep _ _ _), .is (.pointer (some ⟨b, 0, none⟩)), .sat (SubIn 0 4) (subIn_keep _ _ _), .sat (SubIn (-1) 3) (subIn_keep _ _ _), .is (.pointer (some ⟨b, 0, none⟩)), .sat (SubIn 0 4) (subIn_keep _ _ _), .sat (SubIn (-1) 3) (subIn_keep _ _ _), .is (.pointer (some ⟨b, 0, none⟩)), .int, .sat LkVal (lkVal_keep _), .sat (LkMade w3.heap.size) (lkMade_keep b _ hbw3.1), .any, .any, .any]
              (fun w' => (∃ r, CodesAt w' b bl r) ∧ Keep (· = b) w3 w') 85 15 (by kernel_rfl) (by decide) (by kernel_rfl) (by kernel_rfl) (by kernel_rfl) rfl (by kernel_rfl) ⟨⟨_, HC3.out.still (Keep.refl _ _).drew⟩, (Keep.refl _ _).drew⟩ ?_ ?_
            · refine ⟨?_, ?_, ?_, ?_, ?_, ?_, ?_, ?_, ?_, ?_, ?_, ?_, ?_, ?_, ?_, trivial⟩
              · exact st_free rfl (st_ev1 (dep_f (t := 5) rfl rfl) _ (by intro a w' h1 hI; go_simp) rfl)
              · exact st_free rfl (st_ev1 (dep_e 0 rfl rfl rfl) _ (by intro a w' h1 hI; have q0 := HCG.out _ hI.2; have q1 : w'.cell? ⟨g, 1, none⟩ = some (.slice q lk.length d) := cell_of_row _ _ 1 _ _ _ q0; clear q0; go_simp) rfl)
              · exact st_free rfl (st_ev1 (dep_f (t := 0) rfl rfl) _ (by intro a w' h1 hI; go_simp) rfl)
              · exact st_free rfl (st_callD1 (dep_e 2 rfl rfl rfl) 15 #[.pointer (some ⟨b, 0, none⟩), .int .i64 4] (by intro a w' h1; go_simp) (by rintro w' ⟨⟨rr', hcc⟩, hI⟩; refine (next_ex b bl _ rr' w' hcc (by omega) (by omega)).mono ?_; rintro e w'' ⟨mm, r7, rfl, a1, a2, a3, a4⟩; exact ⟨_, rfl, ⟨mm, rfl, a3, a4⟩, ⟨⟨r7, a1⟩, hI.trans a2⟩, a2⟩))
              · exact st_free rfl (st_evS (dep_s 3 rfl rfl rfl) (by rintro a w' ⟨mm, h1, h2, h3⟩ hI; have q0 : IntKind.i64.wrap (mm - 1) = mm - 1 := IntWalk.i64_in _ (by omega); exact ⟨.int .i64 (mm - 1), by go_simp, mm - 1, rfl, by omega, by omega⟩))
              · exact st_free rfl (st_ev1 (dep_f (t := 0) rfl rfl) _ (by intro a w' h1 hI; go_simp) rfl)
              · exact st_free rfl (st_callD1 (dep_e 5 rfl rfl rfl) 15 #[.pointer (some ⟨b, 0, none⟩), .int .i64 4] (by intro a w' h1; go_simp) (by rintro w' ⟨⟨rr', hcc⟩, hI⟩; refine (next_ex b bl _ rr' w' hcc (by omega) (by omega)).mono ?_; rintro e w'' ⟨mm, r7, rfl, a1, a2, a3, a4⟩; exact ⟨_, rfl, ⟨mm, rfl, a3, a4⟩, ⟨⟨r7, a1⟩, hI.trans a2⟩, a2⟩))
              · exact st_free rfl (st_evS (dep_s 6 rfl rfl rfl) (by rintro a w' ⟨mm, h1, h2, h3⟩ hI; have q0 : IntKind.i64.wrap (mm - 1) = mm - 1 := IntWalk.i64_in _ (by omega); exact ⟨.int .i64 (mm - 1), by go_simp, mm - 1, rfl, by omega, by omega⟩))
              · exact st_free rfl (st_ev1 (dep_f (t := 0) rfl rfl) _ (by intro a w' h1 hI; go_simp) rfl)
              · exact st_free rfl (st_callD1 (dep_e 8 rfl rfl rfl) 15 #[.pointer (some ⟨b, 0, none⟩), .int .i64 4] (by intro a w' h1; go_simp) (by rintro w' ⟨⟨rr', hcc⟩, hI⟩; refine (next_ex b bl _ rr' w' hcc (by omega) (by omega)).mono ?_; rintro e w'' ⟨mm, r7, rfl, a1, a2, a3, a4⟩; exact ⟨_, rfl, ⟨mm, rfl, a3, a4⟩, ⟨⟨r7, a1⟩, hI.trans a2⟩, a2⟩))
              · exact st_free rfl (st_evS (dep_s 9 rfl rfl rfl) (by rintro a w' ⟨mm, h1, h2, h3⟩ hI; have q0 : IntKind.i64.wrap (mm - 1) = mm - 1 := IntWalk.i64_in _ (by omega); exact ⟨.int .i64 (mm - 1), by go_simp, mm - 1, rfl, by omega, by omega⟩))
              · exact st_free rfl (st_ev1 (dep_f (t := 0) rfl rfl) _ (by intro a w' h1 hI; go_simp) rfl)
              · refine st_free rfl (st_callD1 (dep_e 11 rfl rfl rfl) 16 #[.pointer (some ⟨b, 0, none⟩)] (by intro a w' h1; go_simp) ?_)
                rintro w' ⟨⟨rr', hcc⟩, hI⟩
                refine (int_any b bl rr' w' hcc).mono ?_
                rintro e w'' ⟨mm, r7, rfl, a1, a2⟩
                exact ⟨_, rfl, ⟨mm, rfl⟩, ⟨⟨r7, a1⟩, hI.trans a2⟩, a2⟩
              · refine st_free rfl ?_
                intro a w' K' hI hV hF hK
                obtain ⟨x0, e0, -, -⟩ : SubIn (-1) 3 w' (a.eval (.tmp 53)) := tells hV 4 53 rfl rfl
                obtain ⟨x1, e1, -, -⟩ : SubIn (-1) 3 w' (a.eval (.tmp 56)) := tells hV 7 56 rfl rfl
                obtain ⟨x2, e2, -, -⟩ : SubIn (-1) 3 w' (a.eval (.tmp 59)) := tells hV 10 59 rfl rfl
                obtain ⟨x3, e3⟩ : ∃ n, a.eval (.tmp 61) = .int .i64 n := tells hV 12 61 rfl rfl
                unfold Oper.wp execOp
                have hb : (Instr.build 72 #[(0, .int .i64 x0), (1, .int .i64 x1), (2, .int .i64 x2), (3, .int .i64 x3)]).run Try.prog w' = .ok (.agg #[.int .i64 x0, .int .i64 x1, .int .i64 x2, .int .i64 x3]) w' := by go_simp
                simp only [List.map_toArray, List.map_cons, List.map_nil, e0, e1, e2, e3, Sem.run_bind, hb, Result.andThen_ok, Sem.run_pure, Oper.upon_value]
                exact hK _ _ hI (Keep.refl _ _) ⟨⟨x0, x1, x2, x3⟩, rfl⟩
              · refine st_free rfl ?_
                intro a w' K' hI hV hF hK
                obtain ⟨x, e0⟩ : LkVal w' (a.eval (.tmp 62)) := tells hV 13 62 rfl rfl
                obtain ⟨x0, x1, x2, x3⟩ := x
                unfold Oper.wp execOp
                have hb : ∀ v : Value, (Instr.buildSlice 38 1 #[(0, .agg #[.int .i64 x0, .int .i64 x1, .int .i64 x2, .int .i64 x3])]).run Try.prog w' = .ok (.slice (some ⟨w'.heap.size, 0, none⟩) 1 1) (w'.alloc (.cells #[.int .i64 x0, .int .i64 x1, .int .i64 x2, .int .i64 x3] 72)) := by intro _; go_simp
                simp only [List.map_toArray, List.map_cons, List.map_nil, e0, Sem.run_bind, hb undef, Result.andThen_ok, Sem.run_pure, Oper.upon_value]
                have hal : Keep None w' (w'.alloc (.cells #[.int .i64 x0, .int .i64 x1, .int .i64 x2, .int .i64 x3] 72)) := (Keep.refl None w').alloc _
                obtain ⟨⟨r7, a1⟩, a2⟩ := hI
                exact hK _ _ ⟨⟨r7, a1.still hal⟩, a2.alloc _⟩ ((Keep.refl _ _).alloc _) ⟨w'.heap.size, ⟨x0, x1, x2, x3⟩, rfl, a2.size, heap_alloc_new _ _⟩
            · intro f' w4 hkinds hI
              have k1 : f' 50 = .slice q lk.length d := hkinds 1 _ 50 (by omega) rfl rfl
              obtain ⟨gh, xk, k14, hgh, hgo⟩ : LkMade w3.heap.size w4 (f' 63) := hkinds 14 _ 63 (by omega) rfl rfl
              simp only [putsOf, Act.put, List.take_succ_cons, List.take_zero, List.drop_succ_cons, List.drop_zero, List.setIfInBounds_toArray, List.set_cons_zero, List.set_cons_succ, k1, k14]
              clear hkinds k1 k14
              obtain ⟨⟨r7, hc7⟩, hki⟩ := hI
              have hb4 := HCG.out _ hki
              have h34 := H3.out.keep hki (fun x hx hxb => by omega)
              have h44 := H4.out.keepOld hki (fun x hx => by omega)
              have HB4 := Lib.hid hb4
              have H34 := Lib.hid h34
              have H44 := Lib.hid h44
              have HGO := Lib.hid hgo
              have HC7 := Lib.hid hc7
              have HK4 := Lib.hid (HK3.out.trans (hki.weaken (T := (fun x => x = b ∨ W.heap.size ≤ x)) (fun x _ hx => .inl hx)))
              have hW4 : W.heap.size ≤ w4.heap.size := (HK3.out.trans (hki.weaken (T := (fun x => x = b ∨ W.heap.size ≤ x)) (fun x _ hx => .inl hx))).size
              clear hb4 h34 h44 hgo hc7 hki
              go_wp2_with (at_builtin; go_loud (refine wpList_pushAt rfl _ _ 38 rfl W.heap.size _ i3 _ 32 Try.underlying38 hi3 hx0 hx1 hx2 rfl (by decide) Lk.enc_len (.slice q lk.length d) lk rfl H44.out xk gh 1 rfl _ HGO.out rfl rfl (by simp [Lk.enc, Value.oneCell']) (by omega) (by omega) hW4 ?_; intro p7 c7' w7 hown7 hk7 hk7' hb7; have HO7 := Lib.hid hown7; have HK7 := Lib.hid (show Keep (fun k => (Value.slice q lk.length d).ownBlock = some k) _ w7 from ⟨hk7.os, hk7.tape, hk7.output, hk7.size, fun k hk hs => hk7' k (fun e => hs e.symm) hk⟩); have hx7 := HK7.out.obj HB4.out (fun h => (H44.out.typed h).ne (typed_obj HB4.out) (by decide) rfl); have k71 : w7.cell? ⟨g, 1, none⟩ = some (.slice q lk.length d) := cell_of_row w7 _ 1 _ _ _ hx7; have k72 : w7.frozen? ⟨g, 1, none⟩ = false := (by unfold World.frozen?; rw [hx7]; rfl); have HX7 := Lib.hid hx7; clear hown7 hk7 hk7' hb7 hx7))
              clear k71 k72
              go_meet
              case rel =>
                have hown : ∀ x, (Value.slice q lk.length d).ownBlock = some x → W.heap.size ≤ x := fun x hx => (World.ownsRow.lt H44.out x hx).1
                have h37 := H34.out.keep HK7.out (fun x _ hx => ⟨fun h => (H44.out.typed hx).ne h (by decide) rfl, fun h => (H44.out.typed hx).ne h (by decide) rfl⟩)
                have hks : Keep (· = g) w7 (w7.setCell ⟨g, 1, none⟩ (.slice p7 (lk.length + 1) c7')) := (Keep.refl (· = g) w7).setCell (p := ⟨g, 1, none⟩) (.inl rfl) _
                refine ⟨⟨r7, (HC7.out.keep HK7.out (fun h => by have := hown _ h; omega) (fun h => by have := hown _ h; omega)).keep hks (by omega) (by omega)⟩, ?_, (HK4.out.trans (HK7.out.weaken (fun x _ hx => .inr (hown x hx)))).trans (hks.weaken (fun x _ hx => by have : x = g := hx; right; omega))⟩
                exact HEnd.mk 1 _ p c lns p7 c7' (lk ++ [xk]) u o _ HX7.out (by simp) h2 h37 (by simpa using HO7.out) (by simp; omega) (by omega)
          · have c0 : w3.cell? ⟨g, 0, none⟩ = some (.slice p lns.length c) := cell_of_row _ _ 0 _ _ _ H1.out
            have f0 : w3.frozen? ⟨g, 0, none⟩ = false := by unfold World.frozen?; rw [H1.out]; rfl
            obtain ⟨vals, ho, hvl, hvr⟩ := H3.out
            have HO := Lib.hid ho
            have HVL := Lib.hid hvl
            have HVR := Lib.hid hvr
            have HAL := Lib.hid (((Keep.refl None w3).alloc (.cells #[.int .i64 1] 3)).alloc (.cells #[.slice (some ⟨w3.heap.size, 0, none⟩) 1 1] 25))
            have hv3 : vals.length ≤ 3 := by omega
            have hW3 : W.heap.size ≤ w3.heap.size := HK3.out.size
            clear ho hvl hvr
            go_wp2_with (at_builtin; go_loud (refine wpList_pushAt rfl _ _ 37 rfl W.heap.size _ i4 _ 24 Try.underlying37 hi4 hz0 hz1 hz2 rfl (by decide) valEnc_len (.slice p lns.length c) vals rfl (HO.out.keep HAL.out (fun _ _ => id)) (.slice (some ⟨w3.heap.size, 0, none⟩) 1 1) (w3.heap.size + 1) 1 rfl _ (alloc_at (by simp)) rfl rfl (by simp [Value.oneCell']) (by omega) (by omega) (Nat.le_trans hW3 HAL.out.size) ?_; intro p7 c7' w7 hown7 hk7 hk7' hb7; have HO7 := Lib.hid hown7; have HK7 := Lib.hid (show Keep (fun k => (Value.slice p lns.length c).ownBlock = some k) _ w7 from ⟨hk7.os, hk7.tape, hk7.output, hk7.size, fun k hk hs => hk7' k (fun e => hs e.symm) hk⟩); have hx7 := HK7.out.obj (HAL.out.obj H1.out id) (fun h => (HO.out.typed h).ne (typed_obj H1.out) (by decide) rfl); have k71 : w7.cell? ⟨g, 0, none⟩ = some (.slice p lns.length c) := cell_of_row w7 _ 0 _ _ _ hx7; have k72 : w7.frozen? ⟨g, 0, none⟩ = false := (by unfold World.frozen?; rw [hx7]; rfl); have HX7 := Lib.hid hx7; clear hown7 hk7 hk7' hb7 hx7))
            clear k71 k72
            go_meet
            case rel =>
              have hown : ∀ x, (Value.slice p lns.length c).ownBlock = some x → W.heap.size ≤ x := fun x hx => (World.ownsRow.lt HO.out x hx).1
              have hka : Keep (fun x => (Value.slice p lns.length c).ownBlock = some x) w3 w7 := (HAL.out.weaken (fun _ _ q => q.elim)).trans HK7.out
              have hra : Arr intEnc 3 ((w3.alloc (.cells #[.int .i64 1] 3)).alloc (.cells #[.slice (some ⟨w3.heap.size, 0, none⟩) 1 1] 25)) w3.heap.size [1] := ((Keep.refl None _).alloc _).obj (heap_alloc_new w3 _) id
              have hpush := WRows.push (w' := w7) (v' := .slice p7 (vals.length + 1) c7') HVL.out (fun i u hu => by obtain ⟨b', r', a1, a2, a3, a4⟩ := HVR.out i u hu; exact ⟨b', r', a1, a2, a3.keep HAL.out id, a4⟩) hW3 hra (by simp) HK7.out (fun x hx _ => (HO.out.typed hx).keep HAL.out id) HO7.out
              have hvv := HVL.out
              have hks : Keep (· = g) w7 (w7.setCell ⟨g, 0, none⟩ (.slice p7 (vals.length + 1) c7')) := (Keep.refl (· = g) w7).setCell (p := ⟨g, 0, none⟩) (.inl rfl) _
              have h47 := H4.out.keep hka (fun x hx hxo => (H4.out.typed hx).ne (HO.out.typed hxo) (by decide) rfl)
              refine ⟨⟨r3, (HC3.out.keep hka (fun h => by have := hown _ h; omega) (fun h => by have := hown _ h; omega)).keep hks (by omega) (by omega)⟩, ?_, (HK3.out.trans (hka.weaken (fun x _ hx => .inr (hown x hx)))).trans (hks.weaken (fun x _ hx => by have : x = g := hx; right; omega))⟩
              refine HEnd.mk 0 _ p7 c7' (lns ++ [1]) q d lk u o _ HX7.out (by simp [hvv]) h2 ?_ h47 (by omega) (by simp; omega)
              have : (lns ++ [(1 : Int)]).length = vals.length + 1 := by simp [hvv]
              rw [this]
              exact hpush
          · go_wp2_with (fail)
            refine (int_any b bl _ _ HC3.out).mono ?_
            rintro e w4 ⟨X, r4, rfl, hc4, hk4⟩
            have HC4 := Lib.hid hc4
            have hb4 := HCG.out _ hk4
            have q71 : ∃ v, w4.cell? ⟨g, 2, none⟩ = some v := ⟨_, cell_of_row _ _ 2 _ _ _ hb4⟩
            obtain ⟨v7, k71⟩ := q71
            have k72 : w4.frozen? ⟨g, 2, none⟩ = false := by unfold World.frozen?; rw [hb4]; rfl
            have HB4 := Lib.hid hb4
            have h34 := Lib.hid (H3.out.keep hk4 (fun x hx hxb => by omega))
            have h44 := Lib.hid (H4.out.keepOld hk4 (fun x hx => by omega))
            have HK4 := Lib.hid hk4
            clear hc4 hb4 hk4
            go_wp2_with (fail)
            clear k71 k72
            go_meet
            case rel =>
              have hks : Keep (· = g) w4 (w4.setCell ⟨g, 2, none⟩ (.int .i64 X)) := (Keep.refl (· = g) w4).setCell (p := ⟨g, 2, none⟩) (.inl rfl) _
              refine ⟨⟨r4, HC4.out.keep hks (by omega) (by omega)⟩, ?_, (HK3.out.trans (HK4.out.weaken (fun x _ hx => .inl hx))).trans (hks.weaken (fun x _ hx => by have : x = g := hx; right; omega))⟩
              first
                | exact HEnd.mk 2 _ p c lns q d lk X o _ HB4.out rfl h2 h34.out h44.out (by omega) (by omega)
                | exact HEnd.mk 2 _ p c lns q d lk u X _ HB4.out rfl h2 h34.out h44.out (by omega) (by omega)
          · go_wp2_with (fail)
            refine (int_any b bl _ _ HC3.out).mono ?_
            rintro e w4 ⟨X, r4, rfl, hc4, hk4⟩
            have HC4 := Lib.hid hc4
            have hb4 := HCG.out _ hk4
            have q71 : ∃ v, w4.cell? ⟨g, 3, none⟩ = some v := ⟨_, cell_of_row _ _ 3 _ _ _ hb4⟩
            obtain ⟨v7, k71⟩ := q71
            have k72 : w4.frozen? ⟨g, 3, none⟩ = false := by unfold World.frozen?; rw [hb4]; rfl
            have HB4 := Lib.hid hb4
            have h34 := Lib.hid (H3.out.keep hk4 (fun x hx hxb => by omega))
            have h44 := Lib.hid (H4.out.keepOld hk4 (fun x hx => by omega))
            have HK4 := Lib.hid hk4
            clear hc4 hb4 hk4
            go_wp2_with (fail)
            clear k71 k72
            go_meet
            case rel =>
              have hks : Keep (· = g) w4 (w4.setCell ⟨g, 3, none⟩ (.int .i64 X)) := (Keep.refl (· = g) w4).setCell (p := ⟨g, 3, none⟩) (.inl rfl) _
              refine ⟨⟨r4, HC4.out.keep hks (by omega) (by omega)⟩, ?_, (HK3.out.trans (HK4.out.weaken (fun x _ hx => .inl hx))).trans (hks.weaken (fun x _ hx => by have : x = g := hx; right; omega))⟩
              first
                | exact HEnd.mk 3 _ p c lns q d lk X o _ HB4.out rfl h2 h34.out h44.out (by omega) (by omega)
                | exact HEnd.mk 3 _ p c lns q d lk u X _ HB4.out rfl h2 h34.out h44.out (by omega) (by omega)
        · have n4 : (M == 4) = false := by simp; omega
          have n5 : (M == 5) = false := by simp; omega
          have n6 : (M == 6) = false := by simp; omega
          have n7 : (M == 7) = false := by simp; omega
          clear hM
          go_wp2_with (fail)
          clear n4 n5 n6 n7
          go_meet
          case rel => exact ⟨⟨r3, HC3.out⟩, HST3.out.fin, HK3.out⟩
      case rest =>
        obtain ⟨⟨r9, hc9⟩, hend, hk9⟩ := hcut
        have hsw' : w.heap.size + 2 ≤ W.heap.size := by have := HSW.out; omega
        obtain ⟨p, c, lns, q, d, lk, u, o, h1, h2, h3, h4, h5, h6⟩ := hend
        have hres := hk9.obj HB1.out (by simp; omega)
        have hrg := range_of_obj h1
        have HRG := Lib.hid hrg
        have HRES := Lib.hid hres
        have H1 := Lib.hid h1
        have H3 := Lib.hid h3
        have H4 := Lib.hid h4
        have HC9 := Lib.hid hc9
        have HK9 := Lib.hid hk9
        clear hc9 h1 h3 h4 hk9 hres hrg
        go_wp2_with (first
          | ((with_reducible (show wpList _ _ _ (⟨_, .load 40 _, _, _, _, none⟩ :: _) _ _)); refine wpList_loadEl (enc := listEnc) (size := 4) rfl 40 _ rfl _ _ rfl [.slice p lns.length c, .slice q lk.length d, .int .i64 u, .int .i64 o] _ HRG.out rfl Try.underlying40 rfl Try.sizeHits (.agg #[.slice p lns.length c, .slice q lk.length d, .int .i64 u, .int .i64 o]) rfl ?_)
          | ((with_reducible (show wpList _ _ _ (⟨_, .store 40 _ _, _, _, _, none⟩ :: _) _ _)); (refine wpList_storeObj rfl 40 _ _ rfl _ rfl [.slice none 0 0, .slice none 0 0, .int .i64 0, .int .i64 0] [.slice p lns.length c, .slice q lk.length d, .int .i64 u, .int .i64 o] rfl _ (by simp) HRES.out 4 Try.sizeHits rfl (by simp [Value.oneCell']) ?_); intro w6 hres hk6 hs6; have HRES2 := Lib.hid hres; have HK6 := Lib.hid hk6; clear hres hk6 hs6))
        refine bodyPost_ret (results_obj rfl rfl _ _ (range_of_obj HRES2.out) Try.underlying40 rfl 4 Try.sizeHits rfl) rfl ?_
        obtain ⟨rows, hrl, hrv, hr3⟩ := H3.out.rows
        have hk6 := HK6.out
        obtain ⟨_, _, _, hsl, hfr⟩ := H4.out.reads Lk.enc_len
        have hall : Keep (fun x => x = b ∨ w.heap.size ≤ x) w w6 := ((HKW.out.weaken (fun _ _ q => q.elim)).trans (HK9.out.weaken (fun x _ hx => by rcases hx with h | h; exact .inl h; right; omega))).trans (hk6.weaken (fun x _ hx => by have : x = w.heap.size + 1 := hx; right; omega))
        have hnb : ∀ x, NB wc x → x ≠ w.heap.size + 1 → NB w6 x := fun x hx hne => hx.keep hk6 (fun h => hne h)
        refine ⟨p, c, q, d, ⟨rows, lk, u, o⟩, r9, by rw [hitsVal, hrl]; rfl, ⟨(hrv.keep hk6 (fun x hx h => by have : x = w.heap.size + 1 := h; omega)).weaken (fun x hx => ⟨by omega, hnb x hx.2 (by omega)⟩), hsl.keep hk6 (fun a ha h => by have h1 := hfr a ha; have h2 : a.block = w.heap.size + 1 := h; omega), .inr (fun a ha => by have h1 := hfr a ha; refine ⟨by show w.heap.size ≤ a.block; omega, hnb _ ?_ (by omega)⟩; subst ha; exact ⟨_, H4.out.typed rfl, by decide⟩), by show rows.length ≤ 100; omega, fun row hrow => by have := hr3 row hrow; omega, by show lk.length ≤ 100; omega⟩, h5, by show rows.length ≤ 4; omega, HC9.out.keep hk6 (by omega) (by omega), hall.weaken (fun x hx h => by rcases h with h | h; exact h; omega)⟩

end Go.Proofs.Ytlhmajjmhkjcoaa
