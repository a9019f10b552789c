/-
  Chapter 23: the reference's Collect leaves some hits of the image's shape.
-/
import Derived.Test.YtlhmajjmhkjcoaaWeak
import Derived.Test.YtlhmajjmhkjcoaaShapeRef
namespace Go.Proofs.Ytlhmajjmhkjcoaa
open Go.RowKit

/-- The hits in block B: rows of the lengths sh, at most m links. -/
def ColS (B n : Nat) (sh : List Int) (pv : Option Addr) (cv m : Nat) (w : World) : Prop :=
  ∃ (q : Option Addr) (cq : Nat) (lk : List Lk) (u o : Int), w.heap[B]? = some (.cells #[.slice pv n cv, .slice q lk.length cq, .int .i64 u, .int .i64 o] 40 (0, 0)) ∧ WRows (B + 1) w (.slice pv n cv) sh ∧
    Own Lk.enc 4 72 (B + 1) w (.slice q lk.length cq) lk ∧ (∀ y ∈ lk, 0 ≤ y.count ∧ y.count ≤ 1099511627777) ∧ lk.length ≤ m

theorem ColS.still {B n : Nat} {sh : List Int} {pv : Option Addr} {cv m : Nat} {w w' : World} (h : ColS B n sh pv cv m w) (k : Keep None w w') : ColS B n sh pv cv m w' := by
  obtain ⟨q, cq, lk, u, o, h1, h2, h3, h4, h5⟩ := h
  exact ⟨q, cq, lk, u, o, k.obj h1 id, h2.still k, h3.keep k (fun _ _ => id), h4, h5⟩

theorem ColS.more {B n : Nat} {sh : List Int} {pv : Option Addr} {cv m m' : Nat} {w : World} (h : ColS B n sh pv cv m w) (hm : m ≤ m') : ColS B n sh pv cv m' w := by
  obtain ⟨q, cq, lk, u, o, h1, h2, h3, h4, h5⟩ := h
  exact ⟨q, cq, lk, u, o, h1, h2, h3, h4, by omega⟩

theorem ColS.typed {B n : Nat} {sh : List Int} {pv : Option Addr} {cv m : Nat} {w : World} (h : ColS B n sh pv cv m w) : Typed w 40 B := by
  obtain ⟨q, cq, lk, u, o, h1, -⟩ := h
  exact ⟨_, _, h1⟩

theorem ColS.num {B n : Nat} {sh : List Int} {pv : Option Addr} {cv m : Nat} {w : World} (h : ColS B n sh pv cv m w) (j : Nat) (hj : j = 2 ∨ j = 3) (x : Int) : ColS B n sh pv cv m (w.setCell ⟨B, j, none⟩ (.int .i64 x)) := by
  have hk : Keep (· = B) w (w.setCell ⟨B, j, none⟩ (.int .i64 x)) := (Keep.refl (· = B) w).setCell (p := ⟨B, j, none⟩) (.inl rfl) _
  have ht := h.typed
  obtain ⟨q, cq, lk, u, o, h1, h2, h3, h4, h5⟩ := h
  have hw := h2.keep hk (fun b _ hb => by subst hb; exact ⟨fun h => h.ne ht (by decide) rfl, fun h => h.ne ht (by decide) rfl⟩)
  have ho := h3.keepOld hk (fun g hg => by omega)
  rcases hj with rfl | rfl
  · exact ⟨q, cq, lk, x, o, by simpa using heap_setCell' (j := 2) (v := .int .i64 x) h1, hw, ho, h4, h5⟩
  · exact ⟨q, cq, lk, u, x, by simpa using heap_setCell' (j := 3) (v := .int .i64 x) h1, hw, ho, h4, h5⟩

theorem ColS.row {B n : Nat} {sh : List Int} {pv : Option Addr} {cv m : Nat} {w : World} (h : ColS B n sh pv cv m w) {b j : Nat} {r : List Int} (hb : Arr intEnc 3 w b r) (hj : j < r.length) (x : Int) : ColS B n sh pv cv m (w.setCell ⟨b, j, none⟩ (.int .i64 x)) := by
  have hk : Keep (· = b) w (w.setCell ⟨b, j, none⟩ (.int .i64 x)) := (Keep.refl (· = b) w).setCell (p := ⟨b, j, none⟩) (.inl rfl) _
  have ht := h.typed
  obtain ⟨q, cq, lk, u, o, h1, h2, h3, h4, h5⟩ := h
  exact ⟨q, cq, lk, u, o, hk.obj h1 (fun e => ht.ne hb.typed (by decide) e), h2.set hb hj x, h3.keep hk (fun g hg e => (h3.typed hg).ne hb.typed (by decide) e), h4, h5⟩

theorem ColS.links {B n : Nat} {sh : List Int} {pv : Option Addr} {cv m m' : Nat} {w : World} (h : ColS B n sh pv cv m w) {q : Option Addr} {cq : Nat} {lk : List Lk} (ho : Own Lk.enc 4 72 (B + 1) w (.slice q lk.length cq) lk) (hc : ∀ y ∈ lk, 0 ≤ y.count ∧ y.count ≤ 1099511627777) (hl : lk.length ≤ m') :
    ColS B n sh pv cv m' (w.setCell ⟨B, 1, none⟩ (.slice q lk.length cq)) := by
  have hk : Keep (· = B) w (w.setCell ⟨B, 1, none⟩ (.slice q lk.length cq)) := (Keep.refl (· = B) w).setCell (p := ⟨B, 1, none⟩) (.inl rfl) _
  have ht := h.typed
  obtain ⟨q', cq', lk', u, o, h1, h2, h3, h4, h5⟩ := h
  have hw := h2.keep hk (fun b _ hb => by subst hb; exact ⟨fun h => h.ne ht (by decide) rfl, fun h => h.ne ht (by decide) rfl⟩)
  exact ⟨q, cq, lk, u, o, by simpa using heap_setCell' (j := 1) (v := .slice q lk.length cq) h1, hw, ho.keepOld hk (fun g hg => by omega), hc, hl⟩

/-- What Collect leaves. -/
def ColPost (sh : List Int) (m : Nat) (w : World) (e : Ending) (w' : World) : Prop :=
  ∃ p c q d lk u o, e = .returned (.agg #[.slice p sh.length c, .slice q (lk : List Lk).length d, .int .i64 u, .int .i64 o]) ∧ WRows w.heap.size w' (.slice p sh.length c) sh ∧ Own Lk.enc 4 72 w.heap.size w' (.slice q lk.length d) lk ∧ lk.length ≤ m ∧ Keep None w w'

def ColInv1 (B : Nat) (sh : List Int) (w0 : World) (i : Value) (w : World) : Prop :=
  ∃ (k : Nat) (pv : Option Addr) (cv : Nat), i = .int .i64 k ∧ k ≤ sh.length ∧ w.heap[B]? = some (.cells #[.slice pv k cv, .slice none 0 0, .int .i64 0, .int .i64 0] 40 (0, 0)) ∧ WRows w0.heap.size w (.slice pv k cv) (sh.take k) ∧ Keep (fun b => b = B ∨ w0.heap.size ≤ b) w0 w

def ColInv2 (B n : Nat) (sh : List Int) (pv : Option Addr) (cv len : Nat) (w0 : World) (i : Value) (w : World) : Prop :=
  ∃ k : Nat, i = .int .i64 k ∧ k ≤ len ∧ ColS B n sh pv cv (3 * k) w ∧ Keep (B ≤ ·) w0 w

def ColInv3 (B n : Nat) (sh : List Int) (pv : Option Addr) (cv m len : Nat) (w0 : World) (f i : Value) (w : World) : Prop :=
  ∃ (j : Nat) (F : Int), f = .int .i64 F ∧ i = .int .i64 j ∧ j ≤ len ∧ ColS B n sh pv cv (m + j) w ∧ Keep (B ≤ ·) w0 w

def RowMadeN (lo X : Nat) (w : World) (v : Value) : Prop := ∃ g, v = .slice (some ⟨g, 0, none⟩) X X ∧ lo ≤ g ∧ Arr intEnc 3 w g (List.replicate X 0)
theorem rowMadeN_keep (lo X : Nat) : ∀ w w' v, Keep None w w' → RowMadeN lo X w v → RowMadeN lo X w' v := fun w w' v hk ⟨g, h1, h2, h3⟩ => ⟨g, h1, h2, h3.keep hk id⟩
def RowsMadeN (lo X : Nat) (w : World) (v : Value) : Prop := ∃ h g, v = .slice (some ⟨h, 0, none⟩) 1 1 ∧ lo ≤ h ∧ w.heap[h]? = some (.cells #[.slice (some ⟨g, 0, none⟩) X X] 25 (0, 0)) ∧ lo ≤ g ∧ Arr intEnc 3 w g (List.replicate X 0)
theorem rowsMadeN_keep (lo X : Nat) : ∀ w w' v, Keep None w w' → RowsMadeN lo X w v → RowsMadeN lo X w' v := fun w w' v hk ⟨h, g, h1, h2, h3, h4, h5⟩ => ⟨h, g, h1, h2, hk.obj h3 id, h4, h5.keep hk id⟩

set_option maxRecDepth 100000 in
set_option maxHeartbeats 8000000 in
theorem refCollect_calls (v : Value) (n : Nat) (ps : List Pl) (p : Option Addr) (l : List Smp) (c : Nat) (w : World) (h : ImgV w v n ps) (hs : SmpsV w p l) :
    Calls Try.prog 24 #[v, .slice p l.length c] w (ColPost (shapeL n ps) 27 w) := by
  have HIM := Lib.hid h
  have HSM := Lib.hid hs
  have hl9 := hs.len
  have ln := h.ln
  obtain ⟨⟨p0, n0, c0, p1, c1, p2, n2, c2, p3, n3, c3, k4, k5, p6, n6, c6, p7, c7, rfl, -⟩, -, -, -⟩ := h
  obtain ⟨i1, hi1, hy0, hy1, hy2⟩ := info_parts Try.infoInt
  obtain ⟨i4, hi4, hz0, hz1, hz2⟩ := info_parts Try.infoRow
  clear hs
  go_enter Try.func24, Try.ntmps24
  go_wp2_with (first
    | ((with_reducible (show wpList _ _ _ (⟨_, .load 29 _, _, _, _, none⟩ :: _) _ _)); refine wpList_loadEl (enc := listEnc) (size := 8) rfl 29 _ rfl _ _ rfl _ _ (range_of_obj ((((Keep.refl None _).alloc _).alloc _).obj (heap_alloc_new w _) id)) rfl Try.underlying29 rfl Try.sizeImg (.agg #[.slice p0 n0 c0, .slice p1 n c1, .slice p2 n2 c2, .slice p3 n3 c3, .int .i64 k4, .int .i64 k5, .slice p6 n6 c6, .slice p7 ps.length c7]) rfl ?_)
    | (go_at_call 40; refine (refShape_calls _ n ps _ (HIM.out.keep ((((Keep.refl None _).alloc _).alloc _).alloc _))).mono ?_; rintro e w1 ⟨ph, ch, rfl, hsl, hk1, hfr⟩; have hb := hk1.obj (alloc_at (show w.heap.size + 1 + 1 = _ by simp)) id; have hbi := hk1.obj ((((Keep.refl None _).alloc _).alloc _).obj (heap_alloc_new w _) id) id; have hbr := hk1.obj (((Keep.refl None _).alloc _).obj (alloc_at (show w.heap.size + 1 = _ by simp)) id) id; have HSL := Lib.hid hsl; have HK1 := Lib.hid (((((Keep.refl None _).alloc _).alloc _).alloc _).trans hk1); have HB := Lib.hid hb; have HBI := Lib.hid hbi; have HBR := Lib.hid hbr; have HFR : Hid (∀ b o, ph = some ⟨b, o, none⟩ → w.heap.size + 1 + 1 < b ∧ ((shapeL n ps).length ≠ 0 → b < w1.heap.size)) := Lib.hid (fun b o he => ⟨by have := hfr _ he; simp at this; omega, fun h0 => by rcases hsl with h | ⟨b', o', he', h⟩; exact absurd (by rw [h]; rfl) h0; rw [he] at he'; cases he'; obtain ⟨x, hx⟩ : ∃ x, (shapeL n ps)[0]? = some x := ⟨(shapeL n ps)[0]'(by omega), List.getElem?_eq_getElem _⟩; exact World.block_lt_of_cell? w1 _ (h 0 x hx 0 _ rfl)⟩); clear hsl hk1 hb hbi hbr hfr))
  have HLOC : Hid (∀ (a f b : Int), locate n a ps = (f, b, true) → 0 ≤ f ∧ f < n ∧ 0 ≤ b ∧ b < 256 ∧ ∃ y, (shapeL n ps)[f.toNat]? = some y ∧ b < y) := Lib.hid (fun a f b hh => locate_shape hh)
  have HSS := Lib.hid (shape_small (n := n) (ps := ps))
  have hsn := shapeL_len n ps
  generalize shapeL n ps = sh at *
  have HSN := Lib.hid hsn
  have hsn3 : sh.length ≤ 1000000 := by omega
  clear hsn
  go_loopw [19] (ColInv1 (w.heap.size + 1 + 1) sh w1) (fun i _ => sh.length - (intOf i).toNat)
  case atStart => exact ⟨0, none, 0, rfl, by omega, HB.out, by simpa using WRows.nil _ _, Keep.refl _ _⟩
  case round =>
    obtain ⟨k, pv, cv, rfl, hk, hbox, hrows, hkp⟩ := hrel
    have HBX := Lib.hid hbox
    have HRW := Lib.hid hrows
    have HKP := Lib.hid hkp
    have hBw := heap_lt hbox
    clear hbox hrows hkp
    by_cases hlt : k < sh.length
    · obtain ⟨x, hx⟩ : ∃ x, sh[k]? = some x := ⟨sh[k], by simp [hlt]⟩
      obtain ⟨hx0, hx1⟩ := HSS.out x (List.mem_of_getElem? hx)
      obtain ⟨X, rfl⟩ : ∃ X : Nat, x = X := ⟨x.toNat, by omega⟩
      have HX := Lib.hid hx
      obtain ⟨bh, oh, rfl, hcx⟩ : ∃ b o, ph = some ⟨b, o, none⟩ ∧ wr.cell? ⟨b, o + k, none⟩ = some (.int .i64 (X : Int)) := by
        rcases HSL.out with h | ⟨b, o, he, h⟩
        · rw [h] at hlt; simp at hlt
        · have hb := HFR.out b o he
          exact ⟨b, o, he, HKP.out.cell (h.int hx) (by simp; have := hb.2 (by omega); omega)⟩
      have hB0 : ∀ w', Keep None wr w' → w'.cell? ⟨w.heap.size + 1 + 1, 0, none⟩ = some (.slice pv k cv) := fun w' hk' => by simp [World.cell?, hk'.obj HBX.out id]
      have HB0 := Lib.hid hB0
      clear hx hB0
      go_wp2_with (fail)
      have hdr : Keep None wr wr.drew := (Keep.refl _ _).drew
      have hsw : w1.heap.size ≤ wr.heap.size := HKP.out.size
      refine region_kindsG_tail None [.is (.pointer (some ⟨w.heap.size + 1 + 1, 0, none⟩)), .is (.slice pv k cv), .is (.int .i64 (X : Int)), .sat (RowMadeN wr.heap.size X) (rowMadeN_keep _ _), .sat (RowsMadeN wr.heap.size X) (rowsMadeN_keep _ _), .any, .any, .any]
        (fun w' => Keep None wr w') 120 5 (by kernel_rfl) (by decide) (by kernel_rfl) (by kernel_rfl) (by kernel_rfl) rfl (by kernel_rfl) hdr ?_ ?_
      · refine ⟨?_, ?_, ?_, ?_, ?_, trivial⟩
        · exact st_free rfl (st_ev1 (dep_f (t := 5) rfl rfl) _ (by intro a w' h1 hI; go_simp) rfl)
        · exact st_free rfl (st_ev1 (dep_e 0 rfl rfl rfl) _ (by intro a w' h1 hI; have q0 := HB0.out _ hI; go_simp) rfl)
        · exact st_free rfl (st_ev1 (dep_f (t := 7) rfl rfl) _ (by intro a w' h1 hI; go_simp) rfl)
        · refine st_free rfl ?_
          intro a w' K hI hV hF hK
          have h1 : a.eval (.tmp 25) = .int .i64 (X : Int) := tells hV 2 25 rfl rfl
          refine wp_makeArr (enc := intEnc) w' _ _ 25 rfl 3 i1 (.int .i64 0) 8 Try.underlying25 hi1 hy0 hy1 hy2 (0 : Int) intEnc_len rfl (by omega) .i64 .i64 _ _ X h1 h1 rfl rfl (by omega) (by omega) ?_
          intro w5 harr hk5 hs5
          exact hK _ _ (hI.trans hk5) hk5 ⟨_, rfl, hI.size, harr⟩
        · refine st_free rfl ?_
          intro a w' K hI hV hF hK
          obtain ⟨r, h1, h2, h3⟩ : RowMadeN wr.heap.size X w' (a.eval (.tmp 26)) := tells hV 3 26 rfl rfl
          unfold Oper.wp execOp
          have hb : ∀ v : Value, (Instr.buildSlice 37 1 #[(0, .slice (some ⟨r, 0, none⟩) X X)]).run Try.prog w' = .ok (.slice (some ⟨w'.heap.size, 0, none⟩) 1 1) (w'.alloc (.cells #[.slice (some ⟨r, 0, none⟩) X X] 25)) := by intro _; go_simp
          simp only [List.map_toArray, List.map_cons, List.map_nil, h1, Sem.run_bind, hb undef, Result.andThen_ok, Sem.run_pure, Oper.upon_value]
          have hal : Keep None w' (w'.alloc (.cells #[.slice (some ⟨r, 0, none⟩) X X] 25)) := (Keep.refl None w').alloc _
          exact hK _ _ (hI.trans hal) hal ⟨w'.heap.size, r, rfl, hI.size, heap_alloc_new _ _, h2, h3.keep hal id⟩
      · intro f w5 hkinds hI
        have k0 : f 23 = .pointer (some ⟨w.heap.size + 1 + 1, 0, none⟩) := hkinds 0 _ 23 (by omega) rfl rfl
        have k1 : f 24 = .slice pv k cv := hkinds 1 _ 24 (by omega) rfl rfl
        obtain ⟨g, r, k4, hg, hgo, hr, hro⟩ : RowsMadeN wr.heap.size X w5 (f 27) := hkinds 4 _ 27 (by omega) rfl rfl
        simp only [putsOf, Act.put, List.take_succ_cons, List.take_zero, List.drop_succ_cons, List.drop_zero, List.setIfInBounds_toArray, List.set_cons_zero, List.set_cons_succ, k0, k1, k4]
        clear hkinds k0 k1 k4 hcx
        obtain ⟨vals, ho, hvl, hvr⟩ := HRW.out.still hI
        have hkv : vals.length = k := by rw [hvl]; simp; omega
        subst hkv
        have HO := Lib.hid ho
        have HI5 := Lib.hid hI
        have HGO := Lib.hid hgo
        have HRO := Lib.hid hro
        have HVR := Lib.hid hvr
        have HVL := Lib.hid hvl
        have hw5 : wr.heap.size ≤ w5.heap.size := hI.size
        have hbx5 := hI.obj HBX.out id
        have HBX5 := Lib.hid hbx5
        have HTY : Hid (∀ b, (Value.slice pv vals.length cv).ownBlock = some b → Typed w5 25 b) := Lib.hid (fun b hb => ho.typed hb)
        have HNB : Hid (¬ ((Value.slice pv vals.length cv).ownBlock = some (w.heap.size + 1 + 1))) := Lib.hid (fun hb => (ho.typed hb).ne ⟨_, _, hbx5⟩ (by decide) rfl)
        clear ho hI hgo hro hvr hvl hbx5 hdr
        go_wp2_with (at_builtin; go_loud (refine wpList_pushAt rfl _ _ 37 rfl w1.heap.size _ i4 _ 24 Try.underlying37 hi4 hz0 hz1 hz2 rfl (by decide) valEnc_len (.slice pv vals.length cv) vals rfl HO.out (.slice (some ⟨r, 0, none⟩) X X) g 1 rfl _ HGO.out rfl rfl (by simp [Value.oneCell']) (by omega) (by omega) (by omega) ?_; intro p7 c7' w7 hown7 hk7 hk7' hb7; have HO7 := Lib.hid hown7; have HK7 := Lib.hid (show Keep (fun k => (Value.slice pv vals.length cv).ownBlock = some k) _ w7 from ⟨hk7.os, hk7.tape, hk7.output, hk7.size, fun k hk hs => hk7' k (fun e => hs e.symm) hk⟩); have hx7 := HK7.out.obj HBX5.out HNB.out; have k71 : w7.cell? ⟨w.heap.size + 1 + 1, 0, none⟩ = some (.slice pv vals.length cv) := cell_of_row w7 _ 0 _ _ _ hx7; have k72 : w7.frozen? ⟨w.heap.size + 1 + 1, 0, none⟩ = false := (by unfold World.frozen?; rw [hx7]; rfl); have HX7 := Lib.hid hx7; clear hown7 hk7 hk7' hb7 hx7))
        go_roundw
        case rel =>
          have hpush := WRows.push HVL.out HVR.out (by omega) HRO.out (by simp; omega) HK7.out (fun b hb _ => HTY.out b hb) (by simpa using HO7.out)
          have hks : Keep (· = w.heap.size + 1 + 1) w7 (w7.setCell ⟨w.heap.size + 1 + 1, 0, none⟩ (.slice p7 (vals.length + 1) c7')) := (Keep.refl (· = w.heap.size + 1 + 1) w7).setCell (p := ⟨w.heap.size + 1 + 1, 0, none⟩) (.inl rfl) _
          refine ⟨vals.length + 1, p7, c7', by go_num, by omega, by simpa using heap_setCell' (j := 0) (v := .slice p7 (vals.length + 1) c7') HX7.out, ?_, ?_⟩
          · rw [List.take_add_one, HX.out]
            simp only [List.length_replicate] at hpush
            exact hpush.keep hks (fun b _ hb => by subst hb; exact ⟨fun h => h.ne ⟨_, _, HX7.out⟩ (by decide) rfl, fun h => h.ne ⟨_, _, HX7.out⟩ (by decide) rfl⟩)
          · have hob7 : ∀ b, (Value.slice pv vals.length cv).ownBlock = some b → w1.heap.size ≤ b := fun b hb => (World.ownsRow.lt HO.out b hb).1
            exact ((HKP.out.trans (HI5.out.weaken (fun _ _ q => q.elim))).trans (HK7.out.weaken (fun b _ hb => .inr (hob7 b hb)))).trans (hks.weaken (fun b _ hb => .inl hb))
        case measure => simp [intOf]; omega
    · have hke : k = sh.length := by omega
      subst hke
      have hcol : ColS (w.heap.size + 1 + 1) sh.length sh pv cv 0 wr := ⟨none, 0, [], 0, 0, HBX.out, by have := HRW.out; rw [List.take_length] at this; exact this.lower (by have := (HFR.out); have := HK1.out.size; have h3 := heap_lt HB.out; omega), Own.nil _ _ _ _ _, by simp, by simp⟩
      have hkw2 : Keep (w.heap.size ≤ ·) w wr := (HK1.out.weaken (fun _ _ q => q.elim)).trans (HKP.out.weaken (fun b _ hb => by have := HK1.out.size; rcases hb with h | h <;> omega))
      have hbi2 := HKP.out.obj HBI.out (by simp; have := heap_lt HBI.out; omega)
      have hbr2 := HKP.out.obj HBR.out (by simp; have := heap_lt HBR.out; omega)
      obtain ⟨w2, rfl⟩ : ∃ w2 : World, w2 = wr := ⟨_, rfl⟩
      have HCOL := Lib.hid hcol
      have HKW2 := Lib.hid hkw2
      have HBI2 := Lib.hid hbi2
      have HBR2 := Lib.hid hbr2
      have hBw2 : w.heap.size + 1 + 1 < w2.heap.size := heap_lt HBX.out
      clear hcol hkw2 hbi2 hbr2 HBX HRW HKP HSL HFR hk hlt
      -- what is read of the arguments
      have HIMG : Hid (∀ W' : World, Keep (w.heap.size + 1 + 1 ≤ ·) w2 W' → ImgV W' (.agg #[.slice p0 n0 c0, .slice p1 n c1, .slice p2 n2 c2, .slice p3 n3 c3, .int .i64 k4, .int .i64 k5, .slice p6 n6 c6, .slice p7 ps.length c7]) n ps ∧ W'.rangeAt w.heap.size 0 (listEnc [.slice p0 n0 c0, .slice p1 n c1, .slice p2 n2 c2, .slice p3 n3 c3, .int .i64 k4, .int .i64 k5, .slice p6 n6 c6, .slice p7 ps.length c7])) := Lib.hid (fun W' hk' =>
        ⟨HIM.out.keepNew (HKW2.out.trans (hk'.weaken (fun b _ hb => by show w.heap.size ≤ b; omega))), range_of_obj (hk'.obj HBI2.out (by simp; omega))⟩)
      go_wp2_with (fail)
      go_loopw [8] (ColInv2 (w.heap.size + 1 + 1) sh.length sh pv cv l.length w2) (fun i _ => l.length - (intOf i).toNat)
      case atStart => exact ⟨0, rfl, by omega, HCOL.out, Keep.refl _ _⟩
      case round =>
        obtain ⟨k, rfl, hk, hcol, hkp⟩ := hrel
        obtain ⟨wo, rfl⟩ : ∃ wo : World, wo = wr := ⟨_, rfl⟩
        have HC := Lib.hid hcol
        have HKP := Lib.hid hkp
        clear hcol hkp
        by_cases hlt : k < l.length
        · obtain ⟨s, hsk⟩ : ∃ s, l[k]? = some s := ⟨l[k], by simp [hlt]⟩
          have hsok := HSM.out.ok s (List.mem_of_getElem? hsk)
          obtain ⟨sb, so, rfl, hsb, hsl⟩ : ∃ sb so, p = some ⟨sb, so, none⟩ ∧ sb < w.heap.size ∧ w.rangeAt sb (so + k * 4) s.enc := by
            rcases HSM.out.sl with h | ⟨b, o, he, h⟩
            · rw [h] at hlt; simp at hlt
            · exact ⟨b, o, he, World.block_lt_of_cell? w _ (h k s hsk 0 _ rfl), h.range hsk⟩
          obtain ⟨clock, addr, sq, sc, chn, lost⟩ := s
          obtain ⟨hch, hcl, ha0, ha1, hl0, hl1, hcb⟩ := hsok
          simp only at hch hcl ha0 ha1 hl0 hl1 hcb
          have HCH := Lib.hid hch
          have HCB := Lib.hid hcb
          have HCS : Hid (∀ W' : World, Keep (w.heap.size + 1 + 1 ≤ ·) w2 W' → W'.cell? ⟨sb, so + k * 4 + 1, none⟩ = some (.int .i64 addr) ∧ W'.cell? ⟨sb, so + k * 4 + 2, none⟩ = some (.slice sq chn.length sc) ∧ W'.cell? ⟨sb, so + k * 4 + 3, none⟩ = some (.int .i64 lost)) := Lib.hid (fun W' hk' => by
            have hkk := HKW2.out.trans (hk'.weaken (T := (w.heap.size ≤ ·)) (fun b _ hb => by show w.heap.size ≤ b; omega))
            exact ⟨hkk.cell (hsl 1 _ rfl) (by simp; omega), hkk.cell (hsl 2 _ rfl) (by simp; omega), hkk.cell (hsl 3 _ rfl) (by simp; omega)⟩)
          clear hsk hsl hch hcb
          obtain ⟨q0, cq0, lk0, u0, o0, hbx, -, -, -, -⟩ := HC.out
          have b3 : wo.cell? ⟨w.heap.size + 1 + 1, 3, none⟩ = some (.int .i64 o0) := by simp [World.cell?, hbx]
          have b3d : (World.drew wo).cell? ⟨w.heap.size + 1 + 1, 3, none⟩ = some (.int .i64 o0) := b3
          have f3d : (World.drew wo).frozen? ⟨w.heap.size + 1 + 1, 3, none⟩ = false := by
            have hbxd : (World.drew wo).heap[w.heap.size + 1 + 1]? = _ := hbx
            simp [World.frozen?, hbxd]
          obtain ⟨-, -, s3⟩ := HCS.out _ HKP.out
          clear hbx
          go_wp2_with (fail)
          refine region_tail 9 (by kernel_rfl) (by kernel_rfl) ?_
          simp only [List.take_succ_cons, List.take_zero, List.drop_succ_cons, List.drop_zero]
          repeat still_step
          refine wpStill_nil ?_
          clear b3 s3
          generalize IntKind.i64.wrap _ = L3
          generalize (if 0 < lost then lost else 0 : Int) = M3
          go_wp2_with (fail)
          clear b3d f3d
          generalize hwA : World.drew _ = wA
          have hca : ColS (w.heap.size + 1 + 1) sh.length sh pv cv (3 * k) wA := by rw [← hwA]; exact (HC.out.num 3 (.inr rfl) _).still (Keep.refl None _).drew
          have hka : Keep (w.heap.size + 1 + 1 ≤ ·) w2 wA := by rw [← hwA]; exact (HKP.out.setCell (p := ⟨w.heap.size + 1 + 1, 3, none⟩) (.inl (Nat.le_refl _)) _).drew
          have HCA := Lib.hid hca
          have HKA := Lib.hid hka
          clear hwA hca hka HC HKP
          have hlm : l.length ≤ 9223372036854775807 := by omega
          have hkl : (k : Int) < l.length := by omega
          generalize hloc : locate n addr ps = lc
          have HLC := Lib.hid hloc
          obtain ⟨f, b, ok⟩ := lc
          clear hloc
          refine region_kindsG None [.is (.agg #[.slice p0 n0 c0, .slice p1 n c1, .slice p2 n2 c2, .slice p3 n3 c3, .int .i64 k4, .int .i64 k5, .slice p6 n6 c6, .slice p7 ps.length c7]), .is (.slice (some ⟨sb, so, none⟩) l.length c), .is (.int .i64 k), .is (.pointer (some ⟨sb, so + k * 4, none⟩)), .is (.pointer (some ⟨sb, so + k * 4 + 1, none⟩)), .is (.int .i64 addr), .is (.tuple #[.int .i64 f, .int .i64 b, .bool ok]), .is (.tuple #[.int .i64 f, .int .i64 b, .bool ok]), .is (.int .i64 f), .is (.int .i64 b), .is (.bool ok), .is (.int .i64 f), .is (.int .i64 b), .is (.bool ok)]
            (fun w' => Keep None wA w') 120 (by kernel_rfl) (by kernel_rfl) rfl (by kernel_rfl) ((Keep.refl _ _).drew) ?_ ?_
          · have HKI : ∀ w', Keep None wA w' → Keep (w.heap.size + 1 + 1 ≤ ·) w2 w' := fun w' hI => HKA.out.trans (hI.weaken (fun _ _ q => q.elim))
            refine ⟨?_, ?_, ?_, ?_, ?_, ?_, ?_, ?_, ?_, ?_, ?_, ?_, ?_, ?_, trivial⟩
            · exact st_free rfl (st_loadD 29 w.heap.size 0 [.slice p0 n0 c0, .slice p1 n c1, .slice p2 n2 c2, .slice p3 n3 c3, .int .i64 k4, .int .i64 k5, .slice p6 n6 c6, .slice p7 ps.length c7] rfl (dep_f rfl rfl) (fun w' hI => (HIMG.out _ (HKI _ hI)).2) _ Try.underlying29 rfl 8 Try.sizeImg rfl rfl)
            · exact st_free rfl (st_ev1 (dep_f (t := 1) rfl rfl) _ (by intro a w' h1 hI; go_simp) rfl)
            · exact st_free rfl (st_ev1 (dep_f (t := 8) rfl rfl) _ (by intro a w' h1 hI; go_simp) rfl)
            · exact st_free rfl (st_ev2 (dep_e 1 rfl rfl rfl) (dep_e 2 rfl rfl rfl) _ (by intro a w' h1 h2 hI; go_simp) rfl)
            · exact st_free rfl (st_ev1 (dep_e 3 rfl rfl rfl) _ (by intro a w' h1 hI; go_simp) rfl)
            · exact st_free rfl (st_ev1 (dep_e 4 rfl rfl rfl) _ (by intro a w' h1 hI; obtain ⟨q1, -, -⟩ := HCS.out _ (HKI _ hI); go_simp) rfl)
            · refine st_free rfl (st_callD2 (dep_e 0 rfl rfl rfl) (dep_e 5 rfl rfl rfl) 10 #[.agg #[.slice p0 n0 c0, .slice p1 n c1, .slice p2 n2 c2, .slice p3 n3 c3, .int .i64 k4, .int .i64 k5, .slice p6 n6 c6, .slice p7 ps.length c7], .int .i64 addr] (by intro a w' h1 h2; go_simp) ?_)
              intro w' hI
              refine (refLocate_calls _ n ps addr w' (HIMG.out _ (HKI _ hI)).1 (by unfold i64; omega)).mono ?_
              rintro e w'' ⟨rfl, hk''⟩
              rw [HLC.out]
              exact ⟨_, rfl, rfl, hI.trans hk'', hk''⟩
            · exact st_free rfl (st_ev1 (dep_e 6 rfl rfl rfl) _ (by intro a w' h1 hI; go_simp) rfl)
            · exact st_free rfl (st_ev1 (dep_e 7 rfl rfl rfl) _ (by intro a w' h1 hI; go_simp) rfl)
            · exact st_free rfl (st_ev1 (dep_e 7 rfl rfl rfl) _ (by intro a w' h1 hI; go_simp) rfl)
            · exact st_free rfl (st_ev1 (dep_e 7 rfl rfl rfl) _ (by intro a w' h1 hI; go_simp) rfl)
            · exact st_free rfl (st_ev1 (dep_e 8 rfl rfl rfl) _ (by intro a w' h1 hI; go_simp) rfl)
            · exact st_free rfl (st_ev1 (dep_e 9 rfl rfl rfl) _ (by intro a w' h1 hI; go_simp) rfl)
            · exact st_free rfl (st_ev1 (dep_e 10 rfl rfl rfl) _ (by intro a w' h1 hI; go_simp) rfl)
          intro g wB hkinds hI
          have k9 : g 9 = .int .i64 f := hkinds 11 _ 9 rfl rfl
          have k10 : g 10 = .int .i64 b := hkinds 12 _ 10 rfl rfl
          have k11 : g 11 = .bool ok := hkinds 13 _ 11 rfl rfl
          simp only [putsOf, Act.put, List.setIfInBounds_toArray, List.set_cons_zero, List.set_cons_succ, k9, k10, k11]
          clear hkinds k9 k10 k11
          have HCB' := Lib.hid (HCA.out.still hI)
          have HKB := Lib.hid (HKA.out.trans (hI.weaken (T := (w.heap.size + 1 + 1 ≤ ·)) (fun _ _ q => q.elim)))
          clear hI HCA HKA
          obtain ⟨q1, cq1, lk1, u1, o1, hbx, -, -, -, -⟩ := HCB'.out
          have b2 : wB.cell? ⟨w.heap.size + 1 + 1, 2, none⟩ = some (.int .i64 u1) := by simp [World.cell?, hbx]
          have b0 : wB.cell? ⟨w.heap.size + 1 + 1, 0, none⟩ = some (.slice pv sh.length cv) := by simp [World.cell?, hbx]
          have f2 : wB.frozen? ⟨w.heap.size + 1 + 1, 2, none⟩ = false := by simp [World.frozen?, hbx]
          clear hbx
          cases ok with
          | false =>
            go_wp2_with (fail)
            clear b2 b0 f2
            go_roundw
            case rel => exact ⟨k + 1, by go_num, by omega, (HCB'.out.num 2 (.inl rfl) _).more (by omega), HKB.out.setCell (p := ⟨w.heap.size + 1 + 1, 2, none⟩) (.inl (Nat.le_refl _)) _⟩
            case measure => simp [intOf]; omega
          | true =>
            obtain ⟨hf0, hf1, hb0, hb1, y, hy, hby⟩ := HLOC.out _ _ _ HLC.out
            obtain ⟨F, rfl⟩ : ∃ F : Nat, f = F := ⟨f.toNat, by omega⟩
            obtain ⟨Bn, rfl⟩ : ∃ Bn : Nat, b = Bn := ⟨b.toNat, by omega⟩
            simp only [Int.toNat_natCast] at hy
            have hFl : F < sh.length := (List.getElem?_eq_some_iff.1 hy).1
            obtain ⟨-, gs, rb, r, rfl, hcell, hlo, hra, hrl, hr3⟩ := HCB'.out.choose_spec.choose_spec.choose_spec.choose_spec.choose_spec.2.1.get hFl
            have hrl' : (r.length : Int) = y := by rw [hy] at hrl; simpa using hrl.symm
            have hBr : Bn < r.length := by omega
            have hxc : ∃ x, r[Bn]? = some x := ⟨r[Bn], List.getElem?_eq_getElem hBr⟩
            obtain ⟨x, hx⟩ := hxc
            have hcx : wB.cell? ⟨rb, Bn, none⟩ = some (.int .i64 x) := by
              have := (hra.slAt intEnc_len).int hx
              simpa using this
            have hfx : wB.frozen? ⟨rb, Bn, none⟩ = false := by
              have h : wB.heap[rb]? = some _ := hra
              simp [World.frozen?, h]
            have HRA := Lib.hid hra
            clear hra hx hy hrl hrl' hby b2 f2
            go_wp2_with (fail)
            clear b0 hcell hcx hfx
            generalize hwC : World.setCell _ _ _ = wC
            have hcc : ColS (w.heap.size + 1 + 1) sh.length sh (some ⟨gs, 0, none⟩) cv (3 * k + 0) wC := by rw [← hwC]; exact (HCB'.out.row HRA.out hBr _).more (by omega)
            have hkc : Keep (w.heap.size + 1 + 1 ≤ ·) w2 wC := by rw [← hwC]; exact HKB.out.setCell (p := ⟨rb, Bn, none⟩) (.inl (by show w.heap.size + 1 + 1 ≤ rb; omega)) _
            have HCC := Lib.hid hcc
            have HKC := Lib.hid hkc
            clear hwC hcc hkc HCB' HKB HRA
            go_loopw [9, 12] (ColInv3 (w.heap.size + 1 + 1) sh.length sh (some ⟨gs, 0, none⟩) cv (3 * k) chn.length w2) (fun _ i _ => chn.length - (intOf i).toNat)
            case atStart => exact ⟨0, _, rfl, rfl, by omega, HCC.out, HKC.out⟩
            case round =>
              obtain ⟨j, G, rfl, rfl, hj, hcol, hkp⟩ := hrel
              have HC := Lib.hid hcol
              have HKP := Lib.hid hkp
              obtain ⟨-, s2, -⟩ := HCS.out _ hkp
              clear hcol hkp
              by_cases hjl : j < chn.length
              · obtain ⟨x, hx⟩ : ∃ x, chn[j]? = some x := ⟨chn[j], by simp [hjl]⟩
                obtain ⟨hx0, hx1⟩ := HCB.out x (List.mem_of_getElem? hx)
                obtain ⟨qb, qo, rfl, hqc⟩ : ∃ qb qo, sq = some ⟨qb, qo, none⟩ ∧ ∀ W' : World, Keep (w.heap.size + 1 + 1 ≤ ·) w2 W' → W'.cell? ⟨qb, qo + j, none⟩ = some (.int .i64 x) := by
                  rcases HCH.out with h | ⟨b, o, he, h⟩
                  · rw [h] at hjl; simp at hjl
                  · have hc := h.int hx
                    have hb : b < w.heap.size := World.block_lt_of_cell? w _ hc
                    exact ⟨b, o, he, fun W' hk' => (HKW2.out.trans (hk'.weaken (T := (w.heap.size ≤ ·)) (fun b _ hb => by show w.heap.size ≤ b; omega))).cell hc (by simp; omega)⟩
                have HQC := Lib.hid hqc
                have sx := hqc _ HKP.out
                have hne : (x == -9223372036854775808) = false := by simp; omega
                have hne2 : (x != -9223372036854775808) = true := by simp; omega
                have hjl' : (j : Int) < chn.length := by omega
                have q3 : IntKind.i64.wrap (x - 1) = x - 1 := IntWalk.i64_in _ (by omega)
                have hcm : chn.length ≤ 9223372036854775807 := by omega
                clear hx hqc
                go_wp2_with (fail)
                clear s2 sx hne hne2
                generalize hloc : locate n (x - 1) ps = lc
                have HLD := Lib.hid hloc
                obtain ⟨G', C', is⟩ := lc
                clear hloc
                refine region_kindsG None [.is (.agg #[.slice p0 n0 c0, .slice p1 n c1, .slice p2 n2 c2, .slice p3 n3 c3, .int .i64 k4, .int .i64 k5, .slice p6 n6 c6, .slice p7 ps.length c7]), .is (.slice (some ⟨sb, so, none⟩) l.length c), .is (.int .i64 k), .is (.pointer (some ⟨sb, so + k * 4, none⟩)), .is (.pointer (some ⟨sb, so + k * 4 + 2, none⟩)), .is (.slice (some ⟨qb, qo, none⟩) chn.length sc), .is (.int .i64 j), .is (.pointer (some ⟨qb, qo + j, none⟩)), .is (.int .i64 x), .is (.int .i64 (x - 1)), .is (.tuple #[.int .i64 G', .int .i64 C', .bool is]), .is (.tuple #[.int .i64 G', .int .i64 C', .bool is]), .is (.int .i64 G'), .is (.int .i64 C'), .is (.bool is), .is (.int .i64 G'), .is (.int .i64 C'), .is (.bool is)]
                  (fun w' => Keep None wr w') 120 (by kernel_rfl) (by kernel_rfl) rfl (by kernel_rfl) ((Keep.refl _ _).drew) ?_ ?_
                · have HKI : ∀ w', Keep None wr w' → Keep (w.heap.size + 1 + 1 ≤ ·) w2 w' := fun w' hI => HKP.out.trans (hI.weaken (fun _ _ q => q.elim))
                  refine ⟨?_, ?_, ?_, ?_, ?_, ?_, ?_, ?_, ?_, ?_, ?_, ?_, ?_, ?_, ?_, ?_, ?_, ?_, trivial⟩
                  · exact st_free rfl (st_loadD 29 w.heap.size 0 [.slice p0 n0 c0, .slice p1 n c1, .slice p2 n2 c2, .slice p3 n3 c3, .int .i64 k4, .int .i64 k5, .slice p6 n6 c6, .slice p7 ps.length c7] rfl (dep_f rfl rfl) (fun w' hI => (HIMG.out _ (HKI _ hI)).2) _ Try.underlying29 rfl 8 Try.sizeImg rfl rfl)
                  · exact st_free rfl (st_ev1 (dep_f (t := 1) rfl rfl) _ (by intro a w' h1 hI; go_simp) rfl)
                  · exact st_free rfl (st_ev1 (dep_f (t := 8) rfl rfl) _ (by intro a w' h1 hI; go_simp) rfl)
                  · exact st_free rfl (st_ev2 (dep_e 1 rfl rfl rfl) (dep_e 2 rfl rfl rfl) _ (by intro a w' h1 h2 hI; go_simp) rfl)
                  · exact st_free rfl (st_ev1 (dep_e 3 rfl rfl rfl) _ (by intro a w' h1 hI; go_simp) rfl)
                  · exact st_free rfl (st_ev1 (dep_e 4 rfl rfl rfl) _ (by intro a w' h1 hI; obtain ⟨-, q1, -⟩ := HCS.out _ (HKI _ hI); go_simp) rfl)
                  · exact st_free rfl (st_ev1 (dep_f (t := 12) rfl rfl) _ (by intro a w' h1 hI; go_simp) rfl)
                  · exact st_free rfl (st_ev2 (dep_e 5 rfl rfl rfl) (dep_e 6 rfl rfl rfl) _ (by intro a w' h1 h2 hI; go_simp) rfl)
                  · exact st_free rfl (st_ev1 (dep_e 7 rfl rfl rfl) _ (by intro a w' h1 hI; have q1 := HQC.out _ (HKI _ hI); go_simp) rfl)
                  · exact st_free rfl (st_ev1 (dep_e 8 rfl rfl rfl) _ (by intro a w' h1 hI; go_simp) rfl)
                  · refine st_free rfl (st_callD2 (dep_e 0 rfl rfl rfl) (dep_e 9 rfl rfl rfl) 10 #[.agg #[.slice p0 n0 c0, .slice p1 n c1, .slice p2 n2 c2, .slice p3 n3 c3, .int .i64 k4, .int .i64 k5, .slice p6 n6 c6, .slice p7 ps.length c7], .int .i64 (x - 1)] (by intro a w' h1 h2; go_simp) ?_)
                    intro w' hI
                    refine (refLocate_calls _ n ps (x - 1) w' (HIMG.out _ (HKI _ hI)).1 (by unfold i64; omega)).mono ?_
                    rintro e w'' ⟨rfl, hk''⟩
                    rw [HLD.out]
                    exact ⟨_, rfl, rfl, hI.trans hk'', hk''⟩
                  · exact st_free rfl (st_ev1 (dep_e 10 rfl rfl rfl) _ (by intro a w' h1 hI; go_simp) rfl)
                  · exact st_free rfl (st_ev1 (dep_e 11 rfl rfl rfl) _ (by intro a w' h1 hI; go_simp) rfl)
                  · exact st_free rfl (st_ev1 (dep_e 11 rfl rfl rfl) _ (by intro a w' h1 hI; go_simp) rfl)
                  · exact st_free rfl (st_ev1 (dep_e 11 rfl rfl rfl) _ (by intro a w' h1 hI; go_simp) rfl)
                  · exact st_free rfl (st_ev1 (dep_e 12 rfl rfl rfl) _ (by intro a w' h1 hI; go_simp) rfl)
                  · exact st_free rfl (st_ev1 (dep_e 13 rfl rfl rfl) _ (by intro a w' h1 hI; go_simp) rfl)
                  · exact st_free rfl (st_ev1 (dep_e 14 rfl rfl rfl) _ (by intro a w' h1 hI; go_simp) rfl)
                intro g wD hkinds hI
                have k13 : g 13 = .int .i64 G' := hkinds 15 _ 13 rfl rfl
                have k14 : g 14 = .int .i64 C' := hkinds 16 _ 14 rfl rfl
                have k15 : g 15 = .bool is := hkinds 17 _ 15 rfl rfl
                simp only [putsOf, Act.put, List.setIfInBounds_toArray, List.set_cons_zero, List.set_cons_succ, k13, k14, k15]
                clear hkinds k13 k14 k15
                have HCD := Lib.hid (HC.out.still hI)
                have HKD := Lib.hid (HKP.out.trans (hI.weaken (T := (w.heap.size + 1 + 1 ≤ ·)) (fun _ _ q => q.elim)))
                clear hI HC HKP
                cases is with
                | false =>
                  go_wp2_with (fail)
                  go_roundw
                  case rel => exact ⟨k + 1, by go_num, by omega, HCD.out.more (by omega), HKD.out⟩
                  case measure => simp [intOf]; omega
                | true =>
                  obtain ⟨q2, cq2, lk2, u2, o2, hbx, -, ho2, hc2, hl2⟩ := HCD.out
                  have b1 : wD.cell? ⟨w.heap.size + 1 + 1, 1, none⟩ = some (.slice q2 lk2.length cq2) := by simp [World.cell?, hbx]
                  have hs2 : SliceV Lk.enc 4 wD q2 lk2 := (ho2.reads Lk.enc_len).2.2.2.1
                  have HS2 := Lib.hid hs2
                  have HC2 := Lib.hid hc2
                  have hsz := heap_lt hbx
                  have HTD := Lib.hid HCD.out.typed
                  clear hbx ho2 hc2 hs2
                  go_wp2_with (go_at_call 35; (refine (with_calls q2 lk2 cq2 G' C' G 1 _ HS2.out (by omega) (fun y hy => by have := HC2.out y hy; omega) (by omega) (by omega)).mono ?_; rintro e w7 ⟨p7, c7, rfl, hown7, hk7⟩; have hcd7 := HCD.out.still hk7; have hkd7 := HKD.out.trans (hk7.weaken (T := (w.heap.size + 1 + 1 ≤ ·)) (fun _ _ q => q.elim)); have k71 : ∃ v, w7.cell? ⟨w.heap.size + 1 + 1, 1, none⟩ = some v := ⟨_, hk7.cell b1 id⟩; have k72 : w7.frozen? ⟨w.heap.size + 1 + 1, 1, none⟩ = false := (by obtain ⟨_, _, _, _, _, hb7, _⟩ := hcd7; unfold World.frozen?; rw [hb7]; rfl); have HCD7 := Lib.hid hcd7; have HKD7 := Lib.hid hkd7; have HO7 := Lib.hid (hown7.lower (base' := w.heap.size + 1 + 1 + 1) (by omega)); obtain ⟨v7, k71⟩ := k71; clear hown7 hk7 hcd7 hkd7 b1))
                  clear k71 k72
                  go_roundw
                  case rel =>
                    refine ⟨j + 1, G', by first | rfl | go_num, by go_num, by omega, ?_, ?_⟩
                    · exact HCD7.out.links HO7.out (with_small (by simp) HC2.out) (by have := with_len lk2 ⟨G', C', G, 1⟩; omega)
                    · exact HKD7.out.setCell (p := ⟨w.heap.size + 1 + 1, 1, none⟩) (.inl (Nat.le_refl _)) _
                  case measure => simp [intOf]; omega
              · have hje : j = chn.length := by omega
                subst hje
                go_wp2_with (fail)
                go_roundw
                case rel => exact ⟨k + 1, by go_num, by omega, HC.out.more (by omega), HKP.out⟩
                case measure => simp [intOf]; omega
        · have hke : k = l.length := by omega
          subst hke
          obtain ⟨q1, cq1, lk1, u1, o1, hbx, hw1, ho1, hc1, hl1⟩ := HC.out
          have hrb := range_of_obj hbx
          have hres := HKP.out.obj HBR2.out (by simp)
          have HBX := Lib.hid hbx
          have HRES := Lib.hid hres
          have HW1 := Lib.hid hw1
          have HO1 := Lib.hid ho1
          have HRB := Lib.hid hrb
          clear hbx hw1 ho1 hc1 hres hrb
          go_wp2_with (first
            | ((with_reducible (show wpList _ _ _ (⟨_, .load 40 _, _, _, _, none⟩ :: _) _ _)); refine wpList_loadEl (enc := listEnc) (size := 4) rfl 40 _ rfl _ _ rfl [.slice pv sh.length cv, .slice q1 lk1.length cq1, .int .i64 u1, .int .i64 o1] _ HRB.out rfl Try.underlying40 rfl Try.sizeHits (.agg #[.slice pv sh.length cv, .slice q1 lk1.length cq1, .int .i64 u1, .int .i64 o1]) rfl ?_)
            | ((with_reducible (show wpList _ _ _ (⟨_, .store 40 _ _, _, _, _, none⟩ :: _) _ _)); (refine wpList_storeObj rfl 40 _ _ rfl _ rfl [.slice none 0 0, .slice none 0 0, .int .i64 0, .int .i64 0] [.slice pv sh.length cv, .slice q1 lk1.length cq1, .int .i64 u1, .int .i64 o1] rfl _ (by simp) HRES.out 4 Try.sizeHits rfl (by simp [Value.oneCell']) ?_); intro w6 hres hk6 hs6; have HRES2 := Lib.hid hres; have HK6 := Lib.hid hk6; clear hres hk6 hs6))
          refine bodyPost_ret (results_obj rfl rfl _ _ (range_of_obj HRES2.out) Try.underlying40 rfl 4 Try.sizeHits rfl) rfl ?_
          have hk6 := HK6.out
          refine ⟨pv, cv, q1, cq1, lk1, u1, o1, rfl, ?_, ?_, by omega, ?_⟩
          · exact (HW1.out.keep hk6 (fun b hb he => by have : b = w.heap.size + 1 := he; omega)).lower (by omega)
          · exact (HO1.out.keepOld hk6 (fun g hg => by have : g = w.heap.size + 1 := hg; omega)).lower (by omega)
          · exact ((HKW2.out.trans (HKP.out.weaken (T := (w.heap.size ≤ ·)) (fun b _ hb => by show w.heap.size ≤ b; omega))).andThen hk6 (fun b h1 he => by have : b = w.heap.size + 1 := he; omega)).weaken (fun b h1 h2 => by have : w.heap.size ≤ b := h2; omega)

end Go.Proofs.Ytlhmajjmhkjcoaa
