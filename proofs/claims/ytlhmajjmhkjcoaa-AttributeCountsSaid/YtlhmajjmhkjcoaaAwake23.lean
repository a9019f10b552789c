/-
  Chapter 23: the sanity check.
-/
import Derived.Test.YtlhmajjmhkjcoaaShape
import Derived.Test.YtlhmajjmhkjcoaaBaseTwo
import Derived.Test.YtlhmajjmhkjcoaaRegKinds
import Derived.Deep.DeepCutAuto
namespace Go.Proofs.Ytlhmajjmhkjcoaa
open Go.RowKit

def exPls : List Pl := [⟨0, 0, 0, 10⟩, ⟨0, 1, 10, 10⟩]

def ImgPost (n : Nat) (ps : List Pl) (w : World) (e : Ending) (w' : World) : Prop := ∃ v, e = .returned v ∧ ImgV w' v n ps ∧ Keep None w w'

theorem img_mk {w w' : World} {v : Value} {n : Nat} {ps : List Pl} (h : ImgV w' v n ps) (hk : Keep None w w') : ImgPost n ps w (.returned v) w' := ⟨v, rfl, h, hk⟩

set_option maxHeartbeats 1000000 in
theorem example_calls (w : World) : Calls Try.prog 21 #[] w (ImgPost 1 exPls w) := by
  go_enter Try.func21, Try.ntmps21
  go_wp2
  refine bodyPost_ret (v := .agg #[.slice none 0 0, .slice (some ⟨w.heap.size + 1, 0, none⟩) 1 1, .slice none 0 0, .slice none 0 0, .int .i64 0, .int .i64 0, .slice none 0 0, .slice (some ⟨w.heap.size + 2, 0, none⟩) 2 2]) (by simp [results, Try.results21, go_sem]) rfl (img_mk ?_ ?_)
  · refine ⟨⟨_, _, _, _, _, _, _, _, _, _, _, _, _, _, _, _, _, _, rfl, .inr ⟨w.heap.size + 2, 0, rfl, ?_⟩⟩, by omega, by decide, by unfold Pl.ok i64; decide⟩
    refine Arr.slAt (e := 65) Pl.enc_len ?_
    unfold Arr
    exact alloc_at (by simp)
  · exact (((Keep.refl _ _).alloc _).alloc _).alloc _

/-- What the hits of the example are after k samples. -/
def exHits : Nat → Int × Int × Int
  | 0 => (0, 0, 0)
  | 1 => (1, 0, 0)
  | 2 => (1, 1, 0)
  | _ => (1, 1, 1)

def ExPost (w : World) (e : Ending) (w' : World) : Prop :=
  ∃ g r c, e = .returned (.agg #[.slice (some ⟨g, 0, none⟩) 1 c, .slice none 0 0, .int .i64 1, .int .i64 0]) ∧ w'.cell? ⟨g, 0, none⟩ = some (.slice (some ⟨r, 0, none⟩) 2 2) ∧ Arr intEnc 3 w' r [1, 1] ∧ Keep None w w'

/-- A row of two was made. -/
def RowMade (B : Nat) (w : World) (v : Value) : Prop := ∃ r, v = .slice (some ⟨r, 0, none⟩) 2 2 ∧ B ≤ r ∧ w.heap[r]? = some (.cells #[.int .i64 0, .int .i64 0] 3 (0, 0))
theorem rowMade_keep (B : Nat) : ∀ w w' v, Keep None w w' → RowMade B w v → RowMade B w' v := fun _ _ _ hk ⟨r, h1, h2, h3⟩ => ⟨r, h1, h2, hk.obj h3 id⟩
def RowsMade (B : Nat) (w : World) (v : Value) : Prop := ∃ g r, v = .slice (some ⟨g, 0, none⟩) 1 1 ∧ B ≤ g ∧ B ≤ r ∧ r < g ∧ w.heap[g]? = some (.cells #[.slice (some ⟨r, 0, none⟩) 2 2] 25 (0, 0)) ∧ w.heap[r]? = some (.cells #[.int .i64 0, .int .i64 0] 3 (0, 0))
theorem rowsMade_keep (B : Nat) : ∀ w w' v, Keep None w w' → RowsMade B w v → RowsMade B w' v := fun _ _ _ hk ⟨g, r, h1, h2, h3, h4, h5, h6⟩ => ⟨g, r, h1, h2, h3, h4, hk.obj h5 id, hk.obj h6 id⟩
def GrowInv (B : Nat) (v : Value) (w0 w : World) : Prop := (w.cell? ⟨B, 0, none⟩ = some v ∧ w.frozen? ⟨B, 0, none⟩ = false) ∧ Keep None w0 w

/-- The first loop. -/
def ExA (B : Nat) (w0 : World) (i : Value) (w : World) : Prop :=
  (i = .int .i64 ((0 : Nat) : Int) ∧ w.heap[B]? = some (.cells #[.slice none 0 0, .slice none 0 0, .int .i64 0, .int .i64 0] 40 (0, 0)) ∧ Keep (· = B) w0 w) ∨
  (i = .int .i64 ((1 : Nat) : Int) ∧ ∃ g r c, w.heap[B]? = some (.cells #[.slice (some ⟨g, 0, none⟩) 1 c, .slice none 0 0, .int .i64 0, .int .i64 0] 40 (0, 0)) ∧ w.cell? ⟨g, 0, none⟩ = some (.slice (some ⟨r, 0, none⟩) 2 2) ∧ Arr intEnc 3 w r [0, 0] ∧ Keep (· = B) w0 w ∧ w0.heap.size ≤ g ∧ w0.heap.size ≤ r ∧ g ≠ r ∧ B < w0.heap.size)

theorem Try.infoRow : (Try.prog.info? 25).map (fun i => (i.zero, i.size, i.bytes)) = some (some (.slice none 0 0), 1, 24) := by kernel_rfl
theorem Try.sizeHits : (Try.prog.info? 40).map (·.size) = some 4 := by kernel_rfl
theorem Try.sizeSample : (Try.prog.info? 62).map (·.size) = some 4 := by kernel_rfl
def valEnc (v : Value) : List Value := [v]
theorem valEnc_len (v : Value) : (valEnc v).length = 1 := rfl

/-- The second loop. -/
def ExB (B g r c : Nat) (w0 : World) (i : Value) (w : World) : Prop :=
  ∃ k : Nat, i = .int .i64 k ∧ k ≤ 3 ∧ w.heap[B]? = some (.cells #[.slice (some ⟨g, 0, none⟩) 1 c, .slice none 0 0, .int .i64 (exHits k).2.2, .int .i64 0] 40 (0, 0)) ∧ w.cell? ⟨g, 0, none⟩ = some (.slice (some ⟨r, 0, none⟩) 2 2) ∧
    Arr intEnc 3 w r [(exHits k).1, (exHits k).2.1] ∧ Keep (fun x => x = B ∨ x = r) w0 w

set_option maxRecDepth 100000 in
set_option maxHeartbeats 2000000 in
theorem collect_example (v : Value) (p : Option Addr) (c : Nat) (w : World) (h : ImgV w v 1 exPls) (hs : ∃ b off, p = some ⟨b, off, none⟩ ∧ ∀ k, k < 3 → w.rangeAt b (off + k * 4) [.int .i64 0, .int .i64 ([3, 12, 40].getD k 0), .slice none 0 0, .int .i64 0]) :
    Calls Try.prog 20 #[v, .slice p 3 c] w (ExPost w) := by
  have hh := h
  obtain ⟨⟨p0, n0, c0, p1, c1, p2, n2, c2, p3, n3, c3, k4, k5, p6, n6, c6, p7, c7, rfl, hs7⟩, ln, lp, hok⟩ := h
  obtain ⟨b, off, rfl, hs⟩ := hs
  obtain ⟨i3, hi3, hx0, hx1, hx2⟩ := info_parts Try.infoRow
  go_enter Try.func20, Try.ntmps20
  go_wp2_with (fail)
  have hbox := Lib.hid (heap_alloc_new w (.cells #[.slice p0 n0 c0, .slice p1 1 c1, .slice p2 n2 c2, .slice p3 n3 c3, .int .i64 k4, .int .i64 k5, .slice p6 n6 c6, .slice p7 exPls.length c7] 29))
  refine (shape_calls _ 1 exPls _ (hh.keep (((Keep.refl _ _).alloc _ |>.alloc _).alloc _))).mono ?_
  rintro e w1 ⟨ps, cs, rfl, hsh, hk1, hfr⟩
  rw [show shapeL 1 exPls = [2] from by decide] at hsh
  rw [show (shapeL 1 exPls).length = 1 from by decide]
  have hB : w1.heap[w.heap.size + 2]? = some (.cells #[.slice none 0 0, .slice none 0 0, .int .i64 0, .int .i64 0] 40 (0, 0)) := hk1.obj (alloc_at (by simp)) id
  have hI : w1.heap[w.heap.size]? = some (.cells #[.slice p0 n0 c0, .slice p1 1 c1, .slice p2 n2 c2, .slice p3 n3 c3, .int .i64 k4, .int .i64 k5, .slice p6 n6 c6, .slice p7 exPls.length c7] 29 (0, 0)) := hk1.obj (((Keep.refl None _).alloc _ |>.alloc _).obj (heap_alloc_new _ _) id) id
  have HT := Lib.hid (hk1.obj (show (((w.alloc _).alloc _).alloc _).heap[w.heap.size + 1]? = _ from ((Keep.refl None _).alloc _).obj (alloc_at (o := .cells #[.slice none 0 0, .slice none 0 0, .int .i64 0, .int .i64 0] 40) (by simp)) id) id)
  have hkw : Keep None w w1 := (((Keep.refl _ _).alloc _ |>.alloc _).alloc _).trans hk1
  have HB := Lib.hid hB
  have HI := Lib.hid hI
  have HW := Lib.hid hkw
  have HIM := Lib.hid (hh.keep hkw)
  have hh7 : p7 = none ∨ exPls = [] ∨ ∃ a, p7 = some a ∧ a.block < w.heap.size := by
    rcases hs7 with h | ⟨b7, o7, rfl, h⟩
    · exact .inr (.inl h)
    · exact .inr (.inr ⟨_, rfl, World.block_lt_of_cell? w _ (h 0 _ rfl 0 _ rfl)⟩)
  clear hB hI hkw hk1 hbox hs7
  go_wp2_with (fail)
  go_loopw [21] (ExA (w.heap.size + 2) w1) (fun i _ => 1 - (intOf i).toNat)
  case atStart => exact .inl ⟨rfl, HB.out, Keep.refl _ _⟩
  case round =>
    rcases hrel with ⟨rfl, hb0, hkr⟩ | ⟨rfl, g, r, cc, hb1, hg, hr, hkr, d1, d2, d3, d4⟩
    · have hB0 : wr.cell? ⟨w.heap.size + 2, 0, none⟩ = some (.slice none 0 0) := by simp [World.cell?, hb0]
      have hF0 : wr.frozen? ⟨w.heap.size + 2, 0, none⟩ = false := by simp [World.frozen?, hb0]
      have hlt : w.heap.size + 2 < wr.heap.size := heap_lt hb0
      rcases hsh with hsh | ⟨sb, so, rfl, hsh⟩
      · cases hsh
      have hs0 : wr.cell? ⟨sb, so, none⟩ = some (.int .i64 2) := hkr.cell (hsh.int (i := 0) rfl) (by have := hfr _ rfl; simp at this; simp; omega)
      have HB0 := Lib.hid hb0
      have hBw := heap_lt HB.out
      have HKR := Lib.hid hkr
      clear hb0 hkr
      have hmk : ∀ w, (Instr.makeSlice 25 (.int .i64 2) (.int .i64 2)).run Try.prog w = .ok (.slice (some ⟨w.heap.size, 0, none⟩) 2 2) (w.alloc (.cells #[.int .i64 0, .int .i64 0] 3)) := fun _ => by kernel_rfl
      go_upto_region 5 with (fail)
      have hdr : Keep None wr wr.drew := (Keep.refl _ _).drew
      refine region_kinds_tail None [.is (.pointer (some ⟨w.heap.size + 2, 0, none⟩)), .is (.slice none 0 0), .is (.int .i64 2), .sat (RowMade wr.heap.size) (rowMade_keep _), .sat (RowsMade wr.heap.size) (rowsMade_keep _), .any, .any, .any]
        (GrowInv (w.heap.size + 2) (.slice none 0 0) wr) 103 5 (by kernel_rfl) (by decide) (by kernel_rfl) (by kernel_rfl) (by kernel_rfl) rfl (by kernel_rfl) ⟨CF.keep hdr ⟨hB0, hF0⟩ id, hdr⟩ ?_ ?_
      · refine ⟨?_, ?_, ?_, ?_, ?_, trivial⟩
        · exact st_fieldF 5 40 0 _ _ rfl rfl rfl (by intro w; go_simp) rfl
        · exact st_loadV 0 25 37 _ _ rfl rfl rfl rfl (by rintro w ⟨⟨h1, h2⟩, h3⟩; go_simp) rfl
        · exact st_frame 7 _ rfl rfl rfl rfl
        · intro a w1 K hI hV hF hK
          have h1 : a.eval (.tmp 27) = .int .i64 2 := tells hV 2 27 rfl rfl
          unfold Oper.wp execOp
          simp only [h1, Sem.run_bind, hmk, Result.andThen_ok, Sem.run_pure, Oper.upon_value]
          refine hK _ _ ⟨CF.keep ((Keep.refl None w1).alloc _) hI.1 id, hI.2.alloc _⟩ ((Keep.refl _ _).alloc _) ⟨_, rfl, hI.2.size, ?_⟩
          exact heap_alloc_new _ _
        · intro a w1 K hI hV hF hK
          obtain ⟨r, h1, h2, h3⟩ : RowMade wr.heap.size w1 (a.eval (.tmp 28)) := tells hV 3 28 rfl rfl
          unfold Oper.wp execOp
          have hb : ∀ v : Value, (Instr.buildSlice 37 1 #[(0, .slice (some ⟨r, 0, none⟩) 2 2)]).run Try.prog w1 = .ok (.slice (some ⟨w1.heap.size, 0, none⟩) 1 1) (w1.alloc (.cells #[.slice (some ⟨r, 0, none⟩) 2 2] 25)) := by intro _; go_simp
          simp only [List.map_toArray, List.map_cons, List.map_nil, h1, Sem.run_bind, hb undef, Result.andThen_ok, Sem.run_pure, Oper.upon_value]
          have hal : Keep None w1 (w1.alloc (.cells #[.slice (some ⟨r, 0, none⟩) 2 2] 25)) := (Keep.refl None w1).alloc _
          refine hK _ _ ⟨CF.keep hal hI.1 id, hI.2.trans hal⟩ hal ⟨w1.heap.size, r, rfl, hI.2.size, h2, by have := heap_lt h3; omega, heap_alloc_new _ _, hal.obj h3 id⟩
      · intro f w5 hkinds hI
        have k0 : f 25 = .pointer (some ⟨w.heap.size + 2, 0, none⟩) := hkinds 0 _ 25 (by omega) rfl rfl
        have k1 : f 26 = .slice none 0 0 := hkinds 1 _ 26 (by omega) rfl rfl
        obtain ⟨g, r, k4, hg, hr, hgr, hgo, hro⟩ : RowsMade wr.heap.size w5 (f 29) := hkinds 4 _ 29 (by omega) rfl rfl
        simp only [putsOf, Act.put, List.take_succ_cons, List.take_zero, List.drop_succ_cons, List.drop_zero, List.setIfInBounds_toArray, List.set_cons_zero, List.set_cons_succ, k0, k1, k4]
        have hgl := heap_lt hgo
        go_wp2_with (at_builtin; refine wpList_pushAt rfl _ _ 37 rfl wr.heap.size _ i3 _ 24 Try.underlying37 hi3 hx0 hx1 hx2 rfl (by decide) valEnc_len (.slice none 0 0) ([] : List Value) rfl (Own.nil valEnc _ _ _ _) (.slice (some ⟨r, 0, none⟩) 2 2) g 1 rfl _ hgo rfl rfl (by simp [Value.oneCell']) (by simp) (by omega) (by omega) ?_; intro pv cv w6 hown6 hk6 hk6' hown6b; have hst := CF.keep hk6 hI.1 (by simp; omega))
        go_roundw
        case rel =>
          obtain ⟨g', rfl, hg'⟩ := hown6.row valEnc_len (by simp)
          obtain ⟨_, _, _, hsl, _⟩ := hown6.reads valEnc_len
          have hgr' : g' = w5.heap.size := by simpa [Value.ownBlock] using hown6b
          have hrl := heap_lt hro
          have hkk : Keep (wr.heap.size ≤ ·) wr w6 := (hI.2.weaken (fun _ _ q => q.elim)).trans hk6
          have hb6 := hkk.obj HB0.out (by omega)
          have hr6 : w6.heap[r]? = some _ := (hk6' r (by simp [Value.ownBlock]) hrl).trans hro
          have hks : Keep (· = w.heap.size + 2) w6 (w6.setCell ⟨w.heap.size + 2, 0, none⟩ (.slice (some ⟨g', 0, none⟩) 1 cv)) := (Keep.refl (· = w.heap.size + 2) w6).setCell (p := ⟨w.heap.size + 2, 0, none⟩) (.inl rfl) _
          have hsize := HKR.out.size
          have hc6 : w6.cell? ⟨g', 0, none⟩ = some (.slice (some ⟨r, 0, none⟩) 2 2) := by
            rcases hsl with hsl | ⟨_, _, he2, hsl⟩
            · cases hsl
            · cases he2; simpa using hsl 0 _ rfl 0 _ rfl
          refine .inr ⟨rfl, g', r, cv, ?_, hks.cell hc6 (by simp; omega), hks.obj hr6 (by omega), ?_, by omega, by omega, by omega, hBw⟩
          · simp [World.setCell, Array.getElem?_modify, hb6]
          · exact (HKR.out.andThen hkk (by intro x q1 q2; omega)).trans hks
        case measure => simp [intOf]
    · obtain ⟨wo, rfl⟩ : ∃ wo : World, wo = wr := ⟨_, rfl⟩
      have HKR := Lib.hid hkr
      have HG := Lib.hid hg
      have HR := Lib.hid hr
      have HB1 := Lib.hid hb1
      clear hkr hg hr hb1 hsh
      go_wp2_with (fail)
      go_loopw [35] (ExB (w.heap.size + 2) g r cc wo) (fun i _ => 3 - (intOf i).toNat)
      case atStart => exact ⟨0, rfl, by omega, HB1.out, HG.out, HR.out, Keep.refl _ _⟩
      case round =>
        obtain ⟨k, rfl, hk, hb, hgc, hrc, hkp⟩ := hrel
        have HKP := Lib.hid hkp
        have HBK := Lib.hid hb
        have HGC := Lib.hid hgc
        have HRC := Lib.hid hrc
        clear hkp hb hgc hrc
        have HKE : Hid (Keep None w wr) := Lib.hid (HW.out.andThen ((HKR.out.weaken (T := fun x => x = w.heap.size + 2 ∨ x = r) (fun x _ q => .inl q)).trans HKP.out) (by intro x q1 q2; have := HW.out.size; rcases q2 with rfl | rfl <;> omega))
        by_cases hlt : k < 3
        · have hsb : b < w.heap.size := by have := hs 0 (by omega) 0 _ rfl; exact World.block_lt_of_cell? w _ this
          have HSM : Hid (wr.rangeAt b (off + k * 4) (listEnc [.int .i64 0, .int .i64 ([3, 12, 40].getD k 0), .slice none 0 0, .int .i64 0])) := Lib.hid (by
            intro j u hu
            exact HKP.out.cell (HKR.out.cell (HW.out.cell (hs k hlt j u hu) id) (by simp; omega)) (by have := HW.out.size; simp; omega))
          have HKI : Hid (Keep (· ≠ w.heap.size) w1 wr) := Lib.hid ((HKR.out.weaken (by intro x q1 q2; omega)).trans (HKP.out.weaken (by intro x q1 q2; have := HW.out.size; rcases q2 with rfl | rfl <;> omega)))
          have cB0 : wr.cell? ⟨w.heap.size + 2, 0, none⟩ = some (.slice (some ⟨g, 0, none⟩) 1 cc) := by simp [World.cell?, HBK.out]
          have cB2 : wr.cell? ⟨w.heap.size + 2, 2, none⟩ = some (.int .i64 (exHits k).2.2) := by simp [World.cell?, HBK.out]
          have cB3 : wr.cell? ⟨w.heap.size + 2, 3, none⟩ = some (.int .i64 0) := by simp [World.cell?, HBK.out]
          have fB : ∀ j, wr.frozen? ⟨w.heap.size + 2, j, none⟩ = false := by intro j; simp [World.frozen?, HBK.out]
          have hBl : w.heap.size + 2 < wr.heap.size := heap_lt HBK.out
          have FB := Lib.hid fB
          have fB3 := fB 3
          clear fB
          obtain rfl | rfl | rfl : k = 0 ∨ k = 1 ∨ k = 2 := by omega
          · go_wp2_with (first
              | (with_reducible (show wpList _ _ _ (⟨_, .load 62 _, _, _, _, none⟩ :: _) _ _); refine wpList_loadEl (enc := listEnc) (size := 4) rfl 62 _ rfl _ _ rfl _ _ HSM.out rfl Try.underlying62 rfl Try.sizeSample (.agg #[.int .i64 0, .int .i64 3, .slice none 0 0, .int .i64 0]) rfl ?_)
              | (with_reducible (show wpList _ _ _ (⟨_, .load 29 _, _, _, _, none⟩ :: _) _ _); refine wpList_loadEl (enc := listEnc) (size := 8) rfl 29 _ rfl _ _ rfl _ _ (range_of_obj (Keep.obj (S := (· ≠ w.heap.size)) (w := w1) (by (repeat (first | exact HKI.out | (refine Keep.setCell ?_ (.inl (by simp; omega)) _) | refine Keep.alloc ?_ _ | refine Keep.drew ?_))) HI.out (by simp))) rfl Try.underlying29 rfl Try.sizeImg (.agg #[.slice p0 n0 c0, .slice p1 1 c1, .slice p2 n2 c2, .slice p3 n3 c3, .int .i64 k4, .int .i64 k5, .slice p6 n6 c6, .slice p7 exPls.length c7]) rfl ?_))
            generalize hWa : World.alloc _ _ = Wa
            have hka : Keep (· = w.heap.size + 2) wr Wa := by rw [← hWa]; exact ((Keep.refl (· = w.heap.size + 2) wr).setCell (p := ⟨w.heap.size + 1 + 1, 3, none⟩) (.inl rfl) _).alloc _
            have hba : Wa.heap[w.heap.size + 2]? = some (.cells #[.slice (some ⟨g, 0, none⟩) 1 cc, .slice none 0 0, .int .i64 (exHits 0).2.2, .int .i64 0] 40 (0, 0)) := by
              rw [← hWa]
              refine (Keep.refl None _).alloc _ |>.obj ?_ id
              simp [World.setCell, Array.getElem?_modify, HBK.out]
            have hsa : Wa.heap[wr.heap.size]? = some (.cells #[.int .i64 0, .int .i64 3, .slice none 0 0, .int .i64 0] 62 (0, 0)) := by
              rw [← hWa]; exact alloc_at (by simp [World.setCell])
            have him : ImgV Wa (.agg #[.slice p0 n0 c0, .slice p1 1 c1, .slice p2 n2 c2, .slice p3 n3 c3, .int .i64 k4, .int .i64 k5, .slice p6 n6 c6, .slice p7 exPls.length c7]) 1 exPls :=
              hh.keep (HKE.out.andThen hka (by intro x q1 q2; omega))
            refine (locate_calls _ 1 exPls 3 _ him (by unfold i64; omega)).mono ?_
            rw [show locate 1 3 exPls = (0, 0, true) from by decide]
            rintro e w3 ⟨rfl, hk3⟩
            have hb3 := hk3.obj hba id
            have hs3 := hk3.obj hsa id
            have hg3 : w3.cell? ⟨g, 0, none⟩ = some (.slice (some ⟨r, 0, none⟩) 2 2) := hk3.cell (hka.cell HGC.out (by simp; omega)) id
            have hr3 : w3.heap[r]? = some (.cells #[.int .i64 (exHits 0).1, .int .i64 (exHits 0).2.1] 3 (0, 0)) := hk3.obj (hka.obj HRC.out (by omega)) id
            have HB3 := Lib.hid hb3
            have HK3 := Lib.hid (hka.trans (hk3.weaken (fun _ _ q => q.elim)))
            have HR3 := Lib.hid hr3
            have HG3 := Lib.hid hg3
            have d0 : w3.cell? ⟨w.heap.size + 2, 0, none⟩ = some (.slice (some ⟨g, 0, none⟩) 1 cc) := by simp [World.cell?, hb3]
            have d1 : w3.cell? ⟨r, 0, none⟩ = some (.int .i64 0) := by simp [World.cell?, hr3, exHits]
            have d2 : w3.frozen? ⟨r, 0, none⟩ = false := by simp [World.frozen?, hr3]
            have d3 : w3.cell? ⟨wr.heap.size, 2, none⟩ = some (.slice none 0 0) := by simp [World.cell?, hs3]
            have hrw : r < wr.heap.size := heap_lt HRC.out
            clear hb3 hs3 hr3 hka hba hsa him hk3 hWa
            go_wp2_with (fail)
            go_loopw [73] (fun i wx => i = .int .i64 ((0 : Nat) : Int) ∧ wx = w3.setCell ⟨r, 0, none⟩ (.int .i64 1)) (fun _ _ => 0)
            case atStart => exact ⟨rfl, rfl⟩
            case round =>
              obtain ⟨rfl, rfl⟩ := hrel
              go_wp2
              go_roundw
              case rel =>
                have hks : Keep (· = r) w3 (w3.setCell ⟨r, 0, none⟩ (.int .i64 1)) := (Keep.refl (· = r) w3).setCell (p := ⟨r, 0, none⟩) (.inl rfl) _
                have hrel2 : ExB (w.heap.size + 2) g r cc wo (.int .i64 ((1 : Nat) : Int)) (w3.setCell ⟨r, 0, none⟩ (.int .i64 1)) := by
                  refine ⟨1, rfl, by omega, hks.obj HB3.out (by omega), hks.cell HG3.out (by simp; omega), ?_, HKP.out.trans ((HK3.out.weaken (by intro x q1 q2; exact .inl q2)).trans (hks.weaken (by intro x q1 q2; exact .inr q2)))⟩
                  unfold Arr
                  simp [World.setCell, Array.getElem?_modify, HR3.out, exHits, intEnc]
                first
                | exact hrel2
                | ((repeat apply Exists.intro); exact ⟨hrel2, rfl⟩)
              case measure => simp [intOf]
          · go_wp2_with (first
              | (with_reducible (show wpList _ _ _ (⟨_, .load 62 _, _, _, _, none⟩ :: _) _ _); refine wpList_loadEl (enc := listEnc) (size := 4) rfl 62 _ rfl _ _ rfl _ _ HSM.out rfl Try.underlying62 rfl Try.sizeSample (.agg #[.int .i64 0, .int .i64 12, .slice none 0 0, .int .i64 0]) rfl ?_)
              | (with_reducible (show wpList _ _ _ (⟨_, .load 29 _, _, _, _, none⟩ :: _) _ _); refine wpList_loadEl (enc := listEnc) (size := 8) rfl 29 _ rfl _ _ rfl _ _ (range_of_obj (Keep.obj (S := (· ≠ w.heap.size)) (w := w1) (by (repeat (first | exact HKI.out | (refine Keep.setCell ?_ (.inl (by simp; omega)) _) | refine Keep.alloc ?_ _ | refine Keep.drew ?_))) HI.out (by simp))) rfl Try.underlying29 rfl Try.sizeImg (.agg #[.slice p0 n0 c0, .slice p1 1 c1, .slice p2 n2 c2, .slice p3 n3 c3, .int .i64 k4, .int .i64 k5, .slice p6 n6 c6, .slice p7 exPls.length c7]) rfl ?_))
            generalize hWa : World.alloc _ _ = Wa
            have hka : Keep (· = w.heap.size + 2) wr Wa := by rw [← hWa]; exact ((Keep.refl (· = w.heap.size + 2) wr).setCell (p := ⟨w.heap.size + 1 + 1, 3, none⟩) (.inl rfl) _).alloc _
            have hba : Wa.heap[w.heap.size + 2]? = some (.cells #[.slice (some ⟨g, 0, none⟩) 1 cc, .slice none 0 0, .int .i64 (exHits 1).2.2, .int .i64 0] 40 (0, 0)) := by
              rw [← hWa]
              refine (Keep.refl None _).alloc _ |>.obj ?_ id
              simp [World.setCell, Array.getElem?_modify, HBK.out]
            have hsa : Wa.heap[wr.heap.size]? = some (.cells #[.int .i64 0, .int .i64 12, .slice none 0 0, .int .i64 0] 62 (0, 0)) := by
              rw [← hWa]; exact alloc_at (by simp [World.setCell])
            have him : ImgV Wa (.agg #[.slice p0 n0 c0, .slice p1 1 c1, .slice p2 n2 c2, .slice p3 n3 c3, .int .i64 k4, .int .i64 k5, .slice p6 n6 c6, .slice p7 exPls.length c7]) 1 exPls :=
              hh.keep (HKE.out.andThen hka (by intro x q1 q2; omega))
            refine (locate_calls _ 1 exPls 12 _ him (by unfold i64; omega)).mono ?_
            rw [show locate 1 12 exPls = (0, 1, true) from by decide]
            rintro e w3 ⟨rfl, hk3⟩
            have hb3 := hk3.obj hba id
            have hs3 := hk3.obj hsa id
            have hg3 : w3.cell? ⟨g, 0, none⟩ = some (.slice (some ⟨r, 0, none⟩) 2 2) := hk3.cell (hka.cell HGC.out (by simp; omega)) id
            have hr3 : w3.heap[r]? = some (.cells #[.int .i64 (exHits 1).1, .int .i64 (exHits 1).2.1] 3 (0, 0)) := hk3.obj (hka.obj HRC.out (by omega)) id
            have HB3 := Lib.hid hb3
            have HK3 := Lib.hid (hka.trans (hk3.weaken (fun _ _ q => q.elim)))
            have HR3 := Lib.hid hr3
            have HG3 := Lib.hid hg3
            have d0 : w3.cell? ⟨w.heap.size + 2, 0, none⟩ = some (.slice (some ⟨g, 0, none⟩) 1 cc) := by simp [World.cell?, hb3]
            have d1 : w3.cell? ⟨r, 1, none⟩ = some (.int .i64 0) := by simp [World.cell?, hr3, exHits]
            have d2 : w3.frozen? ⟨r, 1, none⟩ = false := by simp [World.frozen?, hr3]
            have d3 : w3.cell? ⟨wr.heap.size, 2, none⟩ = some (.slice none 0 0) := by simp [World.cell?, hs3]
            have hrw : r < wr.heap.size := heap_lt HRC.out
            clear hb3 hs3 hr3 hka hba hsa him hk3 hWa
            go_wp2_with (fail)
            go_loopw [73] (fun i wx => i = .int .i64 ((0 : Nat) : Int) ∧ wx = w3.setCell ⟨r, 1, none⟩ (.int .i64 1)) (fun _ _ => 0)
            case atStart => exact ⟨rfl, rfl⟩
            case round =>
              obtain ⟨rfl, rfl⟩ := hrel
              go_wp2
              go_roundw
              case rel =>
                have hks : Keep (· = r) w3 (w3.setCell ⟨r, 1, none⟩ (.int .i64 1)) := (Keep.refl (· = r) w3).setCell (p := ⟨r, 1, none⟩) (.inl rfl) _
                have hrel2 : ExB (w.heap.size + 2) g r cc wo (.int .i64 ((2 : Nat) : Int)) (w3.setCell ⟨r, 1, none⟩ (.int .i64 1)) := by
                  refine ⟨2, rfl, by omega, hks.obj HB3.out (by omega), hks.cell HG3.out (by simp; omega), ?_, HKP.out.trans ((HK3.out.weaken (by intro x q1 q2; exact .inl q2)).trans (hks.weaken (by intro x q1 q2; exact .inr q2)))⟩
                  unfold Arr
                  simp [World.setCell, Array.getElem?_modify, HR3.out, exHits, intEnc]
                first
                | exact hrel2
                | ((repeat apply Exists.intro); exact ⟨hrel2, rfl⟩)
              case measure => simp [intOf]
          · go_wp2_with (first
              | (with_reducible (show wpList _ _ _ (⟨_, .load 62 _, _, _, _, none⟩ :: _) _ _); refine wpList_loadEl (enc := listEnc) (size := 4) rfl 62 _ rfl _ _ rfl _ _ HSM.out rfl Try.underlying62 rfl Try.sizeSample (.agg #[.int .i64 0, .int .i64 40, .slice none 0 0, .int .i64 0]) rfl ?_)
              | (with_reducible (show wpList _ _ _ (⟨_, .load 29 _, _, _, _, none⟩ :: _) _ _); refine wpList_loadEl (enc := listEnc) (size := 8) rfl 29 _ rfl _ _ rfl _ _ (range_of_obj (Keep.obj (S := (· ≠ w.heap.size)) (w := w1) (by (repeat (first | exact HKI.out | (refine Keep.setCell ?_ (.inl (by simp; omega)) _) | refine Keep.alloc ?_ _ | refine Keep.drew ?_))) HI.out (by simp))) rfl Try.underlying29 rfl Try.sizeImg (.agg #[.slice p0 n0 c0, .slice p1 1 c1, .slice p2 n2 c2, .slice p3 n3 c3, .int .i64 k4, .int .i64 k5, .slice p6 n6 c6, .slice p7 exPls.length c7]) rfl ?_))
            generalize hWa : World.alloc _ _ = Wa
            have hka : Keep (· = w.heap.size + 2) wr Wa := by rw [← hWa]; exact ((Keep.refl (· = w.heap.size + 2) wr).setCell (p := ⟨w.heap.size + 1 + 1, 3, none⟩) (.inl rfl) _).alloc _
            have hba : Wa.heap[w.heap.size + 2]? = some (.cells #[.slice (some ⟨g, 0, none⟩) 1 cc, .slice none 0 0, .int .i64 (exHits 2).2.2, .int .i64 0] 40 (0, 0)) := by
              rw [← hWa]
              refine (Keep.refl None _).alloc _ |>.obj ?_ id
              simp [World.setCell, Array.getElem?_modify, HBK.out]
            have hsa : Wa.heap[wr.heap.size]? = some (.cells #[.int .i64 0, .int .i64 40, .slice none 0 0, .int .i64 0] 62 (0, 0)) := by
              rw [← hWa]; exact alloc_at (by simp [World.setCell])
            have him : ImgV Wa (.agg #[.slice p0 n0 c0, .slice p1 1 c1, .slice p2 n2 c2, .slice p3 n3 c3, .int .i64 k4, .int .i64 k5, .slice p6 n6 c6, .slice p7 exPls.length c7]) 1 exPls :=
              hh.keep (HKE.out.andThen hka (by intro x q1 q2; omega))
            refine (locate_calls _ 1 exPls 40 _ him (by unfold i64; omega)).mono ?_
            rw [show locate 1 40 exPls = (0, 0, false) from by decide]
            rintro e w3 ⟨rfl, hk3⟩
            have hb3 := hk3.obj hba id
            have HK3 := Lib.hid (hka.trans (hk3.weaken (fun _ _ q => q.elim)))
            have HB3 := Lib.hid hb3
            have HG3 : Hid (w3.cell? ⟨g, 0, none⟩ = some (.slice (some ⟨r, 0, none⟩) 2 2)) := Lib.hid (hk3.cell (hka.cell HGC.out (by simp; omega)) id)
            have HR3 : Hid (Arr intEnc 3 w3 r [1, 1]) := Lib.hid (hk3.obj (hka.obj HRC.out (by omega)) id)
            have d0 : w3.cell? ⟨w.heap.size + 2, 2, none⟩ = some (.int .i64 0) := by simp [World.cell?, hb3, exHits]
            have d1 : w3.frozen? ⟨w.heap.size + 2, 2, none⟩ = false := by simp [World.frozen?, hb3]
            clear hb3 hka hba hsa him hk3 hWa
            go_wp2_with (fail)
            go_roundw
            case rel =>
              have hks : Keep (· = w.heap.size + 2) w3 (w3.setCell ⟨w.heap.size + 2, 2, none⟩ (.int .i64 1)) := (Keep.refl (· = w.heap.size + 2) w3).setCell (p := ⟨w.heap.size + 2, 2, none⟩) (.inl rfl) _
              have hrel2 : ExB (w.heap.size + 2) g r cc wo (.int .i64 ((3 : Nat) : Int)) (w3.setCell ⟨w.heap.size + 2, 2, none⟩ (.int .i64 1)) := by
                refine ⟨3, rfl, by omega, ?_, hks.cell HG3.out (by simp; omega), HR3.out.keep hks (by omega), HKP.out.trans ((HK3.out.trans hks).weaken (by intro x q1 q2; exact .inl q2))⟩
                simp [World.setCell, Array.getElem?_modify, HB3.out, exHits]
              first
              | exact hrel2
              | ((repeat apply Exists.intro); exact ⟨hrel2, rfl⟩)
            case measure => simp [intOf]
        · have hke : k = 3 := by omega
          subst hke
          have hb3 := HBK.out
          have HKT : Hid (Keep (· ≠ w.heap.size + 1) w1 wr) := Lib.hid ((HKR.out.weaken (by intro x q1 q2; omega)).trans (HKP.out.weaken (by intro x q1 q2; have := HW.out.size; rcases q2 with rfl | rfl <;> omega)))
          have cB0 : wr.cell? ⟨w.heap.size + 2, 0, none⟩ = some (.slice (some ⟨g, 0, none⟩) 1 cc) := by simp [World.cell?, hb3]
          have ht3 := HKT.out.obj HT.out (by simp)
          have t0 : wr.cell? ⟨w.heap.size + 1, 0, none⟩ = some (.slice none 0 0) := by simp [World.cell?, ht3]
          have t1 : wr.cell? ⟨w.heap.size + 1, 1, none⟩ = some (.slice none 0 0) := by simp [World.cell?, ht3]
          have t2 : wr.cell? ⟨w.heap.size + 1, 2, none⟩ = some (.int .i64 0) := by simp [World.cell?, ht3]
          have t3 : wr.cell? ⟨w.heap.size + 1, 3, none⟩ = some (.int .i64 0) := by simp [World.cell?, ht3]
          have z0 : wr.frozen? ⟨w.heap.size + 1, 0, none⟩ = false := by simp [World.frozen?, ht3]
          have z1 : wr.frozen? ⟨w.heap.size + 1, 1, none⟩ = false := by simp [World.frozen?, ht3]
          have z2 : wr.frozen? ⟨w.heap.size + 1, 2, none⟩ = false := by simp [World.frozen?, ht3]
          have z3 : wr.frozen? ⟨w.heap.size + 1, 3, none⟩ = false := by simp [World.frozen?, ht3]
          clear ht3 hb3
          go_wp2_with (with_reducible (show wpList _ _ _ (⟨_, .load 40 _, _, _, _, none⟩ :: _) _ _); refine wpList_loadEl (enc := listEnc) (size := 4) rfl 40 _ rfl _ _ rfl _ _ (range_of_obj HBK.out) rfl Try.underlying40 rfl Try.sizeHits (.agg #[.slice (some ⟨g, 0, none⟩) 1 cc, .slice none 0 0, .int .i64 1, .int .i64 0]) rfl ?_)
          have hks : ∀ W, Keep (· = w.heap.size + 1) wr W → ExPost w (.returned (.agg #[.slice (some ⟨g, 0, none⟩) 1 cc, .slice none 0 0, .int .i64 1, .int .i64 0])) W := fun W hk =>
            ⟨g, r, cc, rfl, hk.cell HGC.out (by simp; omega), HRC.out.keep hk (by omega), HKE.out.andThen hk (by intro x q1 q2; omega)⟩
          have hT := HKT.out.obj HT.out (by simp)
          generalize hW4 : World.setCell _ _ _ = W4
          have hk4 : Keep (· = w.heap.size + 1) wr W4 := by
            rw [← hW4]
            exact ((((Keep.refl (· = w.heap.size + 1) wr).setCell (p := ⟨w.heap.size + 1, 0, none⟩) (.inl rfl) _).setCell (p := ⟨w.heap.size + 1, 1, none⟩) (.inl rfl) _).setCell (p := ⟨w.heap.size + 1, 2, none⟩) (.inl rfl) _).setCell (p := ⟨w.heap.size + 1, 3, none⟩) (.inl rfl) _
          have ho4 : W4.heap[w.heap.size + 1]? = some (.cells #[.slice (some ⟨g, 0, none⟩) 1 cc, .slice none 0 0, .int .i64 1, .int .i64 0] 40 (0, 0)) := by
            rw [← hW4]
            simp [World.setCell, Array.getElem?_modify, hT]
          have r0 : W4.cell? ⟨w.heap.size + 1, 0, none⟩ = some (.slice (some ⟨g, 0, none⟩) 1 cc) := by simp [World.cell?, ho4]
          have r1 : W4.cell? ⟨w.heap.size + 1, 1, none⟩ = some (.slice none 0 0) := by simp [World.cell?, ho4]
          have r2 : W4.cell? ⟨w.heap.size + 1, 2, none⟩ = some (.int .i64 1) := by simp [World.cell?, ho4]
          have r3 : W4.cell? ⟨w.heap.size + 1, 3, none⟩ = some (.int .i64 0) := by simp [World.cell?, ho4]
          refine bodyPost_ret (v := .agg #[.slice (some ⟨g, 0, none⟩) 1 cc, .slice none 0 0, .int .i64 1, .int .i64 0]) (by simp [results, Try.results20, go_sem, r0, r1, r2, r3]) rfl (hks _ hk4)

/-- The sanity check holds. -/
theorem awake_calls (w : World) : Calls Try.prog 6 #[] w (Gives None (.bool true) w) := by
  go_enter Try.func6, Try.ntmps6
  go_wp2_with (fail)
  refine (example_calls _).mono ?_
  rintro e w1 ⟨v, rfl, him, hk1⟩
  have HIM := Lib.hid him
  have HK1 := Lib.hid hk1
  clear him hk1
  go_wp2_with (fail)
  have him : ImgV (w1.alloc (.cells #[.int .i64 0, .int .i64 3, .slice none 0 0, .int .i64 0, .int .i64 0, .int .i64 12, .slice none 0 0, .int .i64 0, .int .i64 0, .int .i64 40, .slice none 0 0, .int .i64 0] 62)) v 1 exPls := HIM.out.keep ((Keep.refl _ _).alloc _)
  refine (collect_example v _ 3 _ him ⟨w1.heap.size, 0, rfl, ?_⟩).mono ?_
  · intro k hk j u hu
    obtain rfl | rfl | rfl : k = 0 ∨ k = 1 ∨ k = 2 := by omega
    all_goals
      obtain rfl | rfl | rfl | rfl : j = 0 ∨ j = 1 ∨ j = 2 ∨ j = 3 := by
        have := (List.getElem?_eq_some_iff.1 hu).1
        simp at this; omega
      all_goals (simp at hu; subst hu; simp)
  rintro e w2 ⟨g, r, c, rfl, hg, hr, hk2⟩
  have hr0 : w2.cell? ⟨r, 0, none⟩ = some (.int .i64 1) := by simpa using hr.range intEnc_len (i := 0) rfl 0 _ rfl
  have hr1 : w2.cell? ⟨r, 1, none⟩ = some (.int .i64 1) := by simpa using hr.range intEnc_len (i := 1) rfl 0 _ rfl
  have HK2 := Lib.hid ((HK1.out.trans ((Keep.refl _ _).alloc _)).trans hk2)
  clear hr hk2 him
  have hgl : g < w2.heap.size := World.block_lt_of_cell? w2 _ hg
  have hrl : r < w2.heap.size := World.block_lt_of_cell? w2 _ hr0
  go_wp2
  go_ret
  exact ⟨rfl, HK2.out.trans ((Keep.refl _ _).alloc _)⟩

end Go.Proofs.Ytlhmajjmhkjcoaa
