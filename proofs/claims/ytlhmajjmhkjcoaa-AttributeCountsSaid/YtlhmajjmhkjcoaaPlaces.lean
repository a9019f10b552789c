/-
  Chapter 23: an image with any places.
-/
import Derived.Test.YtlhmajjmhkjcoaaImg
import Derived.Test.YtlhmajjmhkjcoaaBaseTwo
import Derived.Test.YtlhmajjmhkjcoaaCodeInt
import Derived.Deep.DeepCutAuto
import Derived.Deep.CutBlock
namespace Go.Proofs.Ytlhmajjmhkjcoaa
open Go.RowKit

def imgAddr : Value → Option Addr
  | .agg cs => match (cs[7]? : Option Value) with | some (Value.slice p _ _) => p | _ => none
  | _ => none

theorem ImgV.keepOff {S : Nat → Prop} {w w' : World} {v : Value} {n : Nat} {ps : List Pl} (h : ImgV w v n ps) (k : Keep S w w') (ho : OffS S (imgAddr v)) : ImgV w' v n ps := by
  obtain ⟨⟨p0, n0, c0, p1, c1, p2, n2, c2, p3, n3, c3, k4, k5, p6, n6, c6, p7, c7, rfl, hs⟩, ln, lp, hok⟩ := h
  exact ⟨⟨p0, n0, c0, p1, c1, p2, n2, c2, p3, n3, c3, k4, k5, p6, n6, c6, p7, c7, rfl, hs.keep k ho⟩, ln, lp, hok⟩

def PlacesPost (b bl : Nat) (w : World) (e : Ending) (w' : World) : Prop :=
  ∃ (v : Value) (n : Nat) (ps : List Pl) (r : List Int), e = .returned v ∧ ImgV w' v n ps ∧ CodesAt w' b bl r ∧ Keep (· = b) w w' ∧ n ≤ 3 ∧ ps.length ≤ 6 ∧ From w.heap.size (imgAddr v)

def PlacesInv (b bl B n c1 : Nat) (p1 : Option Addr) (w0 : World) (i : Value) (w : World) : Prop :=
  ∃ (k : Nat) (r : List Int) (ps : List Pl) (p7 : Option Addr) (c7 : Nat), i = .int .i64 k ∧ k + ps.length ≤ 6 ∧ CodesAt w b bl r ∧ Own Pl.enc 4 65 w0.heap.size w (.slice p7 ps.length c7) ps ∧ (∀ p ∈ ps, p.ok) ∧
    w.heap[B + 1]? = some (.cells #[.slice none 0 0, .slice p1 n c1, .slice none 0 0, .slice none 0 0, .int .i64 0, .int .i64 0, .slice none 0 0, .slice p7 ps.length c7] 29 (0, 0)) ∧ Keep (fun x => x = b ∨ x = B + 1) w0 w

/-- The place that is being made. -/
def PlaceCut (b bl P : Nat) (w0 w : World) : Prop :=
  ∃ (r : List Int) (p : Pl), CodesAt w b bl r ∧ w.heap[P]? = some (.cells p.enc.toArray 65 (0, 0)) ∧ p.ok ∧ Keep (fun x => x = b ∨ x = P) w0 w

set_option maxRecDepth 100000 in
set_option maxHeartbeats 2000000 in
theorem places_calls (b bl : Nat) (r : List Int) (w : World) (h : CodesAt w b bl r) :
    Calls Try.prog 7 #[.pointer (some ⟨b, 0, none⟩)] w (PlacesPost b bl w) := by
  obtain ⟨i2, hi2, hv0, hv1, hv2⟩ := info_parts Try.infoInt
  obtain ⟨i3, hi3, hx0, hx1, hx2⟩ := info_parts Try.infoPl
  have hbw := h.lt
  go_enter Try.func7, Try.ntmps7
  go_wp2_with (fail)
  refine (next_in b bl _ r _ (h.keep (S := None) (((Keep.refl _ _).alloc _).alloc _) id id) (by omega) (by omega)).mono ?_
  rintro e w1 ⟨rfl, hc1, hk1, ha0, ha1⟩
  generalize next 4 r = q1 at *
  obtain ⟨m, r1⟩ := q1
  simp only at hc1 ha0 ha1
  obtain ⟨n, rfl⟩ : ∃ n : Nat, m = n := ⟨m.toNat, by omega⟩
  have hz : w1.heap[w.heap.size]? = some (.cells #[.slice none 0 0, .slice none 0 0, .slice none 0 0, .slice none 0 0, .int .i64 0, .int .i64 0, .slice none 0 0, .slice none 0 0] 29 (0, 0)) := hk1.obj (((Keep.refl None _).alloc _).obj (heap_alloc_new _ _) id) (by omega)
  have hi1 : w1.heap[w.heap.size + 1]? = some (.cells #[.slice none 0 0, .slice none 0 0, .slice none 0 0, .slice none 0 0, .int .i64 0, .int .i64 0, .slice none 0 0, .slice none 0 0] 29 (0, 0)) := hk1.obj (alloc_at (by simp)) (by omega)
  have hkw : Keep (· = b) w w1 := ((Keep.refl (· = b) w).alloc _ |>.alloc _).trans hk1
  have HZ := Lib.hid hz
  have HI1 := Lib.hid hi1
  have HW := Lib.hid hkw
  have HC1 := Lib.hid hc1
  clear hz hi1 hkw hk1 hc1 h
  go_wp2_with (at_make; refine wpList_makeArr (enc := intEnc) _ rfl _ _ 25 rfl 3 i2 _ 8 Try.underlying25 hi2 hv0 hv1 hv2 (0 : Int) intEnc_len rfl (by decide) _ _ _ _ n rfl rfl (by simp) (by simp) (by omega) (by omega) ?_; intro w2 harr hk2 hsz; have c1 : w2.cell? ⟨w.heap.size + 1, 1, none⟩ = some (.slice none 0 0) := (by simp [World.cell?, hk2.obj HI1.out id]); have f1 : w2.frozen? ⟨w.heap.size + 1, 1, none⟩ = false := (by simp [World.frozen?, hk2.obj HI1.out id]); have HK2 := Lib.hid hk2; have HARR := Lib.hid harr; clear hk2 harr hsz)
  generalize hW3 : World.setCell _ _ _ = w3
  have hk3 : Keep (· = w.heap.size + 1) w2 w3 := by rw [← hW3]; exact (Keep.refl (· = w.heap.size + 1) w2).setCell (p := ⟨w.heap.size + 1, 1, none⟩) (.inl rfl) _
  have hi3' : w3.heap[w.heap.size + 1]? = some (.cells #[.slice none 0 0, .slice (some ⟨w1.heap.size, 0, none⟩) n n, .slice none 0 0, .slice none 0 0, .int .i64 0, .int .i64 0, .slice none 0 0, .slice none 0 0] 29 (0, 0)) := by
    rw [← hW3]; simp [World.setCell, Array.getElem?_modify, HK2.out.obj HI1.out id]
  have hc3 : CodesAt w3 b bl r1 := (HC1.out.keep HK2.out id id).keep hk3 (by omega) (by omega)
  have hz3 := hk3.obj (HK2.out.obj HZ.out id) (by omega)
  have hkw3 : Keep (· = b) w w3 := (HW.out.trans (HK2.out.weaken (fun _ _ q => q.elim))).andThen hk3 (by intro x q1 q2; omega)
  clear hW3 hk3
  refine (next_in b bl _ r1 _ hc3 (by omega) (by omega)).mono ?_
  rintro e w4 ⟨rfl, hc4, hk4, hb0, hb1⟩
  generalize next 7 r1 = q2 at *
  obtain ⟨m, r2⟩ := q2
  simp only at hc4 hb0 hb1
  have HI := Lib.hid (hk4.obj hi3' (by omega))
  have HZ4 := Lib.hid (hk4.obj hz3 (by omega))
  have HW4 := Lib.hid (hkw3.trans hk4)
  have HC4 := Lib.hid hc4
  have hlt4 : w.heap.size + 1 < w4.heap.size := heap_lt HI.out
  clear hi3' hz3 hkw3 hk4 hc4 hc3 HC1 HK2 HI1 HZ
  go_wp2_with (fail)
  go_loopw [4] (PlacesInv b bl w.heap.size n n (some ⟨w1.heap.size, 0, none⟩) w4) (fun i _ => (intOf i).toNat)
  case atStart => exact ⟨m.toNat, r2, [], none, 0, by rw [Int.toNat_of_nonneg hb0], by simp; omega, HC4.out, Own.nil _ _ _ _ _, by simp, HI.out, Keep.refl _ _⟩
  case round =>
    obtain ⟨k, s, ps, p7, c7, rfl, hk, hcs, hown, hok, hobj, hkp⟩ := hrel
    have HO := Lib.hid hown
    have HOK := Lib.hid hok
    have HOB := Lib.hid hobj
    have HKP := Lib.hid hkp
    have hbs := hcs.lt
    have hls := hkp.size
    clear hown hok hobj hkp
    by_cases hz : k = 0
    · subst hz
      have hob := HOB.out
      have HZR := Lib.hid (HZ4.out)
      have hz7 := HKP.out.obj HZR.out (by omega)
      have HZ7 := Lib.hid hz7
      clear hz7 hob
      go_wp2_with (first
        | (with_reducible (show wpList _ _ _ (⟨_, .load 29 _, _, _, _, none⟩ :: _) _ _); refine wpList_loadEl (enc := listEnc) (size := 8) rfl 29 _ rfl _ _ rfl _ _ (range_of_obj HOB.out) rfl Try.underlying29 rfl Try.sizeImg (.agg #[.slice none 0 0, .slice (some ⟨w1.heap.size, 0, none⟩) n n, .slice none 0 0, .slice none 0 0, .int .i64 0, .int .i64 0, .slice none 0 0, .slice p7 ps.length c7]) rfl ?_)
        | (with_reducible (show wpList _ _ _ (⟨_, .store 29 _ _, _, _, _, none⟩ :: _) _ _); (refine wpList_storeObj rfl 29 _ _ rfl _ rfl _ _ rfl _ (by simp) HZ7.out 8 Try.sizeImg rfl (by simp [Value.oneCell']) ?_); intro w6 hres hk6 hs6; have HRES := Lib.hid hres; have HK6 := Lib.hid hk6; clear hres hk6 hs6))
      refine bodyPost_ret (results_obj rfl rfl _ _ (range_of_obj HRES.out) Try.underlying29 rfl 8 Try.sizeImg rfl) rfl ?_
      obtain ⟨_, _, _, hsl, hfrom⟩ := HO.out.reads Pl.enc_len
      have hsl6 : SliceV Pl.enc 4 w6 p7 ps := hsl.keep HK6.out (by intro a ha he; have := hfrom a ha; omega)
      refine ⟨_, n, ps, s, rfl, ⟨⟨_, _, _, _, _, _, _, _, _, _, _, _, _, _, _, _, _, _, rfl, hsl6⟩, by omega, by omega, HOK.out⟩, hcs.keep HK6.out (by omega) (by omega), ?_, by omega, by omega, ?_⟩
      · exact (HW4.out.andThen HKP.out (by intro x q1 q2; omega)).andThen HK6.out (by intro x q1 q2; omega)
      · intro a ha
        have := hfrom a ha
        omega
    · have hpos : 0 < k := by omega
      go_wp2_with (fail)
      refine (next_in b bl _ _ _ hcs (by omega) (by omega)).mono ?_
      rintro e v1 ⟨rfl, hc1, hk1, a0, a1⟩
      generalize next 4 s = q1 at *
      obtain ⟨x1, s1⟩ := q1
      simp only at hc1 a0 a1
      go_wp2_with (fail)
      refine (next_in b bl _ _ _ hc1 (by omega) (by omega)).mono ?_
      rintro e v2 ⟨rfl, hc2, hk2, b0, b1⟩
      generalize next 4 s1 = q2 at *
      obtain ⟨x2, s2⟩ := q2
      simp only at hc2 b0 b1
      go_wp2_with (fail)
      refine (next_in b bl _ _ _ hc2 (by omega) (by omega)).mono ?_
      rintro e v3 ⟨rfl, hc3, hk3, d0, d1⟩
      generalize next 40 s2 = q3 at *
      obtain ⟨x3, s3⟩ := q3
      simp only at hc3 d0 d1
      go_wp2_with (fail)
      refine (next_in b bl _ _ _ hc3 (by omega) (by omega)).mono ?_
      rintro e v4 ⟨rfl, hc4, hk4, e0, e1⟩
      generalize next 12 s3 = q4 at *
      obtain ⟨x4, s4⟩ := q4
      simp only at hc4 e0 e1
      have hkv : Keep (· = b) wr v4 := ((hk1.trans hk2).trans hk3).trans hk4
      have HKV := Lib.hid hkv
      have HCV := Lib.hid hc4
      have hlv : wr.heap.size ≤ v4.heap.size := hkv.size
      clear hk1 hk2 hk3 hk4 hc1 hc2 hc3 hc4 hkv hcs
      go_wp2_with (fail)
      refine (next_in b bl _ _ _ (HCV.out.keep (S := None) ((Keep.refl _ _).alloc _) id id) (by omega) (by omega)).mono ?_
      rintro e v5 ⟨rfl, hc5, hk5, g0, g1⟩
      generalize next 12 s4 = q5 at *
      obtain ⟨x5, s5⟩ := q5
      simp only at hc5 g0 g1
      have hp5 : v5.heap[v4.heap.size]? = some (.cells #[.int .i64 (x1 - 1), .int .i64 (x2 - 1), .int .i64 (x3 - 5), .int .i64 (x4 - 1)] 65 (0, 0)) := hk5.obj (heap_alloc_new _ _) (by omega)
      have HP5 := Lib.hid hp5
      have HK5 := Lib.hid (((HKV.out.alloc _).trans hk5))
      have HC5 := Lib.hid hc5
      have hlp : v4.heap.size < v5.heap.size := heap_lt hp5
      clear hp5 hk5 hc5
      go_upto_block 2 with (fail)
      go_cut [] (fun wx => PlaceCut b bl v4.heap.size v5 wx)
      case first =>
        go_wp2_with (fail)
        · refine (int_in b bl _ _ HC5.out).mono ?_
          rintro e v6 ⟨y1, t1, rfl, hc6, hk6, hy1⟩
          go_wp2_with (fail)
          refine (int_in b bl _ _ hc6).mono ?_
          rintro e v7 ⟨y2, t2, rfl, hc7, hk7, hy2⟩
          have hk67 : Keep (· = b) v5 v7 := hk6.trans hk7
          have hp7 := hk67.obj HP5.out (by omega)
          have c2 : v7.cell? ⟨v4.heap.size, 2, none⟩ = some (.int .i64 (x3 - 5)) := by simp [World.cell?, hp7]
          have c3 : v7.cell? ⟨v4.heap.size, 3, none⟩ = some (.int .i64 (x4 - 1)) := by simp [World.cell?, hp7]
          have f2 : v7.frozen? ⟨v4.heap.size, 2, none⟩ = false := by simp [World.frozen?, hp7]
          have f3 : v7.frozen? ⟨v4.heap.size, 3, none⟩ = false := by simp [World.frozen?, hp7]
          have HP7 := Lib.hid hp7
          have HK7 := Lib.hid hk67
          have HC7 := Lib.hid hc7
          clear hp7 hk67 hc7 hc6 hk6 hk7
          go_wp2_with (fail)
          go_meet
          case rel =>
            have hks : Keep (· = v4.heap.size) v7 ((v7.setCell ⟨v4.heap.size, 2, none⟩ (.int .i64 y1)).setCell ⟨v4.heap.size, 3, none⟩ (.int .i64 y2)) := ((Keep.refl (· = v4.heap.size) v7).setCell (p := ⟨v4.heap.size, 2, none⟩) (.inl rfl) _).setCell (p := ⟨v4.heap.size, 3, none⟩) (.inl rfl) _
            refine ⟨t2, ⟨x1 - 1, x2 - 1, y1, y2⟩, HC7.out.keep hks (by omega) (by omega), ?_, ?_, (HK7.out.weaken (fun x _ q => .inl q)).trans (hks.weaken (fun x _ q => .inr q))⟩
            · simp [World.setCell, Array.getElem?_modify, HP7.out, Pl.enc]
            · unfold Pl.ok; exact ⟨by unfold i64; simp only; omega, by unfold i64; simp only; omega, by exact hy1, by exact hy2⟩
        · refine (int_in b bl _ _ HC5.out).mono ?_
          rintro e v6 ⟨y1, t1, rfl, hc6, hk6, hy1⟩
          go_wp2_with (fail)
          refine (int_in b bl _ _ hc6).mono ?_
          rintro e v7 ⟨y2, t2, rfl, hc7, hk7, hy2⟩
          have hk67 : Keep (· = b) v5 v7 := hk6.trans hk7
          have hp7 := hk67.obj HP5.out (by omega)
          have c2 : v7.cell? ⟨v4.heap.size, 0, none⟩ = some (.int .i64 (x1 - 1)) := by simp [World.cell?, hp7]
          have c3 : v7.cell? ⟨v4.heap.size, 1, none⟩ = some (.int .i64 (x2 - 1)) := by simp [World.cell?, hp7]
          have f2 : v7.frozen? ⟨v4.heap.size, 0, none⟩ = false := by simp [World.frozen?, hp7]
          have f3 : v7.frozen? ⟨v4.heap.size, 1, none⟩ = false := by simp [World.frozen?, hp7]
          have HP7 := Lib.hid hp7
          have HK7 := Lib.hid hk67
          have HC7 := Lib.hid hc7
          clear hp7 hk67 hc7 hc6 hk6 hk7
          go_wp2_with (fail)
          go_meet
          case rel =>
            have hks : Keep (· = v4.heap.size) v7 ((v7.setCell ⟨v4.heap.size, 0, none⟩ (.int .i64 y1)).setCell ⟨v4.heap.size, 1, none⟩ (.int .i64 y2)) := ((Keep.refl (· = v4.heap.size) v7).setCell (p := ⟨v4.heap.size, 0, none⟩) (.inl rfl) _).setCell (p := ⟨v4.heap.size, 1, none⟩) (.inl rfl) _
            refine ⟨t2, ⟨y1, y2, x3 - 5, x4 - 1⟩, HC7.out.keep hks (by omega) (by omega), ?_, ?_, (HK7.out.weaken (fun x _ q => .inl q)).trans (hks.weaken (fun x _ q => .inr q))⟩
            · simp [World.setCell, Array.getElem?_modify, HP7.out, Pl.enc]
            · unfold Pl.ok; exact ⟨by exact hy1, by exact hy2, by unfold i64; simp only; omega, by unfold i64; simp only; omega⟩
        · go_meet
          case rel =>
            exact ⟨s5, ⟨x1 - 1, x2 - 1, x3 - 5, x4 - 1⟩, HC5.out, HP5.out, by unfold Pl.ok i64; simp only; omega, Keep.refl _ _⟩
      case rest =>
        obtain ⟨t, pl, hct, hpt, hpo, hkt⟩ := hcut
        have hob7 := hkt.obj (HK5.out.obj HOB.out (by omega)) (by omega)
        have hown7 : Own Pl.enc 4 65 w4.heap.size wc (.slice p7 ps.length c7) ps := (HO.out.keepOld HK5.out (by rintro g rfl; have := HC4.out.lt; omega)).keep hkt (by
          intro g hg
          have := World.ownsRow.lt HO.out g hg
          have := HC4.out.lt
          omega)
        have c7' : wc.cell? ⟨w.heap.size + 1, 7, none⟩ = some (.slice p7 ps.length c7) := by simp [World.cell?, hob7]
        have f7' : wc.frozen? ⟨w.heap.size + 1, 7, none⟩ = false := by simp [World.frozen?, hob7]
        have HO7 := Lib.hid hown7
        have HB7 := Lib.hid hob7
        have HCT := Lib.hid hct
        have HPT := Lib.hid hpt
        have HPO := Lib.hid hpo
        have HKT := Lib.hid hkt
        have hwcs := hkt.size
        obtain ⟨f, bb, q, sz⟩ := pl
        have hps : w.heap.size + 1 < wc.heap.size := heap_lt hob7
        clear hob7 hown7 hct hpt hpo hkt
        go_wp2_with (first
          | (with_reducible (show wpList _ _ _ (⟨_, .load 65 _, _, _, _, none⟩ :: _) _ _); (refine wpList_loadEl (enc := listEnc) (size := 4) rfl 65 _ rfl _ _ rfl _ _ (range_of_obj HPT.out) rfl Try.underlying65 rfl Try.sizePl (.agg #[.int .i64 f, .int .i64 bb, .int .i64 q, .int .i64 sz]) rfl ?_))
          | (at_builtin; (refine wpList_pushAt rfl _ _ 27 rfl w4.heap.size _ i3 _ 32 Try.underlying27 hi3 hx0 hx1 hx2 rfl (by decide) Pl.enc_len (.slice p7 ps.length c7) ps rfl (HO7.out.keep (S := None) ((Keep.refl _ _).alloc _) (fun _ _ => id)) ⟨f, bb, q, sz⟩ wc.heap.size 1 rfl _ (heap_alloc_new _ _) rfl rfl (by simp [Value.oneCell']) (by omega) (by omega) (by simp; omega) ?_); intro pv cv w6 hown6 hk6 hk6' hown6b; have hst := CF.keep hk6 (CF.keep (S := None) ((Keep.refl _ _).alloc _) ⟨c7', f7'⟩ id) (by simp; omega)))
        have hobj6 : w6.heap[w.heap.size + 1]? = some _ := hk6.obj ((Keep.refl None wc).alloc _ |>.obj HB7.out id) (by omega)
        have hks : Keep (· = w.heap.size + 1) w6 (w6.setCell ⟨w.heap.size + 1, 7, none⟩ (.slice pv (ps.length + 1) cv)) := (Keep.refl (· = w.heap.size + 1) w6).setCell (p := ⟨w.heap.size + 1, 7, none⟩) (.inl rfl) _
        have hobj7 : (w6.setCell ⟨w.heap.size + 1, 7, none⟩ (.slice pv (ps.length + 1) cv)).heap[w.heap.size + 1]? = some (.cells #[.slice none 0 0, .slice (some ⟨w1.heap.size, 0, none⟩) n n, .slice none 0 0, .slice none 0 0, .int .i64 0, .int .i64 0, .slice none 0 0, .slice pv (ps.length + 1) cv] 29 (0, 0)) := by
          simp [World.setCell, Array.getElem?_modify, hobj6]
        have hcod : CodesAt (w6.setCell ⟨w.heap.size + 1, 7, none⟩ (.slice pv (ps.length + 1) cv)) b bl t :=
          ((HCT.out.keep (S := None) ((Keep.refl _ _).alloc _) id id).keep hk6 (by have := HC4.out.lt; omega) (by have := HC4.out.lt; omega)).keep hks (by omega) (by omega)
        have hown8 : Own Pl.enc 4 65 w4.heap.size (w6.setCell ⟨w.heap.size + 1, 7, none⟩ (.slice pv (ps.length + 1) cv)) (.slice pv (ps.length + 1) cv) (ps ++ [⟨f, bb, q, sz⟩]) := hown6.keepOld hks (by rintro g rfl; omega)
        have hkall : Keep (fun x => x = b ∨ x = w.heap.size + 1) w4 (w6.setCell ⟨w.heap.size + 1, 7, none⟩ (.slice pv (ps.length + 1) cv)) :=
          ((HKP.out.andThen ((HK5.out.weaken (T := fun x => x = b ∨ x = v4.heap.size) (fun x _ q => .inl q)).trans HKT.out |>.alloc _) (by intro x q1 q2; rcases q2 with rfl | rfl <;> omega)).andThen hk6 (by intro x q1 q2; omega)).andThen hks (by intro x q1 q2; exact .inr q2)
        go_roundw
        case rel =>
          have hrel2 : PlacesInv b bl w.heap.size n n (some ⟨w1.heap.size, 0, none⟩) w4 (.int .i64 ((k : Int) - 1)) (w6.setCell ⟨w.heap.size + 1, 7, none⟩ (.slice pv (ps.length + 1) cv)) := by
            refine ⟨k - 1, t, ps ++ [⟨f, bb, q, sz⟩], pv, cv, by go_num, by simp; omega, hcod, by simpa using hown8, ?_, by simpa using hobj7, hkall⟩
            intro p hp
            rcases List.mem_append.1 hp with hp | hp
            · exact HOK.out p hp
            · simp at hp; subst hp; exact HPO.out
          first
          | exact hrel2
          | ((repeat apply Exists.intro); exact ⟨hrel2, rfl⟩)
        case measure => simp [intOf]; omega

end Go.Proofs.Ytlhmajjmhkjcoaa
