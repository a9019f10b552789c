/-
  Chapter 30: the law of valid pieces, walked.
-/
import Derived.Test.YtcdophocpheadaaGreatDoorSvRef
import Derived.Test.YtcdophocpheadaaGreatDoorSvOdd
import Derived.Test.YtcdophocpheadaaGreatDoorSvRow
import Derived.Test.YtcdophocpheadaaGreatDoorSdOrdMain
namespace Go.Proofs.YtcdophocpheadaaGreatDoor
open Go.RowKit

/-- Whether something holds, as a truth value. -/
noncomputable def decP (P : Prop) : Bool := @decide P (Classical.propDecidable P)
theorem Says.dec {P : Prop} {w : World} {e : Ending} {w' : World} (h : Says P w e w') : e = .returned (.bool (decP P)) ∧ Keep None w w' := by
  obtain ⟨b, rfl, h2, h3⟩ := h
  refine ⟨?_, h3⟩
  have : b = decP P := by
    unfold decP
    cases b with
    | true => exact (@decide_eq_true P (Classical.propDecidable P) (h2.1 rfl)).symm
    | false => exact (@decide_eq_false P (Classical.propDecidable P) fun p => by have := h2.2 p; cases this).symm
  rw [this]
theorem decP_true {P : Prop} (h : P) : decP P = true := @decide_eq_true P (Classical.propDecidable P) h

/-- Behind the choice of what is changed. -/
structure YS (gp gx gy : Nat) (pr pm pn pd : Int) (pp : Option Addr) (pc : Nat) (pl : List FcM) (xr xm xn xd : Int) (xp : Option Addr) (xc : Nat) (xl : List FcM) (w0 w : World) (Y : PcM) : Prop where
  bp : w.heap[gp]? = some (.cells #[.int .i64 pr, .int .i64 pm, .int .i64 pn, .int .u64 pd, .slice pp pl.length pc] 35 (0, 0))
  bx : w.heap[gx]? = some (.cells #[.int .i64 xr, .int .i64 xm, .int .i64 xn, .int .u64 xd, .slice xp xl.length xc] 35 (0, 0))
  bY : w.heap[gy]? = some (.cells #[.int .i64 Y.r, .int .i64 Y.m, .int .i64 Y.n, .int .u64 Y.dg, .slice Y.p Y.l.length Y.c] 35 (0, 0))
  op : FcsOk w pp pl
  ox : FcsOk w xp xl
  oy : FcsOk w Y.p Y.l
  kp : Keep None w0 w

/-! ### Values of drawn regions -/
def FcV (S : Nat → Prop) (w : World) (v : Value) : Prop := ∃ y : FcM, v = y.val ∧ y.ok w ∧ y.off S
theorem fcV_keep (b : Nat) (S : Nat → Prop) (hS : S b) : ∀ w w' v, Keep (· = b) w w' → FcV S w v → FcV S w' v :=
  fun _ _ _ h ⟨y, h1, h2, h3⟩ => ⟨y, h1, h2.keepS h (h3.mono fun i hi => by have h4 : i = b := hi; rw [h4]; exact hS), h3⟩
def Pr64 (_ : World) (v : Value) : Prop := ∃ x y, v = .agg #[.int .i64 x, .int .i64 y]
theorem pr64_keep (S : Nat → Prop) : ∀ w w' v, Keep S w w' → Pr64 w v → Pr64 w' v := fun _ _ _ _ h => h
def TgMade (lo : Nat) (w : World) (v : Value) : Prop := ∃ g x y z u, v = .slice (some ⟨g, 0, none⟩) 2 2 ∧ lo ≤ g ∧ w.heap[g]? = some (.cells #[.int .i64 x, .int .i64 y, .int .i64 z, .int .i64 u] 48 (0, 0))
theorem tgMade_keep (b lo : Nat) (hb : b < lo) : ∀ w w' v, Keep (· = b) w w' → TgMade lo w v → TgMade lo w' v :=
  fun _ _ _ h ⟨g, x, y, z, u, h1, h2, h3⟩ => ⟨g, x, y, z, u, h1, h2, h.obj h3 (by omega)⟩
def StV (lo : Nat) (w : World) (v : Value) : Prop := ∃ s : SiteM, v = .agg #[.int .i64 s.b, .int .i64 s.i, .slice s.p s.tg.length s.c] ∧ s.ok w ∧ OffS (· < lo) s.p
theorem stV_keep (b lo : Nat) (hb : b < lo) : ∀ w w' v, Keep (· = b) w w' → StV lo w v → StV lo w' v :=
  fun _ _ _ h ⟨s, h1, h2, h3⟩ => ⟨s, h1, ⟨h2.1.keep h (h3.mono fun i hi => by have h4 : i = b := hi; omega), h2.2⟩, h3⟩
def StMade (lo : Nat) (w : World) (v : Value) : Prop := ∃ g, ∃ s : SiteM, v = .slice (some ⟨g, 0, none⟩) 1 1 ∧ lo ≤ g ∧ w.heap[g]? = some (.cells #[.int .i64 s.b, .int .i64 s.i, .slice s.p s.tg.length s.c] 51 (0, 0)) ∧ s.ok w ∧ OffS (· < lo) s.p
theorem stMade_keep (b lo : Nat) (hb : b < lo) : ∀ w w' v, Keep (· = b) w w' → StMade lo w v → StMade lo w' v :=
  fun _ _ _ h ⟨g, s, h1, h2, h3, h4, h5⟩ => ⟨g, s, h1, h2, h.obj h3 (by omega), ⟨h4.1.keep h (h5.mono fun i hi => by have h6 : i = b := hi; omega), h4.2⟩, h5⟩

set_option maxRecDepth 100000 in
set_option maxHeartbeats 8000000 in
theorem lawVal_calls (a : Option Addr) (ds : List Int) (cap : Nat) (P : PcM) (w : World) (h : SliceV byteEnc 1 w a ds) (hb : ∀ x ∈ ds, (0 : Int) ≤ x ∧ x ≤ 255) (hdc : ds.length ≤ cap) (hP : FcsOk w P.p P.l) (hE : Env w) :
    Calls Tryz.prog 4 #[.slice a ds.length cap, P.val] w (TrueKeep w) := by
  obtain ⟨pr, pm, pn, pd, pp, pc, pl⟩ := P
  simp only at hP
  simp only [PcM.val]
  have hln := hP.ln
  have HP := Lib.hid hP
  have HPP := Lib.hid hP
  have HH := Lib.hid h
  have HB := Lib.hid hb
  have HE := Lib.hid hE
  clear h hb hP hE
  by_cases hbig : (100 : Int) < (pl.length : Int)
  · go_enter Tryz.func4, Tryz.ntmps4
    go_upto_region 1 with (fail)
    generalize hw1 : World.alloc _ _ = w1
    have hk1 : Keep None w w1 := by rw [← hw1]; exact (Keep.refl _ _).alloc _
    have x4 : w1.cell? ⟨w.heap.size, 4, none⟩ = some (.slice pp pl.length pc) := by rw [← hw1]; exact cell_of_row _ _ 4 _ _ _ (heap_alloc_new _ _)
    have HK1 := Lib.hid hk1
    have HE1 := Lib.hid (HE.out.keep hk1)
    clear hw1 hk1
    go_wp2_with (go_at_call 5; refine (awake_in _ HE1.out).mono ?_; rintro e w2 ⟨rfl, hk2⟩; have HK2 := Lib.hid hk2; have x4 := hk2.cell x4 id; clear hk2)
    go_ret
    exact ⟨rfl, HK1.out.trans HK2.out⟩
  · have hsm : decide ((100 : Int) < (pl.length : Int)) = false := by simpa using hbig
    go_enter Tryz.func4, Tryz.ntmps4
    go_upto_region 1 with (fail)
    generalize hw1 : World.alloc _ _ = w1
    have hk1 : Keep None w w1 := by rw [← hw1]; exact (Keep.refl _ _).alloc _
    have hb1 : w1.heap[w.heap.size]? = some (.cells #[.int .i64 pr, .int .i64 pm, .int .i64 pn, .int .u64 pd, .slice pp pl.length pc] 35 (0, 0)) := by rw [← hw1]; exact heap_alloc_new _ _
    have x4 : w1.cell? ⟨w.heap.size, 4, none⟩ = some (.slice pp pl.length pc) := cell_of_row _ _ 4 _ _ _ hb1
    have HK1 := Lib.hid hk1
    have HB1 := Lib.hid hb1
    have HE1 := Lib.hid (HE.out.keep hk1)
    clear hw1 hk1 hb1
    go_upto_region 3 with (go_at_call 5; refine (awake_in _ HE1.out).mono ?_; rintro e w2 ⟨rfl, hk2⟩; have HK2 := Lib.hid hk2; have x4 := hk2.cell x4 id; clear hk2)
    go_wp2_with (fail)
    refine (new_calls a ds cap 200 _ (HH.out.keep (HK1.out.trans HK2.out) (offNone _)) HB.out (by omega) hdc).mono ?_
    rintro e w3 ⟨b, bl, rfl, hbn, hcd, hk3, -⟩
    have HC3 : Hid (Cd b bl w3) := Lib.hid ⟨_, hcd⟩
    have HK3 := Lib.hid (HK1.out.trans (HK2.out.trans hk3))
    have hbw : w.heap.size < b := by
      have h1 := heap_lt HB1.out
      have h2 := HK2.out.size
      omega
    have hb3 := hcd.lt.1
    have HB3 := Lib.hid ((HK2.out.trans hk3).obj HB1.out id)
    clear hcd hk3 x4
    go_wp2_with (fail)
    refine (piece_calls b bl w3 HC3.out).mono ?_
    rintro e w4 ⟨X, rfl, hXP, hXok, hXf, hXo, hXc, hXm, hc4, hk4⟩
    obtain ⟨xr, xm, xn, xd, xp, xc, xl⟩ := X
    simp only at hXok hXf hXo hXc hXm
    simp only [PcM.val]
    have HXP := Lib.hid hXP
    have HXOK := Lib.hid hXok
    have HXF := Lib.hid hXf
    have HXO := Lib.hid hXo
    have HC4 := Lib.hid hc4
    have HK4 := Lib.hid hk4
    have hx1 : 1 ≤ xl.length := hXP.l1
    have hx2 : xl.length ≤ 64 := hXP.l2
    have hz4 := hk4.size
    clear hXP hXok hXf hXo hc4 hk4
    obtain ⟨i5, hi5, hz0, hz1, hz2⟩ := info_parts Tryz.infoFc
    go_upto_region 6 with (fail)
    generalize hw5 : World.alloc (World.alloc w4 _) _ = w5
    have hk5 : Keep None w4 w5 := by rw [← hw5]; exact ((Keep.refl None w4).alloc _).alloc _
    have hbx : w5.heap[w4.heap.size]? = some (.cells #[.int .i64 xr, .int .i64 xm, .int .i64 xn, .int .u64 xd, .slice xp xl.length xc] 35 (0, 0)) := by rw [← hw5]; exact ((Keep.refl None _).alloc _).obj (heap_alloc_new _ _) id
    have hby : w5.heap[w4.heap.size + 1]? = some (.cells #[.int .i64 xr, .int .i64 xm, .int .i64 xn, .int .u64 xd, .slice xp xl.length xc] 35 (0, 0)) := by rw [← hw5]; exact alloc_at (by simp)
    have hz5 : w5.heap.size = w4.heap.size + 2 := by rw [← hw5]; simp
    have q1 : w5.cell? ⟨w4.heap.size, 4, none⟩ = some (.slice xp xl.length xc) := cell_of_row _ _ 4 _ _ _ hbx
    have HXOK5 := Lib.hid (HXOK.out.keep hk5)
    have HBX := Lib.hid hbx
    have HBY := Lib.hid hby
    have HC5 := Lib.hid (HC4.out.same hk5)
    have HK5 := Lib.hid (HK4.out.trans (hk5.weaken (T := (· = b)) (fun _ _ q => q.elim)))
    clear hw5 hk5 hbx hby
    go_upto_region 7 with (at_builtin; go_loud (refine wpList_copyAll rfl _ _ 31 rfl 45 i5 _ 80 Tryz.underlying31 hi5 hz0 hz1 hz2 rfl (by decide) FcM.enc_len rfl xp xl xc rfl HXOK5.out.sl (by intro x u hu; simp [FcM.enc] at hu; rcases hu with rfl | rfl | rfl | rfl <;> rfl) (by omega) (by omega) ?_; intro v6 w6 hown6 hk6; obtain ⟨yp, yc, rfl, hyc, hym, -, -⟩ := hown6.slice FcM.enc_len; have HOY := Lib.hid hown6; have HK6 := Lib.hid hk6; have hy6 := hk6.obj HBY.out id; have s1 : w6.cell? ⟨w4.heap.size + 1, 4, none⟩ = some (.slice xp xl.length xc) := cell_of_row w6 _ 4 _ _ _ hy6; have s2 : w6.frozen? ⟨w4.heap.size + 1, 4, none⟩ = false := (by unfold World.frozen?; rw [hy6]; rfl); have HY6 := Lib.hid hy6; clear hown6 hk6 hy6))
    clear s1 s2 q1
    have hx7 := heap_setCell' (j := 4) (v := .slice yp xl.length yc) HY6.out
    simp only [List.setIfInBounds_toArray, List.set_cons_succ, List.set_cons_zero] at hx7
    have hk7 : Keep (· = w4.heap.size + 1) w6 (w6.setCell ⟨w4.heap.size + 1, 4, none⟩ (.slice yp xl.length yc)) := (Keep.refl (· = w4.heap.size + 1) _).setCell (p := ⟨w4.heap.size + 1, 4, none⟩) (.inl rfl) _
    generalize w6.setCell ⟨w4.heap.size + 1, 4, none⟩ (.slice yp xl.length yc) = w7 at *
    have HOY7 := Lib.hid (HOY.out.keepOld hk7 (fun i hi => by have h3 : i = w4.heap.size + 1 := hi; omega))
    have HBY7 := Lib.hid hx7
    have HC7 := Lib.hid (HC5.out.same HK6.out |>.keep hk7 (fun i hi h3 => by have h4 : i = w4.heap.size + 1 := h3; omega))
    have HK7 := Lib.hid (HK6.out.weaken (T := (· = w4.heap.size + 1)) (fun _ _ q => q.elim) |>.trans hk7)
    clear hx7 hk7
    have hb4 : b < w4.heap.size := by omega
    have hgx : w4.heap.size < w7.heap.size := by have h1 := heap_lt HBY7.out; omega
    have HOYN : Hid (∀ w', Keep (fun i => i = b ∨ w4.heap.size + 1 ≤ i) w7 w' → ∀ Y : PcM, w'.heap[w4.heap.size + 1]? = some (.cells #[.int .i64 Y.r, .int .i64 Y.m, .int .i64 Y.n, .int .u64 Y.dg, .slice Y.p Y.l.length Y.c] 35 (0, 0)) → FcsOk w' Y.p Y.l → YS w.heap.size w4.heap.size (w4.heap.size + 1) pr pm pn pd pp pc pl xr xm xn xd xp xc xl w w' Y) := Lib.hid (by
      intro w' hk' Y hY hoY
      have e1 : Keep (· = b) w3 w5 := HK5.out
      have e2 : Keep (fun i => i = b ∨ w4.heap.size ≤ i) w3 w' := ((e1.weaken (fun i _ h => .inl h)).trans (HK7.out.weaken (fun i _ h => .inr (by have h3 : i = w4.heap.size + 1 := h; omega)))).trans (hk'.weaken (fun i _ h => by omega))
      have e3 : Keep None w w' := HK3.out.andThen e2 (fun i h1 h2 => by omega)
      have e4 : Keep (fun i => i = b ∨ w4.heap.size + 1 ≤ i) w5 w' := (HK7.out.weaken (fun i _ h => .inr (by have h3 : i = w4.heap.size + 1 := h; omega))).trans hk'
      refine ⟨e2.obj HB3.out (by omega), e4.obj HBX.out (by omega), hY, HPP.out.keep e3, HXOK5.out.keepS e4 ?_ ?_, hoY, e3⟩
      · intro ad had h3
        have h4 := HXF.out ad had
        rcases HXOK.out.sl with h5 | ⟨b', o', he, hsl⟩
        · rw [h5] at hx1; simp at hx1
        · rw [he] at had
          cases had
          have h6 := World.block_lt_of_cell? w4 _ (hsl.fc (List.getElem?_eq_getElem (by omega : 0 < xl.length))).1
          simp only at h6 h3 h4
          omega
      · intro x hx
        exact (HXO.out x hx).mono fun i hi => by omega)
    obtain ⟨-, hyl, hyc2, hysl, hyf⟩ := HOY7.out.reads FcM.enc_len
    have HYS7 : Hid (FcsOk w7 yp xl) := Lib.hid (by
      refine ⟨hysl, fun x hx => ?_, HXOK5.out.ln⟩
      exact ((HXOK5.out.fc x hx).keepS (HK7.out.weaken (T := fun i => w4.heap.size + 1 ≤ i) (fun i _ h => by have h3 : i = w4.heap.size + 1 := h; omega)) ((HXO.out x hx).mono fun i hi => by omega)))
    have HYF := Lib.hid hyf
    clear HPP hysl hyf
    have q1 := cell_of_row _ _ 4 _ _ _ HBY7.out
    go_wp2_with (fail)
    refine (Cd.next HC7.out (by omega) (by omega)).mono ?_
    rintro e w8 ⟨kz, rfl, kz0, kz1, hc8, hk8⟩
    have HC8 := Lib.hid hc8
    have HK8 := Lib.hid hk8
    clear hc8 hk8 q1
    obtain ⟨k, rfl⟩ : ∃ k : Nat, kz = k := ⟨kz.toNat, by omega⟩
    go_wp2_with (fail)
    refine (Cd.next HC8.out (by omega) (by omega)).mono ?_
    rintro e w9 ⟨ch, rfl, ch0, ch1, hc9, hk9⟩
    have HC9 := Lib.hid hc9
    have HK9 := Lib.hid (HK8.out.trans hk9)
    clear hc9 hk9 HC8 HK8
    have hkl : k < xl.length := by omega
    generalize hgy : w4.heap.size + 1 = gy at *
    generalize hgx : w4.heap.size = gx at *
    have hgb : b < gx := by omega
    have HBY9 := Lib.hid (HK9.out.obj HBY7.out (by omega))
    have HOY9 := Lib.hid (HOY7.out.keepOld HK9.out (fun i hi => by have h3 : i = b := hi; omega))
    have hyf9 : ∀ ad, yp = some ad → gy + 1 ≤ ad.block := fun ad had => by have h1 := HYF.out ad had; omega
    have HYF9 := Lib.hid hyf9
    have HYS9 : Hid (FcsOk w9 yp xl) := Lib.hid (HYS7.out.keepS HK9.out (fun ad had h3 => by have h1 := hyf9 ad had; have h4 : ad.block = b := h3; omega) (fun x hx => (HXO.out x hx).mono fun i hi => by have h4 : i = b := hi; omega))
    have hz9 := HK9.out.size
    have HYES : Hid (∀ w', Keep (fun i => i = b ∨ gy ≤ i) w9 w' → ∀ Y : PcM, w'.heap[gy]? = some (.cells #[.int .i64 Y.r, .int .i64 Y.m, .int .i64 Y.n, .int .u64 Y.dg, .slice Y.p Y.l.length Y.c] 35 (0, 0)) → FcsOk w' Y.p Y.l → ∃ Y, YS w.heap.size gx gy pr pm pn pd pp pc pl xr xm xn xd xp xc xl w w' Y) := Lib.hid (fun w' hk Y h1 h2 => ⟨Y, HOYN.out w' ((HK9.out.weaken (fun i _ h => .inl h)).trans hk) Y h1 h2⟩)
    have HOR : Hid (∀ w', Keep (fun i => i = b ∨ i = gy) w9 w' → ∀ r m n : Int, w'.heap[gy]? = some (.cells #[.int .i64 r, .int .i64 m, .int .i64 n, .int .u64 xd, .slice yp xl.length yc] 35 (0, 0)) → ∃ Y, YS w.heap.size gx gy pr pm pn pd pp pc pl xr xm xn xd xp xc xl w w' Y) := Lib.hid (fun w' hk r m n h1 =>
      HYES.out w' (hk.weaken (fun i _ h => h.imp id (fun h => by omega))) ⟨r, m, n, xd, yp, yc, xl⟩ h1 (HYS9.out.keepS hk (fun ad had h3 => by have h4 := hyf9 ad had; omega) (fun x hx => (HXO.out x hx).mono fun i hi => by omega)))
    clear HBY7 HOY7 HYS7 HC7 HC5 HC4 hyf9 HOYN HYF
    go_upto_block 0 with (fail)
    go_cut [] (fun wx => ∃ Y, YS w.heap.size gx gy pr pm pn pd pp pc pl xr xm xn xd xp xc xl w wx Y)
    case first =>
      obtain rfl | rfl | rfl | rfl | rfl : ch = 0 ∨ ch = 1 ∨ ch = 2 ∨ ch = 3 ∨ ch = 4 := by omega
      · go_wp2_with (fail)
        refine (Cd.int HC9.out).mono ?_
        rintro e w10 ⟨m, rfl, mi, hc10, hk10⟩
        have hb10 := hk10.obj HBY9.out (by omega)
        have HB10 := Lib.hid hb10
        have HK10 := Lib.hid hk10
        have s1 : w10.cell? ⟨gy, 0, none⟩ = some (.int .i64 xr) := cell_of_row _ _ 0 _ _ _ hb10
        have s2 : w10.frozen? ⟨gy, 0, none⟩ = false := by unfold World.frozen?; rw [hb10]; rfl
        clear hc10 hk10 hb10
        go_wp2
        clear s1 s2
        go_meet
        case rel =>
          have hx11 := heap_setCell' (j := 0) (v := .int .i64 m) HB10.out
          simp only [List.setIfInBounds_toArray, List.set_cons_succ, List.set_cons_zero] at hx11
          exact HOR.out _ ((HK10.out.weaken (fun i _ h => .inl h)).setCell (p := ⟨gy, 0, none⟩) (.inl (.inr rfl)) _) _ _ _ hx11
      · go_wp2_with (fail)
        refine (Cd.int HC9.out).mono ?_
        rintro e w10 ⟨m, rfl, mi, hc10, hk10⟩
        have HC10 := Lib.hid hc10
        have HK10 := Lib.hid hk10
        clear hc10 hk10
        go_wp2_with (fail)
        refine (Cd.int HC10.out).mono ?_
        rintro e w11 ⟨n, rfl, ni, hc11, hk11⟩
        have hk11 := HK10.out.trans hk11
        have hb11 := hk11.obj HBY9.out (by omega)
        have HB11 := Lib.hid hb11
        have HK11 := Lib.hid hk11
        have s1 : w11.cell? ⟨gy, 1, none⟩ = some (.int .i64 xm) := cell_of_row _ _ 1 _ _ _ hb11
        have s2 : w11.frozen? ⟨gy, 1, none⟩ = false := by unfold World.frozen?; rw [hb11]; rfl
        have s3 : w11.cell? ⟨gy, 2, none⟩ = some (.int .i64 xn) := cell_of_row _ _ 2 _ _ _ hb11
        have s4 : w11.frozen? ⟨gy, 2, none⟩ = false := by unfold World.frozen?; rw [hb11]; rfl
        clear hc11 hk11 hb11
        go_wp2
        clear s1 s2 s3 s4
        go_meet
        case rel =>
          have hx12 := heap_setCell' (j := 1) (v := .int .i64 m) HB11.out
          simp only [List.setIfInBounds_toArray, List.set_cons_succ, List.set_cons_zero] at hx12
          have hx13 := heap_setCell' (j := 2) (v := .int .i64 n) hx12
          simp only [List.setIfInBounds_toArray, List.set_cons_succ, List.set_cons_zero] at hx13
          exact HOR.out _ (((HK11.out.weaken (fun i _ h => .inl h)).setCell (p := ⟨gy, 1, none⟩) (.inl (.inr rfl)) _).setCell (p := ⟨gy, 2, none⟩) (.inl (.inr rfl)) _) _ _ _ hx13
      · have HBK : Hid (∀ w', Keep (· = b) w9 w' → w'.heap[gy]? = some (.cells #[.int .i64 xr, .int .i64 xm, .int .i64 xn, .int .u64 xd, .slice yp xl.length yc] 35 (0, 0))) := Lib.hid (fun w' hk' => hk'.obj HBY9.out (by omega))
        have HYK : Hid (∀ w', Keep (· = b) w9 w' → FcsOk w' yp xl) := Lib.hid (fun w' hk' => HYS9.out.keepS hk' (fun ad had h3 => by have h1 := HYF9.out ad had; have h4 : ad.block = b := h3; omega) (fun x hx => (HXO.out x hx).mono fun i hi => by have h4 : i = b := hi; omega))
        obtain ⟨gr, rfl, -⟩ := HOY9.out.row FcM.enc_len (by omega)
        have hgr : gy + 1 ≤ gr := HYF9.out _ rfl
        have hgr2 : gr < w9.heap.size := (World.ownsRow.lt HOY9.out gr rfl).2
        obtain ⟨x, hxk⟩ : ∃ x, xl[k]? = some x := ⟨xl[k], by simp [hkl]⟩
        have hxm : x ∈ xl := List.mem_of_getElem? hxk
        have HHD := Lib.hid (HXP.out.fc x hxm).head
        have HXK := Lib.hid hxk
        clear hxk
        have hlo : b < w9.heap.size := by omega
        go_wp2_with (fail)
        refine region_kindsG_tail (· = b) [.is (.pointer (some ⟨gy, 4, none⟩)), .is (.pointer (some ⟨gy, 4, none⟩)), .is (.slice (some ⟨gr, 0, none⟩) xl.length yc), .is (.int .i64 k), .is (.pointer (some ⟨b, 0, none⟩)), .is (.pointer (some ⟨gy, 4, none⟩)), .is (.pointer (some ⟨gy, 4, none⟩)), .is (.slice (some ⟨gr, 0, none⟩) xl.length yc), .is (.int .i64 k), .is (.pointer (some ⟨gr, k * 4, none⟩)), .is x.val, .sat (FcV (fun i => i = b ∨ gx ≤ i ∧ i < w9.heap.size)) (fcV_keep b _ (.inl rfl)), .is (.pointer (some ⟨gr, k * 4, none⟩)), .any]
          (fun w' => Cd b bl w' ∧ Keep (· = b) w9 w') 121 13 (by kernel_rfl) (by decide) (by kernel_rfl) (by kernel_rfl) (by kernel_rfl) rfl (by kernel_rfl) ⟨HC9.out.same (Keep.refl _ _).drew, (Keep.refl _ _).drew⟩ ?_ ?_
        · refine ⟨?_, ?_, ?_, ?_, ?_, ?_, ?_, ?_, ?_, ?_, ?_, ?_, ?_, trivial⟩
          · exact st_free rfl (st_ev1 (dep_f (t := 7) rfl rfl) _ (by intro a w' h1 hI; go_simp) rfl)
          · exact st_free rfl (st_ev1 (dep_e 0 rfl rfl rfl) _ (by intro a w' h1 hI; go_simp) rfl)
          · exact st_free rfl (st_ev1 (dep_e 1 rfl rfl rfl) _ (by intro a w' h1 hI; have q0 := cell_of_row _ _ 4 _ _ _ (HBK.out _ hI.2); go_simp) rfl)
          · exact st_free rfl (st_ev1 (dep_f (t := 8) rfl rfl) _ (by intro a w' h1 hI; go_simp) rfl)
          · exact st_free rfl (st_ev1 (dep_f (t := 5) rfl rfl) _ (by intro a w' h1 hI; go_simp) rfl)
          · exact st_free rfl (st_ev1 (dep_f (t := 7) rfl rfl) _ (by intro a w' h1 hI; go_simp) rfl)
          · exact st_free rfl (st_ev1 (dep_e 5 rfl rfl rfl) _ (by intro a w' h1 hI; go_simp) rfl)
          · exact st_free rfl (st_ev1 (dep_e 6 rfl rfl rfl) _ (by intro a w' h1 hI; have q0 := cell_of_row _ _ 4 _ _ _ (HBK.out _ hI.2); go_simp) rfl)
          · exact st_free rfl (st_ev1 (dep_f (t := 8) rfl rfl) _ (by intro a w' h1 hI; go_simp) rfl)
          · exact st_free rfl (st_ev2 (dep_e 7 rfl rfl rfl) (dep_e 8 rfl rfl rfl) _ (by intro a w' h1 h2 hI; go_simp) rfl)
          · exact st_free rfl (st_loadD 45 gr (k * 4) x.enc rfl (dep_e 9 rfl rfl rfl) (fun w' hI => by
              rcases (HYK.out _ hI.2).sl with h5 | ⟨b', o', he, hsl⟩
              · rw [h5] at hx1; simp at hx1
              · cases he
                have := hsl.range HXK.out
                rwa [Nat.zero_add] at this) _ Tryz.underlying45 rfl 4 Tryz.sizeFc rfl rfl)
          · exact st_free rfl (st_callD2 (dep_e 4 rfl rfl rfl) (dep_e 10 rfl rfl rfl) 14 #[.pointer (some ⟨b, 0, none⟩), x.val] (by intro a w' h1 h2; go_simp) (by
              rintro w' ⟨hcc, hI⟩
              have hz := hI.size
              refine (odd_calls b bl x w' hcc ((HYK.out _ hI).fc x hxm) HHD.out.1 HHD.out.2.1 HHD.out.2.2.1 ((HXO.out x hxm).mono fun i hi => by omega)).mono ?_
              rintro e w'' ⟨y, rfl, y1, y2, y3, y4, y5, y6, y7, y8⟩
              have ho := HXO.out x hxm
              refine ⟨_, rfl, ⟨y, rfl, y1, fun ad had h3 => by have h4 := y2 ad had; omega, fun ad had h3 => by have h4 := y3 ad had; omega, ?_, ?_⟩, ⟨y7, hI.trans y8⟩, y8⟩
              · rw [y4]; exact ho.2.2.1.mono fun i hi => by omega
              · rw [y6]; exact fun s hs => (ho.2.2.2 s hs).mono fun i hi => by omega))
          · exact st_free rfl (st_ev2 (dep_e 2 rfl rfl rfl) (dep_e 3 rfl rfl rfl) _ (by intro a w' h1 h2 hI; go_simp) rfl)
        intro f' w10 hkinds hI
        obtain ⟨y, k11, y1, y2⟩ : FcV (fun i => i = b ∨ gx ≤ i ∧ i < w9.heap.size) w10 (f' 68) := hkinds 11 _ 68 (by omega) rfl rfl
        have k12 : f' 69 = .pointer (some ⟨gr, k * 4, none⟩) := hkinds 12 _ 69 (by omega) rfl rfl
        simp only [putsOf, Act.put, List.take_succ_cons, List.take_zero, List.drop_succ_cons, List.drop_zero, List.setIfInBounds_toArray, List.set_cons_zero, List.set_cons_succ, k11, k12]
        clear hkinds k11 k12
        have HY1 := Lib.hid y1
        have HY2 := Lib.hid y2
        have HB10 := Lib.hid (HBK.out _ hI.2)
        have HO10 := Lib.hid (HOY9.out.keepOld hI.2 (fun i hi => by have h3 : i = b := hi; omega))
        have HF10 := Lib.hid (HYK.out _ hI.2)
        have HK10 := Lib.hid hI.2
        clear hI y1 y2 HBK HYK
        go_wp2_with ((with_reducible (show wpList _ _ _ (⟨_, .store 45 _ _, _, _, _, none⟩ :: _) _ _)); (refine wpList_storeOwn rfl 45 _ _ rfl gr (k * 4) rfl y y.val rfl rfl FcM.enc_len HO10.out k hkl rfl Tryz.sizeFc (by intro u hu; simp [FcM.enc] at hu; rcases hu with rfl | rfl | rfl | rfl <;> rfl) ?_); intro w11 ho11 hk11 hs11; have HO11 := Lib.hid ho11; have HK11 := Lib.hid hk11; clear ho11 hk11)
        go_meet
        case rel =>
          obtain ⟨-, q1, q2, q3, q4⟩ := HO11.out.reads FcM.enc_len
          have e1 : Keep (fun i => i = b ∨ gy ≤ i) w9 w11 := (HK10.out.weaken (fun i _ h => .inl h)).trans (HK11.out.weaken (fun i _ h => .inr (by have h3 : i = gr := h; omega)))
          have hL : (xl.set k y).length = xl.length := by simp
          refine HYES.out w11 e1 ⟨xr, xm, xn, xd, some ⟨gr, 0, none⟩, yc, xl.set k y⟩ (by rw [hL]; exact HK11.out.obj HB10.out (by omega)) ⟨q3, ?_, by simp only [List.length_set]; omega⟩
          intro z hz
          rcases List.mem_or_eq_of_mem_set hz with hz | hz
          · exact (HF10.out.fc z hz).keepS HK11.out ((HXO.out z hz).mono fun i hi => by have h3 : i = gr := hi; omega)
          · rw [hz]; exact HY1.out.keepS HK11.out (HY2.out.mono fun i hi => by have h3 : i = gr := hi; omega)
      · have HBK : Hid (∀ w', Keep (· = b) w9 w' → w'.heap[gy]? = some (.cells #[.int .i64 xr, .int .i64 xm, .int .i64 xn, .int .u64 xd, .slice yp xl.length yc] 35 (0, 0))) := Lib.hid (fun w' hk' => hk'.obj HBY9.out (by omega))
        have HYK : Hid (∀ w', Keep (· = b) w9 w' → FcsOk w' yp xl) := Lib.hid (fun w' hk' => HYS9.out.keepS hk' (fun ad had h3 => by have h1 := HYF9.out ad had; have h4 : ad.block = b := h3; omega) (fun x hx => (HXO.out x hx).mono fun i hi => by have h4 : i = b := hi; omega))
        obtain ⟨gr, rfl, -⟩ := HOY9.out.row FcM.enc_len (by omega)
        have hgr : gy + 1 ≤ gr := HYF9.out _ rfl
        have hgr2 : gr < w9.heap.size := (World.ownsRow.lt HOY9.out gr rfl).2
        obtain ⟨⟨ent, pb, cb, bs, pe, ce, es, ps, cs, st⟩, hxk⟩ : ∃ x, xl[k]? = some x := ⟨xl[k], by simp [hkl]⟩
        have HXK := Lib.hid hxk
        clear hxk
        have hlo : b < w9.heap.size := by omega
        generalize hlov : w9.heap.size = lo at *
        go_wp2_with (fail)
        refine region_kindsG_tail (· = b) [.is (.pointer (some ⟨gy, 4, none⟩)), .is (.pointer (some ⟨gy, 4, none⟩)), .is (.slice (some ⟨gr, 0, none⟩) xl.length yc), .is (.int .i64 k), .is (.pointer (some ⟨b, 0, none⟩)), .sat (NumIn 0 4) (numIn_keep _ _ _), .sat (NumIn (-1) 3) (numIn_keep _ _ _), .is (.pointer (some ⟨b, 0, none⟩)), .sat (NumIn 0 3) (numIn_keep _ _ _), .sat (NumIn (-1) 2) (numIn_keep _ _ _), .is (.pointer (some ⟨b, 0, none⟩)), .sat (NumIn 0 3) (numIn_keep _ _ _), .sat (NumIn (-1) 2) (numIn_keep _ _ _), .is (.pointer (some ⟨b, 0, none⟩)), .sat Is64 (is64_keep _), .sat Pr64 (pr64_keep _), .is (.pointer (some ⟨b, 0, none⟩)), .sat (NumIn 0 3) (numIn_keep _ _ _), .sat Pr64 (pr64_keep _), .sat (TgMade lo) (tgMade_keep b _ hlo), .sat (StV lo) (stV_keep b _ hlo), .sat (StMade lo) (stMade_keep b _ hlo), .is (.pointer (some ⟨gr, k * 4, none⟩)), .is (.pointer (some ⟨gr, k * 4 + 3, none⟩)), .any]
          (fun w' => Cd b bl w' ∧ Keep (· = b) w9 w') 121 24 (by kernel_rfl) (by decide) (by kernel_rfl) (by kernel_rfl) (by kernel_rfl) rfl (by kernel_rfl) ⟨HC9.out.same (Keep.refl _ _).drew, (Keep.refl _ _).drew⟩ ?_ ?_
        · refine ⟨?_, ?_, ?_, ?_, ?_, ?_, ?_, ?_, ?_, ?_, ?_, ?_, ?_, ?_, ?_, ?_, ?_, ?_, ?_, ?_, ?_, ?_, ?_, ?_, trivial⟩
          · exact st_free rfl (st_ev1 (dep_f (t := 7) rfl rfl) _ (by intro a w' h1 hI; go_simp) rfl)
          · exact st_free rfl (st_ev1 (dep_e 0 rfl rfl rfl) _ (by intro a w' h1 hI; go_simp) rfl)
          · exact st_free rfl (st_ev1 (dep_e 1 rfl rfl rfl) _ (by intro a w' h1 hI; have q0 := cell_of_row _ _ 4 _ _ _ (HBK.out _ hI.2); go_simp) rfl)
          · exact st_free rfl (st_ev1 (dep_f (t := 8) rfl rfl) _ (by intro a w' h1 hI; go_simp) rfl)
          · exact st_free rfl (st_ev1 (dep_f (t := 5) rfl rfl) _ (by intro a w' h1 hI; go_simp) rfl)
          · exact st_free rfl (st_callD1 (dep_e 4 rfl rfl rfl) 12 #[.pointer (some ⟨b, 0, none⟩), .int .i64 4] (by intro a w' h1; go_simp) (by rintro w' ⟨hcc, hI⟩; refine (Cd.next hcc (by omega) (by omega)).mono ?_; rintro e w'' ⟨mm, rfl, a3, a4, a1, a2⟩; exact ⟨_, rfl, ⟨_, rfl, a3, a4⟩, ⟨a1, hI.trans a2⟩, a2⟩))
          · exact st_free rfl (st_evS (dep_s 5 rfl rfl rfl) (by rintro a w' ⟨mm, h1, h2, h3⟩ hI; have q0 : IntKind.i64.wrap (mm - 1) = mm - 1 := IntWalk.i64_in _ (by omega); exact ⟨.int .i64 (mm - 1), by go_simp, mm - 1, rfl, by omega, by omega⟩))
          · exact st_free rfl (st_ev1 (dep_f (t := 5) rfl rfl) _ (by intro a w' h1 hI; go_simp) rfl)
          · exact st_free rfl (st_callD1 (dep_e 7 rfl rfl rfl) 12 #[.pointer (some ⟨b, 0, none⟩), .int .i64 3] (by intro a w' h1; go_simp) (by rintro w' ⟨hcc, hI⟩; refine (Cd.next hcc (by omega) (by omega)).mono ?_; rintro e w'' ⟨mm, rfl, a3, a4, a1, a2⟩; exact ⟨_, rfl, ⟨_, rfl, a3, a4⟩, ⟨a1, hI.trans a2⟩, a2⟩))
          · exact st_free rfl (st_evS (dep_s 8 rfl rfl rfl) (by rintro a w' ⟨mm, h1, h2, h3⟩ hI; have q0 : IntKind.i64.wrap (mm - 1) = mm - 1 := IntWalk.i64_in _ (by omega); exact ⟨.int .i64 (mm - 1), by go_simp, mm - 1, rfl, by omega, by omega⟩))
          · exact st_free rfl (st_ev1 (dep_f (t := 5) rfl rfl) _ (by intro a w' h1 hI; go_simp) rfl)
          · exact st_free rfl (st_callD1 (dep_e 10 rfl rfl rfl) 12 #[.pointer (some ⟨b, 0, none⟩), .int .i64 3] (by intro a w' h1; go_simp) (by rintro w' ⟨hcc, hI⟩; refine (Cd.next hcc (by omega) (by omega)).mono ?_; rintro e w'' ⟨mm, rfl, a3, a4, a1, a2⟩; exact ⟨_, rfl, ⟨_, rfl, a3, a4⟩, ⟨a1, hI.trans a2⟩, a2⟩))
          · exact st_free rfl (st_evS (dep_s 11 rfl rfl rfl) (by rintro a w' ⟨mm, h1, h2, h3⟩ hI; have q0 : IntKind.i64.wrap (mm - 1) = mm - 1 := IntWalk.i64_in _ (by omega); exact ⟨.int .i64 (mm - 1), by go_simp, mm - 1, rfl, by omega, by omega⟩))
          · exact st_free rfl (st_ev1 (dep_f (t := 5) rfl rfl) _ (by intro a w' h1 hI; go_simp) rfl)
          · exact st_free rfl (st_callD1 (dep_e 13 rfl rfl rfl) 13 #[.pointer (some ⟨b, 0, none⟩)] (by intro a w' h1; go_simp) (by rintro w' ⟨hcc, hI⟩; refine (Cd.int hcc).mono ?_; rintro e w'' ⟨mm, rfl, a3, a1, a2⟩; exact ⟨_, rfl, ⟨mm, rfl, a3⟩, ⟨a1, hI.trans a2⟩, a2⟩))
          · exact st_free rfl (st_evSS (dep_s 12 rfl rfl rfl) (dep_s 14 rfl rfl rfl) (by rintro a w' ⟨x, h1, h2, h3⟩ ⟨y, h4, h5⟩ hI; exact ⟨.agg #[.int .i64 x, .int .i64 y], by go_simp, x, y, rfl⟩))
          · exact st_free rfl (st_ev1 (dep_f (t := 5) rfl rfl) _ (by intro a w' h1 hI; go_simp) rfl)
          · exact st_free rfl (st_callD1 (dep_e 16 rfl rfl rfl) 12 #[.pointer (some ⟨b, 0, none⟩), .int .i64 3] (by intro a w' h1; go_simp) (by rintro w' ⟨hcc, hI⟩; refine (Cd.next hcc (by omega) (by omega)).mono ?_; rintro e w'' ⟨mm, rfl, a3, a4, a1, a2⟩; exact ⟨_, rfl, ⟨_, rfl, a3, a4⟩, ⟨a1, hI.trans a2⟩, a2⟩))
          · exact st_free rfl (st_evS (dep_s 17 rfl rfl rfl) (by rintro a w' ⟨x, h1, h2, h3⟩ hI; exact ⟨.agg #[.int .i64 x, .int .i64 1], by go_simp, x, 1, rfl⟩))
          · refine st_free rfl ?_
            intro a w' K' hI hV hF hK
            obtain ⟨x, y, e0⟩ : Pr64 w' (a.eval (.tmp 87)) := tells hV 15 87 rfl rfl
            obtain ⟨z, u, e1⟩ : Pr64 w' (a.eval (.tmp 90)) := tells hV 18 90 rfl rfl
            unfold Oper.wp execOp
            have hb : ∀ v : Value, (Instr.buildSlice 49 2 #[(0, .agg #[.int .i64 x, .int .i64 y]), (1, .agg #[.int .i64 z, .int .i64 u])]).run Tryz.prog w' = .ok (.slice (some ⟨w'.heap.size, 0, none⟩) 2 2) (w'.alloc (.cells #[.int .i64 x, .int .i64 y, .int .i64 z, .int .i64 u] 48)) := by intro _; go_simp
            simp only [List.map_toArray, List.map_cons, List.map_nil, e0, e1, Sem.run_bind, hb undef, Result.andThen_ok, Sem.run_pure, Oper.upon_value]
            have hal : Keep None w' (w'.alloc (.cells #[.int .i64 x, .int .i64 y, .int .i64 z, .int .i64 u] 48)) := (Keep.refl None w').alloc _
            exact hK _ _ ⟨hI.1.same hal, hI.2.alloc _⟩ ((Keep.refl _ _).alloc _) ⟨w'.heap.size, x, y, z, u, rfl, by have := hI.2.size; omega, heap_alloc_new _ _⟩
          · refine st_free rfl ?_
            intro a w' K' hI hV hF hK
            obtain ⟨x, e0, -⟩ : NumIn (-1) 3 w' (a.eval (.tmp 78)) := tells hV 6 78 rfl rfl
            obtain ⟨y, e1, -⟩ : NumIn (-1) 2 w' (a.eval (.tmp 81)) := tells hV 9 81 rfl rfl
            obtain ⟨g, t0, t1, t2, t3, e2, hg, ho⟩ : TgMade lo w' (a.eval (.tmp 91)) := tells hV 19 91 rfl rfl
            unfold Oper.wp execOp
            have hb : ∀ v : Value, (Instr.build 51 #[(0, .int .i64 x), (1, .int .i64 y), (2, .slice (some ⟨g, 0, none⟩) 2 2)]).run Tryz.prog w' = .ok (.agg #[.int .i64 x, .int .i64 y, .slice (some ⟨g, 0, none⟩) 2 2]) w' := by intro _; go_simp
            simp only [List.map_toArray, List.map_cons, List.map_nil, e0, e1, e2, Sem.run_bind, hb undef, Result.andThen_ok, Sem.run_pure, Oper.upon_value]
            exact hK _ _ hI (Keep.refl _ _) ⟨⟨x, y, some ⟨g, 0, none⟩, 2, [(t0, t1), (t2, t3)]⟩, rfl, ⟨.inr ⟨_, 0, rfl, Arr.slAt (e := 48) prEnc_len ho⟩, by simp⟩, by intro ad had h3; cases had; simp only at h3; omega⟩
          · refine st_free rfl ?_
            intro a w' K' hI hV hF hK
            obtain ⟨s, e0, hs1, hs2⟩ : StV lo w' (a.eval (.tmp 92)) := tells hV 20 92 rfl rfl
            unfold Oper.wp execOp
            have hb : ∀ v : Value, (Instr.buildSlice 43 1 #[(0, .agg #[.int .i64 s.b, .int .i64 s.i, .slice s.p s.tg.length s.c])]).run Tryz.prog w' = .ok (.slice (some ⟨w'.heap.size, 0, none⟩) 1 1) (w'.alloc (.cells #[.int .i64 s.b, .int .i64 s.i, .slice s.p s.tg.length s.c] 51)) := by intro _; go_simp
            simp only [List.map_toArray, List.map_cons, List.map_nil, e0, Sem.run_bind, hb undef, Result.andThen_ok, Sem.run_pure, Oper.upon_value]
            have hal : Keep None w' (w'.alloc (.cells #[.int .i64 s.b, .int .i64 s.i, .slice s.p s.tg.length s.c] 51)) := (Keep.refl None w').alloc _
            exact hK _ _ ⟨hI.1.same hal, hI.2.alloc _⟩ ((Keep.refl _ _).alloc _) ⟨w'.heap.size, s, rfl, by have := hI.2.size; omega, heap_alloc_new _ _, hs1.keep hal, hs2⟩
          · exact st_free rfl (st_ev2 (dep_e 2 rfl rfl rfl) (dep_e 3 rfl rfl rfl) _ (by intro a w' h1 h2 hI; go_simp) rfl)
          · exact st_free rfl (st_ev1 (dep_e 22 rfl rfl rfl) _ (by intro a w' h1 hI; go_simp) rfl)
        intro f' w10 hkinds hI
        obtain ⟨gs, s, k21, hgs, hob, hsk, hso⟩ : StMade lo w10 (f' 93) := hkinds 21 _ 93 (by omega) rfl rfl
        have k23 : f' 95 = .pointer (some ⟨gr, k * 4 + 3, none⟩) := hkinds 23 _ 95 (by omega) rfl rfl
        simp only [putsOf, Act.put, List.take_succ_cons, List.take_zero, List.drop_succ_cons, List.drop_zero, List.setIfInBounds_toArray, List.set_cons_zero, List.set_cons_succ, k21, k23]
        clear hkinds k21 k23
        have HS1 := Lib.hid hob
        have HS2 := Lib.hid hsk
        have HS3 := Lib.hid hso
        have HB10 := Lib.hid (HBK.out _ hI.2)
        have HO10 := Lib.hid (HOY9.out.keepOld hI.2 (fun i hi => by have h3 : i = b := hi; omega))
        have HF10 := Lib.hid (HYK.out _ hI.2)
        have HK10 := Lib.hid hI.2
        have s1 : w10.cell? ⟨gr, k * 4 + 3, none⟩ = some (.slice ps st.length cs) := by
          rcases HF10.out.sl with h5 | ⟨b', o', he, hsl⟩
          · rw [h5] at hx1; simp at hx1
          · cases he
            have := (hsl.fc HXK.out).2.2.2
            rwa [Nat.zero_add] at this
        have s2 : w10.frozen? ⟨gr, k * 4 + 3, none⟩ = false := own_free HO10.out _
        clear hI hob hsk hso HBK HYK
        go_wp2_with (fail)
        clear s1 s2
        go_meet
        case rel =>
          have ho11 := HO10.out.setField FcM.enc_len HXK.out (j := 3) (by omega) (v := .slice (some ⟨gs, 0, none⟩) 1 1) (c := ⟨ent, pb, cb, bs, pe, ce, es, some ⟨gs, 0, none⟩, 1, [s]⟩) rfl
          have hk11 : Keep (· = gr) w10 (w10.setCell ⟨gr, k * 4 + 3, none⟩ (.slice (some ⟨gs, 0, none⟩) 1 1)) := (Keep.refl (· = gr) _).setCell (p := ⟨gr, k * 4 + 3, none⟩) (.inl rfl) _
          generalize w10.setCell ⟨gr, k * 4 + 3, none⟩ (.slice (some ⟨gs, 0, none⟩) 1 1) = w11 at *
          obtain ⟨-, q1, q2, q3, q4⟩ := ho11.reads FcM.enc_len
          have e1 : Keep (fun i => i = b ∨ gy ≤ i) w9 w11 := (HK10.out.weaken (fun i _ h => .inl h)).trans (hk11.weaken (fun i _ h => .inr (by have h3 : i = gr := h; omega)))
          have hL : (xl.set k ⟨ent, pb, cb, bs, pe, ce, es, some ⟨gs, 0, none⟩, 1, [s]⟩).length = xl.length := by simp
          refine HYES.out w11 e1 ⟨xr, xm, xn, xd, some ⟨gr, 0, none⟩, yc, xl.set k ⟨ent, pb, cb, bs, pe, ce, es, some ⟨gs, 0, none⟩, 1, [s]⟩⟩ (by rw [hL]; exact hk11.obj HB10.out (by omega)) ⟨q3, ?_, by simp only [List.length_set]; omega⟩
          intro z hz
          rcases List.mem_or_eq_of_mem_set hz with hz | hz
          · exact (HF10.out.fc z hz).keepS hk11 ((HXO.out z hz).mono fun i hi => by have h3 : i = gr := hi; omega)
          · have hxm := List.mem_of_getElem? HXK.out
            have hf := (HF10.out.fc _ hxm).keepS hk11 ((HXO.out _ hxm).mono fun i hi => by have h3 : i = gr := hi; omega)
            have hss : SliceV SiteM.enc 3 w11 (some ⟨gs, 0, none⟩) [s] := .inr ⟨_, 0, rfl, Arr.slAt (e := 51) SiteM.enc_len (hk11.obj HS1.out (by omega))⟩
            have hs1 : s.ok w11 := ⟨HS2.out.1.keep hk11 (HS3.out.mono fun i hi => by have h3 : i = gr := hi; omega), HS2.out.2⟩
            rw [hz]
            exact ⟨hf.bs, hf.es, hss, fun t ht => by rw [List.mem_singleton.1 ht]; exact hs1, hf.lb, hf.le, by simp⟩
      · have s1 : w9.cell? ⟨gy, 4, none⟩ = some (.slice yp xl.length yc) := cell_of_row _ _ 4 _ _ _ HBY9.out
        have s2 : w9.frozen? ⟨gy, 4, none⟩ = false := by have h := HBY9.out; unfold World.frozen?; rw [h]; rfl
        go_wp2
        clear s1 s2
        go_meet
        case rel =>
          have hx10 := heap_setCell' (j := 4) (v := .slice yp k yc) HBY9.out
          simp only [List.setIfInBounds_toArray, List.set_cons_succ, List.set_cons_zero] at hx10
          have e1 : Keep (fun i => i = b ∨ gy ≤ i) w9 (w9.setCell ⟨gy, 4, none⟩ (.slice yp k yc)) := (Keep.refl (fun i => i = b ∨ gy ≤ i) _).setCell (p := ⟨gy, 4, none⟩) (.inl (.inr (Nat.le_refl _))) _
          have e2 : Keep (· = gy) w9 (w9.setCell ⟨gy, 4, none⟩ (.slice yp k yc)) := (Keep.refl (· = gy) _).setCell (p := ⟨gy, 4, none⟩) (.inl rfl) _
          have hL : (xl.take k).length = k := by simp; omega
          have f1 : FcsOk (w9.setCell ⟨gy, 4, none⟩ (.slice yp k yc)) yp xl := HYS9.out.keepS e2 (fun ad had h3 => by have h4 := HYF9.out ad had; have h5 : ad.block = gy := h3; omega) (fun x hx => (HXO.out x hx).mono fun i hi => by have h5 : i = gy := hi; omega)
          refine HYES.out _ e1 ⟨xr, xm, xn, xd, yp, yc, xl.take k⟩ (by simp only [hL]; exact hx10) ⟨?_, fun x hx => f1.fc x (List.mem_of_mem_take hx), by simp only; omega⟩
          rcases f1.sl with h5 | ⟨b', o', he, hsl⟩
          · rw [h5] at hx1; simp at hx1
          · refine .inr ⟨b', o', he, fun i x hx => hsl i x ?_⟩
            rw [List.getElem?_take] at hx
            split at hx
            · exact hx
            · cases hx
    case rest =>
      obtain ⟨⟨yr, ym, yn, yd, yp2, yc2, yl⟩, hys⟩ := hcut
      obtain ⟨hbp, hbx, hbY, hop, hox, hoy, hkp⟩ := hys
      simp only at hbY hoy
      have HBPK : Hid (∀ w', Keep None wc w' → w'.rangeAt w.heap.size 0 [.int .i64 pr, .int .i64 pm, .int .i64 pn, .int .u64 pd, .slice pp pl.length pc]) := Lib.hid (fun w' hk' => range_of_obj (hk'.obj hbp id))
      have HBXK : Hid (∀ w', Keep None wc w' → w'.rangeAt gx 0 [.int .i64 xr, .int .i64 xm, .int .i64 xn, .int .u64 xd, .slice xp xl.length xc]) := Lib.hid (fun w' hk' => range_of_obj (hk'.obj hbx id))
      have HBYK : Hid (∀ w', Keep None wc w' → w'.rangeAt gy 0 [.int .i64 yr, .int .i64 ym, .int .i64 yn, .int .u64 yd, .slice yp2 yl.length yc2]) := Lib.hid (fun w' hk' => range_of_obj (hk'.obj hbY id))
      have HOPK : Hid (∀ w', Keep None wc w' → FcsOk w' pp pl) := Lib.hid (fun w' hk' => hop.keep hk')
      have HOXK : Hid (∀ w', Keep None wc w' → FcsOk w' xp xl) := Lib.hid (fun w' hk' => hox.keep hk')
      have HOYK : Hid (∀ w', Keep None wc w' → FcsOk w' yp2 yl) := Lib.hid (fun w' hk' => hoy.keep hk')
      have HKP := Lib.hid hkp
      clear hbp hbx hbY hop hox hoy hkp
      go_wp2_with (fail)
      have hxt : (Value.bool (decP (PcP ⟨xr, xm, xn, xd, xp, xc, xl⟩))) = .bool true := by rw [decP_true HXP.out]
      refine region_kindsG_tail None [.is (.agg #[.int .i64 xr, .int .i64 xm, .int .i64 xn, .int .u64 xd, .slice xp xl.length xc]), .is (.bool true), .is (.bool true), .is (.agg #[.int .i64 pr, .int .i64 pm, .int .i64 pn, .int .u64 pd, .slice pp pl.length pc]), .is (.bool (decP (PcP ⟨pr, pm, pn, pd, pp, pc, pl⟩))), .is (.agg #[.int .i64 pr, .int .i64 pm, .int .i64 pn, .int .u64 pd, .slice pp pl.length pc]), .is (.bool (decP (PcP ⟨pr, pm, pn, pd, pp, pc, pl⟩))), .is (.bool true), .is (.bool true), .is (.bool true), .is (.agg #[.int .i64 yr, .int .i64 ym, .int .i64 yn, .int .u64 yd, .slice yp2 yl.length yc2]), .is (.bool (decP (PcP ⟨yr, ym, yn, yd, yp2, yc2, yl⟩))), .is (.agg #[.int .i64 yr, .int .i64 ym, .int .i64 yn, .int .u64 yd, .slice yp2 yl.length yc2]), .is (.bool (decP (PcP ⟨yr, ym, yn, yd, yp2, yc2, yl⟩))), .is (.bool true), .is (.bool true), .any]
        (fun w' => Keep None wc w') 121 16 (by kernel_rfl) (by decide) (by kernel_rfl) (by kernel_rfl) (by kernel_rfl) rfl (by kernel_rfl) (Keep.refl _ _).drew ?_ ?_
      · refine ⟨?_, ?_, ?_, ?_, ?_, ?_, ?_, ?_, ?_, ?_, ?_, ?_, ?_, ?_, ?_, ?_, trivial⟩
        · exact st_free rfl (st_loadD 35 gx 0 [.int .i64 xr, .int .i64 xm, .int .i64 xn, .int .u64 xd, .slice xp xl.length xc] rfl (dep_f (t := 6) rfl rfl) (fun w' hI => HBXK.out _ hI) _ Tryz.underlying35 rfl 5 Tryz.sizePc rfl rfl)
        · exact st_free rfl (st_callD1 (dep_e 0 rfl rfl rfl) 15 #[.agg #[.int .i64 xr, .int .i64 xm, .int .i64 xn, .int .u64 xd, .slice xp xl.length xc]] (by intro a w' h1; go_simp) (by rintro w' hI; refine (sValid_calls ⟨xr, xm, xn, xd, xp, xc, xl⟩ w' (HOXK.out _ hI)).mono ?_; rintro e w'' hs; obtain ⟨rfl, hk⟩ := hs.dec; exact ⟨_, rfl, hxt, hI.trans hk, hk⟩))
        · exact st_free rfl (st_ev1 (dep_e 1 rfl rfl rfl) _ (by intro a w' h1 hI; go_simp) rfl)
        · exact st_on 2 107 true rfl rfl rfl rfl (st_loadD 35 w.heap.size 0 [.int .i64 pr, .int .i64 pm, .int .i64 pn, .int .u64 pd, .slice pp pl.length pc] rfl (dep_f (t := 3) rfl rfl) (fun w' hI => HBPK.out _ hI) _ Tryz.underlying35 rfl 5 Tryz.sizePc rfl rfl)
        · exact st_on 2 107 true rfl rfl rfl rfl (st_callD1 (dep_e 3 rfl rfl rfl) 15 #[.agg #[.int .i64 pr, .int .i64 pm, .int .i64 pn, .int .u64 pd, .slice pp pl.length pc]] (by intro a w' h1; go_simp) (by rintro w' hI; refine (sValid_calls ⟨pr, pm, pn, pd, pp, pc, pl⟩ w' (HOPK.out _ hI)).mono ?_; rintro e w'' hs; obtain ⟨rfl, hk⟩ := hs.dec; exact ⟨_, rfl, rfl, hI.trans hk, hk⟩))
        · exact st_on 2 107 true rfl rfl rfl rfl (st_loadD 35 w.heap.size 0 [.int .i64 pr, .int .i64 pm, .int .i64 pn, .int .u64 pd, .slice pp pl.length pc] rfl (dep_f (t := 3) rfl rfl) (fun w' hI => HBPK.out _ hI) _ Tryz.underlying35 rfl 5 Tryz.sizePc rfl rfl)
        · exact st_on 2 107 true rfl rfl rfl rfl (st_callD1 (dep_e 5 rfl rfl rfl) 16 #[.agg #[.int .i64 pr, .int .i64 pm, .int .i64 pn, .int .u64 pd, .slice pp pl.length pc]] (by intro a w' h1; go_simp) (by rintro w' hI; refine (rValid_calls ⟨pr, pm, pn, pd, pp, pc, pl⟩ w' (HOPK.out _ hI)).mono ?_; rintro e w'' hs; obtain ⟨rfl, hk⟩ := hs.dec; exact ⟨_, rfl, rfl, hI.trans hk, hk⟩))
        · exact st_on 2 107 true rfl rfl rfl rfl (st_ev2 (dep_e 4 rfl rfl rfl) (dep_e 6 rfl rfl rfl) _ (by intro a w' h1 h2 hI; go_simp) rfl)
        · exact st_free rfl (st_ev2 (dep_e 2 rfl rfl rfl) (dep_e 7 rfl rfl rfl) _ (by intro a w' h1 h2 hI; go_simp) rfl)
        · exact st_free rfl (st_ev1 (dep_e 8 rfl rfl rfl) _ (by intro a w' h1 hI; go_simp) rfl)
        · exact st_on 9 114 true rfl rfl rfl rfl (st_loadD 35 gy 0 [.int .i64 yr, .int .i64 ym, .int .i64 yn, .int .u64 yd, .slice yp2 yl.length yc2] rfl (dep_f (t := 7) rfl rfl) (fun w' hI => HBYK.out _ hI) _ Tryz.underlying35 rfl 5 Tryz.sizePc rfl rfl)
        · exact st_on 9 114 true rfl rfl rfl rfl (st_callD1 (dep_e 10 rfl rfl rfl) 15 #[.agg #[.int .i64 yr, .int .i64 ym, .int .i64 yn, .int .u64 yd, .slice yp2 yl.length yc2]] (by intro a w' h1; go_simp) (by rintro w' hI; refine (sValid_calls ⟨yr, ym, yn, yd, yp2, yc2, yl⟩ w' (HOYK.out _ hI)).mono ?_; rintro e w'' hs; obtain ⟨rfl, hk⟩ := hs.dec; exact ⟨_, rfl, rfl, hI.trans hk, hk⟩))
        · exact st_on 9 114 true rfl rfl rfl rfl (st_loadD 35 gy 0 [.int .i64 yr, .int .i64 ym, .int .i64 yn, .int .u64 yd, .slice yp2 yl.length yc2] rfl (dep_f (t := 7) rfl rfl) (fun w' hI => HBYK.out _ hI) _ Tryz.underlying35 rfl 5 Tryz.sizePc rfl rfl)
        · exact st_on 9 114 true rfl rfl rfl rfl (st_callD1 (dep_e 12 rfl rfl rfl) 16 #[.agg #[.int .i64 yr, .int .i64 ym, .int .i64 yn, .int .u64 yd, .slice yp2 yl.length yc2]] (by intro a w' h1; go_simp) (by rintro w' hI; refine (rValid_calls ⟨yr, ym, yn, yd, yp2, yc2, yl⟩ w' (HOYK.out _ hI)).mono ?_; rintro e w'' hs; obtain ⟨rfl, hk⟩ := hs.dec; exact ⟨_, rfl, rfl, hI.trans hk, hk⟩))
        · exact st_on 9 114 true rfl rfl rfl rfl (st_ev2 (dep_e 11 rfl rfl rfl) (dep_e 13 rfl rfl rfl) _ (by intro a w' h1 h2 hI; go_simp) rfl)
        · exact st_free rfl (st_ev2 (dep_e 9 rfl rfl rfl) (dep_e 14 rfl rfl rfl) _ (by intro a w' h1 h2 hI; go_simp) rfl)
      intro f' w10 hkinds hI
      have k15 : f' 120 = .bool true := hkinds 15 _ 120 (by omega) rfl rfl
      simp only [putsOf, Act.put, List.take_succ_cons, List.take_zero, List.drop_succ_cons, List.drop_zero, List.setIfInBounds_toArray, List.set_cons_zero, List.set_cons_succ, k15]
      clear hkinds k15
      have HKF := Lib.hid (HKP.out.trans hI)
      clear hI
      go_wp2
      go_ret
      exact ⟨rfl, HKF.out⟩

end Go.Proofs.YtcdophocpheadaaGreatDoor
