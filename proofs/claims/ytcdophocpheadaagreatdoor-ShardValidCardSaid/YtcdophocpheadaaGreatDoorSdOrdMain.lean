/-
  Chapter 30: the law of the order of identities and the digest, walked.
-/
import Derived.Test.YtcdophocpheadaaGreatDoorSdOrd
import Derived.Test.YtcdophocpheadaaGreatDoorSdFrame
import Derived.Outline
namespace Go.Proofs.YtcdophocpheadaaGreatDoor
open Go.RowKit

theorem Env.keep {w w' : World} (h : Env w) (k : Keep None w w') : Env w' := fun x hx => k.obj (h x hx) id

def TrueKeep (w : World) (e : Ending) (w' : World) : Prop := e = .returned (.bool true) ∧ Keep None w w'

theorem awake_in (w : World) (hE : Env w) : Calls Tryz.prog 5 #[] w (TrueKeep w) :=
  (Ev.awake_calls w hE).mono fun _ _ ⟨h1, h2⟩ => ⟨h1, (Keep.ofBelow h2).weaken fun k hk hs => by omega⟩

theorem ids_get {l : List Idn} {k : Nat} {x : Idn} {g : Nat} {w : World} (h : Arr Idn.enc 23 w g l) (hx : l[k]? = some x) :
    w.cell? ⟨g, k * 3, none⟩ = some (.int .i64 x.r) ∧ w.cell? ⟨g, k * 3 + 1, none⟩ = some (.int .i64 x.m) ∧ w.cell? ⟨g, k * 3 + 2, none⟩ = some (.int .i64 x.n) :=
  ⟨h.range Idn.enc_len hx 0 _ rfl, h.range Idn.enc_len hx 1 _ rfl, h.range Idn.enc_len hx 2 _ rfl⟩

theorem cmpD_bd (x y : Idn) : -1 ≤ cmpD x y ∧ cmpD x y ≤ 1 := by
  rw [cmpD_eq]
  rcases cmpI_cases x.r y.r with ⟨_, h1, h2⟩ | ⟨_, h1, h2⟩ | ⟨_, h1, h2⟩ <;> rcases cmpI_cases x.m y.m with ⟨_, h3, h4⟩ | ⟨_, h3, h4⟩ | ⟨_, h3, h4⟩ <;> rcases cmpI_cases x.n y.n with ⟨_, h5, h6⟩ | ⟨_, h5, h6⟩ | ⟨_, h5, h6⟩ <;> simp [h1, h3, h5]

def idList (a b c : Idn) : List Idn := [a, b, c, ⟨a.r, b.m, c.n⟩, ⟨a.r, a.m, b.n⟩]
def BoxId (w : World) (B : Nat) (x : Idn) : Prop := w.heap[B]? = some (.cells #[.int .i64 x.r, .int .i64 x.m, .int .i64 x.n] 23 (0, 0))
def OutInv (L : List Idn) (G : Nat) (w0 : World) (i : Value) (w : World) : Prop := ∃ k : Nat, i = .int .i64 k ∧ k ≤ 5 ∧ Keep None w0 w ∧ Arr Idn.enc 23 w G L
def MidInv (L : List Idn) (G : Nat) (w0 : World) (X : Nat) (x : Idn) (i : Value) (w : World) : Prop := ∃ k : Nat, i = .int .i64 k ∧ k ≤ 5 ∧ Keep None w0 w ∧ Arr Idn.enc 23 w G L ∧ BoxId w X x
def InnInv (L : List Idn) (G : Nat) (w0 : World) (X : Nat) (x : Idn) (Y : Nat) (y : Idn) (i : Value) (w : World) : Prop := ∃ k : Nat, i = .int .i64 k ∧ k ≤ 5 ∧ Keep None w0 w ∧ Arr Idn.enc 23 w G L ∧ BoxId w X x ∧ BoxId w Y y
theorem BoxId.cells {w : World} {B : Nat} {x : Idn} (h : BoxId w B x) : w.cell? ⟨B, 0, none⟩ = some (.int .i64 x.r) ∧ w.cell? ⟨B, 1, none⟩ = some (.int .i64 x.m) ∧ w.cell? ⟨B, 2, none⟩ = some (.int .i64 x.n) :=
  ⟨cell_of_row _ _ 0 _ _ _ h, cell_of_row _ _ 1 _ _ _ h, cell_of_row _ _ 2 _ _ _ h⟩

set_option maxRecDepth 100000 in
set_option maxHeartbeats 4000000 in
theorem lawOrd_calls (a b c : Idn) (p : Option Addr) (ds : List Int) (cap : Nat) (w : World) (h : SliceV byteEnc 1 w p ds) (hb : ∀ x ∈ ds, (0 : Int) ≤ x ∧ x ≤ 255) (hE : Env w) (hlm : ds.length ≤ maxLen) :
    Calls Tryz.prog 3 #[idVal a, idVal b, idVal c, .slice p ds.length cap] w (TrueKeep w) := by
  unfold idVal
  unfold maxLen at hlm
  have HBX : Hid (∃ W : World, Keep None w W ∧ W = ((w.alloc (.cells #[.int .i64 a.r, .int .i64 a.m, .int .i64 a.n] 23)).alloc (.cells #[.int .i64 b.r, .int .i64 b.m, .int .i64 b.n] 23)).alloc (.cells #[.int .i64 c.r, .int .i64 c.m, .int .i64 c.n] 23) ∧
      W.heap[w.heap.size]? = some (.cells #[.int .i64 a.r, .int .i64 a.m, .int .i64 a.n] 23 (0, 0)) ∧ W.heap[w.heap.size + 1]? = some (.cells #[.int .i64 b.r, .int .i64 b.m, .int .i64 b.n] 23 (0, 0)) ∧ W.heap[w.heap.size + 2]? = some (.cells #[.int .i64 c.r, .int .i64 c.m, .int .i64 c.n] 23 (0, 0))) := by
    refine Lib.hid ⟨_, (((Keep.refl None w).alloc _).alloc _).alloc _, rfl, ?_, ?_, ?_⟩
    · refine ((Keep.refl None _).alloc _).obj (((Keep.refl None _).alloc _).obj (heap_alloc_new _ _) id) id
    · refine ((Keep.refl None _).alloc _).obj ?_ id
      exact alloc_at (by simp)
    · exact alloc_at (by simp)
  obtain ⟨W, hKW, hWe, o1, o2, o3⟩ := HBX.out
  have HKW := Lib.hid hKW
  have HWE := Lib.hid hWe.symm
  have HO1 := Lib.hid o1
  have HO2 := Lib.hid o2
  have HO3 := Lib.hid o3
  have HH := Lib.hid h
  have HB := Lib.hid hb
  have HEW := Lib.hid (hE.keep hKW)
  clear HBX hKW hWe o1 o2 o3 h hb hE
  by_cases hbig : 1000 < ds.length
  · have hbi : (1000 : Int) < (ds.length : Int) := by omega
    go_enter Tryz.func3, Tryz.ntmps3
    go_upto_region 1 with (fail)
    rw [HWE.out]
    go_wp2_with (go_at_call 5; refine (awake_in _ HEW.out).mono ?_; rintro e w1 ⟨rfl, hk1⟩; have HK1 := Lib.hid hk1; clear hk1)
    go_ret
    exact ⟨rfl, HKW.out.trans HK1.out⟩
  · have hbi : decide ((1000 : Int) < (ds.length : Int)) = false := by simp; omega
    go_enter Tryz.func3, Tryz.ntmps3
    go_upto_region 1 with (fail)
    rw [HWE.out]
    go_upto_region 3 with (go_at_call 5; refine (awake_in _ HEW.out).mono ?_; rintro e w1 ⟨rfl, hk1⟩; have HK1 := Lib.hid hk1; clear hk1)
    have c00 : w1.cell? ⟨w.heap.size, 0, none⟩ = some (.int .i64 a.r) := cell_of_row _ _ 0 _ _ _ (HK1.out.obj HO1.out id)
    have c01 : w1.cell? ⟨w.heap.size, 1, none⟩ = some (.int .i64 a.m) := cell_of_row _ _ 1 _ _ _ (HK1.out.obj HO1.out id)
    have c02 : w1.cell? ⟨w.heap.size, 2, none⟩ = some (.int .i64 a.n) := cell_of_row _ _ 2 _ _ _ (HK1.out.obj HO1.out id)
    have c10 : w1.cell? ⟨w.heap.size + 1, 0, none⟩ = some (.int .i64 b.r) := cell_of_row _ _ 0 _ _ _ (HK1.out.obj HO2.out id)
    have c11 : w1.cell? ⟨w.heap.size + 1, 1, none⟩ = some (.int .i64 b.m) := cell_of_row _ _ 1 _ _ _ (HK1.out.obj HO2.out id)
    have c12 : w1.cell? ⟨w.heap.size + 1, 2, none⟩ = some (.int .i64 b.n) := cell_of_row _ _ 2 _ _ _ (HK1.out.obj HO2.out id)
    have c20 : w1.cell? ⟨w.heap.size + 2, 0, none⟩ = some (.int .i64 c.r) := cell_of_row _ _ 0 _ _ _ (HK1.out.obj HO3.out id)
    have c21 : w1.cell? ⟨w.heap.size + 2, 1, none⟩ = some (.int .i64 c.m) := cell_of_row _ _ 1 _ _ _ (HK1.out.obj HO3.out id)
    have c22 : w1.cell? ⟨w.heap.size + 2, 2, none⟩ = some (.int .i64 c.n) := cell_of_row _ _ 2 _ _ _ (HK1.out.obj HO3.out id)
    go_wp2_with (fail)
    clear c00 c01 c02 c10 c11 c12 c20 c21 c22
    go_loopw [47] (OutInv (idList a b c) w1.heap.size w1) (fun i _ => 5 - (intOf i).toNat)
    case atStart =>
      refine ⟨0, rfl, by omega, (Keep.refl _ _).alloc _, ?_⟩
      exact heap_alloc_new _ _
    case round =>
      obtain ⟨k, rfl, hk, hkp, har⟩ := hrel
      have HKP := Lib.hid hkp
      have HAR := Lib.hid har
      clear hkp har
      by_cases hlt : k < 5
      · obtain ⟨x, hx⟩ : ∃ x, (idList a b c)[k]? = some x := ⟨(idList a b c)[k]'hlt, List.getElem?_eq_getElem hlt⟩
        obtain ⟨e0, e1, e2⟩ := ids_get HAR.out hx
        clear hx
        obtain ⟨wo, hwo⟩ : ∃ wo : World, wo = wr := ⟨_, rfl⟩
        subst hwo
        have hkb : decide ((k : Int) < 5) = true := by simp; omega
        go_wp2_with (fail)
        clear e0 e1 e2
        go_loopw [53] (MidInv (idList a b c) w1.heap.size wo wo.heap.size x) (fun i _ => 5 - (intOf i).toNat)
        case atStart => exact ⟨0, rfl, by omega, (Keep.refl _ _).alloc _, HAR.out.keep ((Keep.refl None _).alloc _) id, heap_alloc_new _ _⟩
        case round =>
          obtain ⟨j, rfl, hj, hkp2, har2, hbx⟩ := hrel
          have HKP2 := Lib.hid hkp2
          have HAR2 := Lib.hid har2
          have HBX := Lib.hid hbx
          clear hkp2 har2 hbx
          by_cases hjt : j < 5
          · obtain ⟨y, hy⟩ : ∃ y, (idList a b c)[j]? = some y := ⟨(idList a b c)[j]'hjt, List.getElem?_eq_getElem hjt⟩
            obtain ⟨e0, e1, e2⟩ := ids_get HAR2.out hy
            obtain ⟨f0, f1, f2⟩ := HBX.out.cells
            clear hy
            obtain ⟨wi, hwi⟩ : ∃ wi : World, wi = wr := ⟨_, rfl⟩
            subst hwi
            have hXlt : wo.heap.size < wi.heap.size := heap_lt HBX.out
            have hXne : ¬ wo.heap.size = wi.heap.size := by omega
            have hbd := cmpD_bd x y
            have hng := cmpD_neg y x
            have hzr := cmpD_zero x y
            obtain ⟨n, hn⟩ : ∃ n, cmpD x y = n := ⟨_, rfl⟩
            rw [hn] at hbd hng hzr
            have HN := Lib.hid hn
            have HG := Lib.hid hng
            have HZ := Lib.hid hzr
            clear hn hng hzr
            go_wp2_with (fail)
            clear e0 e1 e2 f0 f1 f2 hXlt hXne
            go_at_call 6
            refine (compare_calls _).mono ?_
            rintro e w2 ⟨he, hk2⟩
            rw [show cmpD ⟨x.r, x.m, x.n⟩ ⟨y.r, y.m, y.n⟩ = n from HN.out] at he
            subst he
            have hbx2 : BoxId w2 wo.heap.size x := hk2.obj (((Keep.refl None _).alloc _).obj HBX.out id) id
            have hby2 : BoxId w2 wi.heap.size y := hk2.obj (heap_alloc_new _ _) id
            have HA2 := Lib.hid (HAR2.out.keep (((Keep.refl None _).alloc _).trans hk2) id)
            have HK2 := Lib.hid (((Keep.refl None wi).alloc _).trans hk2)
            have HX2 := Lib.hid hbx2
            have HY2 := Lib.hid hby2
            obtain ⟨g0, g1, g2⟩ := hbx2.cells
            obtain ⟨g3, g4, g5⟩ := hby2.cells
            clear hbx2 hby2 hk2
            have hn3 : n = -1 ∨ n = 0 ∨ n = 1 := by omega
            clear hbd
            obtain ⟨xr, xm, xn⟩ := x
            obtain ⟨yr, ym, yn⟩ := y
            dsimp only at g0 g1 g2 g3 g4 g5
            rcases hn3 with rfl | rfl | rfl
            · by_cases h1 : xr = yr
              · subst h1
                by_cases h2 : xm = ym
                · subst h2
                  have h3 : ¬ xn = yn := fun h => by
                    subst h
                    have := HZ.out.2 rfl
                    omega
                  go_wp2_with (fail)
                  go_at_call 7
                  refine (rcompare_calls _).mono ?_
                  rintro e w3 ⟨he, hk3⟩
                  rw [show cmpD ⟨xr, xm, xn⟩ ⟨xr, xm, yn⟩ = -1 from HN.out] at he
                  subst he
                  have HK3 := Lib.hid (HK2.out.trans hk3)
                  have HA3 := Lib.hid (HA2.out.keep hk3 id)
                  have hbx3 : BoxId w3 wo.heap.size ⟨xr, xm, xn⟩ := hk3.obj HX2.out id
                  have hby3 : BoxId w3 wi.heap.size ⟨xr, xm, yn⟩ := hk3.obj HY2.out id
                  have HX3 := Lib.hid hbx3
                  have HY3 := Lib.hid hby3
                  clear g0 g1 g2 g3 g4 g5
                  obtain ⟨g0, g1, g2⟩ := hbx3.cells
                  obtain ⟨g3, g4, g5⟩ := hby3.cells
                  dsimp only at g0 g1 g2 g3 g4 g5
                  clear hbx3 hby3 hk3
                  go_wp2_with (fail)
                  go_at_call 6
                  refine (compare_calls _).mono ?_
                  rintro e w4 ⟨he, hk4⟩
                  rw [show cmpD ⟨xr, xm, yn⟩ ⟨xr, xm, xn⟩ = 1 from HG.out.trans (by decide)] at he
                  subst he
                  have HK4 := Lib.hid (HK3.out.trans hk4)
                  have HA4 := Lib.hid (HA3.out.keep hk4 id)
                  have hbx4 : BoxId w4 wo.heap.size ⟨xr, xm, xn⟩ := hk4.obj HX3.out id
                  have hby4 : BoxId w4 wi.heap.size ⟨xr, xm, yn⟩ := hk4.obj HY3.out id
                  have HX4 := Lib.hid hbx4
                  have HY4 := Lib.hid hby4
                  clear g0 g1 g2 g3 g4 g5
                  obtain ⟨g0, g1, g2⟩ := hbx4.cells
                  obtain ⟨g3, g4, g5⟩ := hby4.cells
                  dsimp only at g0 g1 g2 g3 g4 g5
                  clear hbx4 hby4 hk4
                  go_wp2_with (fail)
                  go_loopw [83] (InnInv (idList a b c) w1.heap.size w4 wo.heap.size ⟨xr, xm, xn⟩ wi.heap.size ⟨xr, xm, yn⟩) (fun i _ => 5 - (intOf i).toNat)
                  case atStart => exact ⟨0, rfl, by omega, Keep.refl _ _, HA4.out, HX4.out, HY4.out⟩
                  case round =>
                    obtain ⟨l, rfl, hl, hkp5, har5, hbx5, hby5⟩ := hrel
                    have HK5 := Lib.hid hkp5
                    have HA5 := Lib.hid har5
                    have HX5 := Lib.hid hbx5
                    have HY5 := Lib.hid hby5
                    clear hkp5 har5 hbx5 hby5
                    by_cases hll : l < 5
                    · obtain ⟨z, hz⟩ : ∃ z, (idList a b c)[l]? = some z := ⟨(idList a b c)[l]'hll, List.getElem?_eq_getElem hll⟩
                      obtain ⟨e0, e1, e2⟩ := ids_get HA5.out hz
                      clear hz
                      obtain ⟨wk, hwk⟩ : ∃ wk : World, wk = wr := ⟨_, rfl⟩
                      subst hwk
                      have hXlt : wo.heap.size < wk.heap.size := heap_lt HX5.out
                      have hXne : ¬ wo.heap.size = wk.heap.size := by omega
                      have hYlt : wi.heap.size < wk.heap.size := heap_lt HY5.out
                      have hYne : ¬ wi.heap.size = wk.heap.size := by omega
                      obtain ⟨f0, f1, f2⟩ := HX5.out.cells
                      obtain ⟨f3, f4, f5⟩ := HY5.out.cells
                      dsimp only at f0 f1 f2 f3 f4 f5
                      obtain ⟨u, hu⟩ : ∃ u, cmpD ⟨xr, xm, yn⟩ z = u := ⟨_, rfl⟩
                      obtain ⟨v, hv⟩ : ∃ v, cmpD ⟨xr, xm, xn⟩ z = v := ⟨_, rfl⟩
                      have huv : u < 0 → v < 0 := fun h => by rw [← hv]; rw [← hu] at h; exact cmpD_trans (by rw [HN.out]; decide) h
                      have HU := Lib.hid hu
                      have HV := Lib.hid hv
                      have HUV := Lib.hid huv
                      clear hu hv huv
                      go_wp2_with (fail)
                      clear e0 e1 e2 f0 f1 f2 f3 f4 f5 hXlt hXne hYlt hYne
                      go_at_call 6
                      refine (compare_calls _).mono ?_
                      rintro e w6 ⟨he, hk6⟩
                      rw [show cmpD ⟨xr, xm, yn⟩ ⟨z.r, z.m, z.n⟩ = u from HU.out] at he
                      subst he
                      have hbz : BoxId w6 wk.heap.size z := hk6.obj (heap_alloc_new _ _) id
                      have HK6 := Lib.hid (((Keep.refl None wk).alloc _).trans hk6)
                      clear hk6
                      have hbx6 : BoxId w6 wo.heap.size ⟨xr, xm, xn⟩ := HK6.out.obj HX5.out id
                      have HA6 := Lib.hid (HA5.out.keep HK6.out id)
                      have HX6 := Lib.hid hbx6
                      have HY6 : Hid (BoxId w6 wi.heap.size ⟨xr, xm, yn⟩) := Lib.hid (HK6.out.obj HY5.out id)
                      obtain ⟨f0, f1, f2⟩ := hbx6.cells
                      obtain ⟨f3, f4, f5⟩ := hbz.cells
                      dsimp only at f0 f1 f2
                      clear hbx6 hbz
                      by_cases hu0 : u < 0
                      · have hv0 := HUV.out hu0
                        have hv1 : decide (0 ≤ v) = false := by simpa using hv0
                        clear hv0
                        go_wp2_with (fail)
                        go_at_call 6
                        refine (compare_calls _).mono ?_
                        rintro e w7 ⟨he, hk7⟩
                        rw [show cmpD ⟨xr, xm, xn⟩ ⟨z.r, z.m, z.n⟩ = v from HV.out] at he
                        subst he
                        have HK7 := Lib.hid hk7
                        clear hk7
                        go_wp2_with (fail)
                        go_roundw
                        case rel => exact ⟨l + 1, by go_num, by omega, (HK5.out.trans HK6.out).trans HK7.out, HA6.out.keep HK7.out id, HK7.out.obj HX6.out id, HK7.out.obj HY6.out id⟩
                        case measure => simp [intOf]; omega
                      · go_wp2_with (fail)
                        go_roundw
                        case rel => exact ⟨l + 1, by go_num, by omega, HK5.out.trans HK6.out, HA6.out, HX6.out, HY6.out⟩
                        case measure => simp [intOf]; omega
                    · have hle : l = 5 := by omega
                      subst hle
                      go_wp2_with (fail)
                      go_roundw
                      case rel =>
                        have hrel2 : MidInv (idList a b c) w1.heap.size wo wo.heap.size ⟨xr, xm, xn⟩ (.int .i64 ((j : Int) + 1)) wr := ⟨j + 1, by go_num, by omega, (HKP2.out.trans HK4.out).trans HK5.out, HA5.out, HX5.out⟩
                        first
                          | exact hrel2
                          | ((repeat apply Exists.intro); exact ⟨hrel2, rfl⟩)
                      case measure => simp [intOf]; omega
                · go_wp2_with (fail)
                  go_at_call 7
                  refine (rcompare_calls _).mono ?_
                  rintro e w3 ⟨he, hk3⟩
                  rw [show cmpD ⟨xr, xm, xn⟩ ⟨xr, ym, yn⟩ = -1 from HN.out] at he
                  subst he
                  have HK3 := Lib.hid (HK2.out.trans hk3)
                  have HA3 := Lib.hid (HA2.out.keep hk3 id)
                  have hbx3 : BoxId w3 wo.heap.size ⟨xr, xm, xn⟩ := hk3.obj HX2.out id
                  have hby3 : BoxId w3 wi.heap.size ⟨xr, ym, yn⟩ := hk3.obj HY2.out id
                  have HX3 := Lib.hid hbx3
                  have HY3 := Lib.hid hby3
                  clear g0 g1 g2 g3 g4 g5
                  obtain ⟨g0, g1, g2⟩ := hbx3.cells
                  obtain ⟨g3, g4, g5⟩ := hby3.cells
                  dsimp only at g0 g1 g2 g3 g4 g5
                  clear hbx3 hby3 hk3
                  go_wp2_with (fail)
                  go_at_call 6
                  refine (compare_calls _).mono ?_
                  rintro e w4 ⟨he, hk4⟩
                  rw [show cmpD ⟨xr, ym, yn⟩ ⟨xr, xm, xn⟩ = 1 from HG.out.trans (by decide)] at he
                  subst he
                  have HK4 := Lib.hid (HK3.out.trans hk4)
                  have HA4 := Lib.hid (HA3.out.keep hk4 id)
                  have hbx4 : BoxId w4 wo.heap.size ⟨xr, xm, xn⟩ := hk4.obj HX3.out id
                  have hby4 : BoxId w4 wi.heap.size ⟨xr, ym, yn⟩ := hk4.obj HY3.out id
                  have HX4 := Lib.hid hbx4
                  have HY4 := Lib.hid hby4
                  clear g0 g1 g2 g3 g4 g5
                  obtain ⟨g0, g1, g2⟩ := hbx4.cells
                  obtain ⟨g3, g4, g5⟩ := hby4.cells
                  dsimp only at g0 g1 g2 g3 g4 g5
                  clear hbx4 hby4 hk4
                  go_wp2_with (fail)
                  go_loopw [83] (InnInv (idList a b c) w1.heap.size w4 wo.heap.size ⟨xr, xm, xn⟩ wi.heap.size ⟨xr, ym, yn⟩) (fun i _ => 5 - (intOf i).toNat)
                  case atStart => exact ⟨0, rfl, by omega, Keep.refl _ _, HA4.out, HX4.out, HY4.out⟩
                  case round =>
                    obtain ⟨l, rfl, hl, hkp5, har5, hbx5, hby5⟩ := hrel
                    have HK5 := Lib.hid hkp5
                    have HA5 := Lib.hid har5
                    have HX5 := Lib.hid hbx5
                    have HY5 := Lib.hid hby5
                    clear hkp5 har5 hbx5 hby5
                    by_cases hll : l < 5
                    · obtain ⟨z, hz⟩ : ∃ z, (idList a b c)[l]? = some z := ⟨(idList a b c)[l]'hll, List.getElem?_eq_getElem hll⟩
                      obtain ⟨e0, e1, e2⟩ := ids_get HA5.out hz
                      clear hz
                      obtain ⟨wk, hwk⟩ : ∃ wk : World, wk = wr := ⟨_, rfl⟩
                      subst hwk
                      have hXlt : wo.heap.size < wk.heap.size := heap_lt HX5.out
                      have hXne : ¬ wo.heap.size = wk.heap.size := by omega
                      have hYlt : wi.heap.size < wk.heap.size := heap_lt HY5.out
                      have hYne : ¬ wi.heap.size = wk.heap.size := by omega
                      obtain ⟨f0, f1, f2⟩ := HX5.out.cells
                      obtain ⟨f3, f4, f5⟩ := HY5.out.cells
                      dsimp only at f0 f1 f2 f3 f4 f5
                      obtain ⟨u, hu⟩ : ∃ u, cmpD ⟨xr, ym, yn⟩ z = u := ⟨_, rfl⟩
                      obtain ⟨v, hv⟩ : ∃ v, cmpD ⟨xr, xm, xn⟩ z = v := ⟨_, rfl⟩
                      have huv : u < 0 → v < 0 := fun h => by rw [← hv]; rw [← hu] at h; exact cmpD_trans (by rw [HN.out]; decide) h
                      have HU := Lib.hid hu
                      have HV := Lib.hid hv
                      have HUV := Lib.hid huv
                      clear hu hv huv
                      go_wp2_with (fail)
                      clear e0 e1 e2 f0 f1 f2 f3 f4 f5 hXlt hXne hYlt hYne
                      go_at_call 6
                      refine (compare_calls _).mono ?_
                      rintro e w6 ⟨he, hk6⟩
                      rw [show cmpD ⟨xr, ym, yn⟩ ⟨z.r, z.m, z.n⟩ = u from HU.out] at he
                      subst he
                      have hbz : BoxId w6 wk.heap.size z := hk6.obj (heap_alloc_new _ _) id
                      have HK6 := Lib.hid (((Keep.refl None wk).alloc _).trans hk6)
                      clear hk6
                      have hbx6 : BoxId w6 wo.heap.size ⟨xr, xm, xn⟩ := HK6.out.obj HX5.out id
                      have HA6 := Lib.hid (HA5.out.keep HK6.out id)
                      have HX6 := Lib.hid hbx6
                      have HY6 : Hid (BoxId w6 wi.heap.size ⟨xr, ym, yn⟩) := Lib.hid (HK6.out.obj HY5.out id)
                      obtain ⟨f0, f1, f2⟩ := hbx6.cells
                      obtain ⟨f3, f4, f5⟩ := hbz.cells
                      dsimp only at f0 f1 f2
                      clear hbx6 hbz
                      by_cases hu0 : u < 0
                      · have hv0 := HUV.out hu0
                        have hv1 : decide (0 ≤ v) = false := by simpa using hv0
                        clear hv0
                        go_wp2_with (fail)
                        go_at_call 6
                        refine (compare_calls _).mono ?_
                        rintro e w7 ⟨he, hk7⟩
                        rw [show cmpD ⟨xr, xm, xn⟩ ⟨z.r, z.m, z.n⟩ = v from HV.out] at he
                        subst he
                        have HK7 := Lib.hid hk7
                        clear hk7
                        go_wp2_with (fail)
                        go_roundw
                        case rel => exact ⟨l + 1, by go_num, by omega, (HK5.out.trans HK6.out).trans HK7.out, HA6.out.keep HK7.out id, HK7.out.obj HX6.out id, HK7.out.obj HY6.out id⟩
                        case measure => simp [intOf]; omega
                      · go_wp2_with (fail)
                        go_roundw
                        case rel => exact ⟨l + 1, by go_num, by omega, HK5.out.trans HK6.out, HA6.out, HX6.out, HY6.out⟩
                        case measure => simp [intOf]; omega
                    · have hle : l = 5 := by omega
                      subst hle
                      go_wp2_with (fail)
                      go_roundw
                      case rel =>
                        have hrel2 : MidInv (idList a b c) w1.heap.size wo wo.heap.size ⟨xr, xm, xn⟩ (.int .i64 ((j : Int) + 1)) wr := ⟨j + 1, by go_num, by omega, (HKP2.out.trans HK4.out).trans HK5.out, HA5.out, HX5.out⟩
                        first
                          | exact hrel2
                          | ((repeat apply Exists.intro); exact ⟨hrel2, rfl⟩)
                      case measure => simp [intOf]; omega
              · go_wp2_with (fail)
                go_at_call 7
                refine (rcompare_calls _).mono ?_
                rintro e w3 ⟨he, hk3⟩
                rw [show cmpD ⟨xr, xm, xn⟩ ⟨yr, ym, yn⟩ = -1 from HN.out] at he
                subst he
                have HK3 := Lib.hid (HK2.out.trans hk3)
                have HA3 := Lib.hid (HA2.out.keep hk3 id)
                have hbx3 : BoxId w3 wo.heap.size ⟨xr, xm, xn⟩ := hk3.obj HX2.out id
                have hby3 : BoxId w3 wi.heap.size ⟨yr, ym, yn⟩ := hk3.obj HY2.out id
                have HX3 := Lib.hid hbx3
                have HY3 := Lib.hid hby3
                clear g0 g1 g2 g3 g4 g5
                obtain ⟨g0, g1, g2⟩ := hbx3.cells
                obtain ⟨g3, g4, g5⟩ := hby3.cells
                dsimp only at g0 g1 g2 g3 g4 g5
                clear hbx3 hby3 hk3
                go_wp2_with (fail)
                go_at_call 6
                refine (compare_calls _).mono ?_
                rintro e w4 ⟨he, hk4⟩
                rw [show cmpD ⟨yr, ym, yn⟩ ⟨xr, xm, xn⟩ = 1 from HG.out.trans (by decide)] at he
                subst he
                have HK4 := Lib.hid (HK3.out.trans hk4)
                have HA4 := Lib.hid (HA3.out.keep hk4 id)
                have hbx4 : BoxId w4 wo.heap.size ⟨xr, xm, xn⟩ := hk4.obj HX3.out id
                have hby4 : BoxId w4 wi.heap.size ⟨yr, ym, yn⟩ := hk4.obj HY3.out id
                have HX4 := Lib.hid hbx4
                have HY4 := Lib.hid hby4
                clear g0 g1 g2 g3 g4 g5
                obtain ⟨g0, g1, g2⟩ := hbx4.cells
                obtain ⟨g3, g4, g5⟩ := hby4.cells
                dsimp only at g0 g1 g2 g3 g4 g5
                clear hbx4 hby4 hk4
                go_wp2_with (fail)
                go_loopw [83] (InnInv (idList a b c) w1.heap.size w4 wo.heap.size ⟨xr, xm, xn⟩ wi.heap.size ⟨yr, ym, yn⟩) (fun i _ => 5 - (intOf i).toNat)
                case atStart => exact ⟨0, rfl, by omega, Keep.refl _ _, HA4.out, HX4.out, HY4.out⟩
                case round =>
                  obtain ⟨l, rfl, hl, hkp5, har5, hbx5, hby5⟩ := hrel
                  have HK5 := Lib.hid hkp5
                  have HA5 := Lib.hid har5
                  have HX5 := Lib.hid hbx5
                  have HY5 := Lib.hid hby5
                  clear hkp5 har5 hbx5 hby5
                  by_cases hll : l < 5
                  · obtain ⟨z, hz⟩ : ∃ z, (idList a b c)[l]? = some z := ⟨(idList a b c)[l]'hll, List.getElem?_eq_getElem hll⟩
                    obtain ⟨e0, e1, e2⟩ := ids_get HA5.out hz
                    clear hz
                    obtain ⟨wk, hwk⟩ : ∃ wk : World, wk = wr := ⟨_, rfl⟩
                    subst hwk
                    have hXlt : wo.heap.size < wk.heap.size := heap_lt HX5.out
                    have hXne : ¬ wo.heap.size = wk.heap.size := by omega
                    have hYlt : wi.heap.size < wk.heap.size := heap_lt HY5.out
                    have hYne : ¬ wi.heap.size = wk.heap.size := by omega
                    obtain ⟨f0, f1, f2⟩ := HX5.out.cells
                    obtain ⟨f3, f4, f5⟩ := HY5.out.cells
                    dsimp only at f0 f1 f2 f3 f4 f5
                    obtain ⟨u, hu⟩ : ∃ u, cmpD ⟨yr, ym, yn⟩ z = u := ⟨_, rfl⟩
                    obtain ⟨v, hv⟩ : ∃ v, cmpD ⟨xr, xm, xn⟩ z = v := ⟨_, rfl⟩
                    have huv : u < 0 → v < 0 := fun h => by rw [← hv]; rw [← hu] at h; exact cmpD_trans (by rw [HN.out]; decide) h
                    have HU := Lib.hid hu
                    have HV := Lib.hid hv
                    have HUV := Lib.hid huv
                    clear hu hv huv
                    go_wp2_with (fail)
                    clear e0 e1 e2 f0 f1 f2 f3 f4 f5 hXlt hXne hYlt hYne
                    go_at_call 6
                    refine (compare_calls _).mono ?_
                    rintro e w6 ⟨he, hk6⟩
                    rw [show cmpD ⟨yr, ym, yn⟩ ⟨z.r, z.m, z.n⟩ = u from HU.out] at he
                    subst he
                    have hbz : BoxId w6 wk.heap.size z := hk6.obj (heap_alloc_new _ _) id
                    have HK6 := Lib.hid (((Keep.refl None wk).alloc _).trans hk6)
                    clear hk6
                    have hbx6 : BoxId w6 wo.heap.size ⟨xr, xm, xn⟩ := HK6.out.obj HX5.out id
                    have HA6 := Lib.hid (HA5.out.keep HK6.out id)
                    have HX6 := Lib.hid hbx6
                    have HY6 : Hid (BoxId w6 wi.heap.size ⟨yr, ym, yn⟩) := Lib.hid (HK6.out.obj HY5.out id)
                    obtain ⟨f0, f1, f2⟩ := hbx6.cells
                    obtain ⟨f3, f4, f5⟩ := hbz.cells
                    dsimp only at f0 f1 f2
                    clear hbx6 hbz
                    by_cases hu0 : u < 0
                    · have hv0 := HUV.out hu0
                      have hv1 : decide (0 ≤ v) = false := by simpa using hv0
                      clear hv0
                      go_wp2_with (fail)
                      go_at_call 6
                      refine (compare_calls _).mono ?_
                      rintro e w7 ⟨he, hk7⟩
                      rw [show cmpD ⟨xr, xm, xn⟩ ⟨z.r, z.m, z.n⟩ = v from HV.out] at he
                      subst he
                      have HK7 := Lib.hid hk7
                      clear hk7
                      go_wp2_with (fail)
                      go_roundw
                      case rel => exact ⟨l + 1, by go_num, by omega, (HK5.out.trans HK6.out).trans HK7.out, HA6.out.keep HK7.out id, HK7.out.obj HX6.out id, HK7.out.obj HY6.out id⟩
                      case measure => simp [intOf]; omega
                    · go_wp2_with (fail)
                      go_roundw
                      case rel => exact ⟨l + 1, by go_num, by omega, HK5.out.trans HK6.out, HA6.out, HX6.out, HY6.out⟩
                      case measure => simp [intOf]; omega
                  · have hle : l = 5 := by omega
                    subst hle
                    go_wp2_with (fail)
                    go_roundw
                    case rel =>
                      have hrel2 : MidInv (idList a b c) w1.heap.size wo wo.heap.size ⟨xr, xm, xn⟩ (.int .i64 ((j : Int) + 1)) wr := ⟨j + 1, by go_num, by omega, (HKP2.out.trans HK4.out).trans HK5.out, HA5.out, HX5.out⟩
                      first
                        | exact hrel2
                        | ((repeat apply Exists.intro); exact ⟨hrel2, rfl⟩)
                    case measure => simp [intOf]; omega
            · have hxy := HZ.out.1 rfl
              simp only [Idn.mk.injEq] at hxy
              obtain ⟨rfl, rfl, rfl⟩ := hxy
              go_wp2_with (fail)
              go_at_call 7
              refine (rcompare_calls _).mono ?_
              rintro e w3 ⟨he, hk3⟩
              rw [show cmpD ⟨xr, xm, xn⟩ ⟨xr, xm, xn⟩ = 0 from HN.out] at he
              subst he
              have HK3 := Lib.hid (HK2.out.trans hk3)
              have HA3 := Lib.hid (HA2.out.keep hk3 id)
              have hbx3 : BoxId w3 wo.heap.size ⟨xr, xm, xn⟩ := hk3.obj HX2.out id
              have hby3 : BoxId w3 wi.heap.size ⟨xr, xm, xn⟩ := hk3.obj HY2.out id
              have HX3 := Lib.hid hbx3
              have HY3 := Lib.hid hby3
              clear g0 g1 g2 g3 g4 g5
              obtain ⟨g0, g1, g2⟩ := hbx3.cells
              obtain ⟨g3, g4, g5⟩ := hby3.cells
              dsimp only at g0 g1 g2 g3 g4 g5
              clear hbx3 hby3 hk3
              go_wp2_with (fail)
              go_at_call 6
              refine (compare_calls _).mono ?_
              rintro e w4 ⟨he, hk4⟩
              rw [show cmpD ⟨xr, xm, xn⟩ ⟨xr, xm, xn⟩ = 0 from HG.out.trans (by decide)] at he
              subst he
              have HK4 := Lib.hid (HK3.out.trans hk4)
              have HA4 := Lib.hid (HA3.out.keep hk4 id)
              have hbx4 : BoxId w4 wo.heap.size ⟨xr, xm, xn⟩ := hk4.obj HX3.out id
              have hby4 : BoxId w4 wi.heap.size ⟨xr, xm, xn⟩ := hk4.obj HY3.out id
              have HX4 := Lib.hid hbx4
              have HY4 := Lib.hid hby4
              clear g0 g1 g2 g3 g4 g5
              obtain ⟨g0, g1, g2⟩ := hbx4.cells
              obtain ⟨g3, g4, g5⟩ := hby4.cells
              dsimp only at g0 g1 g2 g3 g4 g5
              clear hbx4 hby4 hk4
              go_wp2_with (fail)
              go_loopw [83] (InnInv (idList a b c) w1.heap.size w4 wo.heap.size ⟨xr, xm, xn⟩ wi.heap.size ⟨xr, xm, xn⟩) (fun i _ => 5 - (intOf i).toNat)
              case atStart => exact ⟨0, rfl, by omega, Keep.refl _ _, HA4.out, HX4.out, HY4.out⟩
              case round =>
                obtain ⟨l, rfl, hl, hkp5, har5, hbx5, hby5⟩ := hrel
                have HK5 := Lib.hid hkp5
                have HA5 := Lib.hid har5
                have HX5 := Lib.hid hbx5
                have HY5 := Lib.hid hby5
                clear hkp5 har5 hbx5 hby5
                by_cases hll : l < 5
                · obtain ⟨z, hz⟩ : ∃ z, (idList a b c)[l]? = some z := ⟨(idList a b c)[l]'hll, List.getElem?_eq_getElem hll⟩
                  obtain ⟨e0, e1, e2⟩ := ids_get HA5.out hz
                  clear hz
                  obtain ⟨wk, hwk⟩ : ∃ wk : World, wk = wr := ⟨_, rfl⟩
                  subst hwk
                  go_wp2_with (fail)
                  go_roundw
                  case rel => exact ⟨l + 1, by go_num, by omega, HK5.out.alloc _, HA5.out.keep ((Keep.refl None _).alloc _) id, ((Keep.refl None _).alloc _).obj HX5.out id, ((Keep.refl None _).alloc _).obj HY5.out id⟩
                  case measure => simp [intOf]; omega
                · have hle : l = 5 := by omega
                  subst hle
                  go_wp2_with (fail)
                  go_roundw
                  case rel =>
                    have hrel2 : MidInv (idList a b c) w1.heap.size wo wo.heap.size ⟨xr, xm, xn⟩ (.int .i64 ((j : Int) + 1)) wr := ⟨j + 1, by go_num, by omega, (HKP2.out.trans HK4.out).trans HK5.out, HA5.out, HX5.out⟩
                    first
                      | exact hrel2
                      | ((repeat apply Exists.intro); exact ⟨hrel2, rfl⟩)
                  case measure => simp [intOf]; omega
            · by_cases h1 : xr = yr
              · subst h1
                by_cases h2 : xm = ym
                · subst h2
                  have h3 : ¬ xn = yn := fun h => by
                    subst h
                    have := HZ.out.2 rfl
                    omega
                  go_wp2_with (fail)
                  go_at_call 7
                  refine (rcompare_calls _).mono ?_
                  rintro e w3 ⟨he, hk3⟩
                  rw [show cmpD ⟨xr, xm, xn⟩ ⟨xr, xm, yn⟩ = 1 from HN.out] at he
                  subst he
                  have HK3 := Lib.hid (HK2.out.trans hk3)
                  have HA3 := Lib.hid (HA2.out.keep hk3 id)
                  have hbx3 : BoxId w3 wo.heap.size ⟨xr, xm, xn⟩ := hk3.obj HX2.out id
                  have hby3 : BoxId w3 wi.heap.size ⟨xr, xm, yn⟩ := hk3.obj HY2.out id
                  have HX3 := Lib.hid hbx3
                  have HY3 := Lib.hid hby3
                  clear g0 g1 g2 g3 g4 g5
                  obtain ⟨g0, g1, g2⟩ := hbx3.cells
                  obtain ⟨g3, g4, g5⟩ := hby3.cells
                  dsimp only at g0 g1 g2 g3 g4 g5
                  clear hbx3 hby3 hk3
                  go_wp2_with (fail)
                  go_at_call 6
                  refine (compare_calls _).mono ?_
                  rintro e w4 ⟨he, hk4⟩
                  rw [show cmpD ⟨xr, xm, yn⟩ ⟨xr, xm, xn⟩ = -1 from HG.out.trans (by decide)] at he
                  subst he
                  have HK4 := Lib.hid (HK3.out.trans hk4)
                  have HA4 := Lib.hid (HA3.out.keep hk4 id)
                  have hbx4 : BoxId w4 wo.heap.size ⟨xr, xm, xn⟩ := hk4.obj HX3.out id
                  have hby4 : BoxId w4 wi.heap.size ⟨xr, xm, yn⟩ := hk4.obj HY3.out id
                  have HX4 := Lib.hid hbx4
                  have HY4 := Lib.hid hby4
                  clear g0 g1 g2 g3 g4 g5
                  obtain ⟨g0, g1, g2⟩ := hbx4.cells
                  obtain ⟨g3, g4, g5⟩ := hby4.cells
                  dsimp only at g0 g1 g2 g3 g4 g5
                  clear hbx4 hby4 hk4
                  go_wp2_with (fail)
                  go_loopw [83] (InnInv (idList a b c) w1.heap.size w4 wo.heap.size ⟨xr, xm, xn⟩ wi.heap.size ⟨xr, xm, yn⟩) (fun i _ => 5 - (intOf i).toNat)
                  case atStart => exact ⟨0, rfl, by omega, Keep.refl _ _, HA4.out, HX4.out, HY4.out⟩
                  case round =>
                    obtain ⟨l, rfl, hl, hkp5, har5, hbx5, hby5⟩ := hrel
                    have HK5 := Lib.hid hkp5
                    have HA5 := Lib.hid har5
                    have HX5 := Lib.hid hbx5
                    have HY5 := Lib.hid hby5
                    clear hkp5 har5 hbx5 hby5
                    by_cases hll : l < 5
                    · obtain ⟨z, hz⟩ : ∃ z, (idList a b c)[l]? = some z := ⟨(idList a b c)[l]'hll, List.getElem?_eq_getElem hll⟩
                      obtain ⟨e0, e1, e2⟩ := ids_get HA5.out hz
                      clear hz
                      obtain ⟨wk, hwk⟩ : ∃ wk : World, wk = wr := ⟨_, rfl⟩
                      subst hwk
                      go_wp2_with (fail)
                      go_roundw
                      case rel => exact ⟨l + 1, by go_num, by omega, HK5.out.alloc _, HA5.out.keep ((Keep.refl None _).alloc _) id, ((Keep.refl None _).alloc _).obj HX5.out id, ((Keep.refl None _).alloc _).obj HY5.out id⟩
                      case measure => simp [intOf]; omega
                    · have hle : l = 5 := by omega
                      subst hle
                      go_wp2_with (fail)
                      go_roundw
                      case rel =>
                        have hrel2 : MidInv (idList a b c) w1.heap.size wo wo.heap.size ⟨xr, xm, xn⟩ (.int .i64 ((j : Int) + 1)) wr := ⟨j + 1, by go_num, by omega, (HKP2.out.trans HK4.out).trans HK5.out, HA5.out, HX5.out⟩
                        first
                          | exact hrel2
                          | ((repeat apply Exists.intro); exact ⟨hrel2, rfl⟩)
                      case measure => simp [intOf]; omega
                · go_wp2_with (fail)
                  go_at_call 7
                  refine (rcompare_calls _).mono ?_
                  rintro e w3 ⟨he, hk3⟩
                  rw [show cmpD ⟨xr, xm, xn⟩ ⟨xr, ym, yn⟩ = 1 from HN.out] at he
                  subst he
                  have HK3 := Lib.hid (HK2.out.trans hk3)
                  have HA3 := Lib.hid (HA2.out.keep hk3 id)
                  have hbx3 : BoxId w3 wo.heap.size ⟨xr, xm, xn⟩ := hk3.obj HX2.out id
                  have hby3 : BoxId w3 wi.heap.size ⟨xr, ym, yn⟩ := hk3.obj HY2.out id
                  have HX3 := Lib.hid hbx3
                  have HY3 := Lib.hid hby3
                  clear g0 g1 g2 g3 g4 g5
                  obtain ⟨g0, g1, g2⟩ := hbx3.cells
                  obtain ⟨g3, g4, g5⟩ := hby3.cells
                  dsimp only at g0 g1 g2 g3 g4 g5
                  clear hbx3 hby3 hk3
                  go_wp2_with (fail)
                  go_at_call 6
                  refine (compare_calls _).mono ?_
                  rintro e w4 ⟨he, hk4⟩
                  rw [show cmpD ⟨xr, ym, yn⟩ ⟨xr, xm, xn⟩ = -1 from HG.out.trans (by decide)] at he
                  subst he
                  have HK4 := Lib.hid (HK3.out.trans hk4)
                  have HA4 := Lib.hid (HA3.out.keep hk4 id)
                  have hbx4 : BoxId w4 wo.heap.size ⟨xr, xm, xn⟩ := hk4.obj HX3.out id
                  have hby4 : BoxId w4 wi.heap.size ⟨xr, ym, yn⟩ := hk4.obj HY3.out id
                  have HX4 := Lib.hid hbx4
                  have HY4 := Lib.hid hby4
                  clear g0 g1 g2 g3 g4 g5
                  obtain ⟨g0, g1, g2⟩ := hbx4.cells
                  obtain ⟨g3, g4, g5⟩ := hby4.cells
                  dsimp only at g0 g1 g2 g3 g4 g5
                  clear hbx4 hby4 hk4
                  go_wp2_with (fail)
                  go_loopw [83] (InnInv (idList a b c) w1.heap.size w4 wo.heap.size ⟨xr, xm, xn⟩ wi.heap.size ⟨xr, ym, yn⟩) (fun i _ => 5 - (intOf i).toNat)
                  case atStart => exact ⟨0, rfl, by omega, Keep.refl _ _, HA4.out, HX4.out, HY4.out⟩
                  case round =>
                    obtain ⟨l, rfl, hl, hkp5, har5, hbx5, hby5⟩ := hrel
                    have HK5 := Lib.hid hkp5
                    have HA5 := Lib.hid har5
                    have HX5 := Lib.hid hbx5
                    have HY5 := Lib.hid hby5
                    clear hkp5 har5 hbx5 hby5
                    by_cases hll : l < 5
                    · obtain ⟨z, hz⟩ : ∃ z, (idList a b c)[l]? = some z := ⟨(idList a b c)[l]'hll, List.getElem?_eq_getElem hll⟩
                      obtain ⟨e0, e1, e2⟩ := ids_get HA5.out hz
                      clear hz
                      obtain ⟨wk, hwk⟩ : ∃ wk : World, wk = wr := ⟨_, rfl⟩
                      subst hwk
                      go_wp2_with (fail)
                      go_roundw
                      case rel => exact ⟨l + 1, by go_num, by omega, HK5.out.alloc _, HA5.out.keep ((Keep.refl None _).alloc _) id, ((Keep.refl None _).alloc _).obj HX5.out id, ((Keep.refl None _).alloc _).obj HY5.out id⟩
                      case measure => simp [intOf]; omega
                    · have hle : l = 5 := by omega
                      subst hle
                      go_wp2_with (fail)
                      go_roundw
                      case rel =>
                        have hrel2 : MidInv (idList a b c) w1.heap.size wo wo.heap.size ⟨xr, xm, xn⟩ (.int .i64 ((j : Int) + 1)) wr := ⟨j + 1, by go_num, by omega, (HKP2.out.trans HK4.out).trans HK5.out, HA5.out, HX5.out⟩
                        first
                          | exact hrel2
                          | ((repeat apply Exists.intro); exact ⟨hrel2, rfl⟩)
                      case measure => simp [intOf]; omega
              · go_wp2_with (fail)
                go_at_call 7
                refine (rcompare_calls _).mono ?_
                rintro e w3 ⟨he, hk3⟩
                rw [show cmpD ⟨xr, xm, xn⟩ ⟨yr, ym, yn⟩ = 1 from HN.out] at he
                subst he
                have HK3 := Lib.hid (HK2.out.trans hk3)
                have HA3 := Lib.hid (HA2.out.keep hk3 id)
                have hbx3 : BoxId w3 wo.heap.size ⟨xr, xm, xn⟩ := hk3.obj HX2.out id
                have hby3 : BoxId w3 wi.heap.size ⟨yr, ym, yn⟩ := hk3.obj HY2.out id
                have HX3 := Lib.hid hbx3
                have HY3 := Lib.hid hby3
                clear g0 g1 g2 g3 g4 g5
                obtain ⟨g0, g1, g2⟩ := hbx3.cells
                obtain ⟨g3, g4, g5⟩ := hby3.cells
                dsimp only at g0 g1 g2 g3 g4 g5
                clear hbx3 hby3 hk3
                go_wp2_with (fail)
                go_at_call 6
                refine (compare_calls _).mono ?_
                rintro e w4 ⟨he, hk4⟩
                rw [show cmpD ⟨yr, ym, yn⟩ ⟨xr, xm, xn⟩ = -1 from HG.out.trans (by decide)] at he
                subst he
                have HK4 := Lib.hid (HK3.out.trans hk4)
                have HA4 := Lib.hid (HA3.out.keep hk4 id)
                have hbx4 : BoxId w4 wo.heap.size ⟨xr, xm, xn⟩ := hk4.obj HX3.out id
                have hby4 : BoxId w4 wi.heap.size ⟨yr, ym, yn⟩ := hk4.obj HY3.out id
                have HX4 := Lib.hid hbx4
                have HY4 := Lib.hid hby4
                clear g0 g1 g2 g3 g4 g5
                obtain ⟨g0, g1, g2⟩ := hbx4.cells
                obtain ⟨g3, g4, g5⟩ := hby4.cells
                dsimp only at g0 g1 g2 g3 g4 g5
                clear hbx4 hby4 hk4
                go_wp2_with (fail)
                go_loopw [83] (InnInv (idList a b c) w1.heap.size w4 wo.heap.size ⟨xr, xm, xn⟩ wi.heap.size ⟨yr, ym, yn⟩) (fun i _ => 5 - (intOf i).toNat)
                case atStart => exact ⟨0, rfl, by omega, Keep.refl _ _, HA4.out, HX4.out, HY4.out⟩
                case round =>
                  obtain ⟨l, rfl, hl, hkp5, har5, hbx5, hby5⟩ := hrel
                  have HK5 := Lib.hid hkp5
                  have HA5 := Lib.hid har5
                  have HX5 := Lib.hid hbx5
                  have HY5 := Lib.hid hby5
                  clear hkp5 har5 hbx5 hby5
                  by_cases hll : l < 5
                  · obtain ⟨z, hz⟩ : ∃ z, (idList a b c)[l]? = some z := ⟨(idList a b c)[l]'hll, List.getElem?_eq_getElem hll⟩
                    obtain ⟨e0, e1, e2⟩ := ids_get HA5.out hz
                    clear hz
                    obtain ⟨wk, hwk⟩ : ∃ wk : World, wk = wr := ⟨_, rfl⟩
                    subst hwk
                    go_wp2_with (fail)
                    go_roundw
                    case rel => exact ⟨l + 1, by go_num, by omega, HK5.out.alloc _, HA5.out.keep ((Keep.refl None _).alloc _) id, ((Keep.refl None _).alloc _).obj HX5.out id, ((Keep.refl None _).alloc _).obj HY5.out id⟩
                    case measure => simp [intOf]; omega
                  · have hle : l = 5 := by omega
                    subst hle
                    go_wp2_with (fail)
                    go_roundw
                    case rel =>
                      have hrel2 : MidInv (idList a b c) w1.heap.size wo wo.heap.size ⟨xr, xm, xn⟩ (.int .i64 ((j : Int) + 1)) wr := ⟨j + 1, by go_num, by omega, (HKP2.out.trans HK4.out).trans HK5.out, HA5.out, HX5.out⟩
                      first
                        | exact hrel2
                        | ((repeat apply Exists.intro); exact ⟨hrel2, rfl⟩)
                    case measure => simp [intOf]; omega
          · have hje : j = 5 := by omega
            subst hje
            go_wp2_with (fail)
            go_roundw
            case rel => exact ⟨k + 1, by go_num, by omega, HKP.out.trans HKP2.out, HAR2.out⟩
            case measure => simp [intOf]; omega
      · have hke : k = 5 := by omega
        subst hke
        go_wp2_with (first
          | (go_at_call 8; refine (digest_calls p ds cap _ (((HH.out.keep HKW.out (fun _ _ => id)).keep HK1.out (fun _ _ => id)).keep HKP.out (fun _ _ => id)) (by omega) HB.out).mono ?_; rintro e w' ⟨rfl, rfl⟩)
          | (go_at_call 9; refine (rdigest_calls p ds cap _ (((HH.out.keep HKW.out (fun _ _ => id)).keep HK1.out (fun _ _ => id)).keep HKP.out (fun _ _ => id)) (by omega) HB.out).mono ?_; rintro e w' ⟨rfl, rfl⟩))
        go_ret
        exact ⟨by simp, (HKW.out.trans HK1.out).trans HKP.out⟩

end Go.Proofs.YtcdophocpheadaaGreatDoor
