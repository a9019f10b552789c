/-
  AttributeLocates: the whole law, walked.
-/
import Derived.Test.YtlhmajjmhkjcoaaAwake23
import Derived.Test.YtlhmajjmhkjcoaaPlaces
import Derived.Test.YtlhmajjmhkjcoaaImgRef
namespace Go.Proofs.Ytlhmajjmhkjcoaa
open Go.RowKit

def shortEnc (n : Int) : List Value := [.int .i16 n]
theorem shortEnc_len (n : Int) : (shortEnc n).length = 1 := rfl
def valid (bs : List Int) : Prop := ∀ x ∈ bs, (0 : Int) ≤ x ∧ x ≤ 255
def shorts (bs : List Int) : Prop := ∀ x ∈ bs, (-32768 : Int) ≤ x ∧ x ≤ 32767

def MoreInv (B : Nat) (ms : List Int) (w0 : World) (v i : Value) (w : World) : Prop :=
  ∃ (k : Nat) (l : List Int) (p : Option Addr) (c : Nat), i = .int .i64 k ∧ k ≤ ms.length ∧ l.length = k + 3 ∧ v = .slice p l.length c ∧ Own intEnc 1 3 B w (.slice p l.length c) l ∧ (∀ x ∈ l, i64 x) ∧ Keep (B ≤ ·) w0 w

theorem three_i64 {A : Int} (hA : i64 A) : ∀ x ∈ [A, -9223372036854775808, 9223372036854775807], i64 x := by
  intro x hx
  simp at hx
  rcases hx with rfl | rfl | rfl
  · exact hA
  · unfold i64; omega
  · unfold i64; omega

theorem tmod_bd {z : Int} : i64 (z.tmod 50) := by
  rw [Int.tmod_eq_emod]
  unfold i64
  split <;> omega

def EachInv (l : List Int) (w0 : World) (i : Value) (w : World) : Prop := ∃ k : Nat, i = .int .i64 k ∧ k ≤ l.length ∧ Keep None w0 w

set_option maxRecDepth 100000 in
set_option maxHeartbeats 4000000 in
theorem law_calls (p : Option Addr) (bs : List Int) (cap : Nat) (A : Int) (q : Option Addr) (ms : List Int) (cm : Nat) (w : World) (h : SliceV byteEnc 1 w p bs) (hv : valid bs) (hcap : bs.length ≤ cap) (hA : i64 A) (hm : SliceV shortEnc 1 w q ms) (hms : shorts ms) (hml : ms.length ≤ 100) :
    Calls Try.prog 3 #[.slice p bs.length cap, .int .i64 A, .slice q ms.length cm] w (Gives None (.bool true) w) := by
  have hl0 : decide ((100 : Int) < (ms.length : Int)) = false := by simp; omega
  obtain ⟨i2, hi2, hv0, hv1, hv2⟩ := info_parts Try.infoInt
  go_enter Try.func3, Try.ntmps3
  go_wp2_with (fail)
  refine (awake_calls _).mono ?_
  rintro e w1 ⟨rfl, hk1⟩
  have H : Hid _ := Lib.hid (h.keep hk1 (fun _ _ => id))
  have HM := Lib.hid hm
  have HMS := Lib.hid hms
  clear h hm hms
  go_wp2_with (fail)
  refine (new_calls p bs cap 120 _ H.out hv (by omega) hcap).mono ?_
  rintro e w2 ⟨b, bl, rfl, hb, hc, hk2, -⟩
  go_wp2_with (fail)
  refine (places_calls b bl _ _ hc).mono ?_
  rintro e w3 ⟨v, n, ps, r, rfl, him, hc3, hk3, hn, hps, hfr⟩
  have hkA : Keep None w w3 := (hk1.trans hk2).andThen hk3 (by intro x q1 q2; have := hk1.size; omega)
  have hhim := him
  obtain ⟨⟨p0, n0, c0, p1, c1, p2, n2, c2, p3, n3, c3, k4, k5, p6, n6, c6, p7, c7, rfl, hs7⟩, ln, lp, hok⟩ := him
  have HIM := Lib.hid hhim
  have HKA := Lib.hid hkA
  clear hhim hkA hs7 hk1 hk2 hk3 hc hc3 hfr hok
  go_wp2_with (fail)
  generalize hW4 : World.alloc _ _ = w4
  have hkB : Keep None w3 w4 := by rw [← hW4]; exact ((Keep.refl _ _).alloc _).alloc _
  have hobj : w4.heap[w3.heap.size]? = some (.cells #[.slice p0 n0 c0, .slice p1 n c1, .slice p2 n2 c2, .slice p3 n3 c3, .int .i64 k4, .int .i64 k5, .slice p6 n6 c6, .slice p7 ps.length c7] 29 (0, 0)) := by
    rw [← hW4]; exact ((Keep.refl None _).alloc _).obj (heap_alloc_new _ _) id
  have hrow : w4.heap[w3.heap.size + 1]? = some (.cells #[.int .i64 A, .int .i64 (-9223372036854775808), .int .i64 9223372036854775807] 3 (0, 0)) := by
    rw [← hW4]; exact alloc_at (by simp)
  have hown : Own intEnc 1 3 (w3.heap.size + 1) w4 (.slice (some ⟨w3.heap.size + 1, 0, none⟩) 3 3) [A, -9223372036854775808, 9223372036854775807] :=
    Own.ofArr (xs := [A, -9223372036854775808, 9223372036854775807]) intEnc_len hrow (Nat.le_refl _) (by simp)
  have HO := Lib.hid hown
  have hw4 : w3.heap.size + 1 < w4.heap.size := heap_lt hrow
  have HOB := Lib.hid hobj
  have HKB := Lib.hid (HKA.out.trans hkB)
  have HKC := Lib.hid hkB
  have HIMB := Lib.hid (HIM.out.keep hkB)
  have hws := HKA.out.size
  clear hown hobj hrow hkB hW4
  go_loopw [8, 9] (MoreInv (w3.heap.size + 1) ms w4) (fun _ i _ => ms.length - (intOf i).toNat)
  case atStart => exact ⟨0, [A, -9223372036854775808, 9223372036854775807], _, _, rfl, by omega, rfl, rfl, HO.out, three_i64 hA, Keep.refl _ _⟩
  case round =>
    obtain ⟨k, l, pl, cl, rfl, hk, hll, rfl, hown, hli, hkp⟩ := hrel
    have HOW := Lib.hid hown
    have HLI := Lib.hid hli
    have HKP := Lib.hid hkp
    have HLL := Lib.hid hll
    clear hown hli hkp hll
    by_cases hlt : k < ms.length
    · obtain ⟨z, hz⟩ : ∃ z, ms[k]? = some z := ⟨ms[k], by simp [hlt]⟩
      have hzb := HMS.out z (List.mem_of_getElem? hz)
      obtain ⟨bm, om, rfl, hsm⟩ : ∃ bm om, q = some ⟨bm, om, none⟩ ∧ SlAt shortEnc 1 wr bm om ms := by
        rcases (HM.out.keep (HKB.out.andThen HKP.out (by intro x q1 q2; omega)) (fun _ _ => id)) with h | ⟨bm, om, rfl, h⟩
        · subst h; simp at hlt
        · exact ⟨bm, om, rfl, h⟩
      have hzc : wr.cell? ⟨bm, om + k, none⟩ = some (.int .i16 z) := by have := hsm k z hz 0 _ rfl; simpa using this
      clear hsm
      obtain ⟨hz0, hz1⟩ := hzb
      go_wp2_with (at_builtin; go_loud (refine wpList_pushAt rfl _ _ 25 rfl (w3.heap.size + 1) _ i2 _ 8 Try.underlying25 hi2 hv0 hv1 hv2 rfl (by decide) intEnc_len (.slice pl l.length cl) l rfl (HOW.out.keep (S := None) ((Keep.refl _ _).alloc _) (fun _ _ => id)) (z.tmod 50) wr.heap.size 1 rfl _ (heap_alloc_new _ _) rfl rfl (by simp [Value.oneCell']) (by have := HLL.out; omega) (by omega) (by have := HKP.out.size; have := HKB.out.size; simp; omega) ?_); intro pv cv w6 hown6 hk6 hk6' hown6b)
      have hk7 : Keep (w3.heap.size + 1 ≤ ·) wr w6 := ((Keep.refl (w3.heap.size + 1 ≤ ·) wr).alloc _).trans hk6
      go_roundw
      case rel =>
        refine ⟨k + 1, l ++ [z.tmod 50], pv, cv, by go_num, by omega, by simp [HLL.out], by simp, by simpa using hown6, ?_, HKP.out.trans hk7⟩
        intro x hx
        rcases List.mem_append.1 hx with hx | hx
        · exact HLI.out x hx
        · simp at hx; subst hx; exact tmod_bd
      case measure => simp [intOf]; omega
    · obtain ⟨wo, rfl⟩ : ∃ wo : World, wo = wr := ⟨_, rfl⟩
      obtain ⟨_, _, _, hsl, _⟩ := HOW.out.reads intEnc_len
      have HSL := Lib.hid hsl
      have hbo := HKP.out.obj HOB.out (by omega)
      have HBO := Lib.hid hbo
      have HIMR : Hid (ImgV wo _ n ps) := Lib.hid (HIM.out.keep (HKC.out.andThen HKP.out (by intro x q1 q2; omega)))
      have HKO := Lib.hid (HKB.out.andThen HKP.out (by intro x q1 q2; omega))
      have hwo : w3.heap.size < wo.heap.size := heap_lt hbo
      clear hsl hbo
      have hll2 : l.length ≤ 103 := by have := HLL.out; omega
      go_wp2_with (fail)
      go_loopw [50] (EachInv l wo) (fun i _ => l.length - (intOf i).toNat)
      case atStart => exact ⟨0, rfl, by omega, Keep.refl _ _⟩
      case round =>
        obtain ⟨j, rfl, hj, hkj⟩ := hrel
        have HKJ := Lib.hid hkj
        clear hkj
        by_cases hjl : j < l.length
        · obtain ⟨x, hx⟩ : ∃ x, l[j]? = some x := ⟨l[j], by simp [hjl]⟩
          have hxi := HLI.out x (List.mem_of_getElem? hx)
          obtain ⟨bm, om, rfl, hsm⟩ : ∃ bm om, pl = some ⟨bm, om, none⟩ ∧ SlAt intEnc 1 wr bm om l := by
            rcases (HSL.out.keep HKJ.out (fun _ _ => id)) with h | ⟨bm, om, rfl, h⟩
            · subst h; simp at hjl
            · exact ⟨bm, om, rfl, h⟩
          have hxc := hsm.int hx
          have HXI := Lib.hid hxi
          clear hsm hx hxi
          have HLX := fun v w h => Lib.hid (locate_calls v n ps x w h HXI.out)
          have HRX := fun v w h => Lib.hid (refLocate_calls v n ps x w h HXI.out)
          generalize locate n x ps = y at *
          obtain ⟨y1, y2, y3⟩ := y
          have HI1 := Lib.hid (HKJ.out.obj HBO.out id)
          have HV1 := Lib.hid (HIMR.out.keep HKJ.out)
          go_wp2_with (with_reducible (show wpList _ _ _ (⟨_, .load 29 _, _, _, _, none⟩ :: _) _ _); refine wpList_loadEl (enc := listEnc) (size := 8) rfl 29 _ rfl _ _ rfl _ _ (range_of_obj HI1.out) rfl Try.underlying29 rfl Try.sizeImg (.agg #[.slice p0 n0 c0, .slice p1 n c1, .slice p2 n2 c2, .slice p3 n3 c3, .int .i64 k4, .int .i64 k5, .slice p6 n6 c6, .slice p7 ps.length c7]) rfl ?_)
          refine ((HLX _ _ HV1.out).out).mono ?_
          rintro e u1 ⟨rfl, hk1⟩
          have HI2 := Lib.hid (hk1.obj HI1.out id)
          have HV2 := Lib.hid (HV1.out.keep hk1)
          have HK2 := Lib.hid (HKJ.out.trans hk1)
          clear hk1
          go_wp2_with (with_reducible (show wpList _ _ _ (⟨_, .load 29 _, _, _, _, none⟩ :: _) _ _); refine wpList_loadEl (enc := listEnc) (size := 8) rfl 29 _ rfl _ _ rfl _ _ (range_of_obj HI2.out) rfl Try.underlying29 rfl Try.sizeImg (.agg #[.slice p0 n0 c0, .slice p1 n c1, .slice p2 n2 c2, .slice p3 n3 c3, .int .i64 k4, .int .i64 k5, .slice p6 n6 c6, .slice p7 ps.length c7]) rfl ?_)
          refine ((HRX _ _ HV2.out).out).mono ?_
          rintro e u2 ⟨rfl, hk2⟩
          have HK3 := Lib.hid (HK2.out.trans hk2)
          clear hk2 HLX HRX
          go_wp2
          go_roundw
          case rel => exact ⟨j + 1, by go_num, by omega, HK3.out⟩
          case measure => simp [intOf]; omega
        · go_wp2
          go_ret
          exact ⟨rfl, HKO.out.trans HKJ.out⟩

set_option maxRecDepth 100000 in
theorem law_long (p : Option Addr) (bs : List Int) (cap : Nat) (A : Int) (q : Option Addr) (ms : List Int) (cm : Nat) (w : World) (hl : 100 < ms.length) (hl2 : ms.length ≤ 9223372036854775807) :
    Calls Try.prog 3 #[.slice p bs.length cap, .int .i64 A, .slice q ms.length cm] w (Gives None (.bool true) w) := by
  go_enter Try.func3, Try.ntmps3
  go_wp2_with (fail)
  refine (awake_calls _).mono ?_
  rintro e w1 ⟨rfl, hk1⟩
  have HK := Lib.hid hk1
  clear hk1
  go_wp2_with (fail)
  go_ret
  exact ⟨rfl, HK.out⟩

end Go.Proofs.Ytlhmajjmhkjcoaa
