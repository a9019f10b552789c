/-
  A number is put in (slices.Insert at []int); by program out of XInsert.
-/
import Derived.Test.YtpdnfekhfagfkaaNums
import Derived.Test.YtpdnfekhfagfkaaMisc
import Derived.Test.YtpdnfekhfagfkaaRows2
import Derived.Lib.Overlaps
import Derived.Deep.DeepCutAuto
namespace Go.Proofs.Ytpdnfekhfagfkaa
open Go.RowKit

/-- A list of links that the call owns becomes l'. -/
def GrowPost (base : Nat) (v : Value) (l' : List Int) (w : World) (e : Ending) (w' : World) : Prop :=
  ∃ p' c', e = .returned (.slice p' l'.length c') ∧ Own intEnc 1 3 base w' (.slice p' l'.length c') l' ∧ Keep (fun k => v.ownBlock = some k) w w' ∧
    ((Value.slice p' l'.length c').ownBlock = v.ownBlock ∨ ∃ k, w.heap.size ≤ k ∧ (Value.slice p' l'.length c').ownBlock = some k)

def putIn (l : List Int) (i : Nat) (x : Int) : List Int := l.take i ++ [x] ++ l.drop i
theorem putIn_len (l : List Int) (i : Nat) (x : Int) (h : i ≤ l.length) : (putIn l i x).length = l.length + 1 := by simp [putIn]; omega

theorem push_post {base : Nat} {v : Value} {l l' : List Int} {x : Int} {w w' : World} {p' : Option Addr} {c' : Nat} {T : Nat → Prop} (hl : l' = l ++ [x]) (h1 : Own intEnc 1 3 base w' (.slice p' (l.length + 1) c') (l ++ [x])) (h2 : Keep T w w')
    (h3 : ∀ k, some k ≠ v.ownBlock → k < w.heap.size → w'.heap[k]? = w.heap[k]?) (h4 : (Value.slice p' (l.length + 1) c').ownBlock = v.ownBlock ∨ (Value.slice p' (l.length + 1) c').ownBlock = some w.heap.size) : GrowPost base v l' w (.returned (.slice p' (l.length + 1) c')) w' := by
  subst hl
  refine ⟨p', c', by simp, by simpa using h1, ⟨h2.os, h2.tape, h2.output, h2.size, fun k hk hs => h3 k (fun e => hs e.symm) hk⟩, ?_⟩
  have e : (Value.slice p' (l ++ [x]).length c').ownBlock = (Value.slice p' (l.length + 1) c').ownBlock := by simp [Value.ownBlock]
  rw [e]
  rcases h4 with h4 | h4
  · exact .inl h4
  · exact .inr ⟨_, Nat.le_refl _, h4⟩

set_option maxRecDepth 100000 in
set_option maxHeartbeats 2000000 in
theorem insert_end (p : Option Addr) (l : List Int) (c base gx cx : Nat) (x : Int) (w : World) (hown : Own intEnc 1 3 base w (.slice p l.length c) l) (hl : l.length ≤ 1000) (hb : base ≤ w.heap.size)
    (hx : w.heap[gx]? = some (.cells (intEnc x).toArray 3 (0, 0))) :
    Calls Try.prog 35 #[.slice p l.length c, .int .i64 (l.length : Int), .slice (some ⟨gx, 0, none⟩) 1 cx] w (GrowPost base (.slice p l.length c) (putIn l l.length x) w) := by
  obtain ⟨i3, hi3, hx0, hx1, hx2⟩ := info_parts Try.infoInt
  have HP : Hid (putIn l l.length x = l ++ [x]) := Lib.hid (by simp [putIn])
  rcases hown.2 with ⟨hv, h0⟩ | ⟨g, c', cur, hv, hbg, hg, hlc, hcm, hcs, htk⟩
  · obtain ⟨rfl, -, rfl⟩ : p = none ∧ l.length = 0 ∧ c = 0 := by simpa using hv
    have hl0 : l = [] := List.eq_nil_of_length_eq_zero h0
    subst hl0
    have HO := Lib.hid hown
    have HX := Lib.hid hx
    clear hown hv hx h0
    go_enter Try.func35, Try.ntmps35
    go_wp2_with (at_builtin; refine wpList_pushAt rfl _ _ 40 rfl base _ i3 _ 8 Try.underlying40 hi3 hx0 hx1 hx2 rfl (by decide) intEnc_len (.slice none 0 0) [] rfl HO.out x gx _ rfl _ HX.out rfl rfl (by simp [intEnc, Value.oneCell']) (by simp) (by omega) hb ?_; intro pv cv w6 hown6 hk6 hk6' hown6b)
    go_ret
    exact push_post HP.out hown6 hk6 hk6' hown6b
  · obtain ⟨rfl, rfl⟩ : p = some ⟨g, 0, none⟩ ∧ c = c' := by simpa using hv
    have HO := Lib.hid hown
    have HX := Lib.hid hx
    clear hown hv hg hcs htk hx
    by_cases hc : l.length = c
    · subst hc
      go_enter Try.func35, Try.ntmps35
      go_wp2_with (at_builtin; refine wpList_pushAt rfl _ _ 40 rfl base _ i3 _ 8 Try.underlying40 hi3 hx0 hx1 hx2 rfl (by decide) intEnc_len (.slice (some ⟨g, 0, none⟩) l.length l.length) l rfl HO.out x gx _ rfl _ HX.out rfl rfl (by simp [intEnc, Value.oneCell']) (by omega) (by omega) hb ?_; intro pv cv w6 hown6 hk6 hk6' hown6b)
      go_ret
      exact push_post HP.out hown6 hk6 hk6' hown6b
    · have hlt : l.length < c := by omega
      go_enter Try.func35, Try.ntmps35
      go_wp2_with (at_builtin; refine wpList_pushAt rfl _ _ 40 rfl base _ i3 _ 8 Try.underlying40 hi3 hx0 hx1 hx2 rfl (by decide) intEnc_len (.slice (some ⟨g, 0, none⟩) l.length c) l rfl HO.out x gx _ rfl _ HX.out rfl rfl (by simp [intEnc, Value.oneCell']) (by omega) (by omega) hb ?_; intro pv cv w6 hown6 hk6 hk6' hown6b)
      go_ret
      exact push_post HP.out hown6 hk6 hk6' hown6b

set_option maxRecDepth 100000 in
set_option maxHeartbeats 2000000 in
theorem insert_grow (g : Nat) (l : List Int) (i base gx cx : Nat) (x : Int) (w : World) (hown : Own intEnc 1 3 base w (.slice (some ⟨g, 0, none⟩) l.length l.length) l) (hl : l.length ≤ 1000) (hb : base ≤ w.heap.size)
    (hx : w.heap[gx]? = some (.cells (intEnc x).toArray 3 (0, 0))) (hi : i < l.length) :
    Calls Try.prog 35 #[.slice (some ⟨g, 0, none⟩) l.length l.length, .int .i64 (i : Int), .slice (some ⟨gx, 0, none⟩) 1 cx] w (GrowPost base (.slice (some ⟨g, 0, none⟩) l.length l.length) (putIn l i x) w) := by
  obtain ⟨i3, hi3, hx0, hx1, hx2⟩ := info_parts Try.infoInt
  obtain ⟨_, _, _, hsl, _⟩ := hown.reads intEnc_len
  obtain ⟨hsl⟩ : Nonempty (SlAt intEnc 1 w g 0 l) := by
    rcases hsl with h | ⟨_, _, he, h⟩
    · subst h; simp at hi
    · cases he; exact ⟨h⟩
  have HX := Lib.hid hx
  have HSL := Lib.hid hsl
  have hne : ¬ i = l.length := by omega
  have hgw := World.ownsRow.lt hown g rfl
  clear hown hx hsl
  go_enter Try.func35, Try.ntmps35
  go_upto_region 11 with (first
    | (at_builtin; refine wpList_growMade rfl _ _ 40 3 3 rfl .i64 i3 _ 1 Try.underlying40 Try.underlying3 hi3 hx0 hx1 rfl g 0 i l.length rfl (l.length + 1 - i) _ rfl (by omega) ((l.take i).flatMap intEnc) (by rw [flat_len intEnc_len]; simp; omega) ((HSL.out.take i).flat intEnc_len (by omega)) (by omega) (by omega) (by omega) (by omega) (by omega) ?_; rw [show i + (l.length + 1 - i) = l.length + 1 from by omega]; intro c1 w1 cur1 hcur1 hsz1 hc1 hcm1 hold1 hk1 hw1)
    | ((with_reducible (show wpList _ _ _ (⟨some 45, _, _, _, _, none⟩ :: _) _ _)); (refine wpList_copyRow rfl _ _ 40 40 rfl 3 1 i3 Try.underlying40 hi3 hx1 w.heap.size i _ _ gx 0 1 _ 1 rfl rfl (by show _ = min _ _; omega) cur1 3 hcur1 (intEnc x) rfl (range_of_obj (hk1.obj HX.out id)) (by rw [hsz1]; simp [intEnc]; omega) (by simp [intEnc, Value.oneCell']) ?_); intro w2 hcur2 hk2 hs2))
  have hfl : ((l.drop i).flatMap intEnc).length = (l.length - i) * 1 := by rw [flat_len intEnc_len]; simp
  have hxl : (intEnc x).length = 1 := rfl
  have hcur2' : (World.drew w2).heap[w.heap.size]? = some (.cells (spliceA (intEnc x) i cur1) 3 (0, 0)) := hcur2
  have hkk : Keep None w (World.drew w2) := (hk1.andThen hk2 (by intro y q1 q2; omega)).drew
  have HC2 := Lib.hid hcur2'
  have HKK := Lib.hid hkk
  clear hcur2 hcur2' hkk hk2 hcur1 hk1
  refine region_tail 8 (by kernel_rfl) (by kernel_rfl) ?_
  simp only [List.take_succ_cons, List.take_zero, List.drop_succ_cons, List.drop_zero]
  generalize World.drew w2 = wd at *
  have q1 : ((i : Int) + 1).toNat = i + 1 := by omega
  have q2 : (0 : Int) ≤ (i : Int) + 1 := by omega
  have q3 : (i : Int) ≤ (l.length : Int) := by omega
  have q4 : ¬ c1 = i + 1 := by omega
  have q5 : (i : Int) + 1 ≤ (l.length : Int) + 1 := by omega
  have q6 : ¬ l.length = i := by omega
  have q0 : IntKind.i64.wrap ((i : Int) + 1) = (i : Int) + 1 := IntWalk.i64_in _ (by omega)
  repeat still_step
  clear q0 q1 q2 q3 q4 q5 q6
  refine wpStill_nil ?_
  go_wp2_with (((with_reducible (show wpList _ _ _ (⟨some 54, _, _, _, _, none⟩ :: _) _ _)); (refine wpList_copyRow rfl _ _ 40 40 rfl 3 1 i3 Try.underlying40 hi3 hx1 w.heap.size (i + 1) _ _ g i _ _ (l.length - i) rfl rfl (by show _ = min _ _; omega) (spliceA (intEnc x) i cur1) 3 HC2.out ((l.drop i).flatMap intEnc) hfl (by simpa using ((HSL.out.keep HKK.out id).drop i).flat intEnc_len (by omega)) (by rw [spliceA_size, hsz1, hfl]; omega) (by intro u hu; obtain ⟨y, -, hy⟩ := List.mem_flatMap.1 hu; simp [intEnc] at hy; subst hy; rfl) ?_); intro w3 hcur3 hk3 hs3))
  go_ret
  have hkk3 : Keep (fun k => (Value.slice (some ⟨g, 0, none⟩) l.length l.length).ownBlock = some k) w w3 := HKK.out.weaken (fun _ _ q => q.elim) |>.andThen hk3 (by intro y q1 q2; omega)
  have hti : (l.take i).length = i := by simp; omega
  have hfi : ((l.take i).flatMap intEnc).length = i * 1 := by rw [flat_len intEnc_len, hti]
  have hpi : (putIn l i x).flatMap intEnc = (l.take i).flatMap intEnc ++ (intEnc x) ++ (l.drop i).flatMap intEnc := by simp [putIn]
  have hfront := splice_front (C := cur1) (xe := (intEnc x)) (cs := (l.drop i).flatMap intEnc) (o := i) (by rw [hfl, hxl, hsz1]; omega)
  have htake := take_of_get hold1
  rw [hfi] at htake
  refine ⟨some ⟨w.heap.size, 0, none⟩, c1, by rw [putIn_len l i x (by omega)]; rfl, ?_, hkk3, .inr ⟨w.heap.size, Nat.le_refl _, rfl⟩⟩
  refine ⟨by rw [flat_len intEnc_len], .inr ⟨w.heap.size, c1, _, by rw [putIn_len l i x (by omega)], hb, hcur3, by rw [putIn_len l i x (by omega)]; omega, hcm1, by rw [spliceA_size, spliceA_size, hsz1], ?_⟩⟩
  rw [putIn_len l i x (by omega), hpi, ← htake]
  rw [hxl, hfl] at hfront
  simp only [Nat.mul_one] at *
  rw [show l.length + 1 = i + 1 + (l.length - i) from by omega]
  exact hfront

theorem overlaps_run {w : World} {gx g off lb cb : Nat} {x : Int} {cur : Array Value} (hx : w.heap[gx]? = some (.cells (intEnc x).toArray 3 (0, 0))) (hcur : w.heap[g]? = some (.cells cur 3 (0, 0))) (hne : gx ≠ g) (hpos : cur.size ≠ 0) :
    (callFunc 48 #[.slice (some ⟨gx, 0, none⟩) 1 1, .slice (some ⟨g, off, none⟩) lb cb]).run Try.prog w = .ok (.value (.bool false)) w := by
  have hz : ∀ w, (Go.sizeOf 3).run Try.prog w = .ok 1 w := fun w => by kernel_rfl
  rw [run_callFunc_extern (P := Try.prog) (e := Extern.SlicesOverlaps.overlaps #[40, 40] #[4]) Try.func48 (by kernel_rfl) (by kernel_rfl) (by kernel_rfl) (by kernel_rfl)]
  rw [Lib.run_overlaps_apart w 40 4 3 Try.underlying40 1 hz ⟨gx, 0, none⟩ ⟨g, off, none⟩ 1 1 lb cb hne 3 3 1 cur.size (by simp [World.shape?, hx, intEnc]) (by simp [World.shape?, hcur]) hpos (by simp [World.frozen?, hx]) (by simp [World.frozen?, hx])]
  rfl

set_option maxRecDepth 100000 in
set_option maxHeartbeats 2000000 in
theorem insert_room (g : Nat) (l : List Int) (c i base gx : Nat) (x : Int) (w : World) (hown : Own intEnc 1 3 base w (.slice (some ⟨g, 0, none⟩) l.length c) l) (hl : l.length ≤ 1000) (hb : base ≤ w.heap.size)
    (hx : w.heap[gx]? = some (.cells (intEnc x).toArray 3 (0, 0))) (hgx : gx ≠ g) (hi : i < l.length) (hc : l.length < c) :
    Calls Try.prog 35 #[.slice (some ⟨g, 0, none⟩) l.length c, .int .i64 (i : Int), .slice (some ⟨gx, 0, none⟩) 1 1] w (GrowPost base (.slice (some ⟨g, 0, none⟩) l.length c) (putIn l i x) w) := by
  obtain ⟨i3, hi3, hx0, hx1, hx2⟩ := info_parts Try.infoInt
  obtain ⟨_, _, hcm, hsl, _⟩ := hown.reads intEnc_len
  obtain ⟨hsl⟩ : Nonempty (SlAt intEnc 1 w g 0 l) := by
    rcases hsl with h | ⟨_, _, he, h⟩
    · subst h; simp at hi
    · cases he; exact ⟨h⟩
  obtain ⟨cur, hcur, hcs, htk, hbg⟩ : ∃ cur : Array Value, w.heap[g]? = some (.cells cur 3 (0, 0)) ∧ cur.size = c * 1 ∧ cur.toList.take (l.length * 1) = l.flatMap intEnc ∧ base ≤ g := by
    rcases hown.2 with ⟨hv, _⟩ | ⟨g', c', cur, hv, hbg, hg, hlc, hcm, hcs, htk⟩
    · cases hv
    · cases hv; exact ⟨cur, hg, hcs, htk, hbg⟩
  have HX := Lib.hid hx
  have HSL := Lib.hid hsl
  have HCU := Lib.hid hcur
  have HTK := Lib.hid htk
  have hcm' : c ≤ 9223372036854775807 := by unfold maxLen at hcm; omega
  have hne : ¬ i = l.length := by omega
  clear hown hx hsl hcur htk
  go_enter Try.func35, Try.ntmps35
  have q1 : ((i : Int) + 1).toNat = i + 1 := by omega
  have q4 : ¬ c = i + 1 := by omega
  go_upto_region 15 with ((with_reducible (show wpList _ _ _ (⟨some 67, _, _, _, _, none⟩ :: _) _ _)); (refine wpList_extern2 rfl 48 _ _ _ rfl _ _ _ rfl rfl (overlaps_run HX.out HCU.out hgx (by rw [hcs]; omega)) ?_))
  have hfl : ((l.drop i).flatMap intEnc).length = (l.length - i) * 1 := by rw [flat_len intEnc_len]; simp
  have hxl : (intEnc x).length = 1 := rfl
  have hcd : (World.drew w).heap[g]? = some (.cells cur 3 (0, 0)) := HCU.out
  have hsd : SlAt intEnc 1 (World.drew w) g 0 l := HSL.out.keep ((Keep.refl None w).drew) id
  have hxd : (World.drew w).heap[gx]? = some (.cells (intEnc x).toArray 3 (0, 0)) := HX.out
  have HCD := Lib.hid hcd
  have HSD := Lib.hid hsd
  have HXD := Lib.hid hxd
  have HKD := Lib.hid ((Keep.refl (· = g) w).drew)
  have HSZ : Hid (w.heap.size = (World.drew w).heap.size) := Lib.hid rfl
  clear hcd hsd hxd
  refine region_tail 8 (by kernel_rfl) (by kernel_rfl) ?_
  simp only [List.take_succ_cons, List.take_zero, List.drop_succ_cons, List.drop_zero]
  generalize World.drew w = wd at *
  have q2 : (0 : Int) ≤ (i : Int) + 1 := by omega
  have q3 : (i : Int) ≤ (l.length : Int) + 1 := by omega
  have q5 : (i : Int) + 1 ≤ (l.length : Int) + 1 := by omega
  have q6 : ¬ c = i := by omega
  have q0 : IntKind.i64.wrap ((i : Int) + 1) = (i : Int) + 1 := IntWalk.i64_in _ (by omega)
  repeat still_step
  clear q0 q2 q3 q5
  refine wpStill_nil ?_
  go_wp2_with (first
    | ((with_reducible (show wpList _ _ _ (⟨some 77, _, _, _, _, none⟩ :: _) _ _)); (refine wpList_copyRow rfl _ _ 40 40 rfl 3 1 i3 Try.underlying40 hi3 hx1 g (i + 1) _ _ g i _ _ (l.length - i) rfl rfl (by show _ = min _ _; omega) cur 3 HCD.out ((l.drop i).flatMap intEnc) hfl (by simpa using (HSD.out.drop i).flat intEnc_len (by omega)) (by rw [hcs, hfl]; omega) (by intro u hu; obtain ⟨y, -, hy⟩ := List.mem_flatMap.1 hu; simp [intEnc] at hy; subst hy; rfl) ?_); intro w2 hcur2 hk2 hs2; have HC2 := Lib.hid hcur2; have HK2 := Lib.hid (HKD.out.trans hk2); have HX2 := Lib.hid (hk2.obj HXD.out hgx); clear hcur2 hk2 hs2)
    | ((with_reducible (show wpList _ _ _ (⟨some 82, _, _, _, _, none⟩ :: _) _ _)); (refine wpList_copyRow rfl _ _ 40 40 rfl 3 1 i3 Try.underlying40 hi3 hx1 g i _ _ gx 0 1 _ 1 rfl rfl (by show _ = min _ _; omega) (spliceA ((l.drop i).flatMap intEnc) (i + 1) cur) 3 HC2.out (intEnc x) rfl (range_of_obj HX2.out) (by rw [spliceA_size, hcs, hxl]; omega) (by simp [intEnc, Value.oneCell']) ?_); intro w3 hcur3 hk3 hs3; have HC3 := Lib.hid hcur3; have HK3 := Lib.hid (HK2.out.trans hk3); clear hcur3 hk3 hs3))
  go_ret
  have hti : (l.take i).length = i := by simp; omega
  have hpi : (putIn l i x).flatMap intEnc = (l.take i).flatMap intEnc ++ (intEnc x) ++ (l.drop i).flatMap intEnc := by simp [putIn]
  have hback := splice_back (C := cur) (xe := (intEnc x)) (cs := (l.drop i).flatMap intEnc) (o := i) (by rw [hfl, hxl, hcs]; omega)
  have htake : cur.toList.take i = (l.take i).flatMap intEnc := by
    have h1 := congrArg (List.take i) HTK.out
    rw [List.take_take, Nat.min_eq_left (by omega)] at h1
    rw [h1]
    have h2 : l.flatMap intEnc = (l.take i).flatMap intEnc ++ (l.drop i).flatMap intEnc := by rw [← List.flatMap_append, List.take_append_drop]
    rw [h2, List.take_left' (by rw [flat_len intEnc_len, hti]; omega)]
  refine ⟨some ⟨g, 0, none⟩, c, by rw [putIn_len l i x (by omega)]; rfl, ?_, HK3.out.weaken (fun y _ q => by simp [Value.ownBlock, q]), .inl rfl⟩
  refine ⟨by rw [flat_len intEnc_len], .inr ⟨g, c, _, by rw [putIn_len l i x (by omega)], hbg, HC3.out, by rw [putIn_len l i x (by omega)]; omega, hcm, by rw [spliceA_size, spliceA_size, hcs], ?_⟩⟩
  rw [putIn_len l i x (by omega), hpi, ← htake]
  rw [hxl, hfl] at hback
  simp only [Nat.mul_one] at *
  rw [show l.length + 1 = i + 1 + (l.length - i) from by omega]
  exact hback

theorem insert_calls (p : Option Addr) (l : List Int) (c i base gx : Nat) (x : Int) (w : World) (hown : Own intEnc 1 3 base w (.slice p l.length c) l) (hl : l.length ≤ 1000) (hb : base ≤ w.heap.size)
    (hx : w.heap[gx]? = some (.cells (intEnc x).toArray 3 (0, 0))) (hgx : (Value.slice p l.length c).ownBlock ≠ some gx) (hi : i ≤ l.length) :
    Calls Try.prog 35 #[.slice p l.length c, .int .i64 (i : Int), .slice (some ⟨gx, 0, none⟩) 1 1] w (GrowPost base (.slice p l.length c) (putIn l i x) w) := by
  by_cases h1 : i = l.length
  · subst h1
    exact insert_end p l c base gx 1 x w hown hl hb hx
  · obtain ⟨g, rfl, hg⟩ := hown.row intEnc_len (by omega)
    have hgx' : gx ≠ g := by intro h; apply hgx; simp [Value.ownBlock, h]
    have hr := hown.reads intEnc_len
    by_cases h2 : l.length = c
    · obtain rfl : c = l.length := h2.symm
      exact insert_grow g l i base gx 1 x w hown hl hb hx (by omega)
    · exact insert_room g l c i base gx x w hown hl hb hx hgx' (by omega) (by omega)

end Go.Proofs.Ytpdnfekhfagfkaa
