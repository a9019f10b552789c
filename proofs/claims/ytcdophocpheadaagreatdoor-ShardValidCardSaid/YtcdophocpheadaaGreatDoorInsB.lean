/-
  slices.Insert of one block into some: what it does to the cells.
-/
import Derived.Test.YtcdophocpheadaaGreatDoorRows2
import Derived.Test.YtcdophocpheadaaGreatDoorNums
import Derived.Lib.Overlaps
import Derived.Deep.DeepCutAuto
import Derived.StillTactics
import Derived.Test.YtcdophocpheadaaGreatDoorProg
namespace Go.Proofs.YtcdophocpheadaaGreatDoor
open Go.RowKit

theorem Tryz.infoBk : (Tryz.prog.info? 60).map (fun i => (i.zero, i.size, i.bytes)) = some (some (.agg #[.slice none 0 0, .int .i64 0, .int .i64 0, .int .i64 0, .int .i64 0, .int .i64 0, .int .i64 0, .int .i64 0]), 8, 80) := by kernel_rfl

/-- Cells put in. -/
def cellsIn (olds news : List Value) (i : Nat) : List Value := olds.take (i * 8) ++ news ++ olds.drop (i * 8)
def InsPost (g off n c : Nat) (xs : List Value) (w : World) (e : Ending) (w' : World) : Prop :=
  (∃ (c' : Nat) (cur : Array Value), e = .returned (.slice (some ⟨w.heap.size, 0, none⟩) (n + 1) c') ∧ n + 1 ≤ c' ∧ w'.heap[w.heap.size]? = some (.cells cur 60 (0, 0)) ∧ cur.size = c' * 8 ∧ (∀ (j : Nat) (u : Value), xs[j]? = some u → cur[j]? = some u) ∧ Keep None w w') ∨
  (∃ (cur cur' : Array Value), e = .returned (.slice (some ⟨g, off, none⟩) (n + 1) c) ∧ n + 1 ≤ c ∧ w.heap[g]? = some (.cells cur 60 (0, 0)) ∧ w'.heap[g]? = some (.cells cur' 60 (0, 0)) ∧ cur'.size = cur.size ∧ (∀ (j : Nat) (u : Value), xs[j]? = some u → cur'[off + j]? = some u) ∧ Keep (· = g) w w' ∧ w'.heap.size = w.heap.size)

theorem range_take {w : World} {b o : Nat} {xs : List Value} (h : w.rangeAt b o xs) (k : Nat) : w.rangeAt b o (xs.take k) := fun j u hu => by
  rw [List.getElem?_take] at hu
  split at hu
  · exact h j u hu
  · cases hu
theorem range_drop {w : World} {b o : Nat} {xs : List Value} (h : w.rangeAt b o xs) (k : Nat) : w.rangeAt b (o + k) (xs.drop k) := fun j u hu => by
  rw [List.getElem?_drop] at hu
  have := h _ u hu
  rw [← this]
  congr 2
  omega
theorem range_keep {w w' : World} {b o : Nat} {xs : List Value} {S : Nat → Prop} (h : w.rangeAt b o xs) (k : Keep S w w') (hb : ¬ S b) : w'.rangeAt b o xs := fun j u hu => k.cell (h j u hu) hb

theorem spliceA_get (cs : List Value) (o : Nat) (C : Array Value) (h : o + cs.length ≤ C.size) (j : Nat) : (spliceA cs o C)[j]? = if j < o then C[j]? else if j < o + cs.length then cs[j - o]? else C[j]? := by
  have h1 := spliceA_list cs o C h
  rw [← Array.getElem?_toList, h1, ← Array.getElem?_toList]
  have hl : (C.toList.take o).length = o := by simp; omega
  split
  · rw [List.append_assoc, List.getElem?_append_left (by omega), List.getElem?_take, if_pos (by assumption)]
  · split
    · rw [List.append_assoc, List.getElem?_append_right (by omega), hl, List.getElem?_append_left (by omega)]
    · rw [List.getElem?_append_right (by rw [List.length_append, hl]; omega), List.getElem?_drop, List.length_append, hl]
      congr 1
      omega
theorem cellsIn_get {olds news : List Value} {i n : Nat} (hlo : olds.length = n * 8) (hln : news.length = 8) (hi : i < n) {j : Nat} {u : Value} (h : (cellsIn olds news i)[j]? = some u) :
    (j < i * 8 ∧ olds[j]? = some u) ∨ (i * 8 ≤ j ∧ j < i * 8 + 8 ∧ news[j - i * 8]? = some u) ∨ (i * 8 + 8 ≤ j ∧ j < (n + 1) * 8 ∧ (olds.drop (i * 8))[j - (i + 1) * 8]? = some u) := by
  unfold cellsIn at h
  have hl : (olds.take (i * 8)).length = i * 8 := by rw [List.length_take]; omega
  by_cases h1 : j < i * 8
  · rw [List.append_assoc, List.getElem?_append_left (by omega), List.getElem?_take, if_pos h1] at h
    exact .inl ⟨h1, h⟩
  · by_cases h2 : j < i * 8 + 8
    · rw [List.append_assoc, List.getElem?_append_right (by omega), hl, List.getElem?_append_left (by omega)] at h
      exact .inr (.inl ⟨by omega, h2, h⟩)
    · rw [List.getElem?_append_right (by rw [List.length_append, hl, hln]; omega), List.length_append, hl, hln] at h
      have hj := (List.getElem?_eq_some_iff.1 h).1
      rw [List.length_drop, hlo] at hj
      rw [show j - (i * 8 + 8) = j - (i + 1) * 8 by omega] at h
      exact .inr (.inr ⟨by omega, by omega, h⟩)
theorem front_get {C : Array Value} {olds news : List Value} {off i n : Nat} (hlo : olds.length = n * 8) (hln : news.length = 8) (hi : i < n) (hC : ∀ (j : Nat) (u : Value), (olds.take (i * 8))[j]? = some u → C[j]? = some u) (hsz : (n + 1) * 8 ≤ C.size) (j : Nat) (u : Value) (h : (cellsIn olds news i)[j]? = some u) :
    (spliceA (olds.drop (i * 8)) ((i + 1) * 8) (spliceA news (i * 8) C))[j]? = some u := by
  have hd : (olds.drop (i * 8)).length = (n - i) * 8 := by rw [List.length_drop, hlo]; omega
  rw [spliceA_get _ _ _ (by rw [spliceA_size, hd]; omega), spliceA_get _ _ _ (by rw [hln]; omega)]
  rcases cellsIn_get hlo hln hi h with ⟨h1, h2⟩ | ⟨h1, h2, h3⟩ | ⟨h1, h2, h3⟩
  · rw [if_pos (by omega), if_pos h1]
    exact hC j u (by rw [List.getElem?_take, if_pos h1]; exact h2)
  · rw [if_pos (by omega), if_neg (by omega), if_pos (by omega)]
    exact h3
  · rw [if_neg (by omega), if_pos (by rw [hd]; omega)]
    exact h3
theorem back_get {C : Array Value} {olds news : List Value} {off i n : Nat} (hlo : olds.length = n * 8) (hln : news.length = 8) (hi : i < n) (hC : ∀ (j : Nat) (u : Value), olds[j]? = some u → C[off + j]? = some u) (hsz : off + (n + 1) * 8 ≤ C.size) (j : Nat) (u : Value) (h : (cellsIn olds news i)[j]? = some u) :
    (spliceA news (off + i * 8) (spliceA (olds.drop (i * 8)) (off + (i + 1) * 8) C))[off + j]? = some u := by
  have hd : (olds.drop (i * 8)).length = (n - i) * 8 := by rw [List.length_drop, hlo]; omega
  rw [spliceA_get _ _ _ (by rw [spliceA_size, hln]; omega), spliceA_get _ _ _ (by rw [hd]; omega)]
  rcases cellsIn_get hlo hln hi h with ⟨h1, h2⟩ | ⟨h1, h2, h3⟩ | ⟨h1, h2, h3⟩
  · rw [if_pos (by omega)]
    rw [if_pos (by omega)]
    exact hC j u h2
  · rw [if_neg (by omega), if_pos (by omega)]
    rw [show off + j - (off + i * 8) = j - i * 8 by omega]
    exact h3
  · rw [if_neg (by omega), if_neg (by omega), if_neg (by omega), if_pos (by rw [hd]; omega)]
    rw [show off + j - (off + (i + 1) * 8) = j - (i + 1) * 8 by omega]
    exact h3

set_option maxRecDepth 100000 in
set_option maxHeartbeats 2000000 in
theorem insB_grow (g off n i gx offx cx : Nat) (olds news : List Value) (w : World) (hlo : olds.length = n * 8) (hold : w.rangeAt g off olds) (hln : news.length = 8) (hnew : w.rangeAt gx offx news)
    (h1 : ∀ u ∈ olds, u.oneCell' = true) (h2 : ∀ u ∈ news, u.oneCell' = true) (hl : n ≤ 1000) (hi : i < n) :
    Calls Tryz.prog 120 #[.slice (some ⟨g, off, none⟩) n n, .int .i64 (i : Int), .slice (some ⟨gx, offx, none⟩) 1 cx] w (InsPost g off n n (cellsIn olds news i) w) := by
  obtain ⟨i3, hi3, hx0, hx1, hx2⟩ := info_parts Tryz.infoBk
  have HX := Lib.hid hnew
  have HSL := Lib.hid hold
  have H1 := Lib.hid h1
  have H2 := Lib.hid h2
  have HLO := Lib.hid hlo
  have HLN := Lib.hid hln
  have hne : ¬ i = n := by omega
  have htl : (olds.take (i * 8)).length = i * 8 := by rw [List.length_take, hlo]; omega
  have hfl : (olds.drop (i * 8)).length = (n - i) * 8 := by rw [List.length_drop, hlo]; omega
  have HTL := Lib.hid htl
  have HFL := Lib.hid hfl
  clear hnew hold h1 h2 hlo hln htl hfl
  go_enter Tryz.func120, Tryz.ntmps120
  go_upto_region 11 with (first
    | (at_builtin; refine wpList_growMade rfl _ _ 61 3 60 rfl .i64 i3 _ 8 Tryz.underlying61 Tryz.underlying3 hi3 hx0 hx1 rfl g off i n rfl (n + 1 - i) _ rfl (by omega) (olds.take (i * 8)) HTL.out (range_take HSL.out _) (by omega) (by omega) (by omega) (by omega) (by omega) ?_; rw [show i + (n + 1 - i) = n + 1 from by omega]; intro c1 w1 cur1 hcur1 hsz1 hc1 hcm1 hold1 hk1 hw1)
    | ((with_reducible (show wpList _ _ _ (⟨some 45, _, _, _, _, none⟩ :: _) _ _)); (refine wpList_copyRow rfl _ _ 61 61 rfl 60 8 i3 Tryz.underlying61 hi3 hx1 w.heap.size (i * 8) _ _ gx offx 1 _ 1 rfl rfl (by show _ = min _ _; omega) cur1 60 hcur1 news HLN.out (range_keep HX.out hk1 id) (by rw [hsz1, HLN.out]; omega) H2.out ?_); intro w2 hcur2 hk2 hs2))
  have hcur2' : (World.drew w2).heap[w.heap.size]? = some (.cells (spliceA news (i * 8) cur1) 60 (0, 0)) := hcur2
  have hkk : Keep None w (World.drew w2) := (hk1.andThen hk2 (by intro y q1 q2; omega)).drew
  have HC2 := Lib.hid hcur2'
  have HKK := Lib.hid hkk
  have HO1 := Lib.hid hold1
  clear hcur2 hcur2' hkk hk2 hcur1 hk1 hold1
  refine region_tail 8 (by kernel_rfl) (by kernel_rfl) ?_
  simp only [List.take_succ_cons, List.take_zero, List.drop_succ_cons, List.drop_zero]
  generalize World.drew w2 = wd at *
  have q1 : ((i : Int) + 1).toNat = i + 1 := by omega
  have q2 : (0 : Int) ≤ (i : Int) + 1 := by omega
  have q3 : (i : Int) ≤ (n : Int) := by omega
  have q4 : ¬ c1 = i + 1 := by omega
  have q5 : (i : Int) + 1 ≤ (n : Int) + 1 := by omega
  have q6 : ¬ n = i := by omega
  have q0 : IntKind.i64.wrap ((i : Int) + 1) = (i : Int) + 1 := IntWalk.i64_in _ (by omega)
  repeat still_step
  clear q0 q1 q2 q3 q4 q5 q6
  refine wpStill_nil ?_
  go_wp2_with (((with_reducible (show wpList _ _ _ (⟨some 54, _, _, _, _, none⟩ :: _) _ _)); (refine wpList_copyRow rfl _ _ 61 61 rfl 60 8 i3 Tryz.underlying61 hi3 hx1 w.heap.size ((i + 1) * 8) _ _ g (off + i * 8) _ _ (n - i) rfl rfl (by show _ = min _ _; omega) (spliceA news (i * 8) cur1) 60 HC2.out (olds.drop (i * 8)) HFL.out (range_keep (range_drop HSL.out (i * 8)) HKK.out id) (by rw [spliceA_size, hsz1, HFL.out]; omega) (fun u hu => H1.out u (List.mem_of_mem_drop hu)) ?_); intro w3 hcur3 hk3 hs3))
  go_ret
  exact .inl ⟨c1, _, rfl, by omega, hcur3, by rw [spliceA_size, spliceA_size, hsz1], front_get (off := 0) HLO.out HLN.out hi HO1.out (by rw [hsz1]; omega), HKK.out.andThen hk3 (by intro y q1 q2; omega)⟩

theorem overB_run {w : World} {gx offx g off lb cb : Nat} {curx cur : Array Value} (hx : w.heap[gx]? = some (.cells curx 60 (0, 0))) (hcur : w.heap[g]? = some (.cells cur 60 (0, 0))) (hne : gx ≠ g) (hpos : cur.size ≠ 0) :
    (callFunc 178 #[.slice (some ⟨gx, offx, none⟩) 1 1, .slice (some ⟨g, off, none⟩) lb cb]).run Tryz.prog w = .ok (.value (.bool false)) w := by
  have hz : ∀ w, (Go.sizeOf 60).run Tryz.prog w = .ok 8 w := fun w => by kernel_rfl
  rw [run_callFunc_extern (P := Tryz.prog) (e := Extern.SlicesOverlaps.overlaps #[61, 61] #[4]) Tryz.func178 (by kernel_rfl) (by kernel_rfl) (by kernel_rfl) (by kernel_rfl)]
  rw [Lib.run_overlaps_apart w 61 4 60 Tryz.underlying61 8 hz ⟨gx, offx, none⟩ ⟨g, off, none⟩ 1 1 lb cb hne 60 60 curx.size cur.size (by simp [World.shape?, hx]) (by simp [World.shape?, hcur]) hpos (by simp [World.frozen?, hx]) (by simp [World.frozen?, hx])]
  rfl

set_option maxRecDepth 100000 in
set_option maxHeartbeats 2000000 in
theorem insB_room (g off n c i gx offx : Nat) (olds news : List Value) (cur curx : Array Value) (w : World) (hlo : olds.length = n * 8) (hcur : w.heap[g]? = some (.cells cur 60 (0, 0))) (hold : ∀ (j : Nat) (u : Value), olds[j]? = some u → cur[off + j]? = some u) (hln : news.length = 8)
    (hx : w.heap[gx]? = some (.cells curx 60 (0, 0))) (hnew : w.rangeAt gx offx news)
    (h1 : ∀ u ∈ olds, u.oneCell' = true) (h2 : ∀ u ∈ news, u.oneCell' = true) (hl : n ≤ 1000) (hi : i < n) (hgx : gx ≠ g) (hc : n < c) (hcs : off + c * 8 ≤ cur.size) :
    Calls Tryz.prog 120 #[.slice (some ⟨g, off, none⟩) n c, .int .i64 (i : Int), .slice (some ⟨gx, offx, none⟩) 1 1] w (InsPost g off n c (cellsIn olds news i) w) := by
  obtain ⟨i3, hi3, hx0, hx1, hx2⟩ := info_parts Tryz.infoBk
  have HX := Lib.hid hnew
  have HXX := Lib.hid hx
  have HOLD := Lib.hid hold
  have HCU := Lib.hid hcur
  have H1 := Lib.hid h1
  have H2 := Lib.hid h2
  have HLO := Lib.hid hlo
  have HLN := Lib.hid hln
  have hne : ¬ i = n := by omega
  have hfl : (olds.drop (i * 8)).length = (n - i) * 8 := by rw [List.length_drop, hlo]; omega
  have HFL := Lib.hid hfl
  have hsl : w.rangeAt g off olds := fun j u hu => by
    have := hold j u hu
    simp only [World.cell?, hcur]
    simpa using this
  have HSL := Lib.hid hsl
  clear hnew hold h1 h2 hlo hln hfl hcur hx hsl
  go_enter Tryz.func120, Tryz.ntmps120
  have q1 : ((i : Int) + 1).toNat = i + 1 := by omega
  have q4 : ¬ c = i + 1 := by omega
  go_upto_region 15 with ((with_reducible (show wpList _ _ _ (⟨some 67, _, _, _, _, none⟩ :: _) _ _)); (refine wpList_extern2 rfl 178 _ _ _ rfl _ _ _ rfl rfl (overB_run HXX.out HCU.out hgx (by omega)) ?_))
  have hcd : (World.drew w).heap[g]? = some (.cells cur 60 (0, 0)) := HCU.out
  have hsd : (World.drew w).rangeAt g off olds := range_keep HSL.out ((Keep.refl None w).drew) id
  have hxd : (World.drew w).rangeAt gx offx news := range_keep HX.out ((Keep.refl None w).drew) id
  have HCD := Lib.hid hcd
  have HSD := Lib.hid hsd
  have HXD := Lib.hid hxd
  have HKD := Lib.hid ((Keep.refl (· = g) w).drew)
  have HSZ : Hid (w.heap.size = (World.drew w).heap.size) := Lib.hid rfl
  clear hcd hsd hxd
  refine region_tail 8 (by kernel_rfl) (by kernel_rfl) ?_
  simp only [List.take_succ_cons, List.take_zero, List.drop_succ_cons, List.drop_zero]
  generalize World.drew w = wd at *
  have q2 : (0 : Int) ≤ (i : Int) + 1 := by omega
  have q3 : (i : Int) ≤ (n : Int) + 1 := by omega
  have q5 : (i : Int) + 1 ≤ (n : Int) + 1 := by omega
  have q6 : ¬ c = i := by omega
  have q0 : IntKind.i64.wrap ((i : Int) + 1) = (i : Int) + 1 := IntWalk.i64_in _ (by omega)
  repeat still_step
  clear q0 q2 q3 q5
  refine wpStill_nil ?_
  go_wp2_with (first
    | ((with_reducible (show wpList _ _ _ (⟨some 77, _, _, _, _, none⟩ :: _) _ _)); (refine wpList_copyRow rfl _ _ 61 61 rfl 60 8 i3 Tryz.underlying61 hi3 hx1 g (off + (i + 1) * 8) _ _ g (off + i * 8) _ _ (n - i) rfl rfl (by show _ = min _ _; omega) cur 60 HCD.out (olds.drop (i * 8)) HFL.out (range_drop HSD.out (i * 8)) (by rw [HFL.out]; omega) (fun u hu => H1.out u (List.mem_of_mem_drop hu)) ?_); intro w2 hcur2 hk2 hs2; have HC2 := Lib.hid hcur2; have HK2 := Lib.hid (HKD.out.trans hk2); have HX2 := Lib.hid (range_keep HXD.out hk2 hgx); clear hcur2 hk2)
    | ((with_reducible (show wpList _ _ _ (⟨some 82, _, _, _, _, none⟩ :: _) _ _)); (refine wpList_copyRow rfl _ _ 61 61 rfl 60 8 i3 Tryz.underlying61 hi3 hx1 g (off + i * 8) _ _ gx offx 1 _ 1 rfl rfl (by show _ = min _ _; omega) (spliceA (olds.drop (i * 8)) (off + (i + 1) * 8) cur) 60 HC2.out news HLN.out HX2.out (by rw [spliceA_size, HLN.out]; omega) H2.out ?_); intro w3 hcur3 hk3 hs3; have HC3 := Lib.hid hcur3; have HK3 := Lib.hid (HK2.out.trans hk3); clear hcur3 hk3))
  go_ret
  exact .inr ⟨cur, _, rfl, by omega, HCU.out, HC3.out, by rw [spliceA_size, spliceA_size], back_get HLO.out HLN.out hi HOLD.out (by omega), HK3.out, by rw [hs3, hs2, HSZ.out]⟩

end Go.Proofs.YtcdophocpheadaaGreatDoor
