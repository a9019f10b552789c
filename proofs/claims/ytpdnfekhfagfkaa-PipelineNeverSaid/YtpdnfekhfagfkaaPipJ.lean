/-
  Chapter 19: paging.Pages, walked: it returns.
-/
import Derived.Test.YtpdnfekhfagfkaaPipI
import Derived.Lib.RowBridge
namespace Go.Proofs.Ytpdnfekhfagfkaa
open Go.RowKit Go.Shelf PI
attribute [local go_sem] Oper.semAt_some

theorem len64_zero (w : World) : Calls Try.prog 46 #[.int .u64 0] w fun e w' => e = .returned (.int .i64 0) ∧ w' = w := by
  go_enter Try.func46, Try.ntmps46
  go_wp2_with (fail)
  go_ret
  refine ⟨?_, rfl⟩
  kernel_rfl
theorem blen_zero (w : World) : Calls Try.prog 30 #[.int .u64 0] w fun e w' => e = .returned (.int .i64 0) ∧ w' = w := by
  go_enter Try.func30, Try.ntmps30
  go_wp2_with (go_at_call 46; refine (len64_zero _).mono ?_; rintro e w' ⟨rfl, hw⟩; subst w')
  go_ret
  exact ⟨rfl, rfl⟩
theorem ins_zero (p : Option Addr) (n c : Nat) (w : World) : Calls Try.prog 36 #[.slice p n c, .int .i64 0, .int .i64 0] w fun e w' => e = .returned (.tuple #[]) ∧ w' = w := by
  go_enter Try.func36, Try.ntmps36
  go_upto_region 1 with (fail)
  go_loopw [6] (fun t wr => t = .int .i64 1 ∧ wr = w) (fun _ _ => 0)
  case atStart => exact ⟨rfl, rfl⟩
  case round =>
    obtain ⟨rfl, rfl⟩ := hrel
    go_wp2_with (fail)
    go_end0
    exact ⟨rfl, rfl⟩
set_option maxRecDepth 100000 in
set_option maxHeartbeats 2000000 in
theorem pdq_zero (p : Option Addr) (n c : Nat) (w : World) : Calls Try.prog 29 #[.slice p n c, .int .i64 0, .int .i64 0, .int .i64 0] w fun e w' => e = .returned (.tuple #[]) ∧ w' = w := by
  go_enter Try.func29, Try.ntmps29
  go_upto_region 1 with (fail)
  go_wp2_with (fail)
  go_loopw [1, 2, 3] (fun a b l wr => a = .int .i64 0 ∧ b = .int .i64 0 ∧ l = .int .i64 0 ∧ wr = w) (fun _ _ _ _ => 0)
  case atStart => exact ⟨rfl, rfl, rfl, rfl⟩
  case round =>
    obtain ⟨rfl, rfl, rfl, rfl⟩ := hrel
    go_wp2_with (go_at_call 36; refine (ins_zero _ _ _ _).mono ?_; rintro e w' ⟨rfl, hw⟩; subst w')
    refine bodyPost_ret (results_none rfl _ _ _) rfl ?_
    exact ⟨rfl, rfl⟩
theorem sort_zero (p : Option Addr) (c : Nat) (w : World) : Calls Try.prog 20 #[.slice p 0 c] w fun e w' => e = .returned (.tuple #[]) ∧ w' = w := by
  go_enter Try.func20, Try.ntmps20
  go_wp2_with (first
    | (go_at_call 30; refine (blen_zero _).mono ?_; rintro e w' ⟨rfl, hw⟩; subst w')
    | (go_at_call 29; refine (pdq_zero _ _ _ _).mono ?_; rintro e w' ⟨rfl, hw⟩; subst w'))
  go_end0
  exact ⟨rfl, rfl⟩

open Go.Sort in
theorem keep_sorted (w : World) (n g off : Nat) (d : Array Int) (os : Array Obj) : Keep (fun k => k = g) w (grow (putRow (Value.int .i64) (Sort.ahead w n) g off d) os) where
  os := rfl
  tape := rfl
  output := rfl
  size := by simp
  block := fun k hk hs => by
    have hs' : ¬ g = k := fun e => hs e.symm
    rw [heap_grow_old _ _ (by simpa using hk)]
    simp only [putRow, mapBlock, Array.getElem?_modify, if_neg hs', heap_ahead]

open Go.Sort in
/-- Slices of numbers are sorted: what is there then are numbers; nothing else is touched. -/
theorem sort_calls (p : Option Addr) (n c base : Nat) (xs : List Int) (w : World) (h : Own intEnc 1 3 base w (.slice p n c) xs) (hl : xs.length < 1000000000) :
    Calls Try.prog 20 #[.slice p n c] w fun e w' => e = .returned (.tuple #[]) ∧ Keep (fun k => some k = (Value.slice p n c).ownBlock) w w' ∧ (0 < n → ∃ (g : Nat) (ys : List Int), p = some ⟨g, 0, none⟩ ∧ base ≤ g ∧ ys.length = n ∧ Holds (Value.int .i64) w' g 0 ys.toArray) := by
  have hn := (h.reads intEnc_len).1
  subst hn
  by_cases h0 : 0 < xs.length
  · obtain ⟨g, rfl, hg⟩ := h.row intEnc_len h0
    have hH : Holds (Value.int .i64) w g 0 xs.toArray := fun j hj => by
      have hj' : j < xs.length := by simpa using hj
      obtain ⟨h1, h2⟩ := own_cell h hj'
      rw [Nat.zero_add]
      refine ⟨?_, h2⟩
      rw [h1, getElem!_pos _ j hj]
      simp [List.getD_eq_getElem?_getD, List.getElem?_eq_getElem hj']
    refine (Try.slices_Sort_int g 0 c xs w hH (World.ownsRow.lt h g rfl).2 (by omega)).mono ?_
    rintro e w' ⟨rfl, m, os, rfl⟩
    have hlen : (xs.mergeSort fun x y => decide (x ≤ y)).length = xs.length := List.length_mergeSort _
    refine ⟨rfl, (keep_sorted w m g 0 _ os).weaken (fun k _ h => congrArg some h), fun _ => ⟨g, _, rfl, hg, hlen, ?_⟩⟩
    refine holds_grow _ _ _ _ _ _ (by simpa using (World.ownsRow.lt h g rfl).2) ?_
    exact holds_putRow _ _ _ _ xs.toArray _ (holds_ahead _ _ _ _ _ _ hH) (by simp [hlen])
  · have hz : xs.length = 0 := by omega
    rw [hz]
    refine (sort_zero p c w).mono ?_
    rintro e w' ⟨rfl, rfl⟩
    exact ⟨rfl, Keep.refl _ _, fun h => absurd h (by omega)⟩

open Go.Sort in
theorem compact_calls (p : Option Addr) (n c : Nat) (w : World) (hc : n ≤ c) (hn : n < 1000000000) (h : 0 < n → ∃ (g : Nat) (ys : List Int), p = some ⟨g, 0, none⟩ ∧ ys.length = n ∧ Holds (Value.int .i64) w g 0 ys.toArray) (o : Nat → Prop) (ho : ∀ a, p = some a → o a.block) :
    Calls Try.prog 21 #[.slice p n c] w fun e w' => (∃ p' n' c', n' ≤ n ∧ e = .returned (.slice p' n' c')) ∧ Keep o w w' := by
  rcases Nat.eq_zero_or_pos n with rfl | h0
  · refine (Try.slices_Compact_int_empty p c w).mono ?_
    rintro e w' ⟨rfl, rfl⟩
    exact ⟨⟨p, 0, c, Nat.le_refl _, rfl⟩, Keep.refl _ _⟩
  · obtain ⟨g, ys, rfl, rfl, hH⟩ := h h0
    refine (Try.slices_Compact_int_cells g 0 ys.length c ys w (Nat.le_refl _) (by omega) hc (fun j hj => ?_) (fun j hj => (hH j (by simpa using hj)).2)).mono ?_
    · have := (hH j (by simpa using hj)).1
      rw [this, getElem!_pos _ j (by simpa using hj)]
      simp [List.getD_eq_getElem?_getD, List.getElem?_eq_getElem hj]
    · intro e w' hh
      obtain ⟨he, q, hw⟩ := hh
      refine ⟨⟨_, _, _, ?_, he⟩, ?_⟩
      · have := Lib.compact_length_le (ys.take ys.length)
        rw [List.length_take] at this
        omega
      · rw [hw]
        exact Keep.setCells (S := o) (.inl (ho _ rfl)) _ _ ((Keep.refl _ w).drewN q)

/-- What the rounds of paging.Pages keep. -/
def PsInv (b base : Nat) (W0 : World) (k : Nat) (W : World) : Prop :=
  ∃ (p : Option Addr) (c : Nat) (xs : List Int), xs.length = k ∧ W.heap[b]? = some (.cells #[.slice p k c] 40 (0, 0)) ∧ Own intEnc 1 3 base W (.slice p k c) xs ∧ Keep (fun x => x = b ∨ base ≤ x) W0 W
theorem PsInv.grown {b base : Nat} {W0 A B : World} {k : Nat} (h : PsInv b base W0 k A) {row : Option Nat} (hg : A.grownBy B row) (hb : ∀ k, row = some k → W0.heap.size ≤ k) (hr : ∀ r, row = some r → ∃ o : Obj, A.heap[r]? = some o ∧ o.isCells = false) : PsInv b base W0 k B := by
  obtain ⟨p, c, xs, h0, h1, h2, h3⟩ := h
  exact ⟨p, c, xs, h0, (grownBy_keeps_cells hg hr h1 rfl).trans h1, own_grown h2 hg hr, h3.grown hg (fun k e => .inr (hb k e))⟩

set_option maxRecDepth 100000 in
set_option maxHeartbeats 4000000 in
theorem pages_calls (size : Int) (p : Option Addr) (l : List Fe) (c : Nat) (w : World) (h : SliceV feEnc 3 w p l) (hl : l.length ≤ 900) (hok : ∀ f ∈ l, FeOk f) :
    Calls Try.prog 12 #[.int .i64 size, .slice p l.length c] w fun e w' => (∃ p' n c', n ≤ 1000000 ∧ e = .returned (.slice p' n c')) ∧ Keep None w w' := by
  obtain ⟨i5, hi5, hv0, hv1, hv2⟩ := info_parts Try.infoInt
  have HS := Lib.hid h
  have HOK := Lib.hid hok
  clear h hok
  refine (callsIn_wide (n := 6)).1 ?_
  refine callsIn_of_wp_marks Try.func12 rfl trivial ?_ rfl
  simp only [Try.ntmps12, List.size_toArray, List.length_cons, List.length_nil, Nat.reduceAdd, Nat.reduceSub, Array.replicate_succ, Array.replicate_zero, List.push_toArray, List.append_toArray, List.nil_append, List.cons_append]
  refine wpIn_wide.2 ?_
  go_wp2_with (go_at_call 19; refine (touches_calls _ _ _ _ _).mono ?_; rintro e w5 ⟨rfl, hw5⟩; have HW5 := Lib.hid hw5; clear hw5)
  have hk5 : Keep None w w5 := by rw [HW5.out]; exact (((Keep.refl _ _).alloc _).alloc _).alloc _
  have h55 : w5.heap[w.heap.size]? = some (.cells #[.slice none 0 0] 40 (0, 0)) := by rw [HW5.out]; exact (((Keep.refl None _).alloc _).alloc _).obj (heap_alloc_new _ _) id
  have h57 : w5.heap[w.heap.size + 1]? = some (.cells #[.int .i64 size] 3 (0, 0)) := by rw [HW5.out]; exact ((Keep.refl None _).alloc _).obj (alloc_at (by simp)) id
  have h58 : w5.heap[w.heap.size + 1 + 1]? = some (.cells #[.slice p l.length c] 29 (0, 0)) := by rw [HW5.out]; exact alloc_at (by simp)
  have hs5 : w5.heap.size = w.heap.size + 3 := by rw [HW5.out]; simp
  have hsl5 : SliceV feEnc 3 w5 p l := HS.out.keep hk5 (fun _ _ => id)
  clear HW5
  refine (wpIn_wide (n := 6)).1 ?_
  refine wpIn_rangeFunc_ownH (n := 6) (α := TI l.length) rfl (by omega) (gf := 28) (lb := #[.pointer (some ⟨w.heap.size + 1, 0, none⟩), .pointer (some ⟨w.heap.size + 1 + 1, 0, none⟩)]) rfl trivial (enters_of Try.func28 (by kernel_rfl) rfl)
    (touches_stops Fence.wide 5 trivial rfl (by omega) (w.heap.size + 1) (w.heap.size + 1 + 1) c size p l (fun k => k = w.heap.size ∨ w5.heap.size ≤ k) (by omega) HOK.out (by omega) (slice_off HS.out (by intro k hk h; omega)) w5 h57 h58 hsl5)
    KpT.trans (fun W l o o' _ hl hc _ => KpT.putObj _ W l o o' hl hc) (Below.refl _ _) (fun _ => rfl)
    (fun (pre : List (TI l.length)) W => PsInv w.heap.size w5.heap.size w5 pre.length W)
    (fun _ _ _ => False)
    (fun s A B row hs hg hr => PsInv.grown (A := A) (k := s.length) hs hg (fun k e => by have := (hr k e).1; omega) (fun r e => (hr r e).2))
    (fun _ _ _ _ _ hs _ _ => hs)
    ⟨none, 0, [], rfl, h55, Own.nil _ _ _ _ _, Keep.refl _ _⟩
    (fun x a' W => a' = { tmps := #[.int .i64 size, .slice p l.length c, undef, undef, .slice none 0 0, .pointer (some ⟨w.heap.size, 0, none⟩), undef, .int .i64 x.1.2, .int .i64 size, .slice p l.length c, .func (.func 28) #[] #[.pointer (some ⟨w.heap.size + 1, 0, none⟩), .pointer (some ⟨w.heap.size + 1 + 1, 0, none⟩)], .int .i64 (x.1.1 : Int), .int .i64 x.1.2, undef, undef, undef, undef, undef, undef, undef, undef], defers := [] })
    (fun x a' _ X Y row hs hg hr => hs)
    ?assign ?body ?done ?stop
  case assign =>
    rintro l2 pre x W K hI hK
    simp only [tEncs]
    gi_wp2
    exact hK _ _ (KeepsFrom.refl _ _) (KpT.refl _ _) hI rfl
  case body =>
    rintro l2 pre x a' W hl2 - ⟨p6, c6, xs, h0, h6, ho6, hkW⟩ rfl hlt
    obtain ⟨⟨i, x⟩, hi⟩ := x
    have htl := touches_len size 1000 l 0 (fun f hf => (HOK.out f hf).2.2.2)
    have hzW := hkW.size
    have c6' := cell_of_row _ _ 0 _ _ _ h6
    have f66 : W.frozen? ⟨w.heap.size, 0, none⟩ = false := by simp [World.frozen?, h6]
    have hrow : W.ownsRow w5.heap.size 3 1 (.slice p6 pre.length c6) pre.length (xs.map (Value.int .i64)) := by
      have := ho6
      unfold Own at this
      rw [ints_flat, h0] at this
      exact this
    clear h55 h57 h58 hsl5
    have hne : ¬ some w.heap.size = (Value.slice p6 pre.length c6).ownBlock := fun e => (ho6.typed e.symm).ne (typed_of h6) (by decide) rfl
    have HNE := Lib.hid hne
    clear hne
    gi_wp2_with (gi_at_builtin; refine wpListIn_append_own _ rfl _ _ 40 rfl w5.heap.size 3 i5 (.int .i64 0) 1 8 Try.underlying40 hi5 hv0 hv1 hv2 rfl (by decide) (.slice p6 pre.length c6) _ _ rfl (hrow.alloc _) ⟨W.heap.size, 0, none⟩ 1 1 [.int .i64 x] rfl rfl (cell_one_new _ _ _) (by simp [Value.oneCell']) (by unfold maxLen; omega) (by omega) (by simp; omega) ?_; intro v' w1 hown' hgrow _; obtain ⟨g', cap', rfl⟩ := ownsRow_succ hown'; have hkA : Keep (fun k => some k = (Value.slice p6 pre.length c6).ownBlock) W w1 := ((Keep.refl _ W).alloc _).grown hgrow (fun k e => .inl e.symm); have h61 := hkA.obj h6 HNE.out; have c61 := cell_of_row _ _ 0 _ _ _ h61; have f61 : w1.frozen? ⟨w.heap.size, 0, none⟩ = false := (by simp [World.frozen?, h61]); have HKA := Lib.hid hkA; have H61 := Lib.hid h61; have HOW := Lib.hid hown'; clear hkA h61 hown' hgrow)
    have hkE : Keep (fun k => k = w.heap.size ∨ some k = (Value.slice p6 pre.length c6).ownBlock) W (w1.setCell ⟨w.heap.size, 0, none⟩ (.slice (some ⟨g', 0, none⟩) (pre.length + 1) cap')) := (HKA.out.weaken (fun _ _ h => .inr h)).trans ((keep_set w1 w.heap.size 0 _).weaken (fun _ _ h => .inl h))
    refine ⟨(hkE.others ?_).from _, KpT.ofKeep hkE ?_, ?_⟩
    · rintro k o (rfl | hk) ho
      · rw [h6] at ho; cases ho; rfl
      · obtain ⟨C, fr, h⟩ := ho6.typed hk.symm
        rw [h] at ho; cases ho; rfl
    · rintro k o (rfl | hk) ho
      · rw [h6] at ho; cases ho; exact ⟨.inl rfl, _, _, .inr rfl⟩
      · exact ⟨.inr (World.ownsRow.lt ho6 k hk.symm).1, (ho6.typed hk.symm).intLike ho⟩
    · have hfl : (xs ++ [x]).map (Value.int .i64) = xs.map (Value.int .i64) ++ [.int .i64 x] := by simp
      have hown2 : Own intEnc 1 3 w5.heap.size w1 (.slice (some ⟨g', 0, none⟩) (pre.length + 1) cap') (xs ++ [x]) := by
        unfold Own
        rw [ints_flat, hfl, List.length_append, h0]
        exact HOW.out
      refine ⟨some ⟨g', 0, none⟩, cap', xs ++ [x], by simp [h0], ?_, ?_, ?_⟩
      · have := Boxed.set (v := .slice p6 pre.length c6) (.slice (some ⟨g', 0, none⟩) (pre.length + 1) cap') H61.out
        rw [List.length_append]
        exact this
      · rw [List.length_append]
        exact hown2.keep (keep_set w1 w.heap.size 0 _) (fun k h1 h2 => by have := (World.ownsRow.lt hown2 k h1).1; have h3 : k = w.heap.size := h2; omega)
      · exact hkW.trans (hkE.weaken (fun k _ h => by
          rcases h with h | h
          · exact .inl h
          · exact .inr (World.ownsRow.lt ho6 k h.symm).1))
  case done =>
    rintro D xs W hD hxs ⟨p6, c6, zs, h0, h6, ho6, hkW⟩ hKD
    have hxl := congrArg List.length hxs
    rw [List.length_map] at hxl
    have htl := touches_len size 1000 l 0 (fun f hf => (HOK.out f hf).2.2.2)
    rw [← hxl] at htl
    generalize xs.length = n at *
    have c6' := cell_of_row _ _ 0 _ _ _ h6
    have hzW := hkW.size
    have HS1 := Lib.hid (sort_calls p6 n c6 w5.heap.size zs W ho6 (by omega))
    have hne : ¬ some w.heap.size = (Value.slice p6 n c6).ownBlock := fun e => (ho6.typed e.symm).ne (typed_of h6) (by decide) rfl
    have H6 := Lib.hid h6
    have HOW := Lib.hid ho6
    have HKW := Lib.hid hkW
    have HKD := Lib.hid hKD
    have HNE := Lib.hid hne
    have HFR : Hid (∀ a, p6 = some a → some a.block = (Value.slice p6 n c6).ownBlock) := Lib.hid (by
      intro a ha
      rcases ho6.2 with ⟨hn, -⟩ | ⟨g, cap, cur, hv, -⟩
      · cases hn; cases ha
      · cases hv; cases ha; rfl)
    have hcc : n ≤ c6 := by have := (ho6.reads intEnc_len); omega
    clear h6 ho6 hkW hKD hne h55 h57 h58 hsl5 hxs hxl h0
    go_wp2_with (first
      | (go_at_call 20; go_loud (refine HS1.out.mono ?_; rintro e w6 ⟨rfl, hk6, hys⟩; have c7 := cell_of_row _ _ 0 _ _ _ (hk6.obj H6.out HNE.out); have HK6 := Lib.hid hk6; have HYS := Lib.hid hys; clear hk6 hys))
      | (go_at_call 21; go_loud (refine (compact_calls p6 n c6 _ (by omega) (by omega) (fun h => by obtain ⟨g, ys, h1, -, h2, h3⟩ := HYS.out h; exact ⟨g, ys, h1, h2, h3⟩) (fun k => some k = (Value.slice p6 n c6).ownBlock) HFR.out).mono ?_; rintro e w7 ⟨⟨p', n', c', hn', rfl⟩, hk7⟩; have HK7 := Lib.hid hk7; clear hk7)))
    have hkB := HK6.out.trans HK7.out
    have hkA : Keep (w5.heap.size ≤ ·) W w7 := hkB.weaken (fun k _ h => (World.ownsRow.lt HOW.out k h.symm).1)
    have hD7 : w7.heap[D]? = some (.deferred (some [])) := hkB.obj HKD.out (fun hk => by
      obtain ⟨C, fr, h⟩ := HOW.out.typed (show _ = some D from hk.symm)
      rw [HKD.out] at h; cases h)
    refine ⟨by simp, .inl ⟨_, _, rfl, run_takeDeferred hD7, ?_⟩⟩
    refine ⟨_, results_tmp rfl _ _ _, ⟨p', n', c', by omega, rfl⟩, ?_⟩
    exact (hk5.andThen (HKW.out.trans (hkA.weaken (fun _ _ h => .inr h))) (fun k h1 h2 => by have h3 : k = w.heap.size ∨ w5.heap.size ≤ k := h2; omega)).grown (grownBy_putObj' _ D _) (fun k e => by cases e; exact .inr (by omega))
  case stop =>
    rintro D c pre W _ _ h _
    exact h.elim

end Go.Proofs.Ytpdnfekhfagfkaa
