/-
  Chapter 23: the reference's Add.
-/
import Derived.Test.YtlhmajjmhkjcoaaAdd
import Derived.Test.YtlhmajjmhkjcoaaAppendAll
import Derived.Test.YtlhmajjmhkjcoaaRegDep
namespace Go.Proofs.Ytlhmajjmhkjcoaa
open Go.RowKit

theorem all_addRef {r : List (List Int)} {l : List Lk} {u o : Int} : allB smallB ⟨r, l.map cap, u, o⟩ = allB smallB ⟨r, l, u, o⟩ := by
  simp only [allB, all_cap]

theorem nil_links : ([] : List Lk).map cap = [] := rfl

theorem linksR_take {xs : List Lk} {k : Nat} {x : Lk} (hx : xs[k]? = some x) : (xs.take (k + 1)).foldl addLinkR [] = addLinkR ((xs.take k).foldl addLinkR []) x := by
  rw [List.take_add_one, hx]; simp

def AddRefInv (B : Nat) (ab bb : List (List Int)) (u l : Int) (w0 : World) (i : Value) (w : World) : Prop := AddInv B ab bb u l w0 i w

def LinkInvR (B NL : Nat) (xs : List Lk) (pv : Option Addr) (cv nr : Nat) (rows : List (List Int)) (u l : Int) (w0 : World) (i : Value) (w : World) : Prop :=
  ∃ (k : Nat) (pl : Option Addr) (cl : Nat) (done : List Lk), i = .int .i64 k ∧ k ≤ xs.length ∧ done = (xs.take k).foldl addLinkR [] ∧ w.heap[B]? = some (.cells #[.slice pv nr cv, .slice pl done.length cl, .int .i64 u, .int .i64 l] 40 (0, 0)) ∧
    Own Lk.enc 4 72 NL w (.slice pl done.length cl) done ∧ Keep (B = ·) w0 w

theorem addLinksR_ok (xs : List Lk) (hx : ∀ x ∈ xs, x.count ≤ 1099511627776) (hl : xs.length ≤ 100) :
    xs.foldl addLinkR [] = (xs.foldl addLink []).map cap ∧ (∀ y ∈ xs.foldl addLinkR [], 0 ≤ y.count ∧ y.count ≤ 1000000000000000000) ∧ (xs.foldl addLinkR []).length ≤ 100 := by
  have he : xs.foldl addLinkR [] = (xs.foldl addLink []).map cap := addLinks_cap xs [] hx
  obtain ⟨-, h2, h3⟩ := addLinks_ok xs [] 0 (by simp [sorted]) (by simp) (by omega) hx
  refine ⟨he, ?_, ?_⟩
  · rw [he]
    intro y hy
    obtain ⟨z, hz, rfl⟩ := List.mem_map.1 hy
    have := h2 z hz
    simp only [cap]
    omega
  · rw [he, List.length_map]
    simp at h3; omega

def zerosRow (ra rb : List Int) (j : Nat) : List Int := (addRow ra rb).take j ++ List.replicate (ra.length - j) 0

theorem zeros_len {ra rb : List Int} (h : ra.length = rb.length) {j : Nat} (hj : j ≤ ra.length) : (zerosRow ra rb j).length = ra.length := by
  simp [zerosRow, addRow]; omega
theorem zeros_zero (ra rb : List Int) : zerosRow ra rb 0 = List.replicate ra.length 0 := by simp [zerosRow]
theorem zeros_end {ra rb : List Int} (h : ra.length = rb.length) : zerosRow ra rb ra.length = addRow ra rb := by
  simp [zerosRow]; rw [List.take_of_length_le (by simp [addRow, h])]
theorem zeros_step {ra rb : List Int} (h : ra.length = rb.length) {j : Nat} {x y : Int} (hx : ra[j]? = some x) (hy : rb[j]? = some y) : (zerosRow ra rb j).set j (x + y) = zerosRow ra rb (j + 1) := by
  have hj := (List.getElem?_eq_some_iff.1 hx).1
  have hl : ((addRow ra rb).take j).length = j := by simp [addRow]; omega
  have ha : (addRow ra rb)[j]? = some (x + y) := by simp [addRow, List.getElem?_zipWith, hx, hy]
  unfold zerosRow
  rw [List.set_append_right _ _ (by omega), hl, Nat.sub_self, show ra.length - j = (ra.length - (j + 1)) + 1 from by omega, List.replicate_succ, List.set_cons_zero, List.take_add_one, ha]
  simp
theorem zeros_at {ra rb : List Int} (h : ra.length = rb.length) {j : Nat} (hj : j < ra.length) : (zerosRow ra rb j)[j]? = some 0 := by
  unfold zerosRow
  rw [List.getElem?_append_right (by simp; omega)]
  have : ((addRow ra rb).take j).length = j := by simp [addRow]; omega
  rw [this, Nat.sub_self, show ra.length - j = (ra.length - (j + 1)) + 1 from by omega, List.replicate_succ]; rfl

def ZerosInv (g : Nat) (ra rb : List Int) (w0 : World) (i : Value) (w : World) : Prop :=
  ∃ j : Nat, i = .int .i64 j ∧ j ≤ ra.length ∧ Arr intEnc 3 w g (zerosRow ra rb j) ∧ Keep (· = g) w0 w

/-- The list so far, owned. -/
def CopyMade (base : Nat) (al : List Lk) (w : World) (v : Value) : Prop := ∃ p c, v = .slice p al.length c ∧ Own Lk.enc 4 72 base w (.slice p al.length c) al

theorem copyMade_keep (base : Nat) (al : List Lk) : ∀ w w' v, Keep None w w' → CopyMade base al w v → CopyMade base al w' v := fun w w' v hk ⟨p, c, he, ho⟩ => ⟨p, c, he, ho.keep hk (fun _ _ => id)⟩

set_option maxRecDepth 100000 in
set_option maxHeartbeats 8000000 in
theorem addRef_calls (ok ok' : Nat → Prop) (p q p' q' : Option Addr) (c d c' d' : Nat) (a b : Hits) (w : World) (ha : HitsAt ok w p q a) (hb : HitsAt ok' w p' q' b) (hlk : a.links.length + b.links.length ≤ 100) :
    Calls Try.prog 13 #[hitsVal p c q d a, hitsVal p' c' q' d' b] w (AddPost a b w) := by
  obtain ⟨i4, hi4, hz0, hz1, hz2⟩ := info_parts Try.infoRow
  obtain ⟨i1, hi1, hy0, hy1, hy2⟩ := info_parts Try.infoInt
  obtain ⟨ab, al, au, ao⟩ := a
  obtain ⟨bb, bl, bu, bo⟩ := b
  have HA0 := Lib.hid ha
  have HB0 := Lib.hid hb
  have nb := ha.nb
  have nb' := hb.nb
  clear ha hb
  simp only [hitsVal] at *
  have HBX : Hid (∃ W : World, Keep None w W ∧ W = ((w.alloc (.cells #[.slice p ab.length c, .slice q al.length d, .int .i64 au, .int .i64 ao] 40)).alloc (.cells #[.slice p' bb.length c', .slice q' bl.length d', .int .i64 bu, .int .i64 bo] 40)).alloc (.cells #[.slice none 0 0, .slice none 0 0, .int .i64 0, .int .i64 0] 40) ∧
      W.heap[w.heap.size]? = some (.cells #[.slice p ab.length c, .slice q al.length d, .int .i64 au, .int .i64 ao] 40 (0, 0)) ∧
      W.heap[w.heap.size + 1]? = some (.cells #[.slice p' bb.length c', .slice q' bl.length d', .int .i64 bu, .int .i64 bo] 40 (0, 0)) ∧
      W.heap[w.heap.size + 2]? = some (.cells #[.slice none 0 0, .slice none 0 0, .int .i64 0, .int .i64 0] 40 (0, 0)) ∧ W.heap.size = w.heap.size + 3) :=
    Lib.hid ⟨_, (((Keep.refl None w).alloc _).alloc _).alloc _, rfl, (((Keep.refl None _).alloc _).alloc _).obj (heap_alloc_new _ _) id, ((Keep.refl None _).alloc _).obj (alloc_at (by simp)) id, alloc_at (by simp), by simp⟩
  obtain ⟨W, hKW, hWe, ho1, ho2, ho3, hsW⟩ := HBX.out
  have HK := Lib.hid hKW
  have O1 := Lib.hid ho1
  have O2 := Lib.hid ho2
  have O3 := Lib.hid ho3
  have HWE := Lib.hid hWe.symm
  have HA := Lib.hid (HA0.out.still hKW)
  have HB := Lib.hid (HB0.out.still hKW)
  clear HBX hKW ho1 ho2 ho3 hWe HA0 HB0
  have LA : Hid (∀ W' : World, Keep None W W' → W'.rangeAt w.heap.size 0 (listEnc [.slice p ab.length c, .slice q al.length d, .int .i64 au, .int .i64 ao])) := Lib.hid (fun W' hk => range_of_obj (hk.obj O1.out id))
  have LB : Hid (∀ W' : World, Keep None W W' → W'.rangeAt (w.heap.size + 1) 0 (listEnc [.slice p' bb.length c', .slice q' bl.length d', .int .i64 bu, .int .i64 bo])) := Lib.hid (fun W' hk => range_of_obj (hk.obj O2.out id))
  cases hsh : decide (lens ab = lens bb) with
  | false =>
    have HSH := Lib.hid hsh
    have HR := Lib.hid (add_err1 (a := ⟨ab, al, au, ao⟩) (b := ⟨bb, bl, bu, bo⟩) hsh)
    clear hsh
    go_enter Try.func13, Try.ntmps13
    go_wp2_with (first
      | ((with_reducible (show wpList _ _ _ (⟨some 12, .load 40 (.tmp 2), _, _, _, _⟩ :: _) _ _)); (try rw [HWE.out]); refine wpList_loadEl (enc := listEnc) (size := 4) rfl 40 _ rfl _ _ rfl _ _ (LA.out _ (Keep.refl _ _)) rfl Try.underlying40 rfl Try.sizeHits (.agg #[.slice p ab.length c, .slice q al.length d, .int .i64 au, .int .i64 ao]) rfl ?_)
      | ((with_reducible (show wpList _ _ _ (⟨some 13, .load 40 (.tmp 3), _, _, _, _⟩ :: _) _ _)); (try rw [HWE.out]); refine wpList_loadEl (enc := listEnc) (size := 4) rfl 40 _ rfl _ _ rfl _ _ (LB.out _ (Keep.refl _ _)) rfl Try.underlying40 rfl Try.sizeHits (.agg #[.slice p' bb.length c', .slice q' bl.length d', .int .i64 bu, .int .i64 bo]) rfl ?_)
      | (go_at_call 33; refine (sameShape_calls ok ok' p q p' q' c d c' d' ⟨ab, al, au, ao⟩ ⟨bb, bl, bu, bo⟩ W HA.out HB.out).mono ?_; rintro e w1 ⟨rfl, hk1⟩; rw [show decide (lens (Hits.mk ab al au ao).blocks = lens (Hits.mk bb bl bu bo).blocks) = _ from HSH.out]; have HK1 := Lib.hid hk1; clear hk1)
      | ((with_reducible (show wpList _ _ _ (⟨_, .store 40 (.tmp 4) _, _, _, _, none⟩ :: _) _ _)); (refine wpList_storeObj rfl 40 _ _ rfl _ rfl [.slice none 0 0, .slice none 0 0, .int .i64 0, .int .i64 0] [.slice none 0 0, .slice none 0 0, .int .i64 0, .int .i64 0] rfl _ (by simp) (HK1.out.obj O3.out id) 4 Try.sizeHits rfl (by simp [Value.oneCell']) ?_); intro w6 hres hk6 hs6; have HRES := Lib.hid hres; have HK6 := Lib.hid hk6; clear hres hk6 hs6))
    refine bodyPost_ret (results_obj_tmp rfl rfl _ _ (range_of_obj HRES.out) Try.underlying40 rfl 4 Try.sizeHits rfl) rfl ?_
    show AddPost _ _ _ _ _
    unfold AddPost
    rw [HR.out]
    refine ⟨none, 0, none, 0, rfl, zero_at _ _, ?_⟩
    exact (HK.out.trans HK1.out).andThen HK6.out (by intro k h1 h2; omega)
  | true =>
    cases hn1 : allB smallB ⟨ab, al, au, ao⟩ with
    | false =>
    have HR := Lib.hid (add_err2 (a := ⟨ab, al, au, ao⟩) (b := ⟨bb, bl, bu, bo⟩) hsh (by simp [addOk, hn1]))
    have HSH := Lib.hid hsh
    have HN1 := Lib.hid hn1
    clear hsh hn1
    go_enter Try.func13, Try.ntmps13
    go_wp2_with (first
      | ((with_reducible (show wpList _ _ _ (⟨some 12, .load 40 (.tmp 2), _, _, _, _⟩ :: _) _ _)); (try rw [HWE.out]); refine wpList_loadEl (enc := listEnc) (size := 4) rfl 40 _ rfl _ _ rfl _ _ (LA.out _ (Keep.refl _ _)) rfl Try.underlying40 rfl Try.sizeHits (.agg #[.slice p ab.length c, .slice q al.length d, .int .i64 au, .int .i64 ao]) rfl ?_)
      | ((with_reducible (show wpList _ _ _ (⟨some 13, .load 40 (.tmp 3), _, _, _, _⟩ :: _) _ _)); (try rw [HWE.out]); refine wpList_loadEl (enc := listEnc) (size := 4) rfl 40 _ rfl _ _ rfl _ _ (LB.out _ (Keep.refl _ _)) rfl Try.underlying40 rfl Try.sizeHits (.agg #[.slice p' bb.length c', .slice q' bl.length d', .int .i64 bu, .int .i64 bo]) rfl ?_)
      | (go_at_call 33; refine (sameShape_calls ok ok' p q p' q' c d c' d' ⟨ab, al, au, ao⟩ ⟨bb, bl, bu, bo⟩ W HA.out HB.out).mono ?_; rintro e w1 ⟨rfl, hk1⟩; rw [show decide (lens (Hits.mk ab al au ao).blocks = lens (Hits.mk bb bl bu bo).blocks) = _ from HSH.out]; have HK1 := Lib.hid hk1; clear hk1)
      | ((with_reducible (show wpList _ _ _ (⟨some 17, .load 40 (.tmp 2), _, _, _, _⟩ :: _) _ _)); (try rw [HWE.out]); refine wpList_loadEl (enc := listEnc) (size := 4) rfl 40 _ rfl _ _ rfl _ _ (LA.out _ HK1.out) rfl Try.underlying40 rfl Try.sizeHits (.agg #[.slice p ab.length c, .slice q al.length d, .int .i64 au, .int .i64 ao]) rfl ?_)
      | (go_at_call 34; refine (right_calls ok p q c d ⟨ab, al, au, ao⟩ w1 (HA.out.still HK1.out)).mono ?_; rintro e w2 ⟨rfl, hk2⟩; rw [HN1.out]; have HK2 := Lib.hid (HK1.out.trans hk2); clear hk2)
      | ((with_reducible (show wpList _ _ _ (⟨_, .store 40 (.tmp 4) _, _, _, _, none⟩ :: _) _ _)); (refine wpList_storeObj rfl 40 _ _ rfl _ rfl [.slice none 0 0, .slice none 0 0, .int .i64 0, .int .i64 0] [.slice none 0 0, .slice none 0 0, .int .i64 0, .int .i64 0] rfl _ (by simp) (HK2.out.obj O3.out id) 4 Try.sizeHits rfl (by simp [Value.oneCell']) ?_); intro w6 hres hk6 hs6; have HRES := Lib.hid hres; have HK6 := Lib.hid hk6; clear hres hk6 hs6))
    refine bodyPost_ret (results_obj_tmp rfl rfl _ _ (range_of_obj HRES.out) Try.underlying40 rfl 4 Try.sizeHits rfl) rfl ?_
    show AddPost _ _ _ _ _
    unfold AddPost
    rw [HR.out]
    refine ⟨none, 0, none, 0, rfl, zero_at _ _, ?_⟩
    exact (HK.out.trans HK2.out).andThen HK6.out (by intro k h1 h2; omega)
    | true =>
    cases hn2 : allB smallB ⟨bb, bl, bu, bo⟩ with
    | false =>
    have HR := Lib.hid (add_err2 (a := ⟨ab, al, au, ao⟩) (b := ⟨bb, bl, bu, bo⟩) hsh (by simp [addOk, hn2]))
    have HSH := Lib.hid hsh
    have HN1 := Lib.hid hn1
    have HN2 := Lib.hid hn2
    clear hsh hn1 hn2
    go_enter Try.func13, Try.ntmps13
    go_wp2_with (first
      | ((with_reducible (show wpList _ _ _ (⟨some 12, .load 40 (.tmp 2), _, _, _, _⟩ :: _) _ _)); (try rw [HWE.out]); refine wpList_loadEl (enc := listEnc) (size := 4) rfl 40 _ rfl _ _ rfl _ _ (LA.out _ (Keep.refl _ _)) rfl Try.underlying40 rfl Try.sizeHits (.agg #[.slice p ab.length c, .slice q al.length d, .int .i64 au, .int .i64 ao]) rfl ?_)
      | ((with_reducible (show wpList _ _ _ (⟨some 13, .load 40 (.tmp 3), _, _, _, _⟩ :: _) _ _)); (try rw [HWE.out]); refine wpList_loadEl (enc := listEnc) (size := 4) rfl 40 _ rfl _ _ rfl _ _ (LB.out _ (Keep.refl _ _)) rfl Try.underlying40 rfl Try.sizeHits (.agg #[.slice p' bb.length c', .slice q' bl.length d', .int .i64 bu, .int .i64 bo]) rfl ?_)
      | (go_at_call 33; refine (sameShape_calls ok ok' p q p' q' c d c' d' ⟨ab, al, au, ao⟩ ⟨bb, bl, bu, bo⟩ W HA.out HB.out).mono ?_; rintro e w1 ⟨rfl, hk1⟩; rw [show decide (lens (Hits.mk ab al au ao).blocks = lens (Hits.mk bb bl bu bo).blocks) = _ from HSH.out]; have HK1 := Lib.hid hk1; clear hk1)
      | ((with_reducible (show wpList _ _ _ (⟨some 17, .load 40 (.tmp 2), _, _, _, _⟩ :: _) _ _)); (try rw [HWE.out]); refine wpList_loadEl (enc := listEnc) (size := 4) rfl 40 _ rfl _ _ rfl _ _ (LA.out _ HK1.out) rfl Try.underlying40 rfl Try.sizeHits (.agg #[.slice p ab.length c, .slice q al.length d, .int .i64 au, .int .i64 ao]) rfl ?_)
      | (go_at_call 34; refine (right_calls ok' p' q' c' d' ⟨bb, bl, bu, bo⟩ w2 (HB.out.still HK2.out)).mono ?_; rintro e w3 ⟨rfl, hk3⟩; rw [HN2.out]; have HK3 := Lib.hid (HK2.out.trans hk3); clear hk3)
      | (go_at_call 34; refine (right_calls ok p q c d ⟨ab, al, au, ao⟩ w1 (HA.out.still HK1.out)).mono ?_; rintro e w2 ⟨rfl, hk2⟩; rw [HN1.out]; have HK2 := Lib.hid (HK1.out.trans hk2); clear hk2)
      | ((with_reducible (show wpList _ _ _ (⟨some 21, .load 40 (.tmp 3), _, _, _, _⟩ :: _) _ _)); (try rw [HWE.out]); refine wpList_loadElG (enc := listEnc) (size := 4) rfl 40 _ rfl _ _ rfl _ _ (LB.out _ HK2.out) rfl Try.underlying40 rfl Try.sizeHits (.agg #[.slice p' bb.length c', .slice q' bl.length d', .int .i64 bu, .int .i64 bo]) rfl ?_)
      | ((with_reducible (show wpList _ _ _ (⟨_, .store 40 (.tmp 4) _, _, _, _, none⟩ :: _) _ _)); (refine wpList_storeObj rfl 40 _ _ rfl _ rfl [.slice none 0 0, .slice none 0 0, .int .i64 0, .int .i64 0] [.slice none 0 0, .slice none 0 0, .int .i64 0, .int .i64 0] rfl _ (by simp) (HK3.out.obj O3.out id) 4 Try.sizeHits rfl (by simp [Value.oneCell']) ?_); intro w6 hres hk6 hs6; have HRES := Lib.hid hres; have HK6 := Lib.hid hk6; clear hres hk6 hs6))
    refine bodyPost_ret (results_obj_tmp rfl rfl _ _ (range_of_obj HRES.out) Try.underlying40 rfl 4 Try.sizeHits rfl) rfl ?_
    show AddPost _ _ _ _ _
    unfold AddPost
    rw [HR.out]
    refine ⟨none, 0, none, 0, rfl, zero_at _ _, ?_⟩
    exact (HK.out.trans HK3.out).andThen HK6.out (by intro k h1 h2; omega)
    | true =>
    have hsm := hn1
    have hsm2 := hn2
    simp only [allB, Bool.and_eq_true, smallB, decide_eq_true_eq] at hsm hsm2
    obtain ⟨⟨-, hu0, hu1⟩, hl0, hl1⟩ := hsm
    obtain ⟨⟨-, hu2, hu3⟩, hl2, hl3⟩ := hsm2
    have q1 : IntKind.i64.wrap (au + bu) = au + bu := IntWalk.i64_in _ (by omega)
    have q2 : IntKind.i64.wrap (ao + bo) = ao + bo := IntWalk.i64_in _ (by omega)
    have HSH := Lib.hid hsh
    have HN1 := Lib.hid hn1
    have HN2 := Lib.hid hn2
    clear hsh hn1 hn2
    go_enter Try.func13, Try.ntmps13
    have b1 : Hid (∀ W' : World, Keep None W W' → W'.cell? ⟨w.heap.size, 2, none⟩ = some (.int .i64 au) ∧ W'.cell? ⟨w.heap.size, 3, none⟩ = some (.int .i64 ao) ∧ W'.cell? ⟨w.heap.size + 1, 2, none⟩ = some (.int .i64 bu) ∧ W'.cell? ⟨w.heap.size + 1, 3, none⟩ = some (.int .i64 bo) ∧ W'.cell? ⟨w.heap.size, 0, none⟩ = some (.slice p ab.length c) ∧ W'.cell? ⟨w.heap.size + 1, 0, none⟩ = some (.slice p' bb.length c') ∧ W'.cell? ⟨w.heap.size, 1, none⟩ = some (.slice q al.length d) ∧ W'.cell? ⟨w.heap.size + 1, 1, none⟩ = some (.slice q' bl.length d')) := Lib.hid (fun W' hk => by
      have h1 := hk.obj O1.out id
      have h2 := hk.obj O2.out id
      simp [World.cell?, h1, h2])
    go_wp2_with (first
      | ((with_reducible (show wpList _ _ _ (⟨some 12, .load 40 (.tmp 2), _, _, _, _⟩ :: _) _ _)); (try rw [HWE.out]); refine wpList_loadEl (enc := listEnc) (size := 4) rfl 40 _ rfl _ _ rfl _ _ (LA.out _ (Keep.refl _ _)) rfl Try.underlying40 rfl Try.sizeHits (.agg #[.slice p ab.length c, .slice q al.length d, .int .i64 au, .int .i64 ao]) rfl ?_)
      | ((with_reducible (show wpList _ _ _ (⟨some 13, .load 40 (.tmp 3), _, _, _, _⟩ :: _) _ _)); (try rw [HWE.out]); refine wpList_loadEl (enc := listEnc) (size := 4) rfl 40 _ rfl _ _ rfl _ _ (LB.out _ (Keep.refl _ _)) rfl Try.underlying40 rfl Try.sizeHits (.agg #[.slice p' bb.length c', .slice q' bl.length d', .int .i64 bu, .int .i64 bo]) rfl ?_)
      | (go_at_call 33; refine (sameShape_calls ok ok' p q p' q' c d c' d' ⟨ab, al, au, ao⟩ ⟨bb, bl, bu, bo⟩ W HA.out HB.out).mono ?_; rintro e w1 ⟨rfl, hk1⟩; rw [show decide (lens (Hits.mk ab al au ao).blocks = lens (Hits.mk bb bl bu bo).blocks) = _ from HSH.out]; have HK1 := Lib.hid hk1; clear hk1)
      | ((with_reducible (show wpList _ _ _ (⟨some 17, .load 40 (.tmp 2), _, _, _, _⟩ :: _) _ _)); (try rw [HWE.out]); refine wpList_loadEl (enc := listEnc) (size := 4) rfl 40 _ rfl _ _ rfl _ _ (LA.out _ HK1.out) rfl Try.underlying40 rfl Try.sizeHits (.agg #[.slice p ab.length c, .slice q al.length d, .int .i64 au, .int .i64 ao]) rfl ?_)
      | (go_at_call 34; refine (right_calls ok' p' q' c' d' ⟨bb, bl, bu, bo⟩ w2 (HB.out.still HK2.out)).mono ?_; rintro e w3 ⟨rfl, hk3⟩; rw [HN2.out]; have HK3 := Lib.hid (HK2.out.trans hk3); clear hk3; obtain ⟨e1, e2, e3, e4, -, -, -, -⟩ := b1.out _ HK3.out; have HS3 : Hid (w.heap.size + 3 ≤ w3.heap.size) := Lib.hid (hsW ▸ HK3.out.size))
      | (go_at_call 34; refine (right_calls ok p q c d ⟨ab, al, au, ao⟩ w1 (HA.out.still HK1.out)).mono ?_; rintro e w2 ⟨rfl, hk2⟩; rw [HN1.out]; have HK2 := Lib.hid (HK1.out.trans hk2); clear hk2)
      | ((with_reducible (show wpList _ _ _ (⟨some 21, .load 40 (.tmp 3), _, _, _, _⟩ :: _) _ _)); (try rw [HWE.out]); refine wpList_loadElG (enc := listEnc) (size := 4) rfl 40 _ rfl _ _ rfl _ _ (LB.out _ HK2.out) rfl Try.underlying40 rfl Try.sizeHits (.agg #[.slice p' bb.length c', .slice q' bl.length d', .int .i64 bu, .int .i64 bo]) rfl ?_)
      | ((with_reducible (show wpList _ _ _ (⟨_, .store 40 (.tmp 6) _, _, _, _, none⟩ :: _) _ _)); (refine wpList_storeObj rfl 40 _ _ rfl w3.heap.size rfl [.slice none 0 0, .slice none 0 0, .int .i64 0, .int .i64 0] [.slice none 0 0, .slice none 0 0, .int .i64 (au + bu), .int .i64 (ao + bo)] rfl _ (by simp) (heap_alloc_new _ _) 4 Try.sizeHits rfl (by simp [Value.oneCell']) ?_); intro w4 hres hk4 hs4; have HRES := Lib.hid hres; have HK4 := Lib.hid (((Keep.refl None _).alloc _).andThen hk4 (by intro k h1 h2; omega)); have HS4 : Hid (w3.heap.size < w4.heap.size) := Lib.hid (heap_lt hres); clear hres hk4 hs4))
    clear e1 e2 e3 e4
    go_loopw [7] (AddInv w3.heap.size ab bb (au + bu) (ao + bo) w4) (fun i _ => ab.length - (intOf i).toNat)
    case atStart => exact ⟨0, none, 0, rfl, by omega, HRES.out, by simpa using OwnRows.nil _ _, Keep.refl _ _⟩
    case round =>
      obtain ⟨k, pv, cv, rfl, hk, hbox, hrows, hkp⟩ := hrel
      obtain ⟨wo, rfl⟩ : ∃ wo : World, wo = wr := ⟨_, rfl⟩
      have HBO := Lib.hid hbox
      have HRW := Lib.hid hrows
      have HKW : Hid (Keep None W wo) := Lib.hid ((HK3.out.trans HK4.out).andThen hkp (fun k h1 h2 => by have h3 : w3.heap.size ≤ k := h2; have := HS3.out; omega))
      have HKP := Lib.hid hkp
      have hBo : w3.heap.size < wo.heap.size := heap_lt hbox
      clear hbox hrows hkp
      obtain ⟨-, -, -, -, e5, -, -, -⟩ := b1.out _ HKW.out
      by_cases hlt : k < ab.length
      · obtain ⟨ra, hra⟩ : ∃ ra, ab[k]? = some ra := ⟨ab[k], by simp [hlt]⟩
        obtain ⟨rb, hrb, hlen⟩ := lens_at HSH.out hra
        have hnr := HA.out.nr ra (List.mem_of_getElem? hra)
        have hkb : k < bb.length := (List.getElem?_eq_some_iff.1 hrb).1
        obtain ⟨oa, fa, rfl, qa, ca, g1, hsa⟩ := (HA.out.still HKW.out).rows.at hra
        obtain ⟨ob, fb, rfl, qb, cb, g2, hsb⟩ := (HB.out.still HKW.out).rows.at hrb
        have HRA := Lib.hid hra
        have HRB := Lib.hid hrb
        have HSA := Lib.hid hsa
        have HSB := Lib.hid hsb
        have HLEN := Lib.hid hlen
        clear hra hrb hsa hsb hlen
        go_wp2_with (refine wpList_makeBig (enc := intEnc) _ rfl _ _ 25 rfl 3 i1 (.int .i64 0) 8 Try.underlying25 hi1 hy0 hy1 hy2 (0 : Int) intEnc_len rfl (by omega) .i64 .i64 _ _ ra.length rfl rfl rfl rfl (by omega) (by omega) ?_; intro w5 harr hk5 hs5; have HO5 := Lib.hid harr; have HK5 := Lib.hid hk5; have HS5 := Lib.hid hs5; clear harr hk5 hs5)
        have G1 := Lib.hid g1
        have G2 := Lib.hid g2
        clear g1 g2 e5
        go_loopw [9] (ZerosInv wo.heap.size ra rb w5) (fun i _ => ra.length - (intOf i).toNat)
        case atStart => exact ⟨0, rfl, by omega, by rw [zeros_zero]; exact HO5.out, Keep.refl _ _⟩
        case round =>
          obtain ⟨j, rfl, hj, hown, hkp⟩ := hrel
          have HO := Lib.hid hown
          have HKI := Lib.hid hkp
          have HKR : Hid (Keep None wo wr) := Lib.hid (HK5.out.andThen hkp (fun k h1 h2 => by have h3 : k = wo.heap.size := h2; omega))
          clear hown hkp
          have hml := zeros_len HLEN.out hj
          by_cases hjl : j < ra.length
          · obtain ⟨x, hx⟩ : ∃ x, ra[j]? = some x := ⟨ra[j], by simp [hjl]⟩
            obtain ⟨y, hy⟩ : ∃ y, rb[j]? = some y := ⟨rb[j]'(by have := HLEN.out; omega), by simp⟩
            obtain ⟨hx0, hx1⟩ := small_at HN1.out HRA.out hx
            obtain ⟨hy0', hy1'⟩ := small_at HN2.out HRB.out hy
            have HMS := Lib.hid (zeros_step HLEN.out hx hy)
            have HMA := Lib.hid (zeros_at HLEN.out hjl)
            have hjb : j < rb.length := by have := HLEN.out; omega
            obtain ⟨ba, xa, rfl, hs1⟩ : ∃ b2 o2, qa = some ⟨b2, o2, none⟩ ∧ wr.cell? ⟨b2, o2 + j, none⟩ = some (.int .i64 x) := by
              rcases HSA.out.still' HKR.out with h | ⟨b2, o2, he, h⟩
              · subst h; simp at hx
              · exact ⟨b2, o2, he, h.int hx⟩
            obtain ⟨b2, o2, rfl, hs3⟩ : ∃ b2 o2, qb = some ⟨b2, o2, none⟩ ∧ wr.cell? ⟨b2, o2 + j, none⟩ = some (.int .i64 y) := by
              rcases HSB.out.still' HKR.out with h | ⟨b2, o2, he, h⟩
              · subst h; simp at hy
              · exact ⟨b2, o2, he, h.int hy⟩
            have g1 := HKR.out.cell G1.out id
            have g2 := HKR.out.cell G2.out id
            obtain ⟨-, -, -, -, e5, e6, -, -⟩ := b1.out _ (HKW.out.trans HKR.out)
            have q3 : IntKind.i64.wrap (x + y) = x + y := IntWalk.i64_in _ (by omega)
            have hd1' : wr.cell? ⟨wo.heap.size, j, none⟩ = some (.int .i64 0) := by
              have := (HO.out.slAt intEnc_len).int HMA.out
              simpa using this
            have hd2' : wr.frozen? ⟨wo.heap.size, j, none⟩ = false := by
              have h : wr.heap[wo.heap.size]? = some _ := HO.out
              simp [World.frozen?, h]
            clear hx hy
            go_wp2_with (fail)
            refine region_tail 19 (by kernel_rfl) (by kernel_rfl) ?_
            simp only [List.take_succ_cons, List.take_zero, List.drop_succ_cons, List.drop_zero]
            have hd1 : (World.drew wr).cell? ⟨wo.heap.size, j, none⟩ = some (.int .i64 0) := hd1'
            have hd2 : (World.drew wr).frozen? ⟨wo.heap.size, j, none⟩ = false := hd2'
            clear hd1' hd2'
            repeat still_step
            refine wpStill_nil ?_
            clear hs1 hs3 g1 g2 e5 e6
            go_wp2_with (fail)
            go_roundw
            case rel =>
              have hset := (HO.out.setField intEnc_len HMA.out (j := 0) (by omega) (v := .int .i64 (x + y)) (c := x + y) rfl).keep (Keep.refl None _).drew id
              rw [HMS.out] at hset
              refine ⟨j + 1, by go_num, by omega, by simpa using hset, HKI.out.trans ?_⟩
              exact ((Keep.refl (· = wo.heap.size) wr).setCell (p := ⟨wo.heap.size, j, none⟩) (.inl rfl) _).drew
            case measure => simp [intOf]; omega
          · have hje : j = ra.length := by omega
            subst hje
            have hO' : Arr intEnc 3 wr wo.heap.size (addRow ra rb) := by rw [← zeros_end HLEN.out]; exact HO.out
            have hal := addRow_len HLEN.out
            have hOs : Own intEnc 1 3 wo.heap.size wr (.slice (some ⟨wo.heap.size, 0, none⟩) ra.length ra.length) (addRow ra rb) := by
              have := Own.ofArr intEnc_len hO' (Nat.le_refl _) (by omega)
              rwa [hal] at this
            have HSUM := Lib.hid hOs
            have HBR := Lib.hid (HKR.out.obj HBO.out id)
            have hc6 : wr.cell? ⟨w3.heap.size, 0, none⟩ = some (.slice pv k cv) := by simp [World.cell?, HBR.out]
            obtain ⟨vals, ho, hvl, hvr⟩ := HRW.out.keep HKR.out (fun _ _ => id)
            have hkv : vals.length = k := by rw [hvl]; simp [addRows, List.length_zipWith]; omega
            have hO6 : Own valEnc 1 25 (w3.heap.size + 1) wr (.slice pv vals.length cv) vals := by rw [hkv]; exact ho
            have HO6 := Lib.hid hO6
            have HVR := Lib.hid hvr
            have HVL := Lib.hid hvl
            have hwo : wo.heap.size ≤ wr.heap.size := HKR.out.size
            have HNB : Hid (¬ ((Value.slice pv vals.length cv).ownBlock = some w3.heap.size)) := Lib.hid (fun h => by have := (World.ownsRow.lt HO6 _ h).1; omega)
            clear hO' ho hO6 hvr hvl hal hOs
            subst hkv
            go_wp2_with (at_builtin; go_loud (refine wpList_pushAt rfl _ _ 37 rfl (w3.heap.size + 1) _ i4 _ 24 Try.underlying37 hi4 hz0 hz1 hz2 rfl (by decide) valEnc_len (.slice pv vals.length cv) vals rfl (HO6.out.keep (S := None) ((Keep.refl _ _).alloc _) (fun _ _ => id)) (.slice (some ⟨wo.heap.size, 0, none⟩) ra.length ra.length) wr.heap.size _ rfl _ (heap_alloc_new _ _) rfl rfl (by simp [Value.oneCell']) (by omega) (by omega) (Nat.le_trans (by omega) ((Keep.refl None _).alloc _).size) ?_; intro p7 c7 w7 hown7 hk7 hk7' hb7; have HO7 := Lib.hid hown7; have HK7 := Lib.hid (show Keep (fun k => (Value.slice pv vals.length cv).ownBlock = some k) _ w7 from ⟨hk7.os, hk7.tape, hk7.output, hk7.size, fun k hk hs => hk7' k (fun e => hs e.symm) hk⟩); have HB7 := Lib.hid hb7; have hx7 := HK7.out.obj (((Keep.refl None wr).alloc _).obj HBR.out id) HNB.out; have k71 : w7.cell? ⟨w3.heap.size, 0, none⟩ = some (.slice pv vals.length cv) := cell_of_row w7 _ 0 _ _ _ hx7; have k72 : w7.frozen? ⟨w3.heap.size, 0, none⟩ = false := (by unfold World.frozen?; rw [hx7]; rfl); have HX7 := Lib.hid hx7; clear hown7 hk7 hk7' hb7 hx7))
            go_roundw
            case rel =>
              have hpush := OwnRows.push (W := (wr.alloc (.cells #[.slice (some ⟨wo.heap.size, 0, none⟩) ra.length ra.length] 25)).heap.size) HVL.out HVR.out (q := some ⟨wo.heap.size, 0, none⟩) (row := addRow ra rb) (c := ra.length) (RowIn.ofOwn HSUM.out (by omega) (fun b hb => by have := (World.ownsRow.lt HRW.out.choose_spec.1 b hb).2; omega)) (((Keep.refl _ wr).alloc _).trans HK7.out) (by rw [addRow_len HLEN.out]; exact HO7.out) HB7.out ((Keep.refl None wr).alloc _).size
              have hob7 : ∀ k, (Value.slice pv vals.length cv).ownBlock = some k → w3.heap.size + 1 ≤ k := fun k hk => (World.ownsRow.lt HO6.out k hk).1
              have hk67 : Keep (w3.heap.size ≤ ·) wr w7 := (((Keep.refl _ wr).alloc _).trans HK7.out).weaken (fun k _ hs => by have := hob7 k hs; show w3.heap.size ≤ k; omega)
              refine ⟨vals.length + 1, p7, c7, by go_num, by omega, by simpa using heap_setCell (j := 0) (v := .slice p7 (vals.length + 1) c7) HX7.out, ?_, ?_⟩
              · rw [addRows_take HRA.out HRB.out]
                exact hpush.keep (S := (· = w3.heap.size)) ((Keep.refl (· = w3.heap.size) w7).setCell (p := ⟨w3.heap.size, 0, none⟩) (.inl rfl) _) (fun b h1 h2 => by have : b = w3.heap.size := h2; omega)
              · exact (HKP.out.trans ((HKR.out.weaken (fun _ _ q => q.elim)).trans hk67)).setCell (p := ⟨w3.heap.size, 0, none⟩) (.inl (Nat.le_refl _)) _
            case measure => simp [intOf]; omega
      · have hke : k = ab.length := by omega
        subst hke
        have hlab : (addRows ab bb).length = ab.length := by
          have he : lens ab = lens bb := by simpa using HSH.out
          have := congrArg List.length he
          simp [lens] at this
          simp [addRows]; omega
        have HLAB := Lib.hid hlab
        have HRV := Lib.hid (show RowsV (fun b => w3.heap.size + 1 ≤ b ∧ b < wo.heap.size) wo pv (addRows ab bb) from by
          have := HRW.out.rowsV2
          rwa [List.take_of_length_le (by omega)] at this)
        have hnl := HA.out.nl
        have hnl' := HB.out.nl
        simp only at hnl hnl'
        obtain ⟨i3, hi3, hx0, hx1, hx2⟩ := info_parts Try.infoLk
        clear hlab e5
        have e5 := (b1.out _ HKW.out).2.2.2.2.1
        go_wp2_with (fail)
        clear e5
        have hdr : Keep None wo wo.drew := (Keep.refl _ _).drew
        refine region_kinds_tail None [.is (.pointer (some ⟨w.heap.size, 1, none⟩)), .is (.slice q al.length d), .sat (CopyMade wo.heap.size al) (copyMade_keep _ _), .is (.pointer (some ⟨w.heap.size + 1, 1, none⟩)), .is (.slice q' bl.length d'), .any, .any]
          (fun w' => Keep None wo w') 114 5 (by kernel_rfl) (by decide) (by kernel_rfl) (by kernel_rfl) (by kernel_rfl) rfl (by kernel_rfl) hdr ?_ ?_
        · refine ⟨?_, ?_, ?_, ?_, ?_, trivial⟩
          · exact st_fieldF 2 40 1 _ _ rfl rfl rfl (by intro w; go_simp) rfl
          · exact st_loadV 0 83 38 _ _ rfl rfl rfl rfl (by intro w' hk'; have := (b1.out _ (HKW.out.trans hk')).2.2.2.2.2.2.1; go_simp) rfl
          · intro a w1' K hI hV hF hK
            have h1 : a.eval (.tmp 84) = .slice q al.length d := tells hV 1 84 rfl rfl
            refine wp_appendAll (enc := Lk.enc) (.const (.slice none 0 0)) (.tmp 84) 38 rfl wo.heap.size _ i3 _ 32 Try.underlying38 hi3 hx0 hx1 hx2 rfl (by decide) Lk.enc_len (.slice none 0 0) ([] : List Lk) rfl (Own.nil _ _ _ _ _) q al d h1 ((HA.out.still (HKW.out.trans hI)).links) Lk.one (by simp; omega) (by simp; omega) hI.size ?_
            intro p5 c5 w5 hown5 hk5 _
            have hk5' : Keep None w1' w5 := hk5.weaken (fun k _ h => by simp [Value.ownBlock] at h)
            refine hK _ _ (hI.trans hk5') hk5' ⟨p5, c5, by simp, by simpa using hown5⟩
          · exact st_fieldF 3 40 1 _ _ rfl rfl rfl (by intro w; go_simp) rfl
          · exact st_loadV 3 86 38 _ _ rfl rfl rfl rfl (by intro w' hk'; have := (b1.out _ (HKW.out.trans hk')).2.2.2.2.2.2.2; go_simp) rfl
        · intro f wk hkinds hI
          have k0 : f 83 = .pointer (some ⟨w.heap.size, 1, none⟩) := hkinds 0 _ 83 (by omega) rfl rfl
          have k1 : f 84 = .slice q al.length d := hkinds 1 _ 84 (by omega) rfl rfl
          obtain ⟨p5, c5, k2, hown5⟩ : CopyMade wo.heap.size al wk (f 85) := hkinds 2 _ 85 (by omega) rfl rfl
          have k3 : f 86 = .pointer (some ⟨w.heap.size + 1, 1, none⟩) := hkinds 3 _ 86 (by omega) rfl rfl
          have k4 : f 87 = .slice q' bl.length d' := hkinds 4 _ 87 (by omega) rfl rfl
          simp only [putsOf, Act.put, List.take_succ_cons, List.take_zero, List.drop_succ_cons, List.drop_zero, List.setIfInBounds_toArray, List.set_cons_zero, List.set_cons_succ, k0, k1, k2, k3, k4]
          clear k0 k1 k2 k3 k4 hkinds
          have HO5 := Lib.hid hown5
          have HI := Lib.hid hI
          clear hown5 hI hdr
          go_wp2_with (at_builtin; go_loud (refine wpList_appendAll (enc := Lk.enc) rfl _ _ 38 rfl wo.heap.size _ i3 _ 32 Try.underlying38 hi3 hx0 hx1 hx2 rfl (by decide) Lk.enc_len (.slice p5 al.length c5) al rfl HO5.out q' bl d' rfl ((HB.out.still (HKW.out.trans HI.out)).links) Lk.one (by omega) (by omega) HI.out.size ?_; intro px cx w5 hown6 hk6 hb6; have HO6 := Lib.hid hown6; have HK6 := Lib.hid hk6; clear hown6 hk6 hb6))
          have HK5 : Hid (Keep None wo w5) := Lib.hid (HI.out.andThen HK6.out (fun k h1 h2 => by have := (World.ownsRow.lt HO5.out k h2).1; omega))
          have HXL := Lib.hid (show (al ++ bl).length = al.length + bl.length from by simp)
          have hNX : ∀ x ∈ al ++ bl, 0 ≤ x.count ∧ x.count ≤ 1099511627776 := (fun x hx => by
            have h1 := HN1.out
            have h2 := HN2.out
            simp only [allB, Bool.and_eq_true] at h1 h2
            rcases List.mem_append.1 hx with h | h
            · simpa [smallB] using List.all_eq_true.1 h1.1.1.2 x h
            · simpa [smallB] using List.all_eq_true.1 h2.1.1.2 x h)
          have HNX := Lib.hid hNX
          have HL5 : Hid (SliceV Lk.enc 4 w5 px (al ++ bl) ∧ ∀ g o, px = some ⟨g, o, none⟩ → wo.heap.size ≤ g) := Lib.hid (by
            have ho := HO6.out
            rw [← HXL.out] at ho
            obtain ⟨p', c', he, _, _, hsl, hfr⟩ := ho.slice Lk.enc_len
            cases he
            exact ⟨hsl, fun g o h => by have := hfr _ h; simp at this; omega⟩)
          have hNL : wo.heap.size ≤ w5.heap.size := HK5.out.size
          have HB5 := Lib.hid (HK5.out.obj HBO.out id)
          have HR5 := Lib.hid ((HRV.out.keep HK5.out (fun _ _ => id)).weaken (ok' := fun b => w3.heap.size + 1 ≤ b ∧ b < w5.heap.size) (fun b hb => ⟨hb.1, by omega⟩))
          have HKW5 := Lib.hid (HKW.out.trans HK5.out)
          clear hNX HO6 HO5 HK6 HI
          go_loopw [11] (LinkInvR w3.heap.size w5.heap.size (al ++ bl) pv cv ab.length (addRows ab bb) (au + bu) (ao + bo) w5) (fun i _ => (al ++ bl).length - (intOf i).toNat)
          case atStart => exact ⟨0, none, 0, [], rfl, by omega, by simp, HB5.out, Own.nil _ _ _ _ _, Keep.refl _ _⟩
          case round =>
            obtain ⟨k, pl, cl, done, rfl, hk, hdone, hbox, hown, hkp⟩ := hrel
            have HBX := Lib.hid hbox
            have HOL := Lib.hid hown
            have HKL := Lib.hid hkp
            have hwr : w5.heap.size ≤ wr.heap.size := hkp.size
            have hBw : w3.heap.size < wr.heap.size := heap_lt hbox
            rw [HXL.out] at hk
            clear hbox hown hkp
            obtain ⟨-, hco, hln⟩ := addLinksR_ok ((al ++ bl).take k) (fun x hx => (HNX.out x (List.mem_of_mem_take hx)).2) (by simp; omega)
            rw [← hdone] at hco hln
            have HDN := Lib.hid hdone
            have HCO := Lib.hid hco
            clear hco hdone
            by_cases hlt2 : k < al.length + bl.length
            · obtain ⟨x, hx⟩ : ∃ x, (al ++ bl)[k]? = some x := ⟨(al ++ bl)[k]'(by simp; omega), by simp⟩
              obtain ⟨hy0', hy1'⟩ := HNX.out x (List.mem_of_getElem? hx)
              have HT := Lib.hid (linksR_take hx)
              obtain ⟨x0, x1, x2, x3⟩ := x
              obtain ⟨g, o, rfl, hsl⟩ : ∃ g o, px = some ⟨g, o, none⟩ ∧ wr.rangeAt g (o + k * 4) (Lk.enc ⟨x0, x1, x2, x3⟩) := by
                rcases HL5.out.1 with h | ⟨g, o, he, h⟩
                · rw [h] at hx; simp at hx
                · have hg := HL5.out.2 g o he
                  exact ⟨g, o, he, (h.keep HKL.out (by show ¬ (w3.heap.size = g); omega)).range hx⟩
              have m0 : wr.cell? ⟨g, o + k * 4, none⟩ = some (.int .i64 x0) := hsl 0 _ rfl
              have m1 : wr.cell? ⟨g, o + k * 4 + 1, none⟩ = some (.int .i64 x1) := hsl 1 _ rfl
              have m2 : wr.cell? ⟨g, o + k * 4 + 2, none⟩ = some (.int .i64 x2) := hsl 2 _ rfl
              have m3 : wr.cell? ⟨g, o + k * 4 + 3, none⟩ = some (.int .i64 x3) := hsl 3 _ rfl
              clear hx hsl
              simp only at hy0' hy1'
              have hlt3 : (k : Int) < (al.length : Int) + (bl.length : Int) := by omega
              by_cases hp : 0 < x3
              · have hc61 : wr.cell? ⟨w3.heap.size, 1, none⟩ = some (.slice pl done.length cl) := cell_of_row _ _ 1 _ _ _ HBX.out
                have HSD : Hid (SliceV Lk.enc 4 wr.drew pl done) := Lib.hid (by
                  obtain ⟨p', c', he, _, _, hsl, hfr⟩ := HOL.out.slice Lk.enc_len
                  cases he
                  exact hsl.keep ((Keep.refl None wr).drew) (fun _ _ => id))
                go_wp2_with (fail)
                refine region_tail 6 (by kernel_rfl) (by kernel_rfl) ?_
                simp only [List.take_succ_cons, List.take_zero, List.drop_succ_cons, List.drop_zero]
                repeat still_step
                refine wpStill_nil ?_
                clear m0 m1 m2 m3 hc61
                go_wp2_with (go_at_call 35; (refine (with_calls pl done cl x0 x1 x2 x3 _ HSD.out (by omega) HCO.out (by omega) (by omega)).mono ?_; rintro e w7 ⟨p7, c7, rfl, hown7, hk7⟩; have hx7 := hk7.obj (((Keep.refl None wr).drew).obj HBX.out id) id; have k71 : w7.cell? ⟨w3.heap.size, 1, none⟩ = some (.slice pl done.length cl) := cell_of_row _ _ 1 _ _ _ hx7; have k72 : w7.frozen? ⟨w3.heap.size, 1, none⟩ = false := (by unfold World.frozen?; rw [hx7]; rfl); have HX7 := Lib.hid hx7; have HO7 := Lib.hid (hown7.lower (base' := w5.heap.size) (Nat.le_trans hwr ((Keep.refl None wr).drew).size)); have HK7 := Lib.hid (((Keep.refl None wr).drew).trans hk7); clear hx7 hown7 hk7))
                go_roundw
                case rel =>
                  have hst := (Keep.refl (w3.heap.size = ·) w7).setCell (p := ⟨w3.heap.size, 1, none⟩) (.inl rfl) (.slice p7 (withL done ⟨x0, x1, x2, x3⟩).length c7)
                  refine ⟨k + 1, p7, c7, withL done ⟨x0, x1, x2, x3⟩, by go_num, by rw [HXL.out]; omega, by rw [HT.out, ← HDN.out]; simp [addLinkR, hp], by simpa using heap_setCell (j := 1) (v := .slice p7 (withL done ⟨x0, x1, x2, x3⟩).length c7) HX7.out, ?_, ?_⟩
                  · exact HO7.out.keepOld hst (fun g hg => by have : w3.heap.size = g := hg; omega)
                  · exact (HKL.out.trans (HK7.out.weaken (fun _ _ q => q.elim))).trans hst
                case measure => simp [intOf]; omega
              · clear m0 m1 m2
                go_wp2_with (fail)
                go_roundw
                case rel => exact ⟨k + 1, pl, cl, done, by go_num, by rw [HXL.out]; omega, by rw [HT.out, ← HDN.out]; simp [addLinkR, hp], HBX.out, HOL.out, HKL.out⟩
                case measure => simp [intOf]; omega
            · have hke : k = al.length + bl.length := by omega
              have hfull : done = ((al ++ bl).foldl addLink []).map cap := by
                have h1 := HDN.out
                rw [hke, List.take_of_length_le (by simp)] at h1
                rw [h1]
                exact addLinks_cap _ [] (fun x hx => (HNX.out x hx).2)
              have hRR : allB smallB ⟨addRows ab bb, done, au + bu, ao + bo⟩ = allB smallB (addH ⟨ab, al, au, ao⟩ ⟨bb, bl, bu, bo⟩) := by
                rw [hfull, all_addRef]; rfl
              have HFULL := Lib.hid hfull
              have HKE : Hid (Keep None W wr) := Lib.hid (HKW5.out.andThen HKL.out (fun b h1 h2 => by have h3 := HS3.out; have h4 : w3.heap.size = b := h2; omega))
              have HH : Hid (HitsAt (fun b => w3.heap.size + 1 ≤ b) wr pv pl ⟨addRows ab bb, done, au + bu, ao + bo⟩) := Lib.hid (by
                obtain ⟨p', c', he, _, _, hsl, hfr⟩ := HOL.out.slice Lk.enc_len
                cases he
                refine ⟨(HR5.out.keep HKL.out (fun b hb h => by have : w3.heap.size = b := h; omega)).weaken (fun b hb => hb.1), hsl, .inr (fun a ha => by have := hfr a ha; omega), by show (addRows ab bb).length ≤ 100; rw [HLAB.out]; exact nb, ?_, hln⟩
                intro row hrow
                obtain ⟨i, hi⟩ := List.mem_iff_getElem?.1 hrow
                simp only [addRows, List.getElem?_zipWith] at hi
                cases ha : ab[i]? with
                | none => simp [ha] at hi
                | some ra =>
                  cases hb : bb[i]? with
                  | none => simp [ha, hb] at hi
                  | some rb =>
                    simp [ha, hb] at hi
                    subst hi
                    have := HA.out.nr ra (List.mem_of_getElem? ha)
                    simp [addRow]; omega)
              have HNC : Hid _ := Lib.hid (right_calls _ pv pl cv cl ⟨addRows ab bb, done, au + bu, ao + bo⟩ wr HH.out)
              simp only [hitsVal, HLAB.out] at HNC
              clear hfull
              cases hn3 : allB smallB ⟨addRows ab bb, done, au + bu, ao + bo⟩ with
              | false =>
                have HR := Lib.hid (add_err3 (a := ⟨ab, al, au, ao⟩) (b := ⟨bb, bl, bu, bo⟩) HSH.out (by simp [addOk, HN1.out, HN2.out]) (by rw [← hRR]; exact hn3))
                have HN3 := Lib.hid hn3
                clear hn3 hRR hke
                go_wp2_with (first
                  | ((with_reducible (show wpList _ _ _ (⟨some 109, .load 40 (.tmp 6), _, _, _, none⟩ :: _) _ _)); refine wpList_loadEl (enc := listEnc) (size := 4) rfl 40 _ rfl w3.heap.size 0 rfl [.slice pv ab.length cv, .slice pl done.length cl, .int .i64 (au + bu), .int .i64 (ao + bo)] _ (range_of_obj HBX.out) rfl Try.underlying40 rfl Try.sizeHits (.agg #[.slice pv ab.length cv, .slice pl done.length cl, .int .i64 (au + bu), .int .i64 (ao + bo)]) rfl ?_)
                  | (go_at_call 34; refine HNC.out.mono ?_; rintro e w7 ⟨rfl, hk7⟩; rw [HN3.out]; have HB6 := Lib.hid (hk7.obj HBX.out id); have HO6 := Lib.hid ((HKE.out.trans hk7).obj O3.out id); have HK7 := Lib.hid hk7; clear hk7)
                  | ((with_reducible (show wpList _ _ _ (⟨_, .store 40 (.tmp 4) _, _, _, _, none⟩ :: _) _ _)); (refine wpList_storeObj rfl 40 _ _ rfl _ rfl [.slice none 0 0, .slice none 0 0, .int .i64 0, .int .i64 0] [.slice none 0 0, .slice none 0 0, .int .i64 0, .int .i64 0] rfl _ (by simp) HO6.out 4 Try.sizeHits rfl (by simp [Value.oneCell']) ?_); intro w8 hres hk8 hs8; have HRES2 := Lib.hid hres; have HK8 := Lib.hid hk8; clear hres hk8 hs8))
                refine bodyPost_ret (results_obj_tmp rfl rfl _ _ (range_of_obj HRES2.out) Try.underlying40 rfl 4 Try.sizeHits rfl) rfl ?_
                show AddPost _ _ _ _ _
                unfold AddPost
                rw [HR.out]
                refine ⟨none, 0, none, 0, rfl, zero_at _ _, ?_⟩
                exact (HK.out.trans (HKE.out.trans HK7.out)).andThen HK8.out (by intro k h1 h2; omega)
              | true =>
                have hR : addH ⟨ab, al, au, ao⟩ ⟨bb, bl, bu, bo⟩ = ⟨addRows ab bb, done, au + bu, ao + bo⟩ := by
                  have h1 : allB smallB (addH ⟨ab, al, au, ao⟩ ⟨bb, bl, bu, bo⟩) = true := by rw [← hRR]; exact hn3
                  have h2 : done = (al ++ bl).foldl addLink [] := by
                    rw [HFULL.out]
                    refine cap_id ?_
                    simp only [allB, Bool.and_eq_true, addH] at h1
                    exact h1.1.1.2
                  rw [h2]; rfl
                have HR := Lib.hid (add_fine (a := ⟨ab, al, au, ao⟩) (b := ⟨bb, bl, bu, bo⟩) HSH.out (by simp [addOk, HN1.out, HN2.out]) (by rw [hR]; exact hn3))
                rw [hR] at HR
                have HN3 := Lib.hid hn3
                clear hn3 hR hRR hke
                go_wp2_with (first
                  | ((with_reducible (show wpList _ _ _ (⟨some 113, .load 40 (.tmp 6), _, _, _, none⟩ :: _) _ _)); refine wpList_loadEl (enc := listEnc) (size := 4) rfl 40 _ rfl w3.heap.size 0 rfl [.slice pv ab.length cv, .slice pl done.length cl, .int .i64 (au + bu), .int .i64 (ao + bo)] _ (range_of_obj HB6.out) rfl Try.underlying40 rfl Try.sizeHits (.agg #[.slice pv ab.length cv, .slice pl done.length cl, .int .i64 (au + bu), .int .i64 (ao + bo)]) rfl ?_)
                  | ((with_reducible (show wpList _ _ _ (⟨some 109, .load 40 (.tmp 6), _, _, _, none⟩ :: _) _ _)); refine wpList_loadEl (enc := listEnc) (size := 4) rfl 40 _ rfl w3.heap.size 0 rfl [.slice pv ab.length cv, .slice pl done.length cl, .int .i64 (au + bu), .int .i64 (ao + bo)] _ (range_of_obj HBX.out) rfl Try.underlying40 rfl Try.sizeHits (.agg #[.slice pv ab.length cv, .slice pl done.length cl, .int .i64 (au + bu), .int .i64 (ao + bo)]) rfl ?_)
                  | (go_at_call 34; refine HNC.out.mono ?_; rintro e w7 ⟨rfl, hk7⟩; rw [HN3.out]; have HB6 := Lib.hid (hk7.obj HBX.out id); have HO6 := Lib.hid ((HKE.out.trans hk7).obj O3.out id); have HK7 := Lib.hid hk7; clear hk7)
                  | ((with_reducible (show wpList _ _ _ (⟨_, .store 40 (.tmp 4) _, _, _, _, none⟩ :: _) _ _)); (refine wpList_storeObj rfl 40 _ _ rfl _ rfl [.slice none 0 0, .slice none 0 0, .int .i64 0, .int .i64 0] [.slice pv ab.length cv, .slice pl done.length cl, .int .i64 (au + bu), .int .i64 (ao + bo)] rfl _ (by simp) HO6.out 4 Try.sizeHits rfl (by simp [Value.oneCell']) ?_); intro w8 hres hk8 hs8; have HRES2 := Lib.hid hres; have HK8 := Lib.hid hk8; clear hres hk8 hs8))
                refine bodyPost_ret (results_obj_tmp rfl rfl _ _ (range_of_obj HRES2.out) Try.underlying40 rfl 4 Try.sizeHits rfl) rfl ?_
                show AddPost _ _ _ _ _
                unfold AddPost
                rw [HR.out]
                refine ⟨pv, cv, pl, cl, by simp only [hitsVal, HLAB.out]; rfl, ?_, ?_⟩
                · have hs3 := HS3.out
                  exact ((HH.out.still HK7.out).keep HK8.out (fun b h1 h2 => by have : b = w.heap.size + 1 + 1 := h2; omega)).weaken (fun b hb => by show w.heap.size ≤ b; omega)
                · exact (HK.out.trans (HKE.out.trans HK7.out)).andThen HK8.out (by intro k h1 h2; omega)

end Go.Proofs.Ytlhmajjmhkjcoaa
