/-
  Chapter 19: cache.use and paging.Touch: a number is used.
-/
import Derived.Test.YtpdnfekhfagfkaaPipA
import Derived.Test.YtpdnfekhfagfkaaIntsLib
import Derived.Test.YtpdnfekhfagfkaaInsI
import Derived.Test.YtpdnfekhfagfkaaAppendAll
import Derived.Test.YtpdnfekhfagfkaaShelfP
namespace Go.Proofs.Ytpdnfekhfagfkaa
open Go.RowKit PI

def OwnPost {α : Type} (enc : α → List Value) (size : Nat) (e : TypeId) (xs : List α) (w : World) (en : Ending) (w' : World) : Prop :=
  ∃ p' c', en = .returned (.slice p' xs.length c') ∧ Own enc size e w.heap.size w' (.slice p' xs.length c') xs ∧ Keep None w w'

theorem own_block {α : Type} {enc : α → List Value} {size : Nat} {e : TypeId} {base : Nat} {w : World} {v : Value} {xs : List α} (h : Own enc size e base w v xs) {T : Nat → Prop} (hT : ∀ k, base ≤ k → ¬ T k) : ∀ k, v.ownBlock = some k → ¬ T k :=
  fun k hk => hT k (World.ownsRow.lt h k hk).1

set_option maxRecDepth 100000 in
set_option maxHeartbeats 2000000 in
theorem clone_calls (p : Option Addr) (xs : List Int) (c : Nat) (w : World) (h : SliceV intEnc 1 w p xs) (hl : xs.length ≤ 17592186044416) :
    Calls Try.prog 33 #[.slice p xs.length c] w (OwnPost intEnc 1 3 xs w) := by
  obtain ⟨i2, hi2, hv0, hv1, hv2⟩ := info_parts Try.infoInt
  have hnil : ∀ (wx : World) (a : Option Addr) (n c' : Nat), (binOp .eql 40 (.slice a n c') (.slice none 0 0)).run Try.prog wx = .ok (.bool a.isNone) wx := fun wx a n c' => Lib.run_eql_slice_nil wx _ _ a n c' 0 0 Try.underlying40
  cases p with
  | none =>
    have hx : xs = [] := by
      rcases h with h | ⟨_, _, he, _⟩
      · exact h
      · cases he
    subst hx
    go_enter Try.func33, Try.ntmps33
    go_wp2
    go_ret
    exact ⟨none, 0, rfl, Own.nil _ _ _ _ _, Keep.refl _ _⟩
  | some ad =>
    have HS := Lib.hid h
    clear h
    go_enter Try.func33, Try.ntmps33
    go_wp2_with (at_builtin; go_loud (refine wpList_appendAll (enc := intEnc) rfl _ _ 40 rfl w.heap.size _ i2 _ 8 Try.underlying40 hi2 hv0 hv1 hv2 rfl (by decide) intEnc_len (.slice (some ⟨w.heap.size, 0, none⟩) 0 0) [] rfl (Own.ofArr (enc := intEnc) intEnc_len (xs := []) (g := w.heap.size) (show Arr intEnc 3 _ w.heap.size [] from heap_alloc_new _ _) (Nat.le_refl _) (by simp)) (some ad) xs c rfl (HS.out.keep (S := None) ((Keep.refl _ _).alloc _) (fun _ _ => id)) (by intro x u hu; simp [intEnc] at hu; subst hu; rfl) (by simp; omega) (by simp; omega) ((Keep.refl None w).alloc _).size ?_; intro p' c' w6 hown6 hk6 hd6; have HO6 := Lib.hid hown6; have HK6 := Lib.hid hk6; clear hown6 hk6 hd6))
    go_ret
    refine ⟨p', c', by simp, by simpa using HO6.out, ((Keep.refl _ _).alloc _).andThen HK6.out (by intro k hk hq; simp [Value.ownBlock] at hq; omega)⟩



theorem ints_flat (l : List Int) : l.flatMap intEnc = l.map (Value.int .i64) := by
  induction l with
  | nil => rfl
  | cons x l ih => rw [List.flatMap_cons, ih]; rfl
theorem getD_at {l : List Int} {j : Nat} (h : j < l.length) : l[j]? = some (l.getD j 0) := by
  rw [List.getD_eq_getElem?_getD, List.getElem?_eq_getElem h]; rfl

/-- A number is taken out. -/
theorem delete_calls (g : Nat) (l : List Int) (c i base : Nat) (w : World) (hown : Own intEnc 1 3 base w (.slice (some ⟨g, 0, none⟩) l.length c) l) (hi : i < l.length) :
    Calls Try.prog 34 #[.slice (some ⟨g, 0, none⟩) l.length c, .int .i64 (i : Int), .int .i64 ((i : Int) + 1)] w fun e w' =>
      e = .returned (.slice (some ⟨g, 0, none⟩) (l.eraseIdx i).length c) ∧ Own intEnc 1 3 base w' (.slice (some ⟨g, 0, none⟩) (l.eraseIdx i).length c) (l.eraseIdx i) ∧ Keep (· = g) w w' := by
  obtain ⟨-, hcap, hm, hsl, -⟩ := hown.reads intEnc_len
  rcases hown.2 with ⟨h0, -⟩ | ⟨g', c', cur, hv, hb, hg, -, -, hs, ht⟩
  · cases h0
  cases hv
  have hat : SlAt intEnc 1 w g 0 l := by
    rcases hsl with h | ⟨b, o, h, h'⟩
    · rw [h] at hi; simp at hi
    · cases h; exact h'
  have hel : (l.eraseIdx i).length = l.length - 1 := by rw [List.length_eraseIdx]; simp [hi]
  have h := Try.slices_Delete_int_cells g 0 l.length c i (i + 1) l w (Nat.le_refl _) hcap (by unfold maxLen at hm; omega) (by omega) (by omega) (fun j hj => hat.int (getD_at hj)) (fun j hj => by simp [World.frozen?, hg])
  rw [show (((i + 1 : Nat) : Int)) = (i : Int) + 1 from by omega] at h
  refine h.mono ?_
  rintro e w' ⟨rfl, q, rfl⟩
  rw [show i + 1 - i = 1 from by omega]
  refine ⟨by rw [hel], ⟨by rw [flat_len intEnc_len], .inr ⟨g, c, _, rfl, hb, heap_setCells _ 0 (w.drewN q) cur hg, by omega, hm, by rw [spliceA_size]; exact hs, ?_⟩⟩, Keep.setCells (S := (· = g)) (.inl rfl) _ _ ((Keep.refl (· = g) w).drewN q)⟩
  have hvl : (((l.take l.length).take i ++ (l.take l.length).drop (i + 1) ++ List.replicate 1 0).map (Value.int .i64)).length = l.length := by simp; omega
  rw [spliceA_list _ _ _ (by rw [hvl, hs]; omega), ints_flat, List.take_length, hel]
  rw [List.eraseIdx_eq_take_drop_succ]
  simp only [List.take_zero, List.nil_append, List.map_append]
  rw [List.append_assoc, List.take_left' (by simp; omega)]

theorem Own.nilOf {w : World} {base : Nat} {c n : Nat} {l : List Int} (h : Own intEnc 1 3 base w (.slice none n c) l) : l = [] := by
  rcases h.2 with ⟨_, h0⟩ | ⟨g, c', cur, hv, _⟩
  · exact List.eq_nil_of_length_eq_zero h0
  · cases hv
theorem Own.cut {w : World} {base : Nat} {p : Option Addr} {c n : Nat} {l : List Int} (h : Own intEnc 1 3 base w (.slice p l.length c) l) (hn : n ≤ l.length) (hp : p = none → l = []) : Own intEnc 1 3 base w (.slice p n c) (l.take n) := by
  have hl : (l.take n).length = n := by simp; omega
  rcases h.2 with ⟨h0, h1⟩ | ⟨g, c', cur, hv, hb, hg, h1, h2, h3, h4⟩
  · have h2 : n = 0 := by omega
    have h3 : p = none ∧ c = 0 := by simp at h0; exact ⟨h0.1, h0.2.2⟩
    rw [h2, h3.1, h3.2, List.take_zero]
    exact Own.nil _ _ _ _ _
  · cases hv
    refine ⟨by rw [flat_len intEnc_len], .inr ⟨g, c, cur, by rw [hl], hb, hg, by omega, h2, h3, ?_⟩⟩
    rw [hl, ints_flat, List.map_take, ← ints_flat, ← h4, List.take_take]
    congr 1
    omega

def UsePost (ways : Int) (xs : List Int) (x : Int) (b : Bool) (w : World) (e : Ending) (w' : World) : Prop :=
  ∃ p' c', e = .returned (.tuple #[.slice p' (useL ways xs x).length c', .bool b]) ∧ Own intEnc 1 3 w.heap.size w' (.slice p' (useL ways xs x).length c') (useL ways xs x) ∧ Keep None w w'

theorem min_nat (a : Nat) (b : Int) (hb : 1 ≤ b) : (min (a : Int) b).toNat = min a b.toNat := by omega

set_option maxRecDepth 100000 in
set_option maxHeartbeats 4000000 in
theorem use_calls (p : Option Addr) (xs : List Int) (c : Nat) (ways x : Int) (w : World) (h : SliceV intEnc 1 w p xs) (hl : xs.length ≤ 900) (hw : 1 ≤ ways) :
    Calls Try.prog 26 #[.slice p xs.length c, .int .i64 ways, .int .i64 x] w (UsePost ways xs x (decide (x ∈ xs)) w) := by
  have HS := Lib.hid h
  clear h
  obtain ⟨i5, hi5, hv0, hv1, hv2⟩ := info_parts Try.infoInt
  have fin : ∀ (l : List Int) (p' : Option Addr) (c' : Nat) (w' : World), l = x :: xs.erase x → Own intEnc 1 3 w.heap.size w' (.slice p' l.length c') l → Keep None w w' → ∀ (n : Nat), n = min l.length ways.toNat → ∀ (b : Bool), b = (decide (x ∈ xs)) → UsePost ways xs x (decide (x ∈ xs)) w (.returned (.tuple #[.slice p' n c', .bool b])) w' := by
    intro l p' c' w' hle ho hk n hn b hb
    subst hb
    have hul : useL ways xs x = l.take n := by unfold useL; rw [← hle, hn]; rw [List.take_eq_take_iff]; omega
    have hlen : (useL ways xs x).length = n := by rw [hul, List.length_take]; omega
    refine ⟨p', c', by rw [hlen], ?_, hk⟩
    rw [hlen, hul]
    exact ho.cut (by omega) (fun hp => by subst hp; exact ho.nilOf)
  have HF := Lib.hid fin
  clear fin
  by_cases hx : x ∈ xs
  · have hix : xs.idxOf x < xs.length := List.idxOf_lt_length_of_mem hx
    have hdel : xs.eraseIdx (xs.idxOf x) = xs.erase x := (List.erase_eq_eraseIdx_of_idxOf (l := xs) (a := x) rfl).symm
    have HX := Lib.hid hx
    have HIX : Hid (idxI xs x = (xs.idxOf x : Int)) := Lib.hid (by unfold idxI; rw [if_pos hx])
    generalize hk0 : xs.idxOf x = k at *
    have HD := Lib.hid hdel
    clear hx hdel hk0
    go_enter Try.func26, Try.ntmps26
    go_wp2_with (first
      | (go_at_call 32; refine (index_calls _ _ _ _ _ HS.out (by omega)).mono ?_; rintro e w1 ⟨rfl, hk1⟩; have HK1 := Lib.hid hk1; clear hk1; rw [HIX.out])
      | (go_at_call 33; refine (clone_calls _ _ _ _ (HS.out.keep HK1.out (fun _ _ h => h)) (by omega)).mono ?_; rintro e w2 ⟨p2, c2, rfl, ho2, hk2⟩; obtain ⟨g, rfl, hg2⟩ := ho2.row intEnc_len (by omega); have HO2 := Lib.hid (ho2.lower HK1.out.size); have HK2 := Lib.hid (HK1.out.trans hk2); clear ho2 hk2)
      | (go_at_call 34; refine (delete_calls _ _ _ _ _ _ HO2.out hix).mono ?_; rintro e w3 ⟨rfl, ho3, hk3⟩; have HO3 := Lib.hid ho3; have HK3 := Lib.hid (HK2.out.andThen hk3 (by intro k hk hq; subst hq; have := HK1.out.size; omega)); clear ho3 hk3; have hl3 : (xs.eraseIdx k).length ≤ 1000 := (by rw [List.length_eraseIdx]; split <;> omega); have hbs3 := HK3.out.size)
      | (go_at_call 35; go_loud (refine (insert_calls _ (xs.eraseIdx k) _ 0 w.heap.size w3.heap.size x _ (HO3.out.keep ((Keep.refl None w3).alloc _) (fun _ _ h => h)) hl3 (Nat.le_trans hbs3 ((Keep.refl None w3).alloc _).size) (heap_alloc_new _ _) (by have := World.ownsRow.lt HO3.out g rfl; simp [Value.ownBlock]; omega) (by omega)).mono ?_; rintro e w4 ⟨p4, c4, rfl, ho4, hk4, -⟩; have HO4 := Lib.hid ho4; have HK4 := Lib.hid ((HK3.out.alloc _).andThen hk4 (by intro k hk hq; simp [Value.ownBlock] at hq; have := HK1.out.size; omega)); clear ho4 hk4; have hpl := putIn_len (xs.eraseIdx k) 0 x (by omega); have hcp := (HO4.out.reads intEnc_len).2.1)))
    refine bodyPost_ret (results_tmp2 rfl _ _ _) rfl ?_
    exact HF.out (putIn (xs.eraseIdx k) 0 x) p4 c4 _ (by simp [putIn, HD.out]) HO4.out HK4.out _ (by rw [hpl]; omega) _ (by simp [HX.out])
  · have hxi : xs.erase x = xs := List.erase_of_not_mem hx
    have HX := Lib.hid hx
    have HIX : Hid (idxI xs x = -1) := Lib.hid (by unfold idxI; rw [if_neg hx])
    have HD := Lib.hid hxi
    clear hx hxi
    go_enter Try.func26, Try.ntmps26
    go_wp2_with (first
      | (go_at_call 32; refine (index_calls _ _ _ _ _ HS.out (by omega)).mono ?_; rintro e w1 ⟨rfl, hk1⟩; have HK1 := Lib.hid hk1; clear hk1; rw [HIX.out])
      | (go_at_call 33; refine (clone_calls _ _ _ _ (HS.out.keep HK1.out (fun _ _ h => h)) (by omega)).mono ?_; rintro e w3 ⟨p2, c2, rfl, ho2, hk2⟩; have HO3 := Lib.hid (ho2.lower HK1.out.size); have HB3 := Lib.hid ho2; have HK3 := Lib.hid (HK1.out.trans hk2); have hbs3 := HK3.out.size; have hb1 := HK1.out.size; clear ho2 hk2)
      | (go_at_call 35; refine (insert_calls _ xs _ 0 w.heap.size w3.heap.size x _ (HO3.out.keep ((Keep.refl None w3).alloc _) (fun _ _ h => h)) (by omega) (Nat.le_trans hbs3 ((Keep.refl None w3).alloc _).size) (heap_alloc_new _ _) (by intro hq; have := World.ownsRow.lt HO3.out _ hq; omega) (by omega)).mono ?_; rintro e w4 ⟨p4, c4, rfl, ho4, hk4, -⟩; have HO4 := Lib.hid ho4; have HK4 := Lib.hid ((HK3.out.alloc _).andThen hk4 (by intro k hk hq; have := World.ownsRow.lt HB3.out _ hq; omega)); clear ho4 hk4; have hpl := putIn_len xs 0 x (by omega); have hcp := (HO4.out.reads intEnc_len).2.1))
    refine bodyPost_ret (results_tmp2 rfl _ _ _) rfl ?_
    exact HF.out (putIn xs 0 x) p4 c4 _ (by simp [putIn, HD.out]) HO4.out HK4.out _ (by rw [hpl]; omega) _ (by simp [HX.out])


set_option maxRecDepth 100000 in
set_option maxHeartbeats 4000000 in
theorem touch_calls (p : Option Addr) (xs : List Int) (c : Nat) (ways x : Int) (w : World) (h : SliceV intEnc 1 w p xs) (hl : xs.length ≤ 900) (hw : 1 ≤ ways) :
    Calls Try.prog 27 #[.slice p xs.length c, .int .i64 ways, .int .i64 x] w (UsePost ways xs x (decide (¬ x ∈ xs)) w) := by
  have HS := Lib.hid h
  clear h
  obtain ⟨i5, hi5, hv0, hv1, hv2⟩ := info_parts Try.infoInt
  have fin : ∀ (l : List Int) (p' : Option Addr) (c' : Nat) (w' : World), l = x :: xs.erase x → Own intEnc 1 3 w.heap.size w' (.slice p' l.length c') l → Keep None w w' → ∀ (n : Nat), n = min l.length ways.toNat → ∀ (b : Bool), b = (decide (¬ x ∈ xs)) → UsePost ways xs x (decide (¬ x ∈ xs)) w (.returned (.tuple #[.slice p' n c', .bool b])) w' := by
    intro l p' c' w' hle ho hk n hn b hb
    subst hb
    have hul : useL ways xs x = l.take n := by unfold useL; rw [← hle, hn]; rw [List.take_eq_take_iff]; omega
    have hlen : (useL ways xs x).length = n := by rw [hul, List.length_take]; omega
    refine ⟨p', c', by rw [hlen], ?_, hk⟩
    rw [hlen, hul]
    exact ho.cut (by omega) (fun hp => by subst hp; exact ho.nilOf)
  have HF := Lib.hid fin
  clear fin
  by_cases hx : x ∈ xs
  · have hix : xs.idxOf x < xs.length := List.idxOf_lt_length_of_mem hx
    have hdel : xs.eraseIdx (xs.idxOf x) = xs.erase x := (List.erase_eq_eraseIdx_of_idxOf (l := xs) (a := x) rfl).symm
    have HX := Lib.hid hx
    have HIX : Hid (idxI xs x = (xs.idxOf x : Int)) := Lib.hid (by unfold idxI; rw [if_pos hx])
    generalize hk0 : xs.idxOf x = k at *
    have HD := Lib.hid hdel
    clear hx hdel hk0
    go_enter Try.func27, Try.ntmps27
    go_wp2_with (first
      | (go_at_call 32; refine (index_calls _ _ _ _ _ HS.out (by omega)).mono ?_; rintro e w1 ⟨rfl, hk1⟩; have HK1 := Lib.hid hk1; clear hk1; rw [HIX.out])
      | (go_at_call 33; refine (clone_calls _ _ _ _ (HS.out.keep HK1.out (fun _ _ h => h)) (by omega)).mono ?_; rintro e w2 ⟨p2, c2, rfl, ho2, hk2⟩; obtain ⟨g, rfl, hg2⟩ := ho2.row intEnc_len (by omega); have HO2 := Lib.hid (ho2.lower HK1.out.size); have HK2 := Lib.hid (HK1.out.trans hk2); clear ho2 hk2)
      | (go_at_call 34; refine (delete_calls _ _ _ _ _ _ HO2.out hix).mono ?_; rintro e w3 ⟨rfl, ho3, hk3⟩; have HO3 := Lib.hid ho3; have HK3 := Lib.hid (HK2.out.andThen hk3 (by intro k hk hq; subst hq; have := HK1.out.size; omega)); clear ho3 hk3; have hl3 : (xs.eraseIdx k).length ≤ 1000 := (by rw [List.length_eraseIdx]; split <;> omega); have hbs3 := HK3.out.size)
      | (go_at_call 35; go_loud (refine (insert_calls _ (xs.eraseIdx k) _ 0 w.heap.size w3.heap.size x _ (HO3.out.keep ((Keep.refl None w3).alloc _) (fun _ _ h => h)) hl3 (Nat.le_trans hbs3 ((Keep.refl None w3).alloc _).size) (heap_alloc_new _ _) (by have := World.ownsRow.lt HO3.out g rfl; simp [Value.ownBlock]; omega) (by omega)).mono ?_; rintro e w4 ⟨p4, c4, rfl, ho4, hk4, -⟩; have HO4 := Lib.hid ho4; have HK4 := Lib.hid ((HK3.out.alloc _).andThen hk4 (by intro k hk hq; simp [Value.ownBlock] at hq; have := HK1.out.size; omega)); clear ho4 hk4; have hpl := putIn_len (xs.eraseIdx k) 0 x (by omega); have hcp := (HO4.out.reads intEnc_len).2.1)))
    refine bodyPost_ret (results_tmp2 rfl _ _ _) rfl ?_
    exact HF.out (putIn (xs.eraseIdx k) 0 x) p4 c4 _ (by simp [putIn, HD.out]) HO4.out HK4.out _ (by rw [hpl]; omega) _ (by simp [HX.out])
  · have hxi : xs.erase x = xs := List.erase_of_not_mem hx
    have HX := Lib.hid hx
    have HIX : Hid (idxI xs x = -1) := Lib.hid (by unfold idxI; rw [if_neg hx])
    have HD := Lib.hid hxi
    clear hx hxi
    go_enter Try.func27, Try.ntmps27
    go_wp2_with (first
      | (go_at_call 32; refine (index_calls _ _ _ _ _ HS.out (by omega)).mono ?_; rintro e w1 ⟨rfl, hk1⟩; have HK1 := Lib.hid hk1; clear hk1; rw [HIX.out])
      | (go_at_call 33; refine (clone_calls _ _ _ _ (HS.out.keep HK1.out (fun _ _ h => h)) (by omega)).mono ?_; rintro e w3 ⟨p2, c2, rfl, ho2, hk2⟩; have HO3 := Lib.hid (ho2.lower HK1.out.size); have HB3 := Lib.hid ho2; have HK3 := Lib.hid (HK1.out.trans hk2); have hbs3 := HK3.out.size; have hb1 := HK1.out.size; clear ho2 hk2)
      | (go_at_call 35; refine (insert_calls _ xs _ 0 w.heap.size w3.heap.size x _ (HO3.out.keep ((Keep.refl None w3).alloc _) (fun _ _ h => h)) (by omega) (Nat.le_trans hbs3 ((Keep.refl None w3).alloc _).size) (heap_alloc_new _ _) (by intro hq; have := World.ownsRow.lt HO3.out _ hq; omega) (by omega)).mono ?_; rintro e w4 ⟨p4, c4, rfl, ho4, hk4, -⟩; have HO4 := Lib.hid ho4; have HK4 := Lib.hid ((HK3.out.alloc _).andThen hk4 (by intro k hk hq; have := World.ownsRow.lt HB3.out _ hq; omega)); clear ho4 hk4; have hpl := putIn_len xs 0 x (by omega); have hcp := (HO4.out.reads intEnc_len).2.1))
    refine bodyPost_ret (results_tmp2 rfl _ _ _) rfl ?_
    exact HF.out (putIn xs 0 x) p4 c4 _ (by simp [putIn, HD.out]) HO4.out HK4.out _ (by rw [hpl]; omega) _ (by simp [HX.out])



end Go.Proofs.Ytpdnfekhfagfkaa
