/-
  Chapter 19: paging.Each, walked: a range over paging.touches.
-/
import Derived.Test.YtpdnfekhfagfkaaPipH
namespace Go.Proofs.Ytpdnfekhfagfkaa
open Go.RowKit Go.Shelf PI
attribute [local go_sem] Oper.semAt_some

theorem touches_stops (F : Fence) (n : Nat) (hF : F.fn 28) (hro : F.round = none) (hn : 1 ≤ n) (b0 b1 cap : Nat) (size : Int) (p : Option Addr) (fs : List Fe) (S : Nat → Prop) (hl : fs.length ≤ 1000) (hok : ∀ f ∈ fs, FeOk f) (hS0 : ¬ S b0) (hp : fs ≠ [] → OffS S p) (w : World)
    (hb0 : w.heap[b0]? = some (.cells #[.int .i64 size] 3 (0, 0))) (hb1 : w.heap[b1]? = some (.cells #[.slice p fs.length cap] 29 (0, 0))) (hc : SliceV feEnc 3 w p fs) :
    SeqStopsK F n Try.prog 28 #[.pointer (some ⟨b0, 0, none⟩), .pointer (some ⟨b1, 0, none⟩)] (tEncs (n := fs.length)) (KpT S) (fun xs => xs.map (·.1) = touches size 0 fs) (fun _ => True) (touches size 0 fs).length w := fun l J Jx W hW hJ _ hY h0 => by
  refine touches1_in F n hF hro hn l b0 b1 cap size p fs S hl hok hS0 hp J Jx hY W (fun pre A B h k => hJ pre A B none h k.toGrown (by simp)) ?_ ((hW.block b1 (heap_lt hb1)).trans hb1) ?_ h0
  · exact (hW.cell (p := ⟨b0, 0, none⟩) (heap_lt hb0)).trans (cell_of_row _ _ 0 _ _ _ hb0)
  · rcases hc with h | ⟨b, o, rfl, h⟩
    · exact .inl h
    · exact .inr ⟨b, o, rfl, fun i x hx j u hu => (hW.cell (p := ⟨b, o + i * 3 + j, none⟩) (World.block_lt_of_cell? w _ (h i x hx j u hu))).trans (h i x hx j u hu)⟩

theorem own_grown {α : Type} {enc : α → List Value} {size : Nat} {e : TypeId} {base : Nat} {A B : World} {v : Value} {xs : List α} (h : Own enc size e base A v xs) {row : Option Nat} (hg : A.grownBy B row) (hr : ∀ r, row = some r → ∃ o : Obj, A.heap[r]? = some o ∧ o.isCells = false) : Own enc size e base B v xs :=
  h.keep (S := fun k => row = some k) ((Keep.refl _ A).grown hg (fun k e => .inl e)) (fun g hg' hrow => by
    obtain ⟨o, ho, hc⟩ := hr g hrow
    obtain ⟨C, fr, h2⟩ := h.typed hg'
    rw [ho] at h2
    cases h2
    cases hc)
theorem Typed.intLike {w : World} {b : Nat} (h : Typed w 3 b) {o : Obj} (ho : w.heap[b]? = some o) : IntLike o := by
  obtain ⟨C, fr, h⟩ := h
  rw [h] at ho
  cases ho
  exact ⟨C, fr, .inl rfl⟩

/-- What the rounds of paging.Each keep. -/
def PgInv (m : Mod) (n g b6 base : Nat) (W0 : World) (pre : List (Nat × Int)) (W : World) : Prop :=
  (∃ p c, W.heap[b6]? = some (.cells #[.slice p (pgRun m.res n pre).1.length c] 40 (0, 0)) ∧ Own intEnc 1 3 base W (.slice p (pgRun m.res n pre).1.length c) (pgRun m.res n pre).1) ∧
    Own intEnc 1 3 g W (.slice (some ⟨g, 0, none⟩) n n) (pgRun m.res n pre).2 ∧ Keep (fun k => k = g ∨ k = b6) W0 W

theorem slice_off {w : World} {p : Option Addr} {xs : List Fe} {S : Nat → Prop} (h : SliceV feEnc 3 w p xs) (hS : ∀ k, k < w.heap.size → ¬ S k) (hx : xs ≠ []) : OffS S p := by
  intro a ha
  rcases h with h | ⟨b, o, rfl, h⟩
  · exact absurd h hx
  · cases ha
    obtain ⟨y, hy⟩ : ∃ y, xs[0]? = some y := ⟨xs[0]'(List.length_pos_iff.2 hx), List.getElem?_eq_getElem _⟩
    exact hS b (World.block_lt_of_cell? w _ (h 0 y hy 0 _ rfl))
theorem PgInv.grown {m : Mod} {n g b6 base : Nat} {W0 A B : World} {pre : List (Nat × Int)} (h : PgInv m n g b6 base W0 pre A) {row : Option Nat} (hg : A.grownBy B row) (hb : ∀ k, row = some k → W0.heap.size ≤ k) (hr : ∀ r, row = some r → ∃ o : Obj, A.heap[r]? = some o ∧ o.isCells = false) : PgInv m n g b6 base W0 pre B := by
  obtain ⟨⟨p, c, h1, h2⟩, h3, h4⟩ := h
  exact ⟨⟨p, c, (grownBy_keeps_cells hg hr h1 rfl).trans h1, own_grown h2 hg hr⟩, own_grown h3 hg hr, h4.grown hg (fun k e => .inr (hb k e))⟩

theorem pgRun_snoc (res : Int) (n : Nat) (pre : List (Nat × Int)) (x : Nat × Int) : pgRun res n (pre ++ [x]) = pgStep res (pgRun res n pre) x := by
  unfold pgRun; rw [List.foldl_append]; rfl

theorem keep_set (w : World) (b i : Nat) (u : Value) : Keep (fun k => k = b) w (w.setCell ⟨b, i, none⟩ u) := Keep.setCell (S := fun k => k = b) (Keep.refl _ w) (.inl rfl) u
theorem pgFold_slen (res : Int) : ∀ (ts : List (Nat × Int)) (s : List Int × List Int), s.1.length ≤ res.toNat → (ts.foldl (pgStep res) s).1.length ≤ res.toNat
  | [], _, h => h
  | t :: ts, s, _ => pgFold_slen res ts _ (useL_len _ _ _)
theorem pgRun_slen (res : Int) (n : Nat) (ts : List (Nat × Int)) : (pgRun res n ts).1.length ≤ res.toNat := pgFold_slen res ts _ (by simp)
theorem pgRun_nn (res : Int) (n : Nat) (ts : List (Nat × Int)) : ∀ x ∈ (pgRun res n ts).2, 0 ≤ x ∧ x ≤ (ts.length : Int) := by
  intro x hx
  have := pgFold_nn res ts ([], List.replicate n 0) 0 (by intro y hy; have := (List.mem_replicate.1 hy).2; subst this; simp) x hx
  simpa using this

set_option maxRecDepth 100000 in
set_option maxHeartbeats 4000000 in
theorem pgeach_calls (m : Mod) (p : Option Addr) (l : List Fe) (c : Nat) (w : World) (h : SliceV feEnc 3 w p l) (hl : l.length ≤ 1000) (hok : ∀ f ∈ l, FeOk f) (hw : m.res ≤ 900) :
    Calls Try.prog 16 #[moVal m, .slice p l.length c] w (OwnPost intEnc 1 3 (faults m l) w) := by
  obtain ⟨i5, hi5, hv0, hv1, hv2⟩ := info_parts Try.infoInt
  have HS := Lib.hid h
  have HOK := Lib.hid hok
  clear h hok
  refine (callsIn_wide (n := 6)).1 ?_
  refine callsIn_of_wp_marks Try.func16 rfl trivial ?_ rfl
  simp only [Try.ntmps16, List.size_toArray, List.length_cons, List.length_nil, Nat.reduceAdd, Nat.reduceSub, Array.replicate_succ, Array.replicate_zero, List.push_toArray, List.append_toArray, List.nil_append, List.cons_append]
  refine wpIn_wide.2 ?_
  unfold moVal moEnc
  go_upto_region 1 with (fail)
  generalize hw0 : World.alloc _ _ = W0
  have hk0 : Keep None w W0 := by rw [← hw0]; exact (Keep.refl _ _).alloc _
  have hm0 : W0.heap[w.heap.size]? = some (.cells (moEnc m).toArray 27 (0, 0)) := by rw [← hw0]; exact heap_alloc_new _ _
  have hs0 : W0.heap.size = w.heap.size + 1 := by rw [← hw0]; simp
  have HM0 := Lib.hid hm0
  have HK0 := Lib.hid hk0
  have HS0 := Lib.hid hs0
  clear hw0 hm0 hk0 hs0
  go_upto_region 2 with (first
    | ((with_reducible (show wpList _ _ _ (⟨some 12, _, _, _, _, none⟩ :: _) _ _)); go_loud (refine wpList_makeArr (enc := intEnc) _ rfl _ _ 40 rfl 3 i5 _ 8 Try.underlying40 hi5 hv0 hv1 hv2 0 intEnc_len rfl (by decide) .i64 .i64 l.length l.length l.length rfl rfl rfl rfl (by omega) (by omega) ?_; intro w1 ha hk hs; have HA := Lib.hid ha; have HK := Lib.hid hk; have HZ := Lib.hid hs; clear ha hk hs)))
  generalize hw2 : World.alloc _ _ = W2
  have hk2 : Keep None w W2 := by rw [← hw2]; exact (HK0.out.trans HK.out).alloc _
  have ha2 : Arr intEnc 3 W2 (w.heap.size + 1) (List.replicate l.length 0) := by rw [← hw2, ← HS0.out]; exact HA.out.keep ((Keep.refl None _).alloc _) id
  have hm2 : W2.heap[w.heap.size]? = some (.cells (moEnc m).toArray 27 (0, 0)) := by rw [← hw2]; exact (HK.out.alloc _).obj HM0.out id
  have h52 : W2.heap[w.heap.size + 2]? = some (.cells #[.slice (some ⟨w.heap.size + 1, 0, none⟩) l.length l.length] 40 (0, 0)) := by
    rw [← hw2]; have := heap_alloc_new w1 (.cells #[.slice (some ⟨W0.heap.size, 0, none⟩) l.length l.length] 40); rw [HZ.out, HS0.out] at this; rw [HS0.out]; exact this
  have hs2 : W2.heap.size = w.heap.size + 3 := by rw [← hw2]; simp [HZ.out, HS0.out]
  have hz1 : w1.heap.size = w.heap.size + 2 := by rw [HZ.out, HS0.out]
  have hz0 := HS0.out
  rw [hz1, hz0]
  have HM2 := Lib.hid hm2
  have HA2 := Lib.hid ha2
  have H52 := Lib.hid h52
  have HK2 := Lib.hid hk2
  have HS2 := Lib.hid hs2
  clear hw2 hm2 ha2 h52 hk2 hs2 HA HK HZ HM0 HK0 HS0 hz1 hz0
  have q10 := mo_cell HM2.out 10 _ rfl
  have q5 := cell_of_row _ _ 0 _ _ _ H52.out
  by_cases g1 : m.res < 1
  · have HE : Hid (faults m l = List.replicate l.length 0) := Lib.hid (by unfold faults; rw [if_pos g1])
    go_wp2_with (fail)
    refine ⟨_, results_tmp rfl _ _ _, ?_⟩
    have ho := Own.ofArr (enc := intEnc) intEnc_len HA2.out (Nat.le_succ w.heap.size) (by simp; omega)
    unfold OwnPost
    rw [HE.out]
    refine ⟨some ⟨w.heap.size + 1, 0, none⟩, l.length, by simp, ?_, HK2.out⟩
    simpa using ho
  · have HE : Hid (faults m l = (pgRun m.res l.length (touches m.page 0 l)).2) := Lib.hid (by unfold faults; rw [if_neg g1])
    have q9 := mo_cell ((Keep.refl None W2).alloc (.cells #[.slice none 0 0] 40) |>.obj HM2.out id) 9 _ rfl
    clear q5
    have HS2 := HS2.out
    go_wp2_with (go_at_call 19; refine (touches_calls _ _ _ _ _).mono ?_; rintro e w5 ⟨rfl, hw5⟩; have HW5 := Lib.hid hw5; clear hw5)
    have hk5 : Keep None w w5 := by rw [HW5.out]; exact ((HK2.out.alloc _).alloc _).alloc _
    have hm5 : w5.heap[w.heap.size]? = some (.cells (moEnc m).toArray 27 (0, 0)) := by rw [HW5.out]; exact ((((Keep.refl None W2).alloc _).alloc _).alloc _).obj HM2.out id
    have ha5 : Arr intEnc 3 w5 (w.heap.size + 1) (List.replicate l.length 0) := by rw [HW5.out]; exact HA2.out.keep ((((Keep.refl None W2).alloc _).alloc _).alloc _) id
    have h55 : w5.heap[w.heap.size + 2]? = some (.cells #[.slice (some ⟨w.heap.size + 1, 0, none⟩) l.length l.length] 40 (0, 0)) := by rw [HW5.out]; exact ((((Keep.refl None W2).alloc _).alloc _).alloc _).obj H52.out id
    have h56 : w5.heap[w.heap.size + 3]? = some (.cells #[.slice none 0 0] 40 (0, 0)) := by rw [HW5.out]; exact (((Keep.refl None _).alloc _).alloc _).obj (alloc_at HS2.symm) id
    have h57 : w5.heap[w.heap.size + 3 + 1]? = some (.cells #[.int .i64 m.page] 3 (0, 0)) := by rw [HW5.out]; exact ((Keep.refl None _).alloc _).obj (alloc_at (by simp [HS2])) id
    have h58 : w5.heap[w.heap.size + 3 + 1 + 1]? = some (.cells #[.slice p l.length c] 29 (0, 0)) := by rw [HW5.out]; exact alloc_at (by simp [HS2])
    have hs5 : w5.heap.size = w.heap.size + 6 := by rw [HW5.out]; simp [HS2]
    have hsl5 : SliceV feEnc 3 w5 p l := HS.out.keep hk5 (fun _ _ => id)
    clear HW5 HA2 H52 HM2 HK2 HS2 q9 q10
    refine (wpIn_wide (n := 6)).1 ?_
    refine wpIn_rangeFunc_ownH (n := 6) (α := TI l.length) rfl (by omega) (gf := 28) (lb := #[.pointer (some ⟨w.heap.size + 3 + 1, 0, none⟩), .pointer (some ⟨w.heap.size + 3 + 1 + 1, 0, none⟩)]) rfl trivial (enters_of Try.func28 (by kernel_rfl) rfl)
      (touches_stops Fence.wide 5 trivial rfl (by omega) (w.heap.size + 3 + 1) (w.heap.size + 3 + 1 + 1) c m.page p l (fun k => k = w.heap.size + 1 ∨ k = w.heap.size + 3) hl HOK.out (by omega) (slice_off HS.out (by intro k hk h; omega)) w5 h57 h58 hsl5)
      KpT.trans (fun W l o o' _ hl hc _ => KpT.putObj _ W l o o' hl hc) (Below.refl _ _) (fun _ => rfl)
      (fun (pre : List (TI l.length)) W => PgInv m l.length (w.heap.size + 1) (w.heap.size + 3) w5.heap.size w5 (pre.map Subtype.val) W)
      (fun _ _ _ => False)
      (fun s A B row hs hg hr => PgInv.grown (A := A) (pre := s.map Subtype.val) hs hg (fun k e => by have := (hr k e).1; omega) (fun r e => (hr r e).2))
      (fun _ _ _ _ _ hs _ _ => hs)
      ?start
      (fun x a' W => a' = { tmps := #[moVal m, .slice p l.length c, .pointer (some ⟨w.heap.size, 0, none⟩), undef, .slice none 0 0, .pointer (some ⟨w.heap.size + 2, 0, none⟩), .pointer (some ⟨w.heap.size + 3, 0, none⟩), .int .i64 (x.1.1 : Int), .int .i64 x.1.2, undef, .slice p l.length c, .int .i64 l.length, .slice (some ⟨w.heap.size + 1, 0, none⟩) l.length l.length, .pointer (some ⟨w.heap.size, 10, none⟩), .int .i64 m.res, .bool false, undef, .pointer (some ⟨w.heap.size, 9, none⟩), .int .i64 m.page, .slice p l.length c, .func (.func 28) #[] #[.pointer (some ⟨w.heap.size + 3 + 1, 0, none⟩), .pointer (some ⟨w.heap.size + 3 + 1 + 1, 0, none⟩)], .int .i64 (x.1.1 : Int), .int .i64 x.1.2, undef, undef, undef, undef, undef, undef, undef, undef, undef, undef, undef, undef, undef, undef, undef, undef], defers := [] })
      (fun x a' _ X Y row hs hg hr => hs)
      ?assign ?body ?done ?stop
    case start =>
      refine ⟨⟨none, 0, h56, Own.nil _ _ _ _ _⟩, ?_, Keep.refl _ _⟩
      have ho := Own.ofArr (enc := intEnc) intEnc_len ha5 (Nat.le_refl (w.heap.size + 1)) (by simp; omega)
      rw [List.length_replicate] at ho
      exact ho
    case assign =>
      rintro l2 pre x W K hI hK
      unfold moVal moEnc at hK
      simp only [tEncs]
      gi_wp2
      exact hK _ _ (KeepsFrom.refl _ _) (KpT.refl _ _) hI rfl
    case body =>
      rintro l2 pre x a' W hl2 - ⟨⟨p6, c6, h6, ho6⟩, hog, hkW⟩ rfl hlt
      obtain ⟨⟨i, x⟩, hi⟩ := x
      simp only at hi
      unfold moVal moEnc
      have HP := Lib.hid (pgRun_snoc m.res l.length (pre.map Subtype.val) (i, x))
      have hsl0 := pgRun_slen m.res l.length (pre.map Subtype.val)
      have hnn0 := pgRun_nn m.res l.length (pre.map Subtype.val)
      rw [List.length_map] at hnn0
      have htl := touches_len m.page 1000 l 0 (fun f hf => (HOK.out f hf).2.2.2)
      generalize (pgRun m.res l.length (pre.map Subtype.val)) = st at *
      obtain ⟨S, O⟩ := st
      simp only at h6 ho6 hog hsl0 hnn0
      have hzW := hkW.size
      have hOl : l.length = O.length := (hog.reads intEnc_len).1
      have hiO : i < O.length := by omega
      have hon := hnn0 _ (List.mem_of_getElem? (getD_at hiO))
      clear hnn0
      obtain ⟨v, hv⟩ : ∃ v, O.getD i 0 = v := ⟨_, rfl⟩
      rw [hv] at hon
      have HV := Lib.hid hv
      clear hv
      have q10 := mo_cell (hkW.obj hm5 (by omega)) 10 _ rfl
      have c6' := cell_of_row _ _ 0 _ _ _ h6
      have H5 := Lib.hid (hkW.obj h55 (by omega))
      have H6 := Lib.hid h6
      have HKW := Lib.hid hkW
      have HOG := Lib.hid hog
      have HSL : Hid (SliceV intEnc 1 W p6 S) := Lib.hid ((ho6.reads intEnc_len).2.2.2.1)
      have HTC : Hid (∀ W0, SliceV intEnc 1 W0 p6 S → Calls Try.prog 27 #[.slice p6 S.length c6, .int .i64 m.res, .int .i64 x] W0 (UsePost m.res S x (decide (¬ x ∈ S)) W0)) := Lib.hid (fun W0 h => touch_calls p6 S c6 m.res x W0 h (by omega) g1)
      have hcl : ∀ k o, (k = w.heap.size + 1 ∨ k = w.heap.size + 3) → W.heap[k]? = some o → o.isCells = true := by
        rintro k o (rfl | rfl) ho
        · obtain ⟨C, fr, h⟩ := hog.typed rfl
          rw [h] at ho; cases ho; rfl
        · rw [h6] at ho; cases ho; rfl
      have hin : ∀ k o, (k = w.heap.size + 1 ∨ k = w.heap.size + 3) → W.heap[k]? = some o → (k = w.heap.size + 1 ∨ k = w.heap.size + 3) ∧ IntLike o := by
        rintro k o hk ho
        refine ⟨hk, ?_⟩
        rcases hk with rfl | rfl
        · exact (hog.typed rfl).intLike ho
        · rw [h6] at ho; cases ho; exact ⟨_, _, .inr rfl⟩
      clear h6 ho6 hog hkW h55 h56 h57 h58 hsl5 ha5
      by_cases hb : x ∈ S
      · have HTC : Hid (∀ W0, SliceV intEnc 1 W0 p6 S → Calls Try.prog 27 #[.slice p6 S.length c6, .int .i64 m.res, .int .i64 x] W0 (UsePost m.res S x false W0)) := Lib.hid (by have := HTC.out; rw [decide_eq_false (by simpa using hb)] at this; exact this)
        gi_wp2_with (refine ⟨trivial, ?_⟩; gi_at_call 27; refine (CallsIn.inRound l2 (callsIn_wide.2 (HTC.out W HSL.out))).mono ?_; rintro e w6 ⟨p7, c7, rfl, ho7, hk7⟩; have HO7 := Lib.hid ho7; have HK7 := Lib.hid hk7; have h66 := hk7.obj H6.out id; have c66 := cell_of_row _ _ 0 _ _ _ h66; have f66 : w6.frozen? ⟨w.heap.size + 3, 0, none⟩ = false := (by simp [World.frozen?, h66]); have H66 := Lib.hid h66; clear ho7 hk7 h66)
        have hkE : Keep (fun k => k = w.heap.size + 1 ∨ k = w.heap.size + 3) W (w6.setCell ⟨w.heap.size + 3, 0, none⟩ (.slice p7 (useL m.res S x).length c7)) := (HK7.out.weaken (fun _ _ h => h.elim)).trans ((keep_set w6 (w.heap.size + 3) 0 _).weaken (fun _ _ h => .inr h))
        refine ⟨(hkE.others hcl).from _, KpT.ofKeep hkE hin, ?_⟩
        show PgInv m l.length (w.heap.size + 1) (w.heap.size + 3) w5.heap.size w5 (List.map Subtype.val (pre ++ [_])) _
        rw [List.map_append]
        unfold PgInv
        rw [show List.map Subtype.val [(⟨(i, x), hi⟩ : TI l.length)] = [(i, x)] from rfl, HP.out]
        unfold pgStep
        simp only [if_pos hb]
        refine ⟨⟨p7, c7, Boxed.set (v := .slice p6 S.length c6) _ H66.out, ?_⟩, ?_, HKW.out.trans hkE⟩
        · exact (HO7.out.keep (keep_set w6 (w.heap.size + 3) 0 _) (fun k h1 h2 => by have := (World.ownsRow.lt HO7.out k h1).1; have h4 : k = w.heap.size + 3 := h2; omega)).lower (by omega)
        · exact HOG.out.keep ((HK7.out.weaken (fun _ _ h => h.elim)).trans (keep_set w6 (w.heap.size + 3) 0 _)) (fun k h1 h2 => by have h3 : w.heap.size + 1 = k := Option.some.inj h1; have h4 : k = w.heap.size + 3 := h2; omega)
      · have HTC : Hid (∀ W0, SliceV intEnc 1 W0 p6 S → Calls Try.prog 27 #[.slice p6 S.length c6, .int .i64 m.res, .int .i64 x] W0 (UsePost m.res S x true W0)) := Lib.hid (by have := HTC.out; rw [decide_eq_true (by simpa using hb)] at this; exact this)
        gi_wp2_with (refine ⟨trivial, ?_⟩; gi_at_call 27; refine (CallsIn.inRound l2 (callsIn_wide.2 (HTC.out W HSL.out))).mono ?_; rintro e w6 ⟨p7, c7, rfl, ho7, hk7⟩; have HO7 := Lib.hid ho7; have HK7 := Lib.hid hk7; have h66 := hk7.obj H6.out id; have c66 := cell_of_row _ _ 0 _ _ _ h66; have f66 : w6.frozen? ⟨w.heap.size + 3, 0, none⟩ = false := (by simp [World.frozen?, h66]); have H66 := Lib.hid h66; have hkE : Keep (fun k => k = w.heap.size + 3) W (w6.setCell ⟨w.heap.size + 3, 0, none⟩ (.slice p7 (useL m.res S x).length c7)) := (hk7.weaken (fun _ _ h => h.elim)).trans (keep_set w6 (w.heap.size + 3) 0 _); have r5 := cell_of_row _ _ 0 _ _ _ (hkE.obj H5.out (show ¬ w.heap.size + 2 = w.heap.size + 3 by omega)); have hoE := HOG.out.keep hkE (fun k h1 h2 => (show False by have h3 : w.heap.size + 1 = k := Option.some.inj h1; have h4 : k = w.heap.size + 3 := h2; omega)); obtain ⟨r6, r7⟩ := own_cell hoE hiO; rw [HV.out] at r6; have HKE := Lib.hid hkE; have HOE := Lib.hid hoE; clear ho7 hk7 h66 hkE hoE)
        have hkF : Keep (fun k => k = w.heap.size + 1 ∨ k = w.heap.size + 3) W ((w6.setCell ⟨w.heap.size + 3, 0, none⟩ (.slice p7 (useL m.res S x).length c7)).setCell ⟨w.heap.size + 1, i, none⟩ (.int .i64 (v + 1))) := (HKE.out.weaken (fun _ _ h => .inr h)).trans ((keep_set _ (w.heap.size + 1) i _).weaken (fun _ _ h => .inl h))
        refine ⟨(hkF.others hcl).from _, KpT.ofKeep hkF hin, ?_⟩
        show PgInv m l.length (w.heap.size + 1) (w.heap.size + 3) w5.heap.size w5 (List.map Subtype.val (pre ++ [_])) _
        rw [List.map_append]
        unfold PgInv
        rw [show List.map Subtype.val [(⟨(i, x), hi⟩ : TI l.length)] = [(i, x)] from rfl, HP.out]
        unfold pgStep
        simp only [if_neg hb, HV.out]
        refine ⟨⟨p7, c7, ?_, ?_⟩, ?_, HKW.out.trans hkF⟩
        · exact (keep_set _ (w.heap.size + 1) i _).obj (Boxed.set (v := .slice p6 S.length c6) _ H66.out) (by omega)
        · exact (HO7.out.keep (S := fun k => k = w.heap.size + 1 ∨ k = w.heap.size + 3) (((keep_set w6 (w.heap.size + 3) 0 _).weaken (fun _ _ h => .inr h)).trans ((keep_set _ (w.heap.size + 1) i _).weaken (fun _ _ h => .inl h))) (fun k h1 h2 => by have := (World.ownsRow.lt HO7.out k h1).1; have h4 : k = w.heap.size + 1 ∨ k = w.heap.size + 3 := h2; omega)).lower (by omega)
        · exact own_set HOE.out hiO _
    case done =>
      rintro D xs W hD hxs ⟨-, hog, hkW⟩ hKD
      rw [hxs, ← HE.out] at hog
      have r5 := cell_of_row _ _ 0 _ _ _ (hkW.obj h55 (show ¬ (w.heap.size + 2 = w.heap.size + 1 ∨ w.heap.size + 2 = w.heap.size + 3) by omega))
      have HOG := Lib.hid hog
      have HKD := Lib.hid hKD
      have HKW := Lib.hid hkW
      clear hog hKD hkW h55 h56 h57 h58 hsl5 ha5 hm5
      go_wp2
      refine ⟨by simp, .inl ⟨_, _, rfl, run_takeDeferred HKD.out, ?_⟩⟩
      have hgc : w.heap.size + 1 ≠ D := by omega
      refine ⟨_, results_tmp rfl _ _ _, ?_⟩
      have hfl := faults_len m l
      refine ⟨some ⟨w.heap.size + 1, 0, none⟩, l.length, by rw [hfl]; rfl, ?_, ?_⟩
      · rw [hfl]
        exact (own_grown HOG.out (grownBy_putObj' W D _) (fun r e => by cases e; exact ⟨_, HKD.out, rfl⟩)).lower (by omega)
      · exact (hk5.andThen HKW.out (fun k h1 h2 => by have h3 : k = w.heap.size + 1 ∨ k = w.heap.size + 3 := h2; omega)).grown (grownBy_putObj' _ D _) (fun k e => by cases e; exact .inr (by omega))
    case stop =>
      rintro D c pre W _ _ h _
      exact h.elim

end Go.Proofs.Ytpdnfekhfagfkaa
