/-
  Chapter 19: pipeline.Cost.
-/
import Derived.Test.YtpdnfekhfagfkaaPipL
namespace Go.Proofs.Ytpdnfekhfagfkaa
open Go.RowKit PI

/-! ### The sum of measures -/
theorem fold_cyc : ∀ (L : List Me) (acc : Me), (∀ x ∈ L, 0 ≤ x.cyc ∧ x.cyc ≤ 10000000000) → 0 ≤ acc.cyc → acc.cyc + L.length * 10000000000 ≤ 9000000000000000000 → (L.foldl meAdd acc).cyc = acc.cyc + (L.map (·.cyc)).sum
  | [], acc, _, _, _ => by simp
  | x :: L, acc, h, h0, hb => by
    have hx := h x List.mem_cons_self
    simp only [List.length_cons, List.foldl_cons, List.map_cons, List.sum_cons] at hb ⊢
    have he : (meAdd acc x).cyc = acc.cyc + x.cyc := by unfold meAdd; exact IntWalk.wrap64_in _ (by omega)
    rw [fold_cyc L (meAdd acc x) (fun y hy => h y (List.mem_cons_of_mem _ hy)) (by rw [he]; omega) (by rw [he]; omega), he]
    omega
theorem fold_steps : ∀ (L : List Me) (acc : Me), (∀ x ∈ L, x.steps = 1) → 0 ≤ acc.steps → acc.steps + L.length ≤ 9000000000000000000 → (L.foldl meAdd acc).steps = acc.steps + L.length
  | [], acc, _, _, _ => by simp
  | x :: L, acc, h, h0, hb => by
    have hx := h x List.mem_cons_self
    simp only [List.length_cons, List.foldl_cons] at hb ⊢
    have he : (meAdd acc x).steps = acc.steps + 1 := by unfold meAdd; simp only [hx]; exact IntWalk.wrap64_in _ (by omega)
    rw [fold_steps L (meAdd acc x) (fun y hy => h y (List.mem_cons_of_mem _ hy)) (by rw [he]; omega) (by rw [he]; omega), he]
    omega
theorem mem_meL (m : Mod) : ∀ (l : List Fe) (bs : List Bool) (zs cs : List Int) (x : Me), x ∈ meL m l bs zs cs → ∃ f b, ∃ a ∈ zs, ∃ c ∈ cs, x = meOf m f b a c
  | [], _, _, _, x, h => by simp [meL] at h
  | f :: l, b :: bs, a :: zs, c :: cs, x, h => by
    rw [meL, List.mem_cons] at h
    rcases h with h | h
    · exact ⟨f, b, a, List.mem_cons_self, c, List.mem_cons_self, h⟩
    · obtain ⟨f', b', a', h1, c', h2, h3⟩ := mem_meL m l bs zs cs x h
      exact ⟨f', b', a', List.mem_cons_of_mem _ h1, c', List.mem_cons_of_mem _ h2, h3⟩
  | _ :: _, [], _, _, x, h => by simp [meL] at h
  | _ :: _, _ :: _, [], _, x, h => by simp [meL] at h
  | _ :: _, _ :: _, _ :: _, [], x, h => by simp [meL] at h
theorem meL_cyc (m : Mod) : ∀ (l : List Fe) (bs : List Bool) (zs cs : List Int), ((meL m l bs zs cs).map (·.cyc)).sum = cycles m l bs zs cs
  | [], _, _, _ => by simp [meL, cycles]
  | f :: l, b :: bs, a :: zs, c :: cs => by
    rw [meL, cycles, List.map_cons, List.sum_cons, meL_cyc m l bs zs cs]; rfl
  | _ :: _, [], _, _ => by simp [meL, cycles]
  | _ :: _, _ :: _, [], _ => by simp [meL, cycles]
  | _ :: _, _ :: _, _ :: _, [] => by simp [meL, cycles]
theorem cyc_bound {m : Mod} (h : MoOk m) (f : Fe) (b : Bool) {ms fu : Int} (h1 : 0 ≤ ms) (h2 : ms ≤ 1000000) (h3 : 0 ≤ fu) (h4 : fu ≤ 1000000) : 0 ≤ cyc m f b ms fu ∧ cyc m f b ms fu ≤ 10000000000 := by
  have g1 := prod_bound h1 h2 h.miss.1 h.miss.2
  have g2 := prod_bound h3 h4 h.fault.1 h.fault.2
  have := h.step; have := h.mis; have := h.call; have := h.ind
  unfold cyc
  cases b <;> cases isCall f <;> cases (f.kind == 5) <;> simp <;> omega
theorem meSum_cost {m : Mod} (h : MoOk m) (l : List Fe) (hl : l.length ≤ 900) (hok : ∀ f ∈ l, FeOk f) : (meSum (meL m l (wrongs m.pred l) (misses m l) (faults m l))).cyc = cost m l ∧ (meSum (meL m l (wrongs m.pred l) (misses m l) (faults m l))).steps = l.length := by
  have hlen := meL_len m l _ _ _ (wrongs_len m.pred l) (misses_len m l) (faults_len m l)
  have hb : ∀ x ∈ meL m l (wrongs m.pred l) (misses m l) (faults m l), (0 ≤ x.cyc ∧ x.cyc ≤ 10000000000) ∧ x.steps = 1 := by
    intro x hx
    obtain ⟨f, b, a, h1, c, h2, rfl⟩ := mem_meL m _ _ _ _ x hx
    have g1 := misses_nn (m := m) (l := l) (B := 1000) (fun f hf => (hok f hf).2.2.2) a h1
    have g2 := faults_nn (m := m) (l := l) (B := 1000) (fun f hf => (hok f hf).2.2.2) c h2
    exact ⟨cyc_bound h f b (by omega) (by omega) (by omega) (by omega), rfl⟩
  constructor
  · have := fold_cyc (meL m l (wrongs m.pred l) (misses m l) (faults m l)) ⟨0, 0, 0, 0, 0, 0, 0, 0, 0, 0⟩ (fun x hx => (hb x hx).1) (by simp) (by rw [hlen]; simp only; omega)
    unfold meSum
    rw [this, meL_cyc]
    unfold cost
    simp
  · have := fold_steps (meL m l (wrongs m.pred l) (misses m l) (faults m l)) ⟨0, 0, 0, 0, 0, 0, 0, 0, 0, 0⟩ (fun x hx => (hb x hx).2) (by simp) (by rw [hlen]; simp only; omega)
    unfold meSum
    rw [this, hlen]
    simp

set_option maxRecDepth 100000 in
set_option maxHeartbeats 2000000 in
theorem cost_calls (m : Mod) (p : Option Addr) (l : List Fe) (c : Nat) (w : World) (h : SliceV feEnc 3 w p l) (hl : l.length ≤ 900) (hok : ∀ f ∈ l, FeOk f) (hm : MoOk m) :
    Calls Try.prog 9 #[moVal m, .slice p l.length c] w fun e w' => (∃ x : Me, e = .returned (meVal x) ∧ x.cyc = cost m l ∧ x.steps = l.length) ∧ Keep None w w' := by
  have HSC := Lib.hid (meSum_cost hm l hl hok)
  have HEA := Lib.hid (fun W hk => each_calls m p l c W (h.keep (S := None) hk (fun _ _ => id)) hl hok hm)
  have HPA := Lib.hid (fun size W hk => pages_calls size p l c W (h.keep (S := None) hk (fun _ _ => id)) hl hok)
  have hlen := meL_len m l _ _ _ (wrongs_len m.pred l) (misses_len m l) (faults_len m l)
  have HLN := Lib.hid hlen
  clear h hok hm hlen
  generalize meL m l (wrongs m.pred l) (misses m l) (faults m l) = L at *
  have HEA : Hid (∀ W, Keep None w W → Calls Try.prog 11 #[.agg #[.int .i64 m.step, .int .i64 m.mis, .int .i64 m.miss, .int .i64 m.fault, .int .i64 m.call, .int .i64 m.ind, .int .i64 m.line, .int .i64 m.sets, .int .i64 m.ways, .int .i64 m.page, .int .i64 m.res, .int .i64 m.pred], .slice p l.length c] W (OwnPost meEnc 10 33 L W)) := Lib.hid HEA.out
  unfold moVal moEnc
  go_enter Try.func9, Try.ntmps9
  go_upto_region 1 with (fail)
  generalize hw2 : World.alloc _ _ = w2
  have hk2 : Keep None w w2 := by rw [← hw2]; exact ((Keep.refl _ _).alloc _).alloc _
  have hm2 : w2.heap[w.heap.size]? = some (.cells (moEnc m).toArray 27 (0, 0)) := by rw [← hw2]; exact ((Keep.refl None _).alloc _).obj (heap_alloc_new _ _) id
  have hz2 : w2.heap[w.heap.size + 1]? = some (.cells (meEnc ⟨0, 0, 0, 0, 0, 0, 0, 0, 0, 0⟩).toArray 33 (0, 0)) := by rw [← hw2]; exact alloc_at (by simp)
  have hs2 : w.heap.size + 2 = w2.heap.size := by rw [← hw2]; simp
  have HM2 := Lib.hid hm2
  have HZ2 := Lib.hid hz2
  have HK2 := Lib.hid hk2
  have HS2 := Lib.hid hs2
  clear hw2 hm2 hz2 hk2 hs2
  go_upto_region 2 with (first
    | ((with_reducible (show wpList _ _ _ (⟨_, .load 27 (.tmp 2), _, _, _, none⟩ :: _) _ _)); go_loud (refine wpList_loadEl (enc := listEnc) (size := 12) rfl 27 _ rfl _ _ rfl _ _ (range_of_obj HM2.out) rfl Try.underlying27 rfl Try.sizeModel (.agg #[.int .i64 m.step, .int .i64 m.mis, .int .i64 m.miss, .int .i64 m.fault, .int .i64 m.call, .int .i64 m.ind, .int .i64 m.line, .int .i64 m.sets, .int .i64 m.ways, .int .i64 m.page, .int .i64 m.res, .int .i64 m.pred]) rfl ?_))
    | (go_at_call 11; go_loud (refine (HEA.out w2 HK2.out).mono ?_; rintro e w3 ⟨p3, c3, rfl, ho3, hk3⟩; have HS3 := Lib.hid ((ho3.reads meEnc_len).2.2.2.1); have HK3 := Lib.hid hk3; clear ho3 hk3))
    | (go_at_call 10; go_loud (refine (sum_calls p3 L c3 w3 HS3.out (by rw [HLN.out]; omega)).mono ?_; rintro e w4 ⟨rfl, hk4⟩; have HK4 := Lib.hid hk4; clear hk4))
    | ((with_reducible (show wpList _ _ _ (⟨_, .store 33 (.tmp 5) _, _, _, _, none⟩ :: _) _ _)); go_loud (refine wpList_storeObj rfl 33 _ _ rfl w4.heap.size rfl (meEnc ⟨0, 0, 0, 0, 0, 0, 0, 0, 0, 0⟩) (meEnc (meSum L)) rfl _ rfl (heap_alloc_new _ _) 10 Try.sizeMeasure rfl (by simp [Value.oneCell', meEnc]) ?_; intro w5 hres5 hk5 hs5; have HR5 := Lib.hid hres5; have HK5 := Lib.hid (((Keep.refl None w4).alloc _).andThen hk5 (by intro k h1 h2; omega)); clear hres5 hk5 hs5)))
  simp only [Act.put]
  have hk5 := (HK3.out.trans HK4.out).trans HK5.out
  have hz5 := hk5.size
  have hz2 := HS2.out
  have hz4 : w2.heap.size ≤ w4.heap.size := (HK3.out.trans HK4.out).size
  have HM5 := Lib.hid (hk5.obj HM2.out id)
  have HZ5 := Lib.hid (hk5.obj HZ2.out id)
  have HKA := Lib.hid (HK2.out.trans hk5)
  have r10 := mo_cell HM5.out 10 _ rfl
  have hb5 : w4.heap.size < w5.heap.size := heap_lt HR5.out
  generalize w4.heap.size = b5 at *
  have HSC1 := Lib.hid HSC.out.1
  have HSC2 := Lib.hid HSC.out.2
  generalize meSum L = X at *
  clear hk5 hz5 HK3 HK4 HK5 HM2 HZ2 HK2 HS3 HS2 HEA HSC HLN
  by_cases hr : 0 < m.res
  · have r9 := mo_cell HM5.out 9 _ rfl
    go_upto_region 4 with (go_at_call 12; go_loud (refine (HPA.out m.page w5 HKA.out).mono ?_; rintro e w6 ⟨⟨p6, n6, c6, hn6, rfl⟩, hk6⟩; have x9 := me_cell (hk6.obj HR5.out id) 9 _ rfl; have y9 := cells_free (hk6.obj HR5.out id) 9; have HR6 := Lib.hid (hk6.obj HR5.out id); have HZ6 := Lib.hid (hk6.obj HZ5.out id); have HK6 := Lib.hid hk6; clear hk6))
    have hr7 : (w6.setCell ⟨b5, 9, none⟩ (.int .i64 n6)).heap[b5]? = some (.cells (meEnc { X with pages := n6 }).toArray 33 (0, 0)) := cell_put HR6.out 9 _
    have hz7 : (w6.setCell ⟨b5, 9, none⟩ (.int .i64 n6)).heap[w.heap.size + 1]? = some (.cells (meEnc ⟨0, 0, 0, 0, 0, 0, 0, 0, 0, 0⟩).toArray 33 (0, 0)) := (keep_set w6 b5 9 _).obj HZ6.out (show ¬ w.heap.size + 1 = b5 by omega)
    have hk7 : Keep None w (w6.setCell ⟨b5, 9, none⟩ (.int .i64 n6)) := (HKA.out.trans HK6.out).andThen (keep_set w6 b5 9 _) (fun x h1 h2 => by have h3 : x = b5 := h2; omega)
    generalize World.setCell _ _ _ = w7 at *
    have HR7 := Lib.hid hr7
    have HZ7 := Lib.hid hz7
    have HK7 := Lib.hid hk7
    clear hr7 hz7 hk7 x9 y9 HR6 HZ6 HK6
    go_wp2_with (first
      | ((with_reducible (show wpList _ _ _ (⟨_, .load 33 (.tmp 5), _, _, _, none⟩ :: _) _ _)); go_loud (refine wpList_loadEl rfl 33 _ rfl _ _ rfl _ _ (range_of_obj HR7.out) (meEnc_len _) Try.underlying33 rfl Try.sizeMeasure (meVal { X with pages := n6 }) rfl ?_))
      | ((with_reducible (show wpList _ _ _ (⟨_, .store 33 (.tmp 4) _, _, _, _, none⟩ :: _) _ _)); go_loud (refine wpList_storeObj rfl 33 _ _ rfl (w.heap.size + 1) rfl (meEnc ⟨0, 0, 0, 0, 0, 0, 0, 0, 0, 0⟩) (meEnc { X with pages := n6 }) rfl _ rfl HZ7.out 10 Try.sizeMeasure rfl (by simp [Value.oneCell', meEnc]) ?_; intro w8 ho8 hk8 _; have HO8 := Lib.hid ho8; have HK8 := Lib.hid hk8; clear ho8 hk8)))
    refine bodyPost_ret (results_obj rfl rfl _ _ (range_of_obj HO8.out) Try.underlying33 rfl 10 Try.sizeMeasure rfl) rfl ?_
    exact ⟨⟨{ X with pages := n6 }, rfl, HSC1.out, HSC2.out⟩, HK7.out.andThen HK8.out (fun x h1 h2 => by have h3 : x = w.heap.size + 1 := h2; omega)⟩
  · go_wp2_with (first
      | ((with_reducible (show wpList _ _ _ (⟨_, .load 33 (.tmp 5), _, _, _, none⟩ :: _) _ _)); go_loud (refine wpList_loadEl rfl 33 _ rfl _ _ rfl _ _ (range_of_obj HR5.out) (meEnc_len _) Try.underlying33 rfl Try.sizeMeasure (meVal X) rfl ?_))
      | ((with_reducible (show wpList _ _ _ (⟨_, .store 33 (.tmp 4) _, _, _, _, none⟩ :: _) _ _)); go_loud (refine wpList_storeObj rfl 33 _ _ rfl (w.heap.size + 1) rfl (meEnc ⟨0, 0, 0, 0, 0, 0, 0, 0, 0, 0⟩) (meEnc X) rfl _ rfl HZ5.out 10 Try.sizeMeasure rfl (by simp [Value.oneCell', meEnc]) ?_; intro w8 ho8 hk8 _; have HO8 := Lib.hid ho8; have HK8 := Lib.hid hk8; clear ho8 hk8)))
    refine bodyPost_ret (results_obj rfl rfl _ _ (range_of_obj HO8.out) Try.underlying33 rfl 10 Try.sizeMeasure rfl) rfl ?_
    exact ⟨⟨X, rfl, HSC1.out, HSC2.out⟩, HKA.out.andThen HK8.out (fun x h1 h2 => by have h3 : x = w.heap.size + 1 := h2; omega)⟩

end Go.Proofs.Ytpdnfekhfagfkaa
