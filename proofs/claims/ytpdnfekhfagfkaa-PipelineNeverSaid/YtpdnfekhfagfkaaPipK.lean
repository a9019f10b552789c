/-
  Chapter 19: measures: pipeline.cycles, add, Sum.
-/
import Derived.Test.YtpdnfekhfagfkaaPipJ
namespace Go.Proofs.Ytpdnfekhfagfkaa
open Go.RowKit PI

/-- A measure. -/
structure Me where
  calls : Int
  ind : Int
  steps : Int
  cyc : Int
  br : Int
  mis : Int
  fe : Int
  miss : Int
  fau : Int
  pages : Int
def meEnc (x : Me) : List Value := [.int .i64 x.calls, .int .i64 x.ind, .int .i64 x.steps, .int .i64 x.cyc, .int .i64 x.br, .int .i64 x.mis, .int .i64 x.fe, .int .i64 x.miss, .int .i64 x.fau, .int .i64 x.pages]
theorem meEnc_len (x : Me) : (meEnc x).length = 10 := rfl
def meVal (x : Me) : Value := .agg (meEnc x).toArray
theorem Try.sizeMeasure : (Try.prog.info? 33).map (·.size) = some 10 := by kernel_rfl

def pEnc (p : Int × Int) : List Value := [.int .i64 p.1, .int .i64 p.2]
theorem pEnc_len (p : Int × Int) : (pEnc p).length = 2 := rfl
/-- What is multiplied. -/
def pairs (m : Mod) (x : Me) : List (Int × Int) := [(x.steps, m.step), (x.mis, m.mis), (x.miss, m.miss), (x.fau, m.fault), (x.calls, m.call), (x.ind, m.ind)]
def psum (l : List (Int × Int)) : Int := (l.map fun p => p.1 * p.2).sum
def inB (l : List (Int × Int)) : Prop := ∀ p ∈ l, 0 ≤ p.1 ∧ p.1 ≤ 1000000 ∧ 0 ≤ p.2 ∧ p.2 ≤ 1000

theorem prod_bound {a b : Int} (h1 : 0 ≤ a) (h2 : a ≤ 1000000) (h3 : 0 ≤ b) (h4 : b ≤ 1000) : 0 ≤ a * b ∧ a * b ≤ 1000000000 := by
  constructor
  · exact Int.mul_nonneg h1 h3
  · calc a * b ≤ 1000000 * b := Int.mul_le_mul_of_nonneg_right h2 h3
      _ ≤ 1000000 * 1000 := Int.mul_le_mul_of_nonneg_left h4 (by omega)
theorem psum_bound : ∀ (l : List (Int × Int)), inB l → 0 ≤ psum l ∧ psum l ≤ l.length * 1000000000
  | [], _ => by simp [psum]
  | p :: l, h => by
    have h1 := psum_bound l (fun q hq => h q (List.mem_cons_of_mem _ hq))
    obtain ⟨a, b, c, d⟩ := h p List.mem_cons_self
    have h2 := prod_bound a b c d
    simp only [psum, List.map_cons, List.sum_cons, List.length_cons] at h1 ⊢
    omega
theorem psum_snoc (l : List (Int × Int)) (p : Int × Int) : psum (l ++ [p]) = psum l + p.1 * p.2 := by
  simp [psum, List.sum_append]
theorem pairs_sum (m : Mod) (x : Me) : psum (pairs m x) = x.steps * m.step + x.mis * m.mis + x.miss * m.miss + x.fau * m.fault + x.calls * m.call + x.ind * m.ind := by
  simp [psum, pairs]
  omega

set_option maxRecDepth 100000 in
set_option maxHeartbeats 2000000 in
theorem cycles_calls (m : Mod) (x : Me) (w : World) (h : inB (pairs m x)) : Calls Try.prog 18 #[moVal m, meVal x] w fun e w' => e = .returned (.int .i64 (psum (pairs m x))) ∧ Keep None w w' := by
  unfold moVal moEnc meVal meEnc
  go_enter Try.func18, Try.ntmps18
  go_upto_region 1 with (fail)
  generalize hw2 : World.alloc _ _ = w2
  have hk2 : Keep None w w2 := by rw [← hw2]; exact ((Keep.refl _ _).alloc _).alloc _
  have hm2 : w2.heap[w.heap.size]? = some (.cells (moEnc m).toArray 27 (0, 0)) := by rw [← hw2]; exact ((Keep.refl None _).alloc _).obj (heap_alloc_new _ _) id
  have hx2 : w2.heap[w.heap.size + 1]? = some (.cells (meEnc x).toArray 33 (0, 0)) := by rw [← hw2]; exact alloc_at (by simp)
  have r0 := mo_cell hm2 0 _ rfl
  have r1 := mo_cell hm2 1 _ rfl
  have r2 := mo_cell hm2 2 _ rfl
  have r3 := mo_cell hm2 3 _ rfl
  have r4 := mo_cell hm2 4 _ rfl
  have r5 := mo_cell hm2 5 _ rfl
  have s0 := cell_of_row _ _ 0 _ _ _ hx2
  have s1 := cell_of_row _ _ 1 _ _ _ hx2
  have s2 := cell_of_row _ _ 2 _ _ _ hx2
  have s5 := cell_of_row _ _ 5 _ _ _ hx2
  have s7 := cell_of_row _ _ 7 _ _ _ hx2
  have s8 := cell_of_row _ _ 8 _ _ _ hx2
  unfold meEnc at s0 s1 s2 s5 s7 s8
  have HK2 := Lib.hid hk2
  clear hw2 hk2 hm2 hx2
  go_wp2_with (fail)
  generalize hw3 : World.alloc _ _ = w3
  have ha3 : Arr pEnc 66 w3 w2.heap.size (pairs m x) := by rw [← hw3]; exact heap_alloc_new _ _
  have hk3 : Keep None w w3 := by rw [← hw3]; exact HK2.out.alloc _
  have HA3 := Lib.hid ha3
  have HK3 := Lib.hid hk3
  have HB := Lib.hid h
  have hpl : (pairs m x).length = 6 := rfl
  clear hw3 ha3 hk3 HK2 h r0 r1 r2 r3 r4 r5 s0 s1 s2 s5 s7 s8
  generalize w2.heap.size = b5 at *
  generalize hps : pairs m x = ps at *
  have HPS := Lib.hid hps
  clear hps
  go_loopw [6, 39] (fun s t wr => ∃ k : Nat, t = .int .i64 k ∧ k ≤ 6 ∧ s = .int .i64 (psum (ps.take k)) ∧ Keep None w3 wr) (fun _ t _ => 6 - (intOf t).toNat)
  case atStart => exact ⟨0, by simp, by omega, by simp [psum], Keep.refl _ _⟩
  case round =>
    obtain ⟨k, rfl, hk, rfl, hkr⟩ := hrel
    have HKR := Lib.hid hkr
    have hpb := psum_bound (ps.take k) (fun p hp => HB.out p (List.mem_of_mem_take hp))
    rw [List.length_take] at hpb
    by_cases hlt : k < 6
    · obtain ⟨p, hp⟩ : ∃ p, ps[k]? = some p := ⟨ps[k], List.getElem?_eq_getElem (by omega)⟩
      obtain ⟨hp1, hp2, hp3, hp4⟩ := HB.out p (List.mem_of_getElem? hp)
      have hpr := prod_bound hp1 hp2 hp3 hp4
      have HSN := Lib.hid ((congrArg psum (take_snoc hp)).trans (psum_snoc _ p))
      have hrg := ((HA3.out.keep hkr id).slAt pEnc_len).range hp
      generalize psum (ps.take k) = acc at *
      obtain ⟨pa, pb⟩ := p
      simp only at hp1 hp2 hp3 hp4 hpr
      have c0 : wr.cell? ⟨b5, k * 2, none⟩ = some (.int .i64 pa) := by simpa using hrg 0 _ rfl
      have c1 : wr.cell? ⟨b5, k * 2 + 1, none⟩ = some (.int .i64 pb) := by simpa using hrg 1 _ rfl
      clear hrg hkr hp
      generalize hprd : pa * pb = prd at *
      go_upto_region 6 with (fail)
      go_quiet (fail)
      go_wp2_with (fail)
      go_roundw
      case rel => exact ⟨k + 1, by simp, by omega, by rw [HSN.out, ← hprd], HKR.out.drewN _⟩
      case measure => simp [intOf]; omega
    · obtain rfl : k = 6 := by omega
      have hall : ps.take 6 = ps := List.take_of_length_le (by omega)
      rw [hall]
      clear hkr hpb hall
      go_wp2_with (fail)
      go_ret
      exact ⟨by rw [HPS.out]; rfl, HK3.out.trans HKR.out⟩

/-- Two measures, field by field. -/
def meAdd (a b : Me) : Me := ⟨wrap64 (a.calls + b.calls), wrap64 (a.ind + b.ind), wrap64 (a.steps + b.steps), wrap64 (a.cyc + b.cyc), wrap64 (a.br + b.br), wrap64 (a.mis + b.mis), wrap64 (a.fe + b.fe), wrap64 (a.miss + b.miss), wrap64 (a.fau + b.fau), wrap64 (a.pages + b.pages)⟩
theorem me_cell {w : World} {g : Nat} {x : Me} {fr : Nat × Nat} (h : w.heap[g]? = some (.cells (meEnc x).toArray 33 fr)) (i : Nat) (v : Value) (hv : (meEnc x)[i]? = some v) : w.cell? ⟨g, i, none⟩ = some v := by
  have := cell_of_row _ _ i (meEnc x).toArray _ _ h
  simp only [List.getElem?_toArray] at this
  rw [hv] at this
  exact this

set_option maxRecDepth 100000 in
set_option maxHeartbeats 2000000 in
theorem add_calls (x y : Me) (w : World) : Calls Try.prog 13 #[meVal x, meVal y] w fun e w' => e = .returned (meVal (meAdd x y)) ∧ Keep None w w' := by
  unfold meVal
  simp only [meEnc]
  go_enter Try.func13, Try.ntmps13
  go_upto_region 1 with (fail)
  generalize hw2 : World.alloc _ _ = w2
  have hk2 : Keep None w w2 := by rw [← hw2]; exact (((Keep.refl _ _).alloc _).alloc _).alloc _
  have hx2 : w2.heap[w.heap.size]? = some (.cells (meEnc x).toArray 33 (0, 0)) := by rw [← hw2]; exact (((Keep.refl None _).alloc _).alloc _).obj (heap_alloc_new _ _) id
  have hy2 : w2.heap[w.heap.size + 1]? = some (.cells (meEnc y).toArray 33 (0, 0)) := by rw [← hw2]; exact ((Keep.refl None _).alloc _).obj (alloc_at (by simp)) id
  have hz2 : w2.heap[w.heap.size + 2]? = some (.cells (meEnc ⟨0, 0, 0, 0, 0, 0, 0, 0, 0, 0⟩).toArray 33 (0, 0)) := by rw [← hw2]; exact alloc_at (by simp)
  have r0 := me_cell hx2 0 _ rfl
  have r1 := me_cell hx2 1 _ rfl
  have r2 := me_cell hx2 2 _ rfl
  have r3 := me_cell hx2 3 _ rfl
  have r4 := me_cell hx2 4 _ rfl
  have r5 := me_cell hx2 5 _ rfl
  have r6 := me_cell hx2 6 _ rfl
  have r7 := me_cell hx2 7 _ rfl
  have r8 := me_cell hx2 8 _ rfl
  have r9 := me_cell hx2 9 _ rfl
  have s0 := me_cell hy2 0 _ rfl
  have s1 := me_cell hy2 1 _ rfl
  have s2 := me_cell hy2 2 _ rfl
  have s3 := me_cell hy2 3 _ rfl
  have s4 := me_cell hy2 4 _ rfl
  have s5 := me_cell hy2 5 _ rfl
  have s6 := me_cell hy2 6 _ rfl
  have s7 := me_cell hy2 7 _ rfl
  have s8 := me_cell hy2 8 _ rfl
  have s9 := me_cell hy2 9 _ rfl
  have HK2 := Lib.hid hk2
  have HZ2 := Lib.hid hz2
  clear hw2 hk2 hx2 hy2 hz2
  go_wp2_with ((with_reducible (show wpList _ _ _ (⟨_, .store 33 (.tmp 4) _, _, _, _, none⟩ :: _) _ _)); go_loud (refine wpList_storeObj rfl 33 _ _ rfl (w.heap.size + 2) rfl (meEnc ⟨0, 0, 0, 0, 0, 0, 0, 0, 0, 0⟩) (meEnc (meAdd x y)) rfl _ rfl HZ2.out 10 Try.sizeMeasure rfl (by simp [Value.oneCell', meEnc]) ?_; intro w3 ho3 hk3 _; have HO3 := Lib.hid ho3; have HK3 := Lib.hid hk3; clear ho3 hk3))
  refine bodyPost_ret (results_obj rfl rfl _ _ (range_of_obj HO3.out) Try.underlying33 rfl 10 Try.sizeMeasure rfl) rfl ?_
  refine ⟨rfl, HK2.out.andThen HK3.out (fun k h1 h2 => by have h3 : k = w.heap.size + 2 := h2; omega)⟩

/-- The sum of measures. -/
def meSum (l : List Me) : Me := l.foldl meAdd ⟨0, 0, 0, 0, 0, 0, 0, 0, 0, 0⟩
theorem meSum_snoc (l : List Me) (x : Me) : meSum (l ++ [x]) = meAdd (meSum l) x := by unfold meSum; rw [List.foldl_append]; rfl

set_option maxRecDepth 100000 in
set_option maxHeartbeats 2000000 in
theorem sum_calls (p : Option Addr) (l : List Me) (c : Nat) (w : World) (h : SliceV meEnc 10 w p l) (hl : l.length ≤ 1000) : Calls Try.prog 10 #[.slice p l.length c] w fun e w' => e = .returned (meVal (meSum l)) ∧ Keep None w w' := by
  have HS := Lib.hid h
  clear h
  go_enter Try.func10, Try.ntmps10
  go_upto_region 2 with (fail)
  generalize hw2 : World.alloc _ _ = w2
  have hk2 : Keep None w w2 := by rw [← hw2]; exact ((Keep.refl _ _).alloc _).alloc _
  have hx2 : w2.heap[w.heap.size]? = some (.cells (meEnc ⟨0, 0, 0, 0, 0, 0, 0, 0, 0, 0⟩).toArray 33 (0, 0)) := by rw [← hw2]; exact ((Keep.refl None _).alloc _).obj (heap_alloc_new _ _) id
  have hy2 : w2.heap[w.heap.size + 1]? = some (.cells (meEnc (meSum [])).toArray 33 (0, 0)) := by rw [← hw2]; exact alloc_at (by simp)
  have hs2 : w2.heap.size = w.heap.size + 2 := by rw [← hw2]; simp
  have HS2 := Lib.hid (HS.out.keep hk2 (fun _ _ => id))
  have HK2 := Lib.hid hk2
  have HX2 := Lib.hid hx2
  have HY2 := Lib.hid hy2
  have HZ2 := Lib.hid hs2
  clear hw2 hk2 hx2 hy2 hs2
  go_wp2_with (fail)
  go_loopw [8] (fun t wr => ∃ k : Nat, t = .int .i64 k ∧ k ≤ l.length ∧ wr.heap[w.heap.size + 1]? = some (.cells (meEnc (meSum (l.take k))).toArray 33 (0, 0)) ∧ Keep (fun x => x = w.heap.size + 1) w2 wr) (fun t _ => l.length - (intOf t).toNat)
  case atStart => exact ⟨0, by simp, by omega, HY2.out, Keep.refl _ _⟩
  case round =>
    obtain ⟨k, rfl, hk, hy, hkr⟩ := hrel
    have hzr := HZ2.out
    have hzs := hkr.size
    have HKR := Lib.hid hkr
    have HY := Lib.hid hy
    by_cases hlt : k < l.length
    · obtain ⟨x, hx⟩ : ∃ x, l[k]? = some x := ⟨l[k], List.getElem?_eq_getElem hlt⟩
      have hsl : SliceV meEnc 10 wr p l := HS2.out.keep hkr (fun a ha h => by
        rcases HS.out with h0 | ⟨b, o, hb, hsl⟩
        · rw [h0] at hlt; simp at hlt
        · rw [hb] at ha; cases ha
          have h1 : b < w.heap.size := World.block_lt_of_cell? w _ (hsl k x hx 0 _ rfl)
          have h2 : b = w.heap.size + 1 := h
          omega)
      rcases hsl with hsl | ⟨pb, po, rfl, hsl⟩
      · rw [hsl] at hlt; simp at hlt
      have HRG := Lib.hid (hsl.range hx)
      have HSN := Lib.hid ((congrArg meSum (take_snoc hx)).trans (meSum_snoc _ x))
      clear hsl hx hy hkr hzr
      generalize meSum (l.take k) = acc at *
      go_upto_region 5 with (first
        | ((with_reducible (show wpList _ _ _ (⟨_, .load 33 (.tmp 10), _, _, _, none⟩ :: _) _ _)); go_loud (refine wpList_loadEl rfl 33 _ rfl _ _ rfl _ _ HRG.out (meEnc_len _) Try.underlying33 rfl Try.sizeMeasure (meVal x) rfl ?_))
        | ((with_reducible (show wpList _ _ _ (⟨_, .store 33 (.tmp 5) _, _, _, _, none⟩ :: _) _ _)); go_loud (refine wpList_storeObj rfl 33 _ _ rfl wr.heap.size rfl (meEnc ⟨0, 0, 0, 0, 0, 0, 0, 0, 0, 0⟩) (meEnc x) rfl _ rfl (heap_alloc_new _ _) 10 Try.sizeMeasure rfl (by simp [Value.oneCell', meEnc]) ?_; intro w4 hres4 hk4 hs4; have HR4 := Lib.hid hres4; have HK4 := Lib.hid (((Keep.refl None wr).alloc _).andThen hk4 (by intro k h1 h2; omega)); clear hres4 hk4 hs4)))
      have HY4 := Lib.hid (HK4.out.obj HY.out id)
      clear HY
      go_wp2_with (first
        | ((with_reducible (show wpList _ _ _ (⟨some 12, .load 33 (.tmp 3), _, _, _, none⟩ :: _) _ _)); go_loud (refine wpList_loadEl rfl 33 _ rfl _ _ rfl _ _ (range_of_obj HY4.out) (meEnc_len _) Try.underlying33 rfl Try.sizeMeasure (meVal acc) rfl ?_))
        | ((with_reducible (show wpList _ _ _ (⟨some 13, .load 33 (.tmp 5), _, _, _, none⟩ :: _) _ _)); go_loud (refine wpList_loadEl rfl 33 _ rfl _ _ rfl _ _ (range_of_obj HR4.out) (meEnc_len _) Try.underlying33 rfl Try.sizeMeasure (meVal x) rfl ?_))
        | (go_at_call 13; go_loud (refine (add_calls acc x _).mono ?_; rintro e w5 ⟨rfl, hk5⟩; have HK5 := Lib.hid hk5; have HY5 := Lib.hid (hk5.obj HY4.out id); clear hk5))
        | ((with_reducible (show wpList _ _ _ (⟨_, .store 33 (.tmp 3) _, _, _, _, none⟩ :: _) _ _)); go_loud (refine wpList_storeObj rfl 33 _ _ rfl (w.heap.size + 1) rfl (meEnc acc) (meEnc (meAdd acc x)) rfl _ rfl HY5.out 10 Try.sizeMeasure rfl (by simp [Value.oneCell', meEnc]) ?_; intro w6 ho6 hk6 _; have HO6 := Lib.hid ho6; have HK6 := Lib.hid hk6; clear ho6 hk6)))
      go_roundw
      case rel => exact ⟨k + 1, by simp, by omega, by rw [HSN.out]; exact HO6.out, HKR.out.trans (((HK4.out.trans HK5.out).weaken (fun _ _ h => h.elim)).trans HK6.out)⟩
      case measure => simp [intOf]; omega
    · obtain rfl : k = l.length := by omega
      rw [List.take_length] at hy
      have HY := Lib.hid hy
      have HX := Lib.hid (hkr.obj HX2.out (show ¬ w.heap.size = w.heap.size + 1 by omega))
      clear hkr hy hzr hzs
      go_wp2_with (first
        | ((with_reducible (show wpList _ _ _ (⟨_, .load 33 (.tmp 3), _, _, _, none⟩ :: _) _ _)); go_loud (refine wpList_loadEl rfl 33 _ rfl _ _ rfl _ _ (range_of_obj HY.out) (meEnc_len _) Try.underlying33 rfl Try.sizeMeasure (meVal (meSum l)) rfl ?_))
        | ((with_reducible (show wpList _ _ _ (⟨_, .store 33 (.tmp 2) _, _, _, _, none⟩ :: _) _ _)); go_loud (refine wpList_storeObj rfl 33 _ _ rfl w.heap.size rfl (meEnc ⟨0, 0, 0, 0, 0, 0, 0, 0, 0, 0⟩) (meEnc (meSum l)) rfl _ rfl HX.out 10 Try.sizeMeasure rfl (by simp [Value.oneCell', meEnc]) ?_; intro w6 ho6 hk6 _; have HO6 := Lib.hid ho6; have HK6 := Lib.hid hk6; clear ho6 hk6)))
      refine bodyPost_ret (results_obj rfl rfl _ _ (range_of_obj HO6.out) Try.underlying33 rfl 10 Try.sizeMeasure rfl) rfl ?_
      exact ⟨rfl, (HK2.out.andThen HKR.out (fun k h1 h2 => by have h3 : k = w.heap.size + 1 := h2; omega)).andThen HK6.out (fun k h1 h2 => by have h3 : k = w.heap.size := h2; omega)⟩

end Go.Proofs.Ytpdnfekhfagfkaa
