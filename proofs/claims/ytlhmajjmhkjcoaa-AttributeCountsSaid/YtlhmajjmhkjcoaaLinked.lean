/-
  Chapter 23: one more link is counted.
-/
import Derived.Test.YtlhmajjmhkjcoaaSearch
import Derived.Test.YtlhmajjmhkjcoaaInsert
import Derived.Test.YtlhmajjmhkjcoaaOwnMore
namespace Go.Proofs.Ytlhmajjmhkjcoaa
open Go.RowKit

def linkedL : List Lk → Lk → List Lk
  | [], x => [x]
  | y :: r, x => if lessB y x then y :: linkedL r x else if ordL y x = 0 then { y with count := y.count + x.count } :: r else x :: y :: r

theorem linked_found : ∀ {l : List Lk} {x y : Lk} {i : Nat}, Place l x i → l[i]? = some y → ordL y x = 0 → linkedL l x = l.set i { y with count := y.count + x.count }
  | [], _, _, _, _, h, _ => by simp at h
  | z :: r, x, y, 0, hp, h, hz => by
    simp at h; subst h
    have hl : lessB z x = false := hp.2.2 0 z (by omega) (by simp)
    simp [linkedL, hl, hz]
  | z :: r, x, y, i + 1, hp, h, hz => by
    have hl : lessB z x = true := hp.2.1 0 z (by omega) (by simp)
    have := linked_found (l := r) (x := x) (y := y) (i := i) ⟨by have := hp.1; simp at this; omega, fun j u hj hu => hp.2.1 (j + 1) u (by omega) (by simpa using hu), fun j u hj hu => hp.2.2 (j + 1) u (by omega) (by simpa using hu)⟩ (by simpa using h) hz
    simp [linkedL, hl, this]

theorem linked_new : ∀ {l : List Lk} {x : Lk} {i : Nat}, Place l x i → (∀ y, l[i]? = some y → ordL y x ≠ 0) → linkedL l x = putIn l i x
  | [], x, i, hp, _ => by
    have : i = 0 := by have := hp.1; simp at this; exact this
    subst this; rfl
  | z :: r, x, 0, hp, hz => by
    have hl : lessB z x = false := hp.2.2 0 z (by omega) (by simp)
    have := hz z (by simp)
    simp [linkedL, hl, this, putIn]
  | z :: r, x, i + 1, hp, hz => by
    have hl : lessB z x = true := hp.2.1 0 z (by omega) (by simp)
    have := linked_new (l := r) (x := x) (i := i) ⟨by have := hp.1; simp at this; omega, fun j u hj hu => hp.2.1 (j + 1) u (by omega) (by simpa using hu), fun j u hj hu => hp.2.2 (j + 1) u (by omega) (by simpa using hu)⟩ (fun y hy => hz y (by simpa using hy))
    simp [linkedL, hl, this, putIn]

set_option maxRecDepth 100000 in
set_option maxHeartbeats 2000000 in
theorem linked_calls (p : Option Addr) (l : List Lk) (c base : Nat) (x0 x1 x2 x3 : Int) (w : World) (hown : Own Lk.enc 4 72 base w (.slice p l.length c) l) (hl : l.length ≤ 1000) (hb : base ≤ w.heap.size) (hs : sorted l)
    (hc : ∀ y ∈ l, 0 ≤ y.count ∧ y.count ≤ 1000000000000000000) (hx0 : 0 ≤ x3) (hx1 : x3 ≤ 1000000000000000000) :
    Calls Try.prog 32 #[.slice p l.length c, .agg #[.int .i64 x0, .int .i64 x1, .int .i64 x2, .int .i64 x3]] w (GrowPost base (.slice p l.length c) (linkedL l ⟨x0, x1, x2, x3⟩) w) := by
  obtain ⟨_, _, _, hsl, _⟩ := hown.reads Lk.enc_len
  go_enter Try.func32, Try.ntmps32
  go_wp2_with (fail)
  have hal : Keep None w (w.alloc (.cells #[.int .i64 x0, .int .i64 x1, .int .i64 x2, .int .i64 x3] 72)) := (Keep.refl _ _).alloc _
  refine (find_calls p l c x0 x1 x2 x3 _ (hsl.keep hal (fun _ _ => id)) hl hs).mono ?_
  rintro e w1 ⟨i, rfl, hpl, hk1⟩
  have hbx : w1.heap[w.heap.size]? = some (.cells #[.int .i64 x0, .int .i64 x1, .int .i64 x2, .int .i64 x3] 72 (0, 0)) := hk1.obj (heap_alloc_new _ _) id
  have hkk := hal.trans hk1
  have hown1 := hown.keep hkk (fun _ _ => id)
  have HKK := Lib.hid hkk
  have HO := Lib.hid hown1
  have HBX := Lib.hid hbx
  have HPL := Lib.hid hpl
  have hil := hpl.1
  have hlw : w.heap.size < w1.heap.size := heap_lt hbx
  have hob : ∀ g, (Value.slice p l.length c).ownBlock = some g → g < w.heap.size := fun g hg => (World.ownsRow.lt hown g hg).2
  have HOB := Lib.hid hob
  clear hal hk1 hkk hown1 hbx hpl hown hob hsl
  cases hf : foundAt l ⟨x0, x1, x2, x3⟩ i with
  | true =>
    obtain ⟨y, hy, hz⟩ : ∃ y, l[i]? = some y ∧ ordL y ⟨x0, x1, x2, x3⟩ = 0 := by
      unfold foundAt at hf
      split at hf
      · rename_i y hy; exact ⟨y, hy, by simpa using hf⟩
      · cases hf
    have HR := Lib.hid (linked_found HPL.out hy hz)
    have hil2 : i < l.length := (List.getElem?_eq_some_iff.1 hy).1
    obtain ⟨g, rfl, hg⟩ := HO.out.row Lk.enc_len (by omega)
    have hcy := hc y (List.mem_of_getElem? hy)
    have HY := Lib.hid hy
    obtain ⟨_, _, _, hsl, _⟩ := HO.out.reads Lk.enc_len
    have hc3 : (World.drew w1).cell? ⟨g, i * 4 + 3, none⟩ = some (.int .i64 y.count) := by
      rcases hsl with h | ⟨_, _, he, h⟩
      · subst h; simp at hil2
      · cases he; simpa using h i y hy 3 _ rfl
    have hf3' : w1.frozen? ⟨g, i * 4 + 3, none⟩ = false := by
      rcases HO.out.2 with ⟨hv, _⟩ | ⟨g', c', cur, hv, hbg, hg, _⟩
      · cases hv
      · cases hv; simp [World.frozen?, hg]
    have hf3 : (World.drew w1).frozen? ⟨g, i * 4 + 3, none⟩ = false := hf3'
    have b3' : w1.cell? ⟨w.heap.size, 3, none⟩ = some (.int .i64 x3) := by simp [World.cell?, HBX.out]
    have b3 : (World.drew w1).cell? ⟨w.heap.size, 3, none⟩ = some (.int .i64 x3) := b3'
    clear hf3' b3'
    have HOD : Hid (Own Lk.enc 4 72 base (World.drew w1) (.slice (some ⟨g, 0, none⟩) l.length c) l) := Lib.hid (HO.out.keep ((Keep.refl None w1).drew) (fun _ _ => id))
    have HKD := Lib.hid (HKK.out.drew)
    obtain ⟨hcy0, hcy1⟩ := hcy
    have q1 : IntKind.i64.wrap (y.count + x3) = y.count + x3 := IntWalk.i64_in _ (by omega)
    clear hsl hy hz hf hc
    go_upto_region 3 with (fail)
    refine region_tail 8 (by kernel_rfl) (by kernel_rfl) ?_
    simp only [List.take_succ_cons, List.take_zero, List.drop_succ_cons, List.drop_zero]
    generalize World.drew w1 = wd at *
    repeat still_step
    refine wpStill_nil ?_
    clear q1
    go_wp2_with (fail)
    go_ret
    rw [HR.out]
    have hset := HOD.out.setField Lk.enc_len HY.out (j := 3) (by omega) (v := .int .i64 (y.count + x3)) (c := { y with count := y.count + x3 }) rfl
    refine ⟨some ⟨g, 0, none⟩, c, by rw [List.length_set]; rfl, by rw [List.length_set]; exact hset, ?_, .inl (by simp [Value.ownBlock])⟩
    exact ((HKD.out.weaken (T := fun k => k = g) (fun _ _ q => q.elim)).setCell (p := ⟨g, i * 4 + 3, none⟩) (.inl rfl) _).weaken (fun k _ q => by simp [Value.ownBlock, q])
  | false =>
    have hn : ∀ y, l[i]? = some y → ordL y ⟨x0, x1, x2, x3⟩ ≠ 0 := by
      intro y hy hz
      simp [foundAt, hy, hz] at hf
    have HR := Lib.hid (linked_new HPL.out hn)
    clear hn hf hc
    go_wp2_with (with_reducible (show wpList _ _ _ (⟨_, .load 72 _, _, _, _, none⟩ :: _) _ _); refine wpList_loadEl (enc := listEnc) (size := 4) rfl 72 _ rfl _ _ rfl _ _ (range_of_obj HBX.out) rfl Try.underlying72 rfl Try.sizeLk (.agg #[.int .i64 x0, .int .i64 x1, .int .i64 x2, .int .i64 x3]) rfl ?_)
    refine (insert_calls p l c i base w1.heap.size ⟨x0, x1, x2, x3⟩ _ (HO.out.keep (S := None) ((Keep.refl _ _).alloc _) (fun _ _ => id)) hl (by simp; omega) (heap_alloc_new _ _) (by intro h; have := HOB.out _ h; omega) hil).mono ?_
    rintro e w2 ⟨p', c', rfl, h1, h2, h3⟩
    have H1 := Lib.hid h1
    have H2 := Lib.hid h2
    have H3 := Lib.hid h3
    clear h1 h2 h3
    go_wp2
    go_ret
    rw [HR.out]
    refine ⟨p', c', rfl, H1.out, (HKK.out.alloc _).weaken (fun _ _ q => q.elim) |>.trans H2.out, ?_⟩
    rcases H3.out with h | ⟨k, h, h'⟩
    · exact .inl h
    · exact .inr ⟨k, by simp at h; omega, h'⟩

end Go.Proofs.Ytlhmajjmhkjcoaa
