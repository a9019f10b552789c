/-
  Chapter 23: a link is looked for.
-/
import Derived.Test.YtlhmajjmhkjcoaaLinks
import Derived.Deep.DeepCutAuto
namespace Go.Proofs.Ytlhmajjmhkjcoaa
open Go.RowKit

/-- Where x belongs in l. -/
def Place (l : List Lk) (x : Lk) (i : Nat) : Prop := i ≤ l.length ∧ (∀ j y, j < i → l[j]? = some y → lessB y x = true) ∧ (∀ j y, i ≤ j → l[j]? = some y → lessB y x = false)
def foundAt (l : List Lk) (x : Lk) (i : Nat) : Bool := match l[i]? with | some y => ordL y x == 0 | none => false

def sorted (l : List Lk) : Prop := l.Pairwise (fun a b => lessB a b = true)

theorem lessB_iff (a b : Lk) : lessB a b = true ↔ a.func < b.func ∨ (a.func = b.func ∧ (a.block < b.block ∨ (a.block = b.block ∧ a.callee < b.callee))) := by
  unfold lessB
  split
  · simp; omega
  · split
    · simp; omega
    · simp; omega

theorem less_trans {a b c : Lk} (h1 : lessB a b = true) (h2 : lessB b c = true) : lessB a c = true := by
  rw [lessB_iff] at *; omega

theorem sorted_below {l : List Lk} (hs : sorted l) {x : Lk} {m : Nat} {y : Lk} (hm : l[m]? = some y) (hy : lessB y x = true) : ∀ j z, j < m + 1 → l[j]? = some z → lessB z x = true := by
  intro j z hj hz
  by_cases h : j = m
  · subst h; rw [hm] at hz; cases hz; exact hy
  · have hml := (List.getElem?_eq_some_iff.1 hm)
    have hjl := (List.getElem?_eq_some_iff.1 hz)
    have := List.pairwise_iff_getElem.1 hs j m hjl.1 hml.1 (by omega)
    rw [hjl.2, hml.2] at this
    exact less_trans this hy

theorem sorted_above {l : List Lk} (hs : sorted l) {x : Lk} {m : Nat} {y : Lk} (hm : l[m]? = some y) (hy : lessB y x = false) : ∀ j z, m ≤ j → l[j]? = some z → lessB z x = false := by
  intro j z hj hz
  by_cases h : j = m
  · subst h; rw [hm] at hz; cases hz; exact hy
  · have hml := (List.getElem?_eq_some_iff.1 hm)
    have hjl := (List.getElem?_eq_some_iff.1 hz)
    have := List.pairwise_iff_getElem.1 hs m j hml.1 hjl.1 (by omega)
    rw [hjl.2, hml.2] at this
    cases hzx : lessB z x with
    | false => rfl
    | true => have := less_trans this hzx; rw [hy] at this; cases this

def FindPost (l : List Lk) (x : Lk) (w : World) (e : Ending) (w' : World) : Prop :=
  ∃ i : Nat, e = .returned (.tuple #[.int .i64 i, .bool (foundAt l x i)]) ∧ Place l x i ∧ Keep None w w'

def FindInv (l : List Lk) (x : Lk) (w0 : World) (u v : Value) (w : World) : Prop :=
  ∃ lo hi : Nat, u = .int .i64 lo ∧ v = .int .i64 hi ∧ lo ≤ hi ∧ hi ≤ l.length ∧ (∀ j y, j < lo → l[j]? = some y → lessB y x = true) ∧ (∀ j y, hi ≤ j → l[j]? = some y → lessB y x = false) ∧ Keep None w0 w

set_option maxRecDepth 100000 in
set_option maxHeartbeats 4000000 in
theorem find_calls (p : Option Addr) (l : List Lk) (c : Nat) (x0 x1 x2 x3 : Int) (w : World) (h : SliceV Lk.enc 4 w p l) (hl : l.length ≤ 1000) (hs : sorted l) :
    Calls Try.prog 46 #[.slice p l.length c, .agg #[.int .i64 x0, .int .i64 x1, .int .i64 x2, .int .i64 x3], .func (.func 47) #[] #[]] w (FindPost l ⟨x0, x1, x2, x3⟩ w) := by
  go_enter Try.func46, Try.ntmps46
  go_wp2
  generalize hW : World.alloc w _ = W
  have hk : Keep None w W := by rw [← hW]; exact (Keep.refl _ _).alloc _
  have hblk : W.heap[w.heap.size]? = some (.cells #[.int .i64 x0, .int .i64 x1, .int .i64 x2, .int .i64 x3] 72 (0, 0)) := by rw [← hW]; exact heap_alloc_new _ _
  have HB := Lib.hid hblk
  have HS := Lib.hid (h.keep hk (fun _ _ => id))
  have HK := Lib.hid hk
  clear hW hblk h hk
  go_loopw [9, 10] (FindInv l ⟨x0, x1, x2, x3⟩ W) (fun u v _ => (intOf v).toNat - (intOf u).toNat)
  case atStart => exact ⟨0, l.length, rfl, rfl, by omega, by omega, by intro j y hj; omega, by intro j y hj hy; have := (List.getElem?_eq_some_iff.1 hy).1; omega, Keep.refl _ _⟩
  case round =>
    obtain ⟨lo, hi, rfl, rfl, h1, h2, h3, h4, hkp⟩ := hrel
    have H3 := Lib.hid h3
    have H4 := Lib.hid h4
    have HKP := Lib.hid hkp
    clear h3 h4 hkp
    by_cases hlt : lo < hi
    · obtain ⟨m, hm⟩ : ∃ m, m = (lo + hi) / 2 := ⟨_, rfl⟩
      obtain ⟨y, hy⟩ : ∃ y, l[m]? = some y := ⟨l[m]'(by omega), List.getElem?_eq_getElem _⟩
      obtain ⟨y0, y1, y2, y3⟩ := y
      obtain ⟨bd, off, rfl, hsl⟩ : ∃ bd off, p = some ⟨bd, off, none⟩ ∧ SlAt Lk.enc 4 wr bd off l := by
        rcases HS.out.keep HKP.out (fun _ _ => id) with h | h
        · subst h; simp at h2; omega
        · exact h
      have HC := Lib.hid (hsl.range hy)
      have HX := Lib.hid (range_of_obj (HKP.out.obj HB.out id))
      have e1 : ((lo : Int) + hi) / 2 = (m : Int) := by omega
      have HY := Lib.hid hy
      have hml : m < l.length := by omega
      have HM := Lib.hid hm
      clear hy hsl hm
      have k0 : (World.drew wr).cell? ⟨bd, off + m * 4, none⟩ = some (.int .i64 y0) := by simpa using HC.out 0 _ rfl
      have k1 : (World.drew wr).cell? ⟨bd, off + m * 4 + 1, none⟩ = some (.int .i64 y1) := HC.out 1 _ rfl
      have k2 : (World.drew wr).cell? ⟨bd, off + m * 4 + 2, none⟩ = some (.int .i64 y2) := HC.out 2 _ rfl
      have k3 : (World.drew wr).cell? ⟨bd, off + m * 4 + 3, none⟩ = some (.int .i64 y3) := HC.out 3 _ rfl
      have b0 : (World.drew wr).cell? ⟨w.heap.size, 0, none⟩ = some (.int .i64 x0) := by simpa using HX.out 0 _ rfl
      have b1 : (World.drew wr).cell? ⟨w.heap.size, 1, none⟩ = some (.int .i64 x1) := by simpa using HX.out 1 _ rfl
      have b2 : (World.drew wr).cell? ⟨w.heap.size, 2, none⟩ = some (.int .i64 x2) := by simpa using HX.out 2 _ rfl
      have b3 : (World.drew wr).cell? ⟨w.heap.size, 3, none⟩ = some (.int .i64 x3) := by simpa using HX.out 3 _ rfl
      have HKD := Lib.hid (HKP.out.drew)
      go_upto_region 5 with (fail)
      refine region_tail 6 (by kernel_rfl) (by kernel_rfl) ?_
      simp only [List.take_succ_cons, List.take_zero, List.drop_succ_cons, List.drop_zero]
      clear e1
      generalize World.drew wr = wd at *
      repeat still_step
      refine wpStill_nil ?_
      go_wp2_with (go_at_call 47; refine (order_calls _).mono ?_; rintro e w' ⟨rfl, hk1⟩; have HK1 := Lib.hid (HKD.out.trans hk1); clear hk1)
      · have hneg : ordL ⟨y0, y1, y2, y3⟩ ⟨x0, x1, x2, x3⟩ < 0 := by assumption
        have HN := Lib.hid (sorted_below hs HY.out ((ord_neg _ _).1 hneg))
        have hm := HM.out
        go_roundw
        case rel => exact ⟨m + 1, hi, by go_num, rfl, by omega, by omega, HN.out, H4.out, HK1.out⟩
        case measure => simp [intOf]; omega
      · have hneg : 0 ≤ ordL ⟨y0, y1, y2, y3⟩ ⟨x0, x1, x2, x3⟩ := by assumption
        have hf : lessB ⟨y0, y1, y2, y3⟩ ⟨x0, x1, x2, x3⟩ = false := by
          cases hq : lessB ⟨y0, y1, y2, y3⟩ ⟨x0, x1, x2, x3⟩ with
          | false => rfl
          | true => have := (ord_neg _ _).2 hq; omega
        have HN := Lib.hid (sorted_above hs HY.out hf)
        clear hf
        have hm := HM.out
        go_roundw
        case rel => exact ⟨lo, m, rfl, rfl, by omega, by omega, H3.out, HN.out, HK1.out⟩
        case measure => simp [intOf]; omega
    · have hle : lo = hi := by omega
      subst hle
      by_cases hin : lo < l.length
      · obtain ⟨y, hy⟩ : ∃ y, l[lo]? = some y := ⟨l[lo]'(by omega), List.getElem?_eq_getElem _⟩
        obtain ⟨y0, y1, y2, y3⟩ := y
        obtain ⟨bd, off, rfl, hsl⟩ : ∃ bd off, p = some ⟨bd, off, none⟩ ∧ SlAt Lk.enc 4 wr bd off l := by
          rcases HS.out.keep HKP.out (fun _ _ => id) with h | h
          · subst h; simp at hin
          · exact h
        have HC := Lib.hid (hsl.range hy)
        have HX := Lib.hid (range_of_obj (HKP.out.obj HB.out id))
        have HF : Hid (foundAt l ⟨x0, x1, x2, x3⟩ lo = (ordL ⟨y0, y1, y2, y3⟩ ⟨x0, x1, x2, x3⟩ == 0)) := Lib.hid (by simp [foundAt, hy])
        clear hy hsl
        have k0 : wr.cell? ⟨bd, off + lo * 4, none⟩ = some (.int .i64 y0) := by simpa using HC.out 0 _ rfl
        have k1 : wr.cell? ⟨bd, off + lo * 4 + 1, none⟩ = some (.int .i64 y1) := HC.out 1 _ rfl
        have k2 : wr.cell? ⟨bd, off + lo * 4 + 2, none⟩ = some (.int .i64 y2) := HC.out 2 _ rfl
        have k3 : wr.cell? ⟨bd, off + lo * 4 + 3, none⟩ = some (.int .i64 y3) := HC.out 3 _ rfl
        have b0 : wr.cell? ⟨w.heap.size, 0, none⟩ = some (.int .i64 x0) := by simpa using HX.out 0 _ rfl
        have b1 : wr.cell? ⟨w.heap.size, 1, none⟩ = some (.int .i64 x1) := by simpa using HX.out 1 _ rfl
        have b2 : wr.cell? ⟨w.heap.size, 2, none⟩ = some (.int .i64 x2) := by simpa using HX.out 2 _ rfl
        have b3 : wr.cell? ⟨w.heap.size, 3, none⟩ = some (.int .i64 x3) := by simpa using HX.out 3 _ rfl
        have hin' : decide (lo < l.length) = true := by simpa using hin
        go_wp2
        go_region_held3 (fun w' : World => w'.cell? ⟨bd, off + lo * 4, none⟩ = some (.int .i64 y0) ∧ w'.cell? ⟨bd, off + lo * 4 + 1, none⟩ = some (.int .i64 y1) ∧ w'.cell? ⟨bd, off + lo * 4 + 2, none⟩ = some (.int .i64 y2) ∧ w'.cell? ⟨bd, off + lo * 4 + 3, none⟩ = some (.int .i64 y3) ∧ w'.cell? ⟨w.heap.size, 0, none⟩ = some (.int .i64 x0) ∧ w'.cell? ⟨w.heap.size, 1, none⟩ = some (.int .i64 x1) ∧ w'.cell? ⟨w.heap.size, 2, none⟩ = some (.int .i64 x2) ∧ w'.cell? ⟨w.heap.size, 3, none⟩ = some (.int .i64 x3)) (first | exact ⟨k0, k1, k2, k3, b0, b1, b2, b3⟩ | exact ⟨hk1.cell k0 id, hk1.cell k1 id, hk1.cell k2 id, hk1.cell k3 id, hk1.cell b0 id, hk1.cell b1 id, hk1.cell b2 id, hk1.cell b3 id⟩) (first | (go_at_call 47; refine (order_calls _).mono ?_; rintro e w' ⟨rfl, hk1⟩))
        all_goals
          have HK1 := Lib.hid hk1
          clear hk1
          go_wp2
          go_ret2
          refine ⟨lo, ?_, ⟨h2, H3.out, H4.out⟩, ?_⟩
          · rw [HF.out]; rfl
          · exact HK.out.trans ((HKP.out.drew).trans HK1.out)
      · have hle : lo = l.length := by omega
        subst hle
        have HF : Hid (foundAt l ⟨x0, x1, x2, x3⟩ l.length = false) := Lib.hid (by simp [foundAt])
        go_wp2
        go_quiet (fail)
        go_wp2
        go_ret2
        refine ⟨l.length, by rw [HF.out]; rfl, ⟨Nat.le_refl _, H3.out, H4.out⟩, HK.out.trans (HKP.out.drewN _)⟩

end Go.Proofs.Ytlhmajjmhkjcoaa
