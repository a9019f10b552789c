/-
  Chapter 23: whether hits fit a shape, both ways; products.
-/
import Derived.Test.YtlhmajjmhkjcoaaFits
namespace Go.Proofs.Ytlhmajjmhkjcoaa
open Go.RowKit

set_option maxRecDepth 100000 in
set_option maxHeartbeats 4000000 in
theorem fits_calls (ok : Nat → Prop) (ps : Option Addr) (cs : Nat) (sh : List Int) (p q : Option Addr) (c d : Nat) (h : Hits) (w : World) (hs : SliceV intEnc 1 w ps sh) (hh : HitsAt ok w p q h) (hl : sh.length ≤ 1000000) :
    Calls Try.prog 37 #[.slice ps sh.length cs, hitsVal p c q d h] w (Gives None (.bool (fitsB sh h)) w) := by
  obtain ⟨rows, lk, u, o⟩ := h
  obtain ⟨hr, hlk, -, nb, nr, nl⟩ := hh
  simp only at hr hlk nb nr nl
  simp only [hitsVal]
  have HBX : Hid (∃ W : World, Keep None w W ∧ W = (w.alloc (.cells #[.slice ps sh.length cs] 25)).alloc (.cells #[.slice p rows.length c, .slice q lk.length d, .int .i64 u, .int .i64 o] 40) ∧
      W.cell? ⟨w.heap.size, 0, none⟩ = some (.slice ps sh.length cs) ∧ W.cell? ⟨w.heap.size + 1, 0, none⟩ = some (.slice p rows.length c) ∧ W.cell? ⟨w.heap.size + 1, 1, none⟩ = some (.slice q lk.length d)) := Lib.hid (by
    have h1 := ((Keep.refl None _).alloc (.cells #[.slice p rows.length c, .slice q lk.length d, .int .i64 u, .int .i64 o] 40)).obj (heap_alloc_new w (.cells #[.slice ps sh.length cs] 25)) id
    have h2 : ((w.alloc (.cells #[.slice ps sh.length cs] 25)).alloc (.cells #[.slice p rows.length c, .slice q lk.length d, .int .i64 u, .int .i64 o] 40)).heap[w.heap.size + 1]? = some _ := alloc_at (by simp)
    exact ⟨_, ((Keep.refl None w).alloc _).alloc _, rfl, cell_of_row _ _ 0 _ _ _ h1, cell_of_row _ _ 0 _ _ _ h2, cell_of_row _ _ 1 _ _ _ h2⟩)
  obtain ⟨W, hKW, hWe, h1, h2, h3⟩ := HBX.out
  have HK := Lib.hid hKW
  have HWE := Lib.hid hWe.symm
  have H1 := Lib.hid h1
  have H3 := Lib.hid h3
  have HS := Lib.hid (hs.keep hKW (fun _ _ => id))
  have HR := Lib.hid (hr.keep hKW (fun _ _ => id))
  have HL := Lib.hid (hlk.keep hKW (fun _ _ => id))
  have HNR := Lib.hid nr
  clear HBX hKW hWe h1 h2 h3 hs hr hlk nr
  cases hf : decide (lensI rows = sh) with
  | false =>
    have HFB : Hid (fitsB sh ⟨rows, lk, u, o⟩ = false) := Lib.hid (by simp only [fitsB, hf, Bool.false_and])
    have HF := Lib.hid hf
    clear hf
    go_enter Try.func37, Try.ntmps37
    go_wp2_with (go_at_call 51; rw [HWE.out]; refine (eqLens_calls ok ps p cs c sh rows W HS.out HR.out hl (by unfold maxLen; omega) HNR.out).mono ?_; rintro e w1 ⟨rfl, hk1⟩; rw [HF.out]; have HK1 := Lib.hid hk1; clear hk1)
    go_ret
    rw [HFB.out]
    exact ⟨rfl, HK.out.trans HK1.out⟩
  | true =>
    cases ha : lk.all (linkIn sh) with
    | false =>
    have HFB : Hid (fitsB sh ⟨rows, lk, u, o⟩ = false) := Lib.hid (by simp only [fitsB, hf, ha, Bool.true_and])
    have HF := Lib.hid hf
    have HA := Lib.hid ha
    clear hf ha
    go_enter Try.func37, Try.ntmps37
    go_wp2_with (first
      | (go_at_call 51; rw [HWE.out]; refine (eqLens_calls ok ps p cs c sh rows W HS.out HR.out hl (by unfold maxLen; omega) HNR.out).mono ?_; rintro e w1 ⟨rfl, hk1⟩; rw [HF.out]; have e3 := hk1.cell H3.out id; have HK1 := Lib.hid hk1; clear hk1)
      | (go_at_call 53; refine (contains_calls w.heap.size sh ps cs q lk d w1 (HK1.out.cell H1.out id) (HS.out.keep HK1.out (fun _ _ => id)) hl (HL.out.keep HK1.out (fun _ _ => id)) (by omega)).mono ?_; rintro e w2 ⟨rfl, hk2⟩; rw [HA.out]; have HK2 := Lib.hid hk2; clear hk2))
    go_ret
    rw [HFB.out]
    exact ⟨rfl, (HK.out.trans HK1.out).trans HK2.out⟩
    | true =>
    have HFB : Hid (fitsB sh ⟨rows, lk, u, o⟩ = true) := Lib.hid (by simp only [fitsB, hf, ha, Bool.true_and])
    have HF := Lib.hid hf
    have HA := Lib.hid ha
    clear hf ha
    go_enter Try.func37, Try.ntmps37
    go_wp2_with (first
      | (go_at_call 51; rw [HWE.out]; refine (eqLens_calls ok ps p cs c sh rows W HS.out HR.out hl (by unfold maxLen; omega) HNR.out).mono ?_; rintro e w1 ⟨rfl, hk1⟩; rw [HF.out]; have e3 := hk1.cell H3.out id; have HK1 := Lib.hid hk1; clear hk1)
      | (go_at_call 53; refine (contains_calls w.heap.size sh ps cs q lk d w1 (HK1.out.cell H1.out id) (HS.out.keep HK1.out (fun _ _ => id)) hl (HL.out.keep HK1.out (fun _ _ => id)) (by omega)).mono ?_; rintro e w2 ⟨rfl, hk2⟩; rw [HA.out]; have HK2 := Lib.hid hk2; clear hk2))
    go_ret
    rw [HFB.out]
    exact ⟨rfl, (HK.out.trans HK1.out).trans HK2.out⟩

def maxCount : Int := 1099511627776

theorem quo_eq {p : Int} (h : 1 ≤ p) : (1099511627776 : Int).tdiv p = 1099511627776 / p := by
  rw [Int.tdiv_eq_ediv_of_nonneg (by omega)]

theorem gt_quo {n p : Int} (h : 1 ≤ p) : 1099511627776 / p < n ↔ 1099511627776 < n * p := by
  constructor
  · intro h1
    have := Int.lt_mul_of_ediv_lt (by omega) h1
    exact this
  · intro h1
    exact Int.ediv_lt_of_lt_mul (by omega) h1

def scaledV (n p : Int) : Value := if 1099511627776 < n * p then .tuple #[.int .i64 0, .bool false] else .tuple #[.int .i64 (n * p), .bool true]

set_option maxHeartbeats 1000000 in
theorem scaled_calls (n p : Int) (w : World) (h0 : 0 ≤ n) (h1 : 1 ≤ p) (h2 : p ≤ 1099511627776) : Calls Try.prog 39 #[.int .i64 n, .int .i64 p] w (fun e w' => e = .returned (scaledV n p) ∧ w' = w) := by
  by_cases hg : 1099511627776 / p < n
  · have HG := Lib.hid (gt_quo h1 |>.1 hg)
    go_enter Try.func39, Try.ntmps39
    go_wp2_with (fail)
    go_ret2
    refine ⟨?_, rfl⟩
    rw [scaledV, if_pos HG.out]; rfl
  · have hle : n * p ≤ 1099511627776 := Int.not_lt.1 (fun h => hg ((gt_quo (n := n) h1).2 h))
    have hnn : 0 ≤ n * p := Int.mul_nonneg h0 (by omega)
    have hw : IntKind.i64.wrap (n * p) = n * p := IntWalk.i64_in _ (by omega)
    have HLE := Lib.hid hle
    go_enter Try.func39, Try.ntmps39
    go_wp2_with (fail)
    go_ret2
    refine ⟨?_, rfl⟩
    rw [scaledV, if_neg (Int.not_lt.2 HLE.out)]; rfl

def timesV (n p : Int) : Int := if 1099511627776 < n * p then -1 else n * p

set_option maxHeartbeats 1000000 in
theorem times_calls (n p : Int) (w : World) (h0 : 0 ≤ n) (h1 : 1 ≤ p) (h2 : p ≤ 1099511627776) : Calls Try.prog 43 #[.int .i64 n, .int .i64 p] w (fun e w' => e = .returned (.int .i64 (timesV n p)) ∧ w' = w) := by
  by_cases hg : 1099511627776 / p < n
  · have HG := Lib.hid (gt_quo h1 |>.1 hg)
    go_enter Try.func43, Try.ntmps43
    go_wp2_with (fail)
    go_ret
    refine ⟨?_, rfl⟩
    rw [timesV, if_pos HG.out]; rfl
  · have hle : n * p ≤ 1099511627776 := Int.not_lt.1 (fun h => hg ((gt_quo (n := n) h1).2 h))
    have hnn : 0 ≤ n * p := Int.mul_nonneg h0 (by omega)
    have hw : IntKind.i64.wrap (n * p) = n * p := IntWalk.i64_in _ (by omega)
    have HLE := Lib.hid hle
    go_enter Try.func43, Try.ntmps43
    go_wp2_with (fail)
    go_ret
    refine ⟨?_, rfl⟩
    rw [timesV, if_neg (Int.not_lt.2 HLE.out)]; rfl

def nonnegB (n : Int) : Bool := decide (0 ≤ n)

theorem counts1_calls (n : Int) (w : World) : Calls Try.prog 38 #[.int .i64 n] w (fun e w' => e = .returned (.bool (nonnegB n)) ∧ w' = w) := by
  go_enter Try.func38, Try.ntmps38
  go_wp2
  go_ret
  exact ⟨rfl, rfl⟩

end Go.Proofs.Ytlhmajjmhkjcoaa
