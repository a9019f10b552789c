/-
  decide.Best: the table.
-/
import Derived.Test.YtiojoheenjkphaaBest
import Derived.BigRegion
import Derived.StillTailTactics
namespace Go.Proofs.Ytiojoheenjkphaa
open Go.RowKit

def zeroCh : Ch := ⟨0, 0, false, false⟩

def without (c : Ch) : Ch := { c with taken := false }
def withIt (c : Ch) (d : Dec) : Ch := ⟨c.benefit + d.benefit, c.size + d.size, true, false⟩
def pick (wo wi : Ch) : Ch := if better wi wo || (!better wo wi && !wo.empty) then wi else wo

/-- The best of the decisions l with b bytes. -/
def cell : List Dec → Nat → Ch
  | [], _ => ⟨0, 0, false, true⟩
  | d :: r, b => if (b : Int) < d.size then without (cell r b) else pick (without (cell r b)) (withIt (cell r (b - d.size.toNat)) d)

def fine (l : List Dec) : Prop := ∀ d ∈ l, -1125899906842624 ≤ d.benefit ∧ d.benefit ≤ 1125899906842624 ∧ 0 ≤ d.size ∧ d.size ≤ 1048576

theorem pick_or (wo wi : Ch) : pick wo wi = wi ∨ pick wo wi = wo := by unfold pick; split <;> simp

theorem cell_bd : ∀ (l : List Dec) (b : Nat), fine l → -(1125899906842624 * (l.length : Int)) ≤ (cell l b).benefit ∧ (cell l b).benefit ≤ 1125899906842624 * (l.length : Int) ∧ 0 ≤ (cell l b).size ∧ (cell l b).size ≤ 1048576 * (l.length : Int)
  | [], b, _ => by simp [cell]
  | d :: r, b, h => by
    have h1 := cell_bd r b (fun x hx => h x (by simp [hx]))
    have h2 := cell_bd r (b - d.size.toNat) (fun x hx => h x (by simp [hx]))
    have h3 := h d (by simp)
    simp only [cell, List.length_cons]
    split
    · simp only [without]; omega
    · rcases pick_or (without (cell r b)) (withIt (cell r (b - d.size.toNat)) d) with e | e <;> rw [e] <;> simp only [without, withIt] <;> omega

/-- The row of l up to b, zeros behind. -/
def rowList (l : List Dec) (m b : Nat) : List Ch := (List.range (m + 1)).map fun j => if j < b then cell l j else zeroCh

def valEnc (v : Value) : List Value := [v]
theorem valEnc_len (v : Value) : (valEnc v).length = 1 := rfl

abbrev RowAt (w : World) (r : Nat) (xs : List Ch) : Prop := Arr Ch.enc 54 w r xs

theorem good_fine {l : List Dec} (h : l.any bad = false) : fine l := fun d hd => by
  have := List.any_eq_false.1 h d hd
  simp [bad] at this
  omega

def rowOf (r m : Nat) : Value := .slice (some ⟨r, 0, none⟩) (m + 1) (m + 1)

def TableAt (g n m : Nat) (l : List Dec) (k : Nat) (w : World) : Prop :=
  ∃ tb : List Value, Arr valEnc 52 w g tb ∧ tb.length = n + 1 ∧
    ∀ j, k ≤ j → j ≤ n → ∃ r, tb[j]? = some (rowOf r m) ∧ r ≠ g ∧ RowAt w r (rowList (l.drop j) m (m + 1))

def OutInv (g m : Nat) (l : List Dec) (w0 : World) (i : Value) (w : World) : Prop :=
  ∃ k : Nat, k ≤ l.length + 1 ∧ i = .int .i64 ((k : Int) - 1) ∧ TableAt g l.length m l k w ∧ Keep None w0 w ∧ w0.heap.size ≤ g

def InInv (r i m : Nat) (l : List Dec) (w1 : World) (x : Value) (w : World) : Prop :=
  ∃ b : Nat, b ≤ m + 1 ∧ x = .int .i64 b ∧ Keep (· = r) w1 w ∧ RowAt w r (rowList (l.drop i) m b)

theorem rowList_len (l : List Dec) (m b : Nat) : (rowList l m b).length = m + 1 := by simp [rowList]

theorem rowList_zero (l : List Dec) (m : Nat) : rowList l m 0 = List.replicate (m + 1) zeroCh := by
  apply List.ext_getElem
  · simp [rowList]
  · intro i h1 h2; simp [rowList]

theorem rowList_set (l : List Dec) (m b : Nat) : (rowList l m b).set b (cell l b) = rowList l m (b + 1) := by
  apply List.ext_getElem
  · simp [rowList]
  · intro i h1 h2
    simp only [rowList, List.getElem_set, List.getElem_map, List.getElem_range]
    by_cases e : b = i
    · subst e; simp
    · simp only [e, if_false]
      by_cases h : i < b
      · simp [h, show i < b + 1 by omega]
      · simp [h, show ¬ i < b + 1 by omega]

theorem rowList_get (l : List Dec) (m b j : Nat) (h : j < b) (hj : j ≤ m) : (rowList l m b)[j]? = some (cell l j) := by
  simp [rowList, h, show j < m + 1 by omega]

theorem Try.infoInt : (Try.prog.info? 3).map (fun i => (i.zero, i.size, i.bytes)) = some (some (.int .i64 0), 1, 8) := by kernel_rfl

theorem Try.infoRow : (Try.prog.info? 52).map (fun i => (i.zero, i.size, i.bytes)) = some (some (.slice none 0 0), 1, 24) := by kernel_rfl

def picks : List Dec → Nat → Nat → List Int
  | [], _, _ => []
  | d :: r, i, b => if (cell (d :: r) b).taken then (i : Int) :: picks r (i + 1) (b - d.size.toNat) else picks r (i + 1) b

def best (l : List Dec) (budget : Int) : List Int × Int :=
  if budget < 0 ∨ 4096 < budget then ([], 40) else if 64 < l.length ∨ l.any bad = true then ([], 41) else (picks l 0 budget.toNat, 0)

def intEnc (n : Int) : List Value := [.int .i64 n]

def BestPost (x : List Int × Int) (w : World) (e : Ending) (w' : World) : Prop :=
  ∃ p cap, e = .returned (.tuple #[.slice p x.1.length cap, .int .i64 x.2]) ∧ x.1.length ≤ cap ∧ cap ≤ maxLen ∧ SliceV intEnc 1 w' p x.1 ∧ From w.heap.size p ∧ Keep None w w'

theorem best_nil (w w' : World) (n : Int) (h : Keep None w w') : BestPost ([], n) w (.returned (.tuple #[.slice none 0 0, .int .i64 n])) w' :=
  ⟨none, 0, rfl, by simp, by simp [maxLen], .inl rfl, by intro a ha; (cases ha), h⟩

set_option maxRecDepth 100000 in
set_option maxHeartbeats 1000000 in
theorem best_bad (p : Option Addr) (l : List Dec) (cap : Nat) (budget : Int) (w : World) (h : SliceV Dec.enc 7 w p l) (hl : l.length ≤ 1000000)
    (hbad : budget < 0 ∨ 4096 < budget ∨ 64 < l.length ∨ l.any bad = true) :
    Calls Try.prog 11 #[.slice p l.length cap, .int .i64 budget] w (BestPost (best l budget) w) := by
  by_cases h1 : budget < 0
  · have e : best l budget = ([], 40) := by simp [best, h1]
    rw [e]; clear e hbad
    go_enter Try.func11, Try.ntmps11
    go_wp2
    go_ret2
    exact best_nil _ _ _ (Keep.refl _ _)
  · by_cases h2 : 4096 < budget
    · have e : best l budget = ([], 40) := by simp [best, h2]
      rw [e]; clear e hbad
      go_enter Try.func11, Try.ntmps11
      go_wp2
      go_ret2
      exact best_nil _ _ _ (Keep.refl _ _)
    · by_cases h3 : 64 < l.length
      · have e : best l budget = ([], 41) := by simp [best, h1, h2, h3]
        rw [e]; clear e hbad
        go_enter Try.func11, Try.ntmps11
        go_wp2
        go_ret2
        exact best_nil _ _ _ (Keep.refl _ _)
      · have h4 : l.any bad = true := by rcases hbad with h | h | h | h <;> first | exact h | omega
        have e : best l budget = ([], 41) := by simp only [best, h1, h2, h3, h4]; simp
        rw [e]; clear e hbad
        have H4 : Hid _ := Lib.hid h4
        clear h4
        go_enter Try.func11, Try.ntmps11
        go_wp2_with (go_at_call 17; refine (contains_calls p l cap _ h hl).mono ?_; rintro e w' ⟨rfl, hk⟩; rw [H4.out])
        go_ret2
        exact best_nil _ _ _ hk

theorem row_cell {w : World} {g e : Nat} {tb : List Value} {i : Nat} {v : Value} (h : Arr valEnc e w g (tb.set i v)) (hi : i < tb.length) : w.cell? ⟨g, i, none⟩ = some v := by
  have := h.range valEnc_len (i := i) (x := v) (by simp [hi]) 0 v rfl
  simpa using this

theorem table_step {g r i m : Nat} {l : List Dec} {wo w4 wq : World} {tb : List Value} (hlen : tb.length = l.length + 1) (hi : i < tb.length)
    (hrows : ∀ j, i + 1 ≤ j → j ≤ l.length → ∃ r', tb[j]? = some (rowOf r' m) ∧ r' ≠ g ∧ RowAt wo r' (rowList (l.drop j) m (m + 1)))
    (hr : wo.heap.size = r) (hg : g < r) (hk : Keep (· = g) wo w4) (h5 : Arr valEnc 52 w4 g (tb.set i (rowOf r m))) (hq : Keep (· = r) w4 wq) (hrow : RowAt wq r (rowList (l.drop i) m (m + 1))) :
    TableAt g l.length m l i wq := by
  refine ⟨_, h5.keep hq (by omega), by simpa using hlen, fun j h1 h2 => ?_⟩
  by_cases e : i = j
  · subst e
    exact ⟨r, by simp [hi], by omega, hrow⟩
  · obtain ⟨r', q1, q2, q3⟩ := hrows j (by omega) h2
    refine ⟨r', by simp [e, q1], q2, ?_⟩
    exact (q3.keep hk (by omega)).keep hq (by have := q3.lt; omega)

theorem taken_fits {d : Dec} {r : List Dec} {b : Nat} (h : (cell (d :: r) b).taken = true) : ¬ (b : Int) < d.size := by
  intro hb
  simp [cell, hb, without] at h

theorem TableAt.keep {g n m k : Nat} {l : List Dec} {w w' : World} (h : TableAt g n m l k w) (hk : Keep None w w') : TableAt g n m l k w' := by
  obtain ⟨tb, h1, h2, h3⟩ := h
  refine ⟨tb, h1.keep hk id, h2, fun j h4 h5 => ?_⟩
  obtain ⟨r, q1, q2, q3⟩ := h3 j h4 h5
  exact ⟨r, q1, q2, q3.keep hk id⟩

theorem intEnc_len (n : Int) : (intEnc n).length = 1 := rfl

def PickInv (m : Nat) (l : List Dec) (wL : World) (out iv bv : Value) (w : World) : Prop :=
  ∃ (i b : Nat) (acc : List Int), iv = .int .i64 i ∧ bv = .int .i64 b ∧ i ≤ l.length ∧ b ≤ m ∧ acc.length ≤ i ∧ Own intEnc 1 3 wL.heap.size w out acc ∧ acc ++ picks (l.drop i) i b = picks l 0 m ∧ Keep None wL w

theorem Try.sizeRow : (Try.prog.info? 52).map (·.size) = some 1 := by kernel_rfl

set_option maxRecDepth 100000 in
set_option maxHeartbeats 4000000 in
theorem best_good (p : Option Addr) (l : List Dec) (cap m : Nat) (w : World) (h : SliceV Dec.enc 7 w p l) (hl : l.length ≤ 64) (hm : m ≤ 4096) (hgood : l.any bad = false) :
    Calls Try.prog 11 #[.slice p l.length cap, .int .i64 m] w (BestPost (best l m) w) := by
  obtain ⟨i0, hi, hz0, hz1, hz2⟩ := info_parts Try.infoRow
  obtain ⟨i1, hi1, hy0, hy1, hy2⟩ := info_parts Try.infoCh
  have H4 : Hid _ := Lib.hid hgood
  clear hgood
  have hm0 : decide ((m : Int) < 0) = false := by simp
  have hm1 : decide ((4096 : Int) < (m : Int)) = false := by simp; omega
  have hm2 : decide ((64 : Int) < (l.length : Int)) = false := by simp; omega
  go_enter Try.func11, Try.ntmps11
  go_wp2_with (first
    | (go_at_call 17; refine (contains_calls p l cap _ h (by omega)).mono ?_; rintro e w1 ⟨rfl, hk1⟩; rw [H4.out])
    | (at_make; refine wpList_makeArr (enc := valEnc) _ rfl _ _ 51 rfl 52 i0 _ 24 Try.underlying51 hi hz0 hz1 hz2 (.slice none 0 0) valEnc_len rfl (by decide) _ _ _ _ (l.length + 1) rfl rfl (by simp) (by simp) (by omega) (by omega) ?_; intro w2 ha2 hk2 hs2))
  have hkw : Keep None w w2 := hk1.trans hk2
  go_loopw [7] (OutInv w1.heap.size m l w) (fun i _ => (intOf i + 1).toNat)
  case atStart =>
    refine ⟨l.length + 1, by omega, by go_num, ⟨_, ha2, by simp, by intro j h1 h2; omega⟩, hkw, hk1.size⟩
  case round =>
    obtain ⟨k, hk, rfl, htab, hkr, hg0⟩ := hrel
    match k, hk with
    | 0, hk =>
      obtain ⟨wL, rfl⟩ : ∃ wL : World, wL = wr := ⟨_, rfl⟩
      rw [show ((0 : Nat) : Int) - 1 = -1 from rfl]
      obtain ⟨i2, hi2, hv0, hv1, hv2⟩ := info_parts Try.infoInt
      have HT : Hid _ := Lib.hid htab
      have HKR : Hid _ := Lib.hid hkr
      have H : Hid _ := Lib.hid h
      clear htab ha2 hk2 hkr h hg0 hi hz0 hz1 hz2 hi1 hy0 hy1 hy2
      go_wp2_with (fail)
      go_loopw [11, 12, 13] (PickInv m l wL) (fun _ i _ _ => l.length - (intOf i).toNat)
      case atStart => exact ⟨0, m, [], rfl, rfl, by omega, by omega, by simp, Own.nil _ _ _ _ _, by simp, Keep.refl _ _⟩
      case round =>
        obtain ⟨i, b, acc, rfl, rfl, hil, hbm, hacc, hown, hpk, hkL⟩ := hrel
        have HPK : Hid _ := Lib.hid hpk
        have HOW : Hid _ := Lib.hid hown
        clear hpk hown
        by_cases hin : i < l.length
        · obtain ⟨d, hd⟩ : ∃ d, l[i]? = some d := ⟨l[i], by simp [hin]⟩
          have hdrop : l.drop i = d :: l.drop (i + 1) := by
            rw [List.drop_eq_getElem_cons hin]; congr 1; rw [List.getElem?_eq_getElem hin] at hd; exact Option.some.inj hd
          obtain ⟨tb, hA, hlen, hrows⟩ := HT.out.keep hkL
          obtain ⟨r, q1, q2, q3⟩ := hrows i (by omega) (by omega)
          have e1 : wr.cell? ⟨w1.heap.size, i, none⟩ = some (rowOf r m) := by
            have := hA.range valEnc_len (i := i) (x := rowOf r m) q1 0 _ rfl
            simpa using this
          unfold rowOf at e1
          have e2 : wr.cell? ⟨r, b * 4 + 2, none⟩ = some (.bool (cell (l.drop i) b).taken) := q3.range Ch.enc_len (rowList_get (l.drop i) m (m + 1) b (by omega) hbm) 2 _ rfl
          rcases H.out with h | ⟨bd, off, rfl, h⟩
          · subst h; simp at hin
          have hbd : bd < w.heap.size := by have := h.range hd 0 _ rfl; exact World.block_lt_of_cell? w _ this
          have hkw2 : Keep None w wr := HKR.out.trans hkL
          have hdf := good_fine H4.out d (List.mem_of_getElem? hd)
          obtain ⟨sz, hsz⟩ : ∃ sz : Nat, d.size = sz := ⟨d.size.toNat, by rw [Int.toNat_of_nonneg hdf.2.2.1]⟩
          have e6 : wr.cell? ⟨bd, off + i * 7 + 6, none⟩ = some (.int .i64 (sz : Int)) := by rw [← hsz]; exact hkw2.cell (h.range hd 6 _ rfl) id
          have HD : Hid _ := Lib.hid hdrop
          have HSZ : Hid _ := Lib.hid hsz
          have HKL : Hid _ := Lib.hid hkL
          clear hdrop hA hlen hrows q1 q2 q3 h hkw2 hd hsz hdf hkL
          cases ht : (cell (l.drop i) b).taken with
          | true =>
            rw [ht] at e2
            have hfit : sz ≤ b := by
              have := HD.out ▸ ht
              have := taken_fits this
              rw [HSZ.out] at this; omega
            have HTK : Hid _ := Lib.hid ht
            clear ht
            go_wp2_with (at_builtin; refine wpList_push rfl _ _ 33 rfl wL.heap.size _ i2 _ 8 Try.underlying33 hi2 hv0 hv1 hv2 rfl (by decide) _ acc rfl HOW.out (i : Int) 1 rfl _ rfl rfl (by simp [Value.oneCell']) (by omega) (by omega) HKL.out.size ?_; intro v' w5 hown5 hk5 _ _; have e6' := hk5.cell e6 (by simp; have := HKL.out.size; have := HKR.out.size; omega); have HO5 := Lib.hid hown5; have HK5 := Lib.hid (HKL.out.andThen hk5 (by intro k h1 h2; omega)); clear hown5 hk5 e6 e1 e2)
            go_roundw
            case rel =>
              refine ⟨i + 1, b - sz, acc ++ [(i : Int)], by go_num, ?_, by omega, by omega, by simp; omega, HO5.out, ?_, HK5.out⟩
              · go_num
              · rw [← HPK.out, HD.out]
                have := HD.out ▸ HTK.out
                simp [picks, this, HSZ.out]
            case measure => simp [intOf]; omega
          | false =>
            rw [ht] at e2
            have HTK : Hid _ := Lib.hid ht
            clear ht
            go_wp2
            go_roundw
            case rel =>
              refine ⟨i + 1, b, acc, by go_num, rfl, by omega, by omega, by omega, HOW.out, ?_, HKL.out⟩
              rw [← HPK.out, HD.out]
              have := HD.out ▸ HTK.out
              simp [picks, this]
            case measure => simp [intOf]; omega
        · have hie : i = l.length := by omega
          subst hie
          obtain ⟨po, co, rfl, c1, c2, c3, c4⟩ := HOW.out.slice intEnc_len
          have hfin : best l m = (acc, 0) := by
            have e := HPK.out
            rw [List.drop_length] at e
            simp only [picks, List.append_nil] at e
            have b1 : ¬ ((m : Int) < 0 ∨ 4096 < (m : Int)) := by omega
            have b2 : ¬ (64 < l.length ∨ l.any bad = true) := by rw [H4.out]; simp; omega
            simp only [best, if_neg b1, if_neg b2, Int.toNat_natCast, e]
          have HF : Hid _ := Lib.hid hfin
          clear hfin
          go_wp2
          go_ret2
          rw [HF.out]
          exact ⟨po, co, rfl, c1, c2, c3, fun a ha => Nat.le_trans HKR.out.size (c4 a ha), HKR.out.trans hkL⟩
    | i + 1, hk =>
      obtain ⟨wo, rfl⟩ : ∃ wo : World, wo = wr := ⟨_, rfl⟩
      rw [show (((i + 1 : Nat) : Int) - 1) = (i : Int) from by omega]
      obtain ⟨tb, hA, hlen, hrows⟩ := htab
      have HA : Hid _ := Lib.hid hA
      have HR : Hid _ := Lib.hid hrows
      have HL : Hid _ := Lib.hid hlen
      have hlt := hA.lt
      clear hA hrows hlen ha2
      have hil : i < tb.length := by have := HL.out; omega
      go_wp2_with (first
        | (at_make; refine wpList_makeArr (enc := Ch.enc) _ rfl _ _ 52 rfl 54 i1 _ 24 Try.underlying52 hi1 hy0 hy1 hy2 zeroCh Ch.enc_len rfl (by decide) _ _ _ _ (m + 1) rfl rfl (by simp) (by simp) (by omega) (by omega) ?_; intro w3 ha3 hk3 hs3; have ha4 : Arr valEnc 52 w3 w1.heap.size tb := HA.out.keep hk3 (by simp))
        | (with_reducible (show wpList _ _ _ (⟨_, .store 52 _ _, _, _, _, none⟩ :: _) _ _); go_loud (refine wpList_storeEl (enc := valEnc) rfl 52 _ _ rfl _ _ rfl (rowOf wo.heap.size m) _ rfl rfl valEnc_len ha4 i hil (by simp) Try.sizeRow (by simp [valEnc, rowOf, Value.oneCell']) ?_); intro w4 ha5 hk4 hs4; go_loud (have ht0 := row_cell ha5 hil); unfold rowOf at ht0))
      have hrw : w1.heap.size < wo.heap.size := hlt
      have hk34 : Keep (· = w1.heap.size) wo w4 := (Keep.refl _ _).andThen hk3 (by simp) |>.andThen hk4 (by simp)
      have har : RowAt w4 wo.heap.size (rowList (l.drop i) m 0) := by rw [rowList_zero]; exact ha3.keep hk4 (by omega)
      have hs4 : wo.heap.size < w4.heap.size := har.lt
      have HK4 : Hid _ := Lib.hid hk34
      have HA5 : Hid _ := Lib.hid ha5
      have HAR : Hid _ := Lib.hid har
      clear hk34 hk3 hk4 ha3 ha4 ha5 har HA
      by_cases hin : i = l.length
      · subst hin
        go_loopw [50] (InInv wo.heap.size l.length m l w4) (fun x _ => (m + 1) - (intOf x).toNat)
        case atStart => exact ⟨0, by omega, rfl, Keep.refl _ _, HAR.out⟩
        case round =>
          obtain ⟨b, hb, rfl, hkb, hrow⟩ := hrel
          have hr := hrow.lt
          have HKB : Hid _ := Lib.hid hkb
          have HRW : Hid _ := Lib.hid hrow
          have ht1 := hkb.cell ht0 (by simp; omega)
          clear hkb hrow ht0
          by_cases hbm : b < m + 1
          · have hz : (rowList (l.drop l.length) m b)[b]? = some zeroCh := by simp [rowList, hbm]
            have hc3 : wr.cell? ⟨wo.heap.size, b * 4 + 3, none⟩ = some (.bool false) := HRW.out.range Ch.enc_len hz 3 _ rfl
            have hfz : wr.frozen? ⟨wo.heap.size, b * 4 + 3, none⟩ = false := (HRW.out.there Ch.enc_len (by rw [rowList_len]; exact hbm) 3 (by decide)).2
            have hnew : RowAt (wr.setCell ⟨wo.heap.size, b * 4 + 3, none⟩ (.bool true)) wo.heap.size (rowList (l.drop l.length) m (b + 1)) := by
              rw [← rowList_set]
              exact HRW.out.setField Ch.enc_len hz (by decide) (by simp [Ch.enc, cell, zeroCh])
            have HN : Hid _ := Lib.hid hnew
            clear hnew hz
            go_wp2
            go_roundw
            case rel =>
              refine ⟨b + 1, by omega, by go_num, HKB.out.setCell (p := ⟨wo.heap.size, b * 4 + 3, none⟩) (.inl rfl) _, HN.out⟩
            case measure => simp [intOf]; omega
          · have hbe : b = m + 1 := by omega
            subst hbe
            clear hb hbm
            go_wp2
            go_roundw
            case rel =>
              refine ⟨l.length, by omega, by go_num, table_step HL.out hil HR.out rfl hrw HK4.out HA5.out HKB.out HRW.out, ?_, hg0⟩
              exact (hkr.andThen HK4.out (by intro k h1 h2; omega)).andThen HKB.out (by intro k h1 h2; have := hkr.size; omega)
            case measure => simp [intOf]
      · have hin' : i < l.length := by omega
        obtain ⟨d, hd⟩ : ∃ d, l[i]? = some d := ⟨l[i], by simp [hin']⟩
        rcases h with h | ⟨bd, off, rfl, h⟩
        · subst h; simp at hin'
        obtain ⟨r', q1, q2, q3⟩ := HR.out (i + 1) (by omega) (by omega)
        have hbd : bd < w.heap.size := by have := h.range hd 0 _ rfl; exact World.block_lt_of_cell? w _ this
        have hsw : w.heap.size ≤ w1.heap.size := hg0
        have hr'lt : r' < wo.heap.size := by have := q3.lt; omega
        have hdw : w4.rangeAt bd (off + i * 7) d.enc := by
          intro j v hv
          exact HK4.out.cell (hkr.cell (h.range hd j v hv) (by simp)) (by simp; omega)
        have hdrop : l.drop i = d :: l.drop (i + 1) := by
          rw [List.drop_eq_getElem_cons hin']; congr 1; rw [List.getElem?_eq_getElem hin'] at hd; exact Option.some.inj hd
        have hfine : fine (l.drop i) := fun x hx => good_fine H4.out x (List.mem_of_mem_drop hx)
        have hdf := hfine d (by rw [hdrop]; simp)
        obtain ⟨sz, hsz⟩ : ∃ sz : Nat, d.size = sz := ⟨d.size.toNat, by rw [Int.toNat_of_nonneg hdf.2.2.1]⟩
        have hd6 : w4.cell? ⟨bd, off + i * 7 + 6, none⟩ = some (.int .i64 (sz : Int)) := by rw [← hsz]; exact hdw 6 _ rfl
        have hd5 : w4.cell? ⟨bd, off + i * 7 + 5, none⟩ = some (.int .i64 d.benefit) := hdw 5 _ rfl
        have hrow' : RowAt w4 r' (rowList (l.drop (i + 1)) m (m + 1)) := q3.keep HK4.out (by omega)
        have ht2 : w4.cell? ⟨w1.heap.size, i + 1, none⟩ = some (rowOf r' m) := by
          have := HA5.out.range valEnc_len (i := i + 1) (x := rowOf r' m) (by simp [q1]) 0 _ rfl
          simpa using this
        unfold rowOf at ht2
        have hne : (i == l.length) = false := by simp; omega
        have HDR : Hid _ := Lib.hid hdrop
        have HQ1 : Hid _ := Lib.hid q1
        have HRO : Hid _ := Lib.hid hrow'
        have HFI : Hid _ := Lib.hid hfine
        have HDD : Hid _ := Lib.hid hd
        have HSZ : Hid _ := Lib.hid hsz
        have hb1 := hdf.1
        have hb2 := hdf.2.1
        have H : Hid _ := Lib.hid h
        clear hdrop q1 q3 hrow' hfine hd hdw h hsz hdf
        go_loopw [50] (InInv wo.heap.size i m l w4) (fun x _ => (m + 1) - (intOf x).toNat)
        case atStart => exact ⟨0, by omega, rfl, Keep.refl _ _, HAR.out⟩
        case round =>
          obtain ⟨b, hb, rfl, hkb, hrow⟩ := hrel
          have hr := hrow.lt
          have HKB : Hid _ := Lib.hid hkb
          have HRW : Hid _ := Lib.hid hrow
          have e1 := hkb.cell ht0 (by simp; omega)
          have e2 := hkb.cell ht2 (by simp; omega)
          have e5 := hkb.cell hd5 (by simp; omega)
          have e6 := hkb.cell hd6 (by simp; omega)
          have HRO' : Hid _ := Lib.hid (HRO.out.keep hkb (by omega))
          clear hkb hrow ht0 ht2 hd5 hd6
          by_cases hbm : b < m + 1
          · have hc1 := HRO'.out.range Ch.enc_len (rowList_get (l.drop (i + 1)) m (m + 1) b hbm (by omega))
            rcases hcc : cell (l.drop (i + 1)) b with ⟨cb, cs, ct, ce⟩
            rw [hcc] at hc1
            have HC1 : Hid _ := Lib.hid hc1
            have HCC : Hid _ := Lib.hid hcc
            clear hc1 hcc
            go_wp2_with (first
              | (with_reducible (show wpList _ _ _ (⟨_, .load 54 _, _, _, _, none⟩ :: _) _ _); refine wpList_loadEl rfl 54 _ rfl _ _ rfl _ _ HC1.out (Ch.enc_len _) Try.underlying54 rfl Try.sizeCh (.agg #[.int .i64 cb, .int .i64 cs, .bool ct, .bool ce]) rfl ?_))
            refine region_tail 7 (by kernel_rfl) (by kernel_rfl) ?_
            simp only [List.take_succ_cons, List.take_zero, List.drop_succ_cons, List.drop_zero]
            have hal : Keep None wr (World.drew (wr.alloc (.cells #[.int .i64 cb, .int .i64 cs, .bool false, .bool ce] 54))) := ((Keep.refl _ _).alloc _).drew
            have hx : (World.drew (wr.alloc (.cells #[.int .i64 cb, .int .i64 cs, .bool false, .bool ce] 54))).heap[wr.heap.size]? = some (.cells #[.int .i64 cb, .int .i64 cs, .bool false, .bool ce] 54 (0, 0)) := heap_alloc_new _ _
            generalize World.drew (wr.alloc (.cells #[.int .i64 cb, .int .i64 cs, .bool false, .bool ce] 54)) = wa at *
            have f1 := hal.cell e1 (by simp)
            have f2 := hal.cell e2 (by simp)
            have f5 := hal.cell e5 (by simp)
            have f6 := hal.cell e6 (by simp)
            have HRW2 : Hid _ := Lib.hid (HRW.out.keep hal (by simp))
            have HRO2 : Hid _ := Lib.hid (HRO'.out.keep hal (by simp))
            have HKB2 : Hid _ := Lib.hid (HKB.out.andThen hal (by simp))
            have x0 : wa.cell? ⟨wr.heap.size, 0, none⟩ = some (.int .i64 cb) := by simp [World.cell?, hx]
            have x1 : wa.cell? ⟨wr.heap.size, 1, none⟩ = some (.int .i64 cs) := by simp [World.cell?, hx]
            have x2 : wa.cell? ⟨wr.heap.size, 2, none⟩ = some (.bool false) := by simp [World.cell?, hx]
            have x3 : wa.cell? ⟨wr.heap.size, 3, none⟩ = some (.bool ce) := by simp [World.cell?, hx]
            have HX : Hid _ := Lib.hid hx
            have HAL : Hid _ := Lib.hid hal
            clear hx hal e1 e2 e5 e6
            repeat still_step
            refine wpStill_nil ?_
            refine wpList_storeEl (enc := Ch.enc) rfl 54 _ _ rfl _ _ rfl ⟨cb, cs, false, ce⟩ _ rfl rfl Ch.enc_len HRW2.out b (by rw [rowList_len]; exact hbm) rfl Try.sizeCh (by simp [Ch.enc, Value.oneCell']) ?_
            intro w5 hA5 hk5 hs5
            have g1 := hk5.cell f1 (by simp; omega)
            have g2 := hk5.cell f2 (by simp; omega)
            have g5 := hk5.cell f5 (by simp; omega)
            have g6 := hk5.cell f6 (by simp; omega)
            have y0 := hk5.cell x0 (by simp; omega)
            have y1 := hk5.cell x1 (by simp; omega)
            have y2 := hk5.cell x2 (by simp; omega)
            have y3 := hk5.cell x3 (by simp; omega)
            have HRO5 : Hid _ := Lib.hid (HRO2.out.keep hk5 (by omega))
            have HKB5 : Hid _ := Lib.hid (HKB2.out.trans hk5)
            have HA5 : Hid _ := Lib.hid hA5
            have hsz5 : wr.heap.size < w5.heap.size := by have := HAL.out.size; have := heap_lt HX.out; omega
            clear hk5 f1 f2 f5 f6 x0 x1 x2 x3 hA5 hs5
            by_cases hsb : b < sz
            · go_wp2
              go_roundw
              case rel =>
                refine ⟨b + 1, by omega, by go_num, HKB5.out, ?_⟩
                rw [← rowList_set, HDR.out]
                have : cell (d :: l.drop (i + 1)) b = ⟨cb, cs, false, ce⟩ := by simp [cell, hsb, HSZ.out, HCC.out, without]
                rw [this, ← HDR.out]
                exact HA5.out
              case measure => simp [intOf]; omega
            · go_wp2
              obtain ⟨q, hq⟩ : ∃ q, b = q + sz := ⟨b - sz, by omega⟩
              have hc2 := HRO5.out.range Ch.enc_len (rowList_get (l.drop (i + 1)) m (m + 1) q (by omega) (by omega))
              rcases hcc2 : cell (l.drop (i + 1)) q with ⟨db, ds, dt, de⟩
              rw [hcc2] at hc2
              have z0 : w5.cell? ⟨r', q * 4, none⟩ = some (.int .i64 db) := hc2 0 _ rfl
              have z1 : w5.cell? ⟨r', q * 4 + 1, none⟩ = some (.int .i64 ds) := hc2 1 _ rfl
              have z2 : w5.cell? ⟨r', q * 4 + 2, none⟩ = some (.bool dt) := hc2 2 _ rfl
              have z3 : w5.cell? ⟨r', q * 4 + 3, none⟩ = some (.bool de) := hc2 3 _ rfl
              have HCC2 : Hid _ := Lib.hid hcc2
              clear hcc2 hc2
              have i1 : IntKind.i64.wrap ((i : Int) + 1) = (i : Int) + 1 := IntWalk.i64_in _ (by omega)
              have i2 : ((i : Int) + 1).toNat = i + 1 := by omega
              have i3 : IntKind.i64.wrap ((b : Int) - (sz : Int)) = (q : Int) := by rw [IntWalk.i64_in _ (by omega)]; omega
              have i4 : (0 : Int) ≤ (i : Int) + 1 := by omega
              have i5 : (i : Int) + 1 < (l.length : Int) + 1 := by omega
              have i6 : (q : Int) < (m : Int) + 1 := by omega
              have i7 : (0 : Int) ≤ (q : Int) := by omega
              have hal6 : Keep None w5 (w5.alloc (.cells #[.int .i64 0, .int .i64 0, .bool false, .bool false] 54)) := (Keep.refl _ _).alloc _
              have j2 := hal6.cell g2 id
              have j6 := hal6.cell g6 id
              have j0 := hal6.cell z0 id
              have j1 := hal6.cell z1 id
              have j3 := hal6.cell z2 id
              have j4 := hal6.cell z3 id
              have HAL6 : Hid _ := Lib.hid hal6
              clear hal6
              have hbnd := cell_bd (l.drop (i + 1)) q (fun x hx => good_fine H4.out x (List.mem_of_mem_drop hx))
              have HQ : Hid _ := Lib.hid hq
              have HBN : Hid _ := Lib.hid hbnd
              clear hq hbnd
              go_region
              have hal7 : Keep None w5 (World.drew (w5.alloc (.cells #[.int .i64 db, .int .i64 ds, .bool dt, .bool de] 54))) := ((Keep.refl _ _).alloc _).drew
              have hx7 : (World.drew (w5.alloc (.cells #[.int .i64 db, .int .i64 ds, .bool dt, .bool de] 54))).heap[w5.heap.size]? = some (.cells #[.int .i64 db, .int .i64 ds, .bool dt, .bool de] 54 (0, 0)) := heap_alloc_new _ _
              generalize World.drew (w5.alloc (.cells #[.int .i64 db, .int .i64 ds, .bool dt, .bool de] 54)) = w7 at *
              have k5 := hal7.cell g5 id
              have k6 := hal7.cell g6 id
              have k1 := hal7.cell g1 id
              have v0 := hal7.cell y0 id
              have v1 := hal7.cell y1 id
              have v2 := hal7.cell y2 id
              have v3 := hal7.cell y3 id
              have u0 : w7.cell? ⟨w5.heap.size, 0, none⟩ = some (.int .i64 db) := by simp [World.cell?, hx7]
              have u1 : w7.cell? ⟨w5.heap.size, 1, none⟩ = some (.int .i64 ds) := by simp [World.cell?, hx7]
              have u2 : w7.cell? ⟨w5.heap.size, 2, none⟩ = some (.bool dt) := by simp [World.cell?, hx7]
              have u3 : w7.cell? ⟨w5.heap.size, 3, none⟩ = some (.bool de) := by simp [World.cell?, hx7]
              have m0 : w7.frozen? ⟨w5.heap.size, 0, none⟩ = false := by simp [World.frozen?, hx7]
              have m1 : w7.frozen? ⟨w5.heap.size, 1, none⟩ = false := by simp [World.frozen?, hx7]
              have m2 : w7.frozen? ⟨w5.heap.size, 2, none⟩ = false := by simp [World.frozen?, hx7]
              have m3 : w7.frozen? ⟨w5.heap.size, 3, none⟩ = false := by simp [World.frozen?, hx7]
              have i8 : IntKind.i64.wrap (db + d.benefit) = db + d.benefit := IntWalk.i64_in _ (by have := HBN.out; rw [HCC2.out] at this; simp at this; omega)
              have i9 : IntKind.i64.wrap (ds + (sz : Int)) = ds + (sz : Int) := IntWalk.i64_in _ (by have := HBN.out; rw [HCC2.out] at this; simp at this; omega)
              have HX7 : Hid _ := Lib.hid hx7
              have HK7 : Hid _ := Lib.hid hal7
              clear hx7 hal7 g1 g2 g5 g6 y0 y1 y2 y3 z0 z1 z2 z3 j0 j1 j2 j3 j4 j6 i1 i2 i3 i4 i5 i6 i7
              go_wp2
              go_region
              go_wp2
              go_region
              go_wp2_with (fail)
              generalize hW : World.drew (World.drew (World.setCell _ _ _)) = w8
              have hk8 : Keep (· = w5.heap.size) w7 w8 := by
                rw [← hW]
                exact ((((((Keep.refl (· = w5.heap.size) w7).setCell (p := ⟨w5.heap.size, 0, none⟩) (.inl rfl) _).setCell (p := ⟨w5.heap.size, 1, none⟩) (.inl rfl) _).setCell (p := ⟨w5.heap.size, 2, none⟩) (.inl rfl) _).setCell (p := ⟨w5.heap.size, 3, none⟩) (.inl rfl) _).drew).drew
              have hx8 : w8.heap[w5.heap.size]? = some (.cells #[.int .i64 (db + d.benefit), .int .i64 (ds + (sz : Int)), .bool true, .bool false] 54 (0, 0)) := by
                rw [← hW]; simp [World.drew, World.setCell, Array.getElem?_modify, HX7.out]
              have k18 := hk8.cell k1 (by simp; omega)
              have v08 := hk8.cell v0 (by simp; omega)
              have v18 := hk8.cell v1 (by simp; omega)
              have v28 := hk8.cell v2 (by simp; omega)
              have v38 := hk8.cell v3 (by simp; omega)
              have u08 : w8.cell? ⟨w5.heap.size, 0, none⟩ = some (.int .i64 (db + d.benefit)) := by simp [World.cell?, hx8]
              have u18 : w8.cell? ⟨w5.heap.size, 1, none⟩ = some (.int .i64 (ds + (sz : Int))) := by simp [World.cell?, hx8]
              have u28 : w8.cell? ⟨w5.heap.size, 2, none⟩ = some (.bool true) := by simp [World.cell?, hx8]
              have u38 : w8.cell? ⟨w5.heap.size, 3, none⟩ = some (.bool false) := by simp [World.cell?, hx8]
              have HK8 : Hid (Keep (w5.heap.size ≤ ·) w5 w8) := Lib.hid ((HK7.out.weaken (by simp)).andThen hk8 (by intro k h1 h2; omega))
              clear hW hk8 hx8 k1 v0 v1 v2 v3 u0 u1 u2 u3 m0 m1 m2 m3 k5 k6 i8 i9
              cases hp1 : better ⟨db + d.benefit, ds + (sz : Int), true, false⟩ ⟨cb, cs, false, ce⟩ with
              | true =>
                refine (better_calls _ _ _ _ _ _ _ _ true hp1 _).mono ?_
                rintro e w9 ⟨rfl, hk9⟩
                have k19 := hk9.cell k18 id
                have v09 := hk9.cell v08 id
                have v19 := hk9.cell v18 id
                have v29 := hk9.cell v28 id
                have v39 := hk9.cell v38 id
                have u09 := hk9.cell u08 id
                have u19 := hk9.cell u18 id
                have u29 := hk9.cell u28 id
                have u39 := hk9.cell u38 id
                clear k18 v08 v18 v28 v38 u08 u18 u28 u38
                have HKZ : Hid (Keep (w5.heap.size ≤ ·) w5 w9) := Lib.hid (HK8.out.trans (hk9.weaken (by simp)))
                have HP1 : Hid _ := Lib.hid hp1
                clear hk9 HK8 hp1
                go_wp2_with (fail)
                refine region_tail 7 (by kernel_rfl) (by kernel_rfl) ?_
                simp only [List.take_succ_cons, List.take_zero, List.drop_succ_cons, List.drop_zero]
                have HD : Hid _ := Lib.hid (Keep.drew (Keep.refl None w9))
                have hrd : w9.heap.size = (World.drew w9).heap.size := rfl
                have k1d := (HD.out).cell k19 id
                have u0d := (HD.out).cell u09 id
                have u1d := (HD.out).cell u19 id
                have u2d := (HD.out).cell u29 id
                have u3d := (HD.out).cell u39 id
                clear hrd
                generalize World.drew w9 = wd at *
                repeat still_step
                refine wpStill_nil ?_
                refine wpList_storeEl (enc := Ch.enc) rfl 54 _ _ rfl _ _ rfl ⟨db + d.benefit, ds + (sz : Int), true, false⟩ _ rfl rfl Ch.enc_len (HA5.out.keep ((HKZ.out).trans (HD.out.weaken (by simp))) (by simp; omega)) b (by simp [rowList_len]; exact hbm) rfl Try.sizeCh (by simp [Ch.enc, Value.oneCell']) ?_
                intro we hAe hke hse
                have HAE : Hid _ := Lib.hid hAe
                have HKE : Hid _ := Lib.hid ((HKB5.out.andThen ((HKZ.out).trans (HD.out.weaken (by simp))) (by intro k h1 h2; omega)).trans hke)
                clear hAe hke hse
                go_wp2
                go_roundw
                case rel =>
                  refine ⟨b + 1, by omega, by go_num, HKE.out, ?_⟩
                  rw [← rowList_set, HDR.out]
                  have e : cell (d :: l.drop (i + 1)) b = ⟨db + d.benefit, ds + (sz : Int), true, false⟩ := by
                    simp [cell, HSZ.out, hsb, show b - sz = q by have := HQ.out; omega, HCC.out, HCC2.out, without, withIt, pick, HP1.out]
                  rw [e, ← HDR.out]
                  have := HAE.out
                  rw [List.set_set] at this
                  exact this
                case measure => simp [intOf]; omega
              | false =>
                refine (better_calls _ _ _ _ _ _ _ _ false hp1 _).mono ?_
                rintro e w9 ⟨rfl, hk9⟩
                have k19 := hk9.cell k18 id
                have v09 := hk9.cell v08 id
                have v19 := hk9.cell v18 id
                have v29 := hk9.cell v28 id
                have v39 := hk9.cell v38 id
                have u09 := hk9.cell u08 id
                have u19 := hk9.cell u18 id
                have u29 := hk9.cell u28 id
                have u39 := hk9.cell u38 id
                clear k18 v08 v18 v28 v38 u08 u18 u28 u38
                have HK9 : Hid (Keep (w5.heap.size ≤ ·) w5 w9) := Lib.hid (HK8.out.trans (hk9.weaken (by simp)))
                have HP1 : Hid _ := Lib.hid hp1
                clear hk9 HK8 hp1
                go_wp2_with (fail)
                cases hp2 : better ⟨cb, cs, false, ce⟩ ⟨db + d.benefit, ds + (sz : Int), true, false⟩ with
                | true =>
                  refine (better_calls _ _ _ _ _ _ _ _ true hp2 _).mono ?_
                  rintro e wc ⟨rfl, hkc⟩
                  have k1c := hkc.cell k19 id
                  have v0c := hkc.cell v09 id
                  have v1c := hkc.cell v19 id
                  have v2c := hkc.cell v29 id
                  have v3c := hkc.cell v39 id
                  have u0c := hkc.cell u09 id
                  have u1c := hkc.cell u19 id
                  have u2c := hkc.cell u29 id
                  have u3c := hkc.cell u39 id
                  clear k19 v09 v19 v29 v39 u09 u19 u29 u39
                  have HKZ : Hid (Keep (w5.heap.size ≤ ·) w5 wc) := Lib.hid (HK9.out.trans (hkc.weaken (by simp)))
                  have HP2 : Hid _ := Lib.hid hp2
                  clear hkc HK9 hp2
                  have HKE : Hid _ := Lib.hid (HKB5.out.andThen (HKZ.out) (by intro k h1 h2; omega))
                  have HAE : Hid _ := Lib.hid (HA5.out.keep (HKZ.out) (by omega))
                  go_wp2
                  go_roundw
                  case rel =>
                    refine ⟨b + 1, by omega, by go_num, HKE.out, ?_⟩
                    rw [← rowList_set, HDR.out]
                    have e : cell (d :: l.drop (i + 1)) b = ⟨cb, cs, false, ce⟩ := by
                      simp [cell, HSZ.out, hsb, show b - sz = q by have := HQ.out; omega, HCC.out, HCC2.out, without, withIt, pick, HP1.out, HP2.out]
                    rw [e, ← HDR.out]
                    exact HAE.out
                  case measure => simp [intOf]; omega
                | false =>
                  refine (better_calls _ _ _ _ _ _ _ _ false hp2 _).mono ?_
                  rintro e wc ⟨rfl, hkc⟩
                  have k1c := hkc.cell k19 id
                  have v0c := hkc.cell v09 id
                  have v1c := hkc.cell v19 id
                  have v2c := hkc.cell v29 id
                  have v3c := hkc.cell v39 id
                  have u0c := hkc.cell u09 id
                  have u1c := hkc.cell u19 id
                  have u2c := hkc.cell u29 id
                  have u3c := hkc.cell u39 id
                  clear k19 v09 v19 v29 v39 u09 u19 u29 u39
                  have HKZ : Hid (Keep (w5.heap.size ≤ ·) w5 wc) := Lib.hid (HK9.out.trans (hkc.weaken (by simp)))
                  have HP2 : Hid _ := Lib.hid hp2
                  clear hkc HK9 hp2
                  cases ce with
                  | true =>
                    have HKE : Hid _ := Lib.hid (HKB5.out.andThen (HKZ.out) (by intro k h1 h2; omega))
                    have HAE : Hid _ := Lib.hid (HA5.out.keep (HKZ.out) (by omega))
                    go_wp2
                    go_roundw
                    case rel =>
                      refine ⟨b + 1, by omega, by go_num, HKE.out, ?_⟩
                      rw [← rowList_set, HDR.out]
                      have e : cell (d :: l.drop (i + 1)) b = ⟨cb, cs, false, true⟩ := by
                        simp [cell, HSZ.out, hsb, show b - sz = q by have := HQ.out; omega, HCC.out, HCC2.out, without, withIt, pick, HP1.out, HP2.out]
                      rw [e, ← HDR.out]
                      exact HAE.out
                    case measure => simp [intOf]; omega
                  | false =>
                    go_wp2_with (fail)
                    refine region_tail 7 (by kernel_rfl) (by kernel_rfl) ?_
                    simp only [List.take_succ_cons, List.take_zero, List.drop_succ_cons, List.drop_zero]
                    have HD : Hid _ := Lib.hid (Keep.drew (Keep.refl None wc))
                    have hrd : wc.heap.size = (World.drew wc).heap.size := rfl
                    have k1d := (HD.out).cell k1c id
                    have u0d := (HD.out).cell u0c id
                    have u1d := (HD.out).cell u1c id
                    have u2d := (HD.out).cell u2c id
                    have u3d := (HD.out).cell u3c id
                    clear hrd
                    generalize World.drew wc = wd at *
                    repeat still_step
                    refine wpStill_nil ?_
                    refine wpList_storeEl (enc := Ch.enc) rfl 54 _ _ rfl _ _ rfl ⟨db + d.benefit, ds + (sz : Int), true, false⟩ _ rfl rfl Ch.enc_len (HA5.out.keep ((HKZ.out).trans (HD.out.weaken (by simp))) (by simp; omega)) b (by simp [rowList_len]; exact hbm) rfl Try.sizeCh (by simp [Ch.enc, Value.oneCell']) ?_
                    intro we hAe hke hse
                    have HAE : Hid _ := Lib.hid hAe
                    have HKE : Hid _ := Lib.hid ((HKB5.out.andThen ((HKZ.out).trans (HD.out.weaken (by simp))) (by intro k h1 h2; omega)).trans hke)
                    clear hAe hke hse
                    go_wp2
                    go_roundw
                    case rel =>
                      refine ⟨b + 1, by omega, by go_num, HKE.out, ?_⟩
                      rw [← rowList_set, HDR.out]
                      have e : cell (d :: l.drop (i + 1)) b = ⟨db + d.benefit, ds + (sz : Int), true, false⟩ := by
                        simp [cell, HSZ.out, hsb, show b - sz = q by have := HQ.out; omega, HCC.out, HCC2.out, without, withIt, pick, HP1.out, HP2.out]
                      rw [e, ← HDR.out]
                      have := HAE.out
                      rw [List.set_set] at this
                      exact this
                    case measure => simp [intOf]; omega
          · have hbe : b = m + 1 := by omega
            subst hbe
            clear hb hbm
            go_wp2
            go_roundw
            case rel =>
              refine ⟨i, by omega, by go_num, table_step HL.out hil HR.out rfl hrw HK4.out HA5.out HKB.out HRW.out, ?_, hg0⟩
              exact (hkr.andThen HK4.out (by intro k h1 h2; omega)).andThen HKB.out (by intro k h1 h2; have := hkr.size; omega)
            case measure => simp [intOf]

theorem best_calls (p : Option Addr) (l : List Dec) (cap : Nat) (budget : Int) (w : World) (h : SliceV Dec.enc 7 w p l) (hl : l.length ≤ 1000000) :
    Calls Try.prog 11 #[.slice p l.length cap, .int .i64 budget] w (BestPost (best l budget) w) := by
  by_cases h1 : budget < 0 ∨ 4096 < budget ∨ 64 < l.length ∨ l.any bad = true
  · exact best_bad p l cap budget w h hl h1
  · obtain ⟨m, rfl⟩ : ∃ m : Nat, budget = m := ⟨budget.toNat, by omega⟩
    have h2 : l.any bad = false := by
      cases hb : l.any bad with
      | true => exact absurd (Or.inr (Or.inr (Or.inr hb))) h1
      | false => rfl
    exact best_good p l cap m w h (by omega) (by omega) h2

end Go.Proofs.Ytiojoheenjkphaa
