/-
  The reference's table: for the decisions from each index on and each budget the best value.
-/
import Derived.Test.YtiojoheenjkphaaBest2
import Derived.Test.YtiojoheenjkphaaBaseTwo
namespace Go.Proofs.Ytiojoheenjkphaa
open Go.RowKit

structure Vl where
  benefit : Int
  size : Int

def Vl.enc (c : Vl) : List Value := [.int .i64 c.benefit, .int .i64 c.size]
theorem Vl.enc_len (c : Vl) : c.enc.length = 2 := rfl
def val (c : Ch) : Vl := ⟨c.benefit, c.size⟩
def zeroVl : Vl := ⟨0, 0⟩

theorem Try.infoVl : (Try.prog.info? 59).map (fun i => (i.zero, i.size, i.bytes)) = some (some (.agg #[.int .i64 0, .int .i64 0]), 2, 16) := by kernel_rfl
theorem Try.sizeVl : (Try.prog.info? 59).map (·.size) = some 2 := by kernel_rfl
theorem Try.infoVRow : (Try.prog.info? 60).map (fun i => (i.zero, i.size, i.bytes)) = some (some (.slice none 0 0), 1, 24) := by kernel_rfl
theorem Try.sizeVRow : (Try.prog.info? 60).map (·.size) = some 1 := by kernel_rfl

def aboveB (a s b t : Int) : Bool := decide (b < a) || (decide (a = b) && decide (s < t))

set_option maxHeartbeats 400000 in
theorem above_calls (a s b t : Int) (r : Bool) (hr : aboveB a s b t = r) (w : World) :
    Calls Try.prog 22 #[.agg #[.int .i64 a, .int .i64 s], .agg #[.int .i64 b, .int .i64 t]] w (Gives None (.bool r) w) := by
  subst hr
  by_cases h1 : b < a
  · have hf : aboveB a s b t = true := by simp [aboveB, h1]
    rw [hf]
    go_enter Try.func22, Try.ntmps22
    go_wp2
    go_ret
    exact ⟨rfl, ((Keep.refl _ _).alloc _).alloc _⟩
  · by_cases h2 : a = b
    · subst h2
      have hf : aboveB a s a t = decide (s < t) := by simp [aboveB]
      rw [hf]
      go_enter Try.func22, Try.ntmps22
      go_wp2
      go_ret
      exact ⟨rfl, ((Keep.refl _ _).alloc _).alloc _⟩
    · have hf : aboveB a s b t = false := by simp [aboveB, h1, h2]
      rw [hf]
      have h3 : ((a == b) : Bool) = false := by simpa using h2
      clear h2
      go_enter Try.func22, Try.ntmps22
      go_wp2
      go_ret
      exact ⟨rfl, ((Keep.refl _ _).alloc _).alloc _⟩

/-- The row of l up to b, zeros behind. -/
def vRow (l : List Dec) (m b : Nat) : List Vl := (List.range (m + 1)).map fun j => if j < b then val (cell l j) else zeroVl

abbrev VRowAt (w : World) (r : Nat) (xs : List Vl) : Prop := Arr Vl.enc 59 w r xs

def VTable (g n m : Nat) (l : List Dec) (k : Nat) (w : World) : Prop :=
  ∃ tb : List Value, Arr valEnc 60 w g tb ∧ tb.length = n + 1 ∧
    ∀ j, k ≤ j → j ≤ n → ∃ r, tb[j]? = some (rowOf r m) ∧ r ≠ g ∧ VRowAt w r (vRow (l.drop j) m (m + 1))

theorem vRow_len (l : List Dec) (m b : Nat) : (vRow l m b).length = m + 1 := by simp [vRow]

theorem vRow_zero (l : List Dec) (m : Nat) : vRow l m 0 = List.replicate (m + 1) zeroVl := by
  apply List.ext_getElem
  · simp [vRow]
  · intro i h1 h2; simp [vRow]

theorem vRow_last (m : Nat) : vRow [] m (m + 1) = List.replicate (m + 1) zeroVl := by
  apply List.ext_getElem
  · simp [vRow]
  · intro i h1 h2; simp [vRow, val, cell, zeroVl]

theorem vRow_set (l : List Dec) (m b : Nat) : (vRow l m b).set b (val (cell l b)) = vRow l m (b + 1) := by
  apply List.ext_getElem
  · simp [vRow]
  · intro i h1 h2
    simp only [vRow, List.getElem_set, List.getElem_map, List.getElem_range]
    by_cases e : b = i
    · subst e; simp
    · simp only [e, if_false]
      by_cases h : i < b
      · simp [h, show i < b + 1 by omega]
      · simp [h, show ¬ i < b + 1 by omega]

theorem vRow_get (l : List Dec) (m b j : Nat) (h : j < b) (hj : j ≤ m) : (vRow l m b)[j]? = some (val (cell l j)) := by
  simp [vRow, h, show j < m + 1 by omega]

theorem vtable_step {g r i m : Nat} {l : List Dec} {wo w4 wq : World} {tb : List Value} (hlen : tb.length = l.length + 1) (hi : i < tb.length)
    (hrows : ∀ j, i + 1 ≤ j → j ≤ l.length → ∃ r', tb[j]? = some (rowOf r' m) ∧ r' ≠ g ∧ VRowAt wo r' (vRow (l.drop j) m (m + 1)))
    (hr : wo.heap.size = r) (hg : g < r) (hk : Keep (· = g) wo w4) (h5 : Arr valEnc 60 w4 g (tb.set i (rowOf r m))) (hq : Keep (· = r) w4 wq) (hrow : VRowAt wq r (vRow (l.drop i) m (m + 1))) :
    VTable g l.length m l i wq := by
  refine ⟨_, h5.keep hq (by omega), by simpa using hlen, fun j h1 h2 => ?_⟩
  by_cases e : i = j
  · subst e
    exact ⟨r, by simp [hi], by omega, hrow⟩
  · obtain ⟨r', q1, q2, q3⟩ := hrows j (by omega) h2
    refine ⟨r', by simp [e, q1], q2, ?_⟩
    exact (q3.keep hk (by omega)).keep hq (by have := q3.lt; omega)

theorem VTable.keep {g n m k : Nat} {l : List Dec} {w w' : World} (h : VTable g n m l k w) (hk : Keep None w w') : VTable g n m l k w' := by
  obtain ⟨tb, h1, h2, h3⟩ := h
  refine ⟨tb, h1.keep hk id, h2, fun j h4 h5 => ?_⟩
  obtain ⟨r, q1, q2, q3⟩ := h3 j h4 h5
  exact ⟨r, q1, q2, q3.keep hk id⟩

theorem better_tt (c d : Ch) : better c d = true ↔ (d.benefit < c.benefit ∨ c.benefit = d.benefit ∧ c.size < d.size) := by
  simp [better]

theorem cell_val (d : Dec) (r : List Dec) (b : Nat) : (¬ (b : Int) < d.size) →
    val (cell (d :: r) b) = if aboveB ((cell r (b - d.size.toNat)).benefit + d.benefit) ((cell r (b - d.size.toNat)).size + d.size) (cell r b).benefit (cell r b).size = true
      then ⟨(cell r (b - d.size.toNat)).benefit + d.benefit, (cell r (b - d.size.toNat)).size + d.size⟩ else val (cell r b) := by
  intro h
  simp only [cell, if_neg h]
  generalize cell r (b - d.size.toNat) = ci
  generalize cell r b = cw
  have hb : better (withIt ci d) (without cw) = aboveB (ci.benefit + d.benefit) (ci.size + d.size) cw.benefit cw.size := rfl
  unfold pick
  rw [hb]
  cases ha : aboveB (ci.benefit + d.benefit) (ci.size + d.size) cw.benefit cw.size with
  | true => simp [val, withIt]
  | false =>
    simp only [Bool.false_or, Bool.false_eq_true, if_false]
    split
    · rename_i hq
      have h2 : better (without cw) (withIt ci d) = false := by
        simp only [Bool.and_eq_true, Bool.not_eq_true'] at hq; exact hq.1
      have h3 : better (withIt ci d) (without cw) = false := by rw [hb]; exact ha
      have n2 := mt (better_tt (without cw) (withIt ci d)).2 (by rw [h2]; simp)
      have n3 := mt (better_tt (withIt ci d) (without cw)).2 (by rw [h3]; simp)
      simp only [withIt, without] at n2 n3
      simp only [val, withIt, Vl.mk.injEq]
      omega
    · simp [val, without]

theorem cell_val_small (d : Dec) (r : List Dec) (b : Nat) (h : (b : Int) < d.size) : val (cell (d :: r) b) = val (cell r b) := by
  simp [cell, h, val, without]

def VOut (g m : Nat) (l : List Dec) (w0 : World) (i : Value) (w : World) : Prop :=
  ∃ k : Nat, k ≤ l.length ∧ i = .int .i64 ((k : Int) - 1) ∧ VTable g l.length m l k w ∧ Keep None w0 w ∧ w0.heap.size ≤ g

def VIn (r i m : Nat) (l : List Dec) (w1 : World) (x : Value) (w : World) : Prop :=
  ∃ b : Nat, b ≤ m + 1 ∧ x = .int .i64 b ∧ Keep (· = r) w1 w ∧ VRowAt w r (vRow (l.drop i) m b)

def TablePost (l : List Dec) (m : Nat) (w : World) (e : Ending) (w' : World) : Prop :=
  ∃ g, e = .returned (.slice (some ⟨g, 0, none⟩) (l.length + 1) (l.length + 1)) ∧ w.heap.size ≤ g ∧ VTable g l.length m l 0 w' ∧ Keep None w w'

set_option maxRecDepth 100000 in
set_option maxHeartbeats 4000000 in
theorem table_calls (p : Option Addr) (l : List Dec) (cap m : Nat) (w : World) (h : SliceV Dec.enc 7 w p l) (hl : l.length ≤ 64) (hm : m ≤ 4096) (hgood : fine l) :
    Calls Try.prog 20 #[.slice p l.length cap, .int .i64 m] w (TablePost l m w) := by
  obtain ⟨i0, hi, hz0, hz1, hz2⟩ := info_parts Try.infoVRow
  obtain ⟨i1, hi1, hy0, hy1, hy2⟩ := info_parts Try.infoVl
  have H4 : Hid _ := Lib.hid hgood
  clear hgood
  have hnl : l.length < l.length + 1 := by omega
  go_enter Try.func20, Try.ntmps20
  go_wp2_with (first
    | (at_make; refine wpList_makeArr (enc := valEnc) _ rfl (.tmp 11) (.tmp 11) 56 rfl 60 i0 _ 24 Try.underlying56 hi hz0 hz1 hz2 (.slice none 0 0) valEnc_len rfl (by decide) _ _ _ _ (l.length + 1) rfl rfl (by simp) (by simp) (by omega) (by omega) ?_; intro w2 ha2 hk2 hs2; have HS2 := Lib.hid hs2; clear hs2)
    | (at_make; refine wpList_makeArr (enc := Vl.enc) _ rfl (.tmp 17) (.tmp 17) 60 rfl 59 i1 _ 16 Try.underlying60 hi1 hy0 hy1 hy2 zeroVl Vl.enc_len rfl (by decide) _ _ _ _ (m + 1) rfl rfl (by simp) (by simp) (by omega) (by omega) ?_; intro w3 ha3 hk3 hs3; clear hs3; have ha4 : Arr valEnc 60 w3 w.heap.size (List.replicate (l.length + 1) (.slice none 0 0)) := ha2.keep hk3 (by simp))
    | (with_reducible (show wpList _ _ _ (⟨_, .store 60 _ _, _, _, _, none⟩ :: _) _ _); refine wpList_storeEl (enc := valEnc) rfl 60 _ _ rfl _ _ rfl (rowOf w2.heap.size m) _ rfl rfl valEnc_len ha4 l.length (by simp) (by simp) Try.sizeVRow (by simp [valEnc, rowOf, Value.oneCell']) ?_; intro w4 ha5 hk4 hs4))
  have HK4 := Lib.hid ((hk2.trans hk3).andThen hk4 (by intro k q1 q2; omega))
  have hrow0 : VRowAt w4 w2.heap.size (vRow [] m (m + 1)) := by rw [vRow_last]; exact ha3.keep hk4 (by have := HS2.out; omega)
  have HR0 := Lib.hid hrow0
  have HA0 := Lib.hid ha5
  clear ha2 ha3 ha4 ha5 hk2 hk3 hk4 hs4 hrow0
  go_loopw [6] (VOut w.heap.size m l w) (fun i _ => (intOf i + 1).toNat)
  case atStart =>
    refine ⟨l.length, by omega, rfl, ⟨_, HA0.out, by simp, fun j h1 h2 => ?_⟩, HK4.out, Nat.le_refl _⟩
    have : j = l.length := by omega
    subst this
    exact ⟨w2.heap.size, by simp, by have := HS2.out; omega, by rw [List.drop_length]; exact HR0.out⟩
  case round =>
    clear HR0 HA0 HK4
    obtain ⟨k, hk, rfl, htab, hkr, hg0⟩ := hrel
    obtain ⟨wo, rfl⟩ : ∃ wo : World, wo = wr := ⟨_, rfl⟩
    match k, hk with
    | 0, hk =>
      rw [show ((0 : Nat) : Int) - 1 = -1 from rfl]
      have HT := Lib.hid htab
      have HKR := Lib.hid hkr
      clear htab hkr h
      go_wp2
      go_ret
      exact ⟨w.heap.size, rfl, Nat.le_refl _, HT.out, HKR.out⟩
    | i + 1, hk =>
      rw [show (((i + 1 : Nat) : Int) - 1) = (i : Int) from by omega]
      obtain ⟨tb, hA, hlen, hrows⟩ := htab
      have HA : Hid _ := Lib.hid hA
      have HR : Hid _ := Lib.hid hrows
      have HL : Hid _ := Lib.hid hlen
      have hlt := hA.lt
      clear hA hrows hlen
      have hil : i < tb.length := by have := HL.out; omega
      go_wp2_with (first
        | (at_make; refine wpList_makeArr (enc := Vl.enc) _ rfl _ _ 60 rfl 59 i1 _ 16 Try.underlying60 hi1 hy0 hy1 hy2 zeroVl Vl.enc_len rfl (by decide) _ _ _ _ (m + 1) rfl rfl (by simp) (by simp) (by omega) (by omega) ?_; intro w5 ha5 hk5 hs5; clear hs5; have ha6 : Arr valEnc 60 w5 w.heap.size tb := HA.out.keep hk5 (by simp))
        | (with_reducible (show wpList _ _ _ (⟨_, .store 60 _ _, _, _, _, none⟩ :: _) _ _); refine wpList_storeEl (enc := valEnc) rfl 60 _ _ rfl _ _ rfl (rowOf wo.heap.size m) _ rfl rfl valEnc_len ha6 i hil (by simp) Try.sizeVRow (by simp [valEnc, rowOf, Value.oneCell']) ?_; intro w6 ha7 hk6 hs6; have ht0 := row_cell ha7 hil; unfold rowOf at ht0))
      have hrw : w.heap.size < wo.heap.size := hlt
      have hk34 : Keep (· = w.heap.size) wo w6 := ((Keep.refl _ _).andThen hk5 (by simp)).andThen hk6 (by simp)
      have har : VRowAt w6 wo.heap.size (vRow (l.drop i) m 0) := by rw [vRow_zero]; exact ha5.keep hk6 (by omega)
      have hs6' : wo.heap.size < w6.heap.size := har.lt
      have HK4 : Hid _ := Lib.hid hk34
      have HA5 : Hid _ := Lib.hid ha7
      have HAR : Hid _ := Lib.hid har
      clear hk34 hk5 hk6 ha5 ha6 ha7 har HA hs6
      have hin' : i < l.length := by omega
      obtain ⟨d, hd⟩ : ∃ d, l[i]? = some d := ⟨l[i], by simp [hin']⟩
      rcases h with h | ⟨bd, off, rfl, h⟩
      · subst h; simp at hin'
      obtain ⟨r', q1, q2, q3⟩ := HR.out (i + 1) (by omega) (by omega)
      have hbd : bd < w.heap.size := by have := h.range hd 0 _ rfl; exact World.block_lt_of_cell? w _ this
      have hr'lt : r' < wo.heap.size := by have := q3.lt; omega
      have hdrop : l.drop i = d :: l.drop (i + 1) := by
        rw [List.drop_eq_getElem_cons hin']; congr 1; rw [List.getElem?_eq_getElem hin'] at hd; exact Option.some.inj hd
      have hdf := H4.out d (List.mem_of_getElem? hd)
      obtain ⟨sz, hsz⟩ : ∃ sz : Nat, d.size = sz := ⟨d.size.toNat, by rw [Int.toNat_of_nonneg hdf.2.2.1]⟩
      have hdw : w6.rangeAt bd (off + i * 7) d.enc := by
        intro j v hv
        exact HK4.out.cell (hkr.cell (h.range hd j v hv) (by simp)) (by simp; omega)
      have hd6 : w6.cell? ⟨bd, off + i * 7 + 6, none⟩ = some (.int .i64 (sz : Int)) := by rw [← hsz]; exact hdw 6 _ rfl
      have hd5 : w6.cell? ⟨bd, off + i * 7 + 5, none⟩ = some (.int .i64 d.benefit) := hdw 5 _ rfl
      have hrow' : VRowAt w6 r' (vRow (l.drop (i + 1)) m (m + 1)) := q3.keep HK4.out (by omega)
      have ht2 : w6.cell? ⟨w.heap.size, i + 1, none⟩ = some (rowOf r' m) := by
        have := HA5.out.range valEnc_len (i := i + 1) (x := rowOf r' m) (by simp [q1]) 0 _ rfl
        simpa using this
      unfold rowOf at ht2
      have HKR := Lib.hid hkr
      have HDR : Hid _ := Lib.hid hdrop
      have HRO : Hid _ := Lib.hid hrow'
      have HSZ : Hid _ := Lib.hid hsz
      have hb1 := hdf.1
      have hb2 := hdf.2.1
      clear hdrop q1 q3 hrow' hd hdw h hsz hdf hkr
      go_loopw [7] (VIn wo.heap.size i m l w6) (fun x _ => (m + 1) - (intOf x).toNat)
      case atStart => exact ⟨0, by omega, rfl, Keep.refl _ _, HAR.out⟩
      case round =>
        obtain ⟨b, hb, rfl, hkb, hrow⟩ := hrel
        have hr := hrow.lt
        have HKB : Hid _ := Lib.hid hkb
        have HRW : Hid _ := Lib.hid hrow
        have e1 := hkb.cell ht0 (by simp; omega)
        have e2 := hkb.cell ht2 (by simp; omega)
        have e5 := hkb.cell hd5 (by simp; omega)
        have e6 := hkb.cell hd6 (by simp; omega)
        have HRO' : Hid _ := Lib.hid (HRO.out.keep hkb (by omega))
        clear hkb hrow ht0 ht2 hd5 hd6
        by_cases hbm : b < m + 1
        · have hc1 := HRO'.out.range Vl.enc_len (vRow_get (l.drop (i + 1)) m (m + 1) b hbm (by omega))
          rcases hcc : val (cell (l.drop (i + 1)) b) with ⟨cb, cs⟩
          rw [hcc] at hc1
          have n0 : wr.cell? ⟨r', b * 2, none⟩ = some (.int .i64 cb) := hc1 0 _ rfl
          have n1 : wr.cell? ⟨r', b * 2 + 1, none⟩ = some (.int .i64 cs) := hc1 1 _ rfl
          have HCC : Hid _ := Lib.hid hcc
          clear hc1 hcc
          go_wp2_with (fail)
          refine region_tail 14 (by kernel_rfl) (by kernel_rfl) ?_
          simp only [List.take_succ_cons, List.take_zero, List.drop_succ_cons, List.drop_zero]
          have hal : Keep None wr (World.drew wr) := (Keep.refl _ _).drew
          have hszd : (World.drew wr).heap.size = wr.heap.size := rfl
          have HSZD := Lib.hid hszd
          clear hszd
          generalize World.drew wr = wa at *
          have f1 := hal.cell e1 id
          have f2 := hal.cell e2 id
          have f5 := hal.cell e5 id
          have f6 := hal.cell e6 id
          have p0 := hal.cell n0 id
          have p1 := hal.cell n1 id
          have HRW2 : Hid _ := Lib.hid (HRW.out.keep hal id)
          have HRO2 : Hid _ := Lib.hid (HRO'.out.keep hal id)
          have HKB2 : Hid _ := Lib.hid (HKB.out.andThen hal (by simp))
          clear hal e1 e2 e5 e6 n0 n1
          have i1' : IntKind.i64.wrap ((i : Int) + 1) = (i : Int) + 1 := IntWalk.i64_in _ (by omega)
          have i5 : (i : Int) + 1 < (l.length : Int) + 1 := by omega
          have i2 : ((i : Int) + 1).toNat = i + 1 := by omega
          have i4 : (0 : Int) ≤ (i : Int) + 1 := by omega
          have hbi : (b : Int) < (m : Int) + 1 := by omega
          have hbi0 : (0 : Int) ≤ (b : Int) := by omega
          repeat still_step
          refine wpStill_nil ?_
          refine wpList_storeEl (enc := Vl.enc) rfl 59 _ _ rfl _ _ rfl ⟨cb, cs⟩ _ rfl rfl Vl.enc_len HRW2.out b (by rw [vRow_len]; exact hbm) rfl Try.sizeVl (by simp [Vl.enc, Value.oneCell']) ?_
          intro w7 hA7 hk7 hs7
          have g1 := hk7.cell f1 (by simp; omega)
          have g2 := hk7.cell f2 (by simp; omega)
          have g5 := hk7.cell f5 (by simp; omega)
          have g6 := hk7.cell f6 (by simp; omega)
          have HRO5 : Hid _ := Lib.hid (HRO2.out.keep hk7 (by omega))
          have HKB5 : Hid _ := Lib.hid (HKB2.out.trans hk7)
          have HA7 : Hid _ := Lib.hid hA7
          have hsz5 : wo.heap.size < w7.heap.size := hA7.lt
          clear hk7 f1 f2 f5 f6 p0 p1 hA7 hs7
          by_cases hsb : b < sz
          · go_wp2
            go_roundw
            case rel =>
              refine ⟨b + 1, by omega, by go_num, HKB5.out, ?_⟩
              rw [← vRow_set, HDR.out]
              have : val (cell (d :: l.drop (i + 1)) b) = ⟨cb, cs⟩ := by rw [cell_val_small _ _ _ (by rw [HSZ.out]; omega), HCC.out]
              rw [this, ← HDR.out]
              exact HA7.out
            case measure => simp [intOf]; omega
          · go_wp2_with (fail)
            obtain ⟨q, hq⟩ : ∃ q, b = q + sz := ⟨b - sz, by omega⟩
            have hc2 := HRO5.out.range Vl.enc_len (vRow_get (l.drop (i + 1)) m (m + 1) q (by omega) (by omega))
            rcases hcc2 : val (cell (l.drop (i + 1)) q) with ⟨db, ds⟩
            rw [hcc2] at hc2
            have z0 : w7.cell? ⟨r', q * 2, none⟩ = some (.int .i64 db) := hc2 0 _ rfl
            have z1 : w7.cell? ⟨r', q * 2 + 1, none⟩ = some (.int .i64 ds) := hc2 1 _ rfl
            have HCC2 : Hid _ := Lib.hid hcc2
            clear hcc2 hc2
            have i3 : IntKind.i64.wrap ((b : Int) - (sz : Int)) = (q : Int) := by rw [IntWalk.i64_in _ (by omega)]; omega
            have i6 : (q : Int) < (m : Int) + 1 := by omega
            have i7 : (0 : Int) ≤ (q : Int) := by omega
            have hal6 : Keep None w7 (w7.alloc (.cells #[.int .i64 0, .int .i64 0] 59)) := (Keep.refl _ _).alloc _
            have j2 := hal6.cell g2 id
            have j6 := hal6.cell g6 id
            have j0 := hal6.cell z0 id
            have j1 := hal6.cell z1 id
            clear hal6
            have hbnd := cell_bd (l.drop (i + 1)) q (fun x hx => H4.out x (List.mem_of_mem_drop hx))
            have HQ : Hid _ := Lib.hid hq
            have HBN : Hid _ := Lib.hid hbnd
            clear hq hbnd
            go_region
            have hal8 : Keep None w7 (World.drew (w7.alloc (.cells #[.int .i64 db, .int .i64 ds] 59))) := ((Keep.refl _ _).alloc _).drew
            have hx8 : (World.drew (w7.alloc (.cells #[.int .i64 db, .int .i64 ds] 59))).heap[w7.heap.size]? = some (.cells #[.int .i64 db, .int .i64 ds] 59 (0, 0)) := heap_alloc_new _ _
            generalize World.drew (w7.alloc (.cells #[.int .i64 db, .int .i64 ds] 59)) = w8 at *
            have k1 := hal8.cell g1 id
            have k5 := hal8.cell g5 id
            have k6 := hal8.cell g6 id
            have u0 : w8.cell? ⟨w7.heap.size, 0, none⟩ = some (.int .i64 db) := by simp [World.cell?, hx8]
            have u1 : w8.cell? ⟨w7.heap.size, 1, none⟩ = some (.int .i64 ds) := by simp [World.cell?, hx8]
            have m0 : w8.frozen? ⟨w7.heap.size, 0, none⟩ = false := by simp [World.frozen?, hx8]
            have m1 : w8.frozen? ⟨w7.heap.size, 1, none⟩ = false := by simp [World.frozen?, hx8]
            have i8 : IntKind.i64.wrap (db + d.benefit) = db + d.benefit := IntWalk.i64_in _ (by have := HBN.out; have h2 := HCC2.out; simp only [val, Vl.mk.injEq] at h2; rw [h2.1] at this; simp at this; omega)
            have i9 : IntKind.i64.wrap (ds + (sz : Int)) = ds + (sz : Int) := IntWalk.i64_in _ (by have := HBN.out; have h2 := HCC2.out; simp only [val, Vl.mk.injEq] at h2; rw [h2.2] at this; simp at this; omega)
            have HX8 : Hid _ := Lib.hid hx8
            have HAL8 : Hid _ := Lib.hid hal8
            clear hx8 hal8 g1 g2 g5 g6 z0 z1 j0 j1 j2 j6 i1' i2 i3 i4 i5 i6 i7
            go_wp2
            go_region
            go_wp2_with (fail)
            generalize hW : World.drew (World.setCell _ _ _) = w9
            have hk9 : Keep (· = w7.heap.size) w8 w9 := by
              rw [← hW]
              exact (((Keep.refl (· = w7.heap.size) w8).setCell (p := ⟨w7.heap.size, 0, none⟩) (.inl rfl) _).setCell (p := ⟨w7.heap.size, 1, none⟩) (.inl rfl) _).drew
            have hx9 : w9.heap[w7.heap.size]? = some (.cells #[.int .i64 (db + d.benefit), .int .i64 (ds + (sz : Int))] 59 (0, 0)) := by
              rw [← hW]; simp [World.drew, World.setCell, Array.getElem?_modify, HX8.out]
            have HKZ0 : Hid (Keep (w7.heap.size ≤ ·) w7 w9) := Lib.hid ((HAL8.out.weaken (by simp)).andThen hk9 (by intro k h1 h2; omega))
            have HX9 := Lib.hid hx9
            have hk1 := hk9.cell k1 (by simp; omega)
            have HK1 := Lib.hid hk1
            clear hW hk9 hx9 k1 k5 k6 u0 u1 m0 m1 i8 i9 hk1
            refine region_tail 8 (by kernel_rfl) (by kernel_rfl) ?_
            simp only [List.take_succ_cons, List.take_zero, List.drop_succ_cons, List.drop_zero]
            have HD9 : Hid _ := Lib.hid (Keep.drew (Keep.refl None w9))
            have hx9d : (World.drew w9).heap[w7.heap.size]? = some (.cells #[.int .i64 (db + d.benefit), .int .i64 (ds + (sz : Int))] 59 (0, 0)) := HX9.out
            generalize World.drew w9 = wd at *
            have k1d := HD9.out.cell HK1.out id
            have hkd : Keep (w7.heap.size ≤ ·) w7 wd := HKZ0.out.trans (HD9.out.weaken (by simp))
            have hrd := (HA7.out.keep hkd (by omega)).range Vl.enc_len (i := b) (x := ⟨cb, cs⟩) (by simp [vRow_len, hbm])
            have r0 : wd.cell? ⟨wo.heap.size, b * 2, none⟩ = some (.int .i64 cb) := hrd 0 _ rfl
            have r1 : wd.cell? ⟨wo.heap.size, b * 2 + 1, none⟩ = some (.int .i64 cs) := hrd 1 _ rfl
            have u0d : wd.cell? ⟨w7.heap.size, 0, none⟩ = some (.int .i64 (db + d.benefit)) := by simp [World.cell?, hx9d]
            have u1d : wd.cell? ⟨w7.heap.size, 1, none⟩ = some (.int .i64 (ds + (sz : Int))) := by simp [World.cell?, hx9d]
            have HKD := Lib.hid hkd
            clear hx9d hkd hrd HK1 HX9 HKZ0
            repeat still_step
            refine wpStill_nil ?_
            go_wp2_with (fail)
            cases hab : aboveB (db + d.benefit) (ds + (sz : Int)) cb cs with
            | true =>
              refine (above_calls _ _ _ _ true hab _).mono ?_
              rintro e wc ⟨rfl, hkc⟩
              have k1c := hkc.cell k1d id
              have u0c := hkc.cell u0d id
              have u1c := hkc.cell u1d id
              have HAB := Lib.hid hab
              have HKC := Lib.hid (HKD.out.trans (hkc.weaken (by simp)))
              clear hkc hab k1d u0d u1d r0 r1
              go_wp2_with (fail)
              refine region_tail 7 (by kernel_rfl) (by kernel_rfl) ?_
              simp only [List.take_succ_cons, List.take_zero, List.drop_succ_cons, List.drop_zero]
              have HD2 : Hid _ := Lib.hid (Keep.drew (Keep.refl None wc))
              generalize World.drew wc = wf at *
              have k1f := HD2.out.cell k1c id
              have u0f := HD2.out.cell u0c id
              have u1f := HD2.out.cell u1c id
              have HKZ := Lib.hid (HKC.out.trans (HD2.out.weaken (by simp)))
              clear k1c u0c u1c
              repeat still_step
              refine wpStill_nil ?_
              refine wpList_storeEl (enc := Vl.enc) rfl 59 _ _ rfl _ _ rfl ⟨db + d.benefit, ds + (sz : Int)⟩ _ rfl rfl Vl.enc_len (HA7.out.keep HKZ.out (by simp; omega)) b (by simp [vRow_len]; exact hbm) rfl Try.sizeVl (by simp [Vl.enc, Value.oneCell']) ?_
              intro we hAe hke hse
              have HAE : Hid _ := Lib.hid hAe
              have HKE : Hid _ := Lib.hid ((HKB5.out.andThen HKZ.out (by intro k h1 h2; have := HKB5.out.size; omega)).trans hke)
              clear hAe hke hse
              go_wp2
              go_roundw
              case rel =>
                refine ⟨b + 1, by omega, by go_num, HKE.out, ?_⟩
                rw [← vRow_set, HDR.out]
                have e : val (cell (d :: l.drop (i + 1)) b) = ⟨db + d.benefit, ds + (sz : Int)⟩ := by
                  rw [cell_val _ _ _ (by rw [HSZ.out]; omega)]
                  rw [show b - d.size.toNat = q from by rw [HSZ.out]; have := HQ.out; simp; omega]
                  have hab := HAB.out
                  rw [show cb = (cell (l.drop (i + 1)) b).benefit from by have := HCC.out; simp only [val, Vl.mk.injEq] at this; exact this.1.symm, show cs = (cell (l.drop (i + 1)) b).size from by have := HCC.out; simp only [val, Vl.mk.injEq] at this; exact this.2.symm, show db = (cell (l.drop (i + 1)) q).benefit from by have := HCC2.out; simp only [val, Vl.mk.injEq] at this; exact this.1.symm, show ds = (cell (l.drop (i + 1)) q).size from by have := HCC2.out; simp only [val, Vl.mk.injEq] at this; exact this.2.symm] at hab
                  rw [HSZ.out, hab]
                  simp only [if_true]
                  rw [show db = (cell (l.drop (i + 1)) q).benefit from by have := HCC2.out; simp only [val, Vl.mk.injEq] at this; exact this.1.symm, show ds = (cell (l.drop (i + 1)) q).size from by have := HCC2.out; simp only [val, Vl.mk.injEq] at this; exact this.2.symm]
                rw [e, ← HDR.out]
                have := HAE.out
                rw [List.set_set] at this
                exact this
              case measure => simp [intOf]; omega
            | false =>
              refine (above_calls _ _ _ _ false hab _).mono ?_
              rintro e wc ⟨rfl, hkc⟩
              have HAB := Lib.hid hab
              have HKZ := Lib.hid (HKD.out.trans (hkc.weaken (by simp)))
              have HKE : Hid _ := Lib.hid (HKB5.out.andThen HKZ.out (by intro k h1 h2; have := HKB5.out.size; omega))
              have HAE : Hid _ := Lib.hid (HA7.out.keep HKZ.out (by omega))
              clear hkc hab k1d u0d u1d r0 r1
              go_wp2
              go_roundw
              case rel =>
                refine ⟨b + 1, by omega, by go_num, HKE.out, ?_⟩
                rw [← vRow_set, HDR.out]
                have e : val (cell (d :: l.drop (i + 1)) b) = ⟨cb, cs⟩ := by
                  rw [cell_val _ _ _ (by rw [HSZ.out]; omega)]
                  rw [show b - d.size.toNat = q from by rw [HSZ.out]; have := HQ.out; simp; omega]
                  have hab := HAB.out
                  rw [show cb = (cell (l.drop (i + 1)) b).benefit from by have := HCC.out; simp only [val, Vl.mk.injEq] at this; exact this.1.symm, show cs = (cell (l.drop (i + 1)) b).size from by have := HCC.out; simp only [val, Vl.mk.injEq] at this; exact this.2.symm, show db = (cell (l.drop (i + 1)) q).benefit from by have := HCC2.out; simp only [val, Vl.mk.injEq] at this; exact this.1.symm, show ds = (cell (l.drop (i + 1)) q).size from by have := HCC2.out; simp only [val, Vl.mk.injEq] at this; exact this.2.symm] at hab
                  rw [HSZ.out, hab]
                  simp only [Bool.false_eq_true, if_false]
                  exact HCC.out
                rw [e, ← HDR.out]
                exact HAE.out
              case measure => simp [intOf]; omega
        · have hbe : b = m + 1 := by omega
          subst hbe
          clear hb hbm
          go_wp2
          go_roundw
          case rel =>
            refine ⟨i, by omega, by go_num, vtable_step HL.out hil HR.out rfl hrw HK4.out HA5.out HKB.out HRW.out, ?_, hg0⟩
            exact (HKR.out.andThen HK4.out (by intro k h1 h2; omega)).andThen HKB.out (by intro k h1 h2; have := HKR.out.size; omega)
          case measure => simp [intOf]

end Go.Proofs.Ytiojoheenjkphaa
