/-
  Chapter 23: whether hits fit a shape.
-/
import Derived.Test.YtlhmajjmhkjcoaaHitSame
import Derived.Test.YtlhmajjmhkjcoaaRegDep
import Derived.Test.YtlhmajjmhkjcoaaShape
namespace Go.Proofs.Ytlhmajjmhkjcoaa
open Go.RowKit

def linkIn (sh : List Int) (x : Lk) : Bool := decide (0 ≤ x.func) && (decide (x.func < sh.length) && (decide (0 ≤ x.block) && (decide (x.block < (sh[x.func.toNat]?).getD 0) && (decide (0 ≤ x.callee) && decide (x.callee < sh.length)))))

theorem linkIn_iff {sh : List Int} {x : Lk} : linkIn sh x = true ↔ 0 ≤ x.func ∧ x.func < sh.length ∧ 0 ≤ x.block ∧ x.block < (sh[x.func.toNat]?).getD 0 ∧ 0 ≤ x.callee ∧ x.callee < sh.length := by
  simp [linkIn]

theorem linkIn_not {sh : List Int} {x : Lk} (h : ¬ (0 ≤ x.func ∧ x.func < sh.length ∧ 0 ≤ x.block ∧ x.block < (sh[x.func.toNat]?).getD 0 ∧ 0 ≤ x.callee ∧ x.callee < sh.length)) : linkIn sh x = false := by
  cases hb : linkIn sh x with
  | false => rfl
  | true => exact absurd (linkIn_iff.1 hb) h

set_option maxRecDepth 100000 in
set_option maxHeartbeats 4000000 in
theorem fits2_calls (B : Nat) (sh : List Int) (p : Option Addr) (c : Nat) (x0 x1 x2 x3 : Int) (w : World) (hB : w.cell? ⟨B, 0, none⟩ = some (.slice p sh.length c)) (hs : SliceV intEnc 1 w p sh) (hl : sh.length ≤ 1000000) :
    Calls Try.prog 54 #[.agg #[.int .i64 x0, .int .i64 x1, .int .i64 x2, .int .i64 x3], .pointer (some ⟨B, 0, none⟩)] w (Gives None (.bool (!linkIn sh ⟨x0, x1, x2, x3⟩)) w) := by
  have hal : Keep None w (w.alloc (.cells #[.int .i64 x0, .int .i64 x1, .int .i64 x2, .int .i64 x3] 72)) := (Keep.refl _ _).alloc _
  have hb1 := hal.cell hB id
  have HS := Lib.hid (hs.keep hal (fun _ _ => id))
  clear hs hB hal
  by_cases h0 : x0 < 0
  · have HR := Lib.hid (linkIn_not (sh := sh) (x := ⟨x0, x1, x2, x3⟩) (by simp only; omega))
    (go_enter Try.func54, Try.ntmps54; go_wp2_with (fail); go_quiet (fail); go_wp2_with (fail); go_ret; rw [HR.out]; exact ⟨rfl, ((Keep.refl _ _).alloc _).drewN _⟩)
  have d0 : decide (x0 < 0) = false := by simpa using h0
  by_cases h1 : (sh.length : Int) ≤ x0
  · have HR := Lib.hid (linkIn_not (sh := sh) (x := ⟨x0, x1, x2, x3⟩) (by simp only; omega))
    (go_enter Try.func54, Try.ntmps54; go_wp2_with (fail); go_quiet (fail); go_wp2_with (fail); go_ret; rw [HR.out]; exact ⟨rfl, ((Keep.refl _ _).alloc _).drewN _⟩)
  have d1 : decide ((sh.length : Int) ≤ x0) = false := by simpa using h1
  by_cases h2 : x1 < 0
  · have HR := Lib.hid (linkIn_not (sh := sh) (x := ⟨x0, x1, x2, x3⟩) (by simp only; omega))
    (go_enter Try.func54, Try.ntmps54; go_wp2_with (fail); go_quiet (fail); go_wp2_with (fail); go_ret; rw [HR.out]; exact ⟨rfl, ((Keep.refl _ _).alloc _).drewN _⟩)
  have d2 : decide (x1 < 0) = false := by simpa using h2
  obtain ⟨F, rfl⟩ : ∃ F : Nat, x0 = F := ⟨x0.toNat, by omega⟩
  have hF : F < sh.length := by omega
  have hFi : (F : Int) < sh.length := by omega
  have d1' : decide (sh.length ≤ F) = false := by simpa using hF
  obtain ⟨y, hy⟩ : ∃ y, sh[F]? = some y := ⟨sh[F], List.getElem?_eq_getElem hF⟩
  obtain ⟨b, o, rfl, hc⟩ : ∃ b o, p = some ⟨b, o, none⟩ ∧ (w.alloc (.cells #[.int .i64 (F : Int), .int .i64 x1, .int .i64 x2, .int .i64 x3] 72)).cell? ⟨b, o + F, none⟩ = some (.int .i64 y) := by
    rcases HS.out with h | ⟨b, o, he, h⟩
    · subst h; simp at hF
    · exact ⟨b, o, he, h.int hy⟩
  have hyy : ((sh[(F : Int).toNat]?).getD 0) = y := by simp [hy]
  have HYY := Lib.hid hyy
  clear hy hyy HS
  by_cases h3 : y ≤ x1
  · have HR := Lib.hid (linkIn_not (sh := sh) (x := ⟨F, x1, x2, x3⟩) (by simp only [HYY.out]; omega))
    (go_enter Try.func54, Try.ntmps54; go_wp2_with (fail); go_quiet (fail); go_wp2_with (fail); go_ret; rw [HR.out]; exact ⟨rfl, ((Keep.refl _ _).alloc _).drewN _⟩)
  have d3 : decide (y ≤ x1) = false := by simpa using h3
  by_cases h4 : x2 < 0
  · have HR := Lib.hid (linkIn_not (sh := sh) (x := ⟨F, x1, x2, x3⟩) (by simp only [HYY.out]; omega))
    (go_enter Try.func54, Try.ntmps54; go_wp2_with (fail); go_quiet (fail); go_wp2_with (fail); go_ret; rw [HR.out]; exact ⟨rfl, ((Keep.refl _ _).alloc _).drewN _⟩)
  have d4 : decide (x2 < 0) = false := by simpa using h4
  by_cases h5 : (sh.length : Int) ≤ x2
  · have HR := Lib.hid (linkIn_not (sh := sh) (x := ⟨F, x1, x2, x3⟩) (by simp only [HYY.out]; omega))
    (go_enter Try.func54, Try.ntmps54; go_wp2_with (fail); go_quiet (fail); go_wp2_with (fail); go_ret; rw [HR.out]; exact ⟨rfl, ((Keep.refl _ _).alloc _).drewN _⟩)
  have d5 : decide ((sh.length : Int) ≤ x2) = false := by simpa using h5
  have HR := Lib.hid (linkIn_iff.2 (show 0 ≤ (⟨F, x1, x2, x3⟩ : Lk).func ∧ (⟨F, x1, x2, x3⟩ : Lk).func < sh.length ∧ 0 ≤ (⟨F, x1, x2, x3⟩ : Lk).block ∧ (⟨F, x1, x2, x3⟩ : Lk).block < (sh[(⟨F, x1, x2, x3⟩ : Lk).func.toNat]?).getD 0 ∧ 0 ≤ (⟨F, x1, x2, x3⟩ : Lk).callee ∧ (⟨F, x1, x2, x3⟩ : Lk).callee < sh.length from by simp only [HYY.out]; omega))
  (go_enter Try.func54, Try.ntmps54; go_wp2_with (fail); go_quiet (fail); go_wp2_with (fail); go_ret; rw [HR.out]; exact ⟨rfl, ((Keep.refl _ _).alloc _).drewN _⟩)

/-! ### The reference's fits -/

def lensI (rows : List (List Int)) : List Int := rows.map fun r => (r.length : Int)

def fitsB (sh : List Int) (h : Hits) : Bool := decide (lensI h.blocks = sh) && h.links.all (linkIn sh)

set_option maxRecDepth 100000 in
set_option maxHeartbeats 4000000 in
theorem fits1_calls (n : Int) (p : Option Addr) (m c : Nat) (w : World) (hm : m ≤ maxLen) : Calls Try.prog 52 #[.int .i64 n, .slice p m c] w (fun e w' => e = .returned (.bool (n == (m : Int))) ∧ w' = w) := by
  go_enter Try.func52, Try.ntmps52
  go_wp2
  go_ret
  exact ⟨rfl, rfl⟩

def LensInv (sh : List Int) (rows : List (List Int)) (w0 : World) (i : Value) (w : World) : Prop :=
  ∃ k : Nat, i = .int .i64 k ∧ k ≤ sh.length ∧ (lensI rows).take k = sh.take k ∧ Keep None w0 w

theorem lens_step {sh : List Int} {rows : List (List Int)} {k : Nat} {row : List Int} {n : Int} (h : (lensI rows).take k = sh.take k) (hr : rows[k]? = some row) (hn : sh[k]? = some n) (he : (row.length : Int) = n) : (lensI rows).take (k + 1) = sh.take (k + 1) := by
  rw [List.take_add_one, List.take_add_one, h, hn]
  have : (lensI rows)[k]? = some (row.length : Int) := by simp [lensI, hr]
  rw [this, he]

theorem lens_ne {sh : List Int} {rows : List (List Int)} {k : Nat} {row : List Int} {n : Int} (hr : rows[k]? = some row) (hn : sh[k]? = some n) (he : (row.length : Int) ≠ n) : lensI rows ≠ sh := by
  intro h
  have : (lensI rows)[k]? = some (row.length : Int) := by simp [lensI, hr]
  rw [h, hn] at this
  exact he (Option.some.inj this).symm

theorem lensI_len (rows : List (List Int)) : (lensI rows).length = rows.length := by simp [lensI]

set_option maxRecDepth 100000 in
set_option maxHeartbeats 4000000 in
theorem eqLens_calls (ok : Nat → Prop) (p q : Option Addr) (c d : Nat) (sh : List Int) (rows : List (List Int)) (w : World) (hs : SliceV intEnc 1 w p sh) (hr : RowsV ok w q rows) (hl : sh.length ≤ 1000000) (hnb : rows.length ≤ maxLen) (hnr : ∀ row ∈ rows, row.length ≤ 17592186044416) :
    Calls Try.prog 51 #[.slice p sh.length c, .slice q rows.length d, .func (.func 52) #[] #[]] w (Gives None (.bool (decide (lensI rows = sh))) w) := by
  unfold maxLen at hnb
  have HS := Lib.hid hs
  have HR := Lib.hid hr
  have HNR := Lib.hid hnr
  clear hs hr hnr
  by_cases hne : sh.length = rows.length
  · have HNE := Lib.hid hne
    have hbe : ((sh.length : Int) != (rows.length : Int)) = false := by simp [hne]
    clear hne
    go_enter Try.func51, Try.ntmps51
    go_wp2_with (fail)
    clear hbe
    go_loopw [17] (LensInv sh rows w) (fun i _ => sh.length - (intOf i).toNat)
    case atStart => exact ⟨0, rfl, by omega, by simp, Keep.refl _ _⟩
    case round =>
      obtain ⟨k, rfl, hk, htk, hkp⟩ := hrel
      have HKP := Lib.hid hkp
      have HTK := Lib.hid htk
      clear hkp htk
      by_cases hlt : k < sh.length
      · obtain ⟨n, hn⟩ : ∃ n, sh[k]? = some n := ⟨sh[k], by simp [hlt]⟩
        have hkr : k < rows.length := by have := HNE.out; omega
        obtain ⟨row, hrow⟩ : ∃ row, rows[k]? = some row := ⟨rows[k], by simp [hkr]⟩
        have hrl := HNR.out row (List.mem_of_getElem? hrow)
        obtain ⟨b, o, rfl, hc⟩ : ∃ b o, p = some ⟨b, o, none⟩ ∧ wr.cell? ⟨b, o + k, none⟩ = some (.int .i64 n) := by
          rcases HS.out.keep HKP.out (fun _ _ => id) with h | ⟨b, o, he, h⟩
          · subst h; simp at hlt
          · exact ⟨b, o, he, h.int hn⟩
        obtain ⟨bq, oq, rfl, qa, ca, g1, -⟩ := (HR.out.keep HKP.out (fun _ _ => id)).at hrow
        have HN := Lib.hid hn
        have HROW := Lib.hid hrow
        clear hn hrow
        by_cases he : n = (row.length : Int)
        · have hbe : (n == (row.length : Int)) = true := by simp [he]
          have HE := Lib.hid he
          clear he
          go_wp2_with (go_at_call 52; refine (fits1_calls n qa row.length ca _ (by unfold maxLen; omega)).mono ?_; rintro e w' ⟨rfl, rfl⟩)
          go_roundw
          case rel => exact ⟨k + 1, by go_num, by omega, lens_step HTK.out HROW.out HN.out HE.out.symm, HKP.out⟩
          case measure => simp [intOf]; omega
        · have hbe : (n == (row.length : Int)) = false := by simp [he]
          have HE := Lib.hid he
          clear he
          go_wp2_with (go_at_call 52; refine (fits1_calls n qa row.length ca _ (by unfold maxLen; omega)).mono ?_; rintro e w' ⟨rfl, rfl⟩)
          go_ret
          exact ⟨by rw [decide_eq_false (lens_ne HROW.out HN.out (fun h => HE.out h.symm))]; rfl, HKP.out⟩
      · have hke : k = sh.length := by omega
        have heq : lensI rows = sh := by
          have h := HTK.out
          rw [hke, List.take_length, List.take_of_length_le (by rw [lensI_len]; have := HNE.out; omega)] at h
          exact h
        have HEQ := Lib.hid heq
        clear heq
        subst hke
        go_wp2_with (fail)
        go_ret
        exact ⟨by rw [decide_eq_true HEQ.out]; rfl, HKP.out⟩
  · have hbe : ((sh.length : Int) != (rows.length : Int)) = true := by simp; omega
    have hff : lensI rows ≠ sh := fun h => hne (by rw [← h, lensI_len])
    have HFF := Lib.hid hff
    clear hff hne
    go_enter Try.func51, Try.ntmps51
    go_wp2_with (fail)
    go_ret
    exact ⟨by rw [decide_eq_false HFF.out]; rfl, Keep.refl _ _⟩

def LinksInv2 (sh : List Int) (l : List Lk) (w0 : World) (i : Value) (w : World) : Prop :=
  ∃ k : Nat, i = .int .i64 k ∧ k ≤ l.length ∧ (l.drop k).all (linkIn sh) = l.all (linkIn sh) ∧ Keep None w0 w

def IndexPost (bad : Bool) (w : World) (e : Ending) (w' : World) : Prop := ∃ n : Int, e = .returned (.int .i64 n) ∧ (bad = true → 0 ≤ n) ∧ (bad = false → n = -1) ∧ Keep None w w'

set_option maxRecDepth 100000 in
set_option maxHeartbeats 4000000 in
theorem index_calls (B : Nat) (sh : List Int) (p : Option Addr) (c : Nat) (q : Option Addr) (l : List Lk) (d : Nat) (w : World) (hB : w.cell? ⟨B, 0, none⟩ = some (.slice p sh.length c)) (hs : SliceV intEnc 1 w p sh) (hl : sh.length ≤ 1000000) (hlk : SliceV Lk.enc 4 w q l) (hll : l.length ≤ 1000000) :
    Calls Try.prog 61 #[.slice q l.length d, .func (.func 54) #[] #[.pointer (some ⟨B, 0, none⟩)]] w (IndexPost (!l.all (linkIn sh)) w) := by
  have HB := Lib.hid hB
  have HS := Lib.hid hs
  have HL := Lib.hid hlk
  clear hB hs hlk
  go_enter Try.func61, Try.ntmps61
  go_wp2_with (fail)
  go_loopw [8] (LinksInv2 sh l w) (fun i _ => l.length - (intOf i).toNat)
  case atStart => exact ⟨0, rfl, by omega, by simp, Keep.refl _ _⟩
  case round =>
    obtain ⟨k, rfl, hk, hal, hkp⟩ := hrel
    have HKP := Lib.hid hkp
    have HAL := Lib.hid hal
    clear hkp hal
    by_cases hlt : k < l.length
    · obtain ⟨x, hx⟩ : ∃ x, l[k]? = some x := ⟨l[k], by simp [hlt]⟩
      have HX := Lib.hid hx
      obtain ⟨x0, x1, x2, x3⟩ := x
      obtain ⟨g, o, rfl, hsl⟩ : ∃ g o, q = some ⟨g, o, none⟩ ∧ wr.rangeAt g (o + k * 4) (Lk.enc ⟨x0, x1, x2, x3⟩) := by
        rcases HL.out.keep HKP.out (fun _ _ => id) with h | ⟨g, o, he, h⟩
        · subst h; simp at hlt
        · exact ⟨g, o, he, h.range hx⟩
      have HSL := Lib.hid hsl
      clear hx hsl
      cases hin : linkIn sh ⟨x0, x1, x2, x3⟩ with
      | true =>
        have HIN := Lib.hid hin
        clear hin
        go_wp2_with (first
          | ((with_reducible (show wpList _ _ _ (⟨_, .load 72 _, _, _, _, none⟩ :: _) _ _)); refine wpList_loadEl rfl 72 _ rfl _ _ rfl _ _ HSL.out (Lk.enc_len _) Try.underlying72 rfl Try.sizeLk (.agg #[.int .i64 x0, .int .i64 x1, .int .i64 x2, .int .i64 x3]) rfl ?_)
          | (go_at_call 54; refine (fits2_calls B sh p c x0 x1 x2 x3 wr (HKP.out.cell HB.out id) (HS.out.keep HKP.out (fun _ _ => id)) hl).mono ?_; rintro e w1 ⟨rfl, hk1⟩; rw [HIN.out]; have HK1 := Lib.hid hk1; clear hk1))
        go_roundw
        case rel => exact ⟨k + 1, by go_num, by omega, all_step HX.out HAL.out HIN.out, HKP.out.trans HK1.out⟩
        case measure => simp [intOf]; omega
      | false =>
        have HIN := Lib.hid hin
        clear hin
        go_wp2_with (first
          | ((with_reducible (show wpList _ _ _ (⟨_, .load 72 _, _, _, _, none⟩ :: _) _ _)); refine wpList_loadEl rfl 72 _ rfl _ _ rfl _ _ HSL.out (Lk.enc_len _) Try.underlying72 rfl Try.sizeLk (.agg #[.int .i64 x0, .int .i64 x1, .int .i64 x2, .int .i64 x3]) rfl ?_)
          | (go_at_call 54; refine (fits2_calls B sh p c x0 x1 x2 x3 wr (HKP.out.cell HB.out id) (HS.out.keep HKP.out (fun _ _ => id)) hl).mono ?_; rintro e w1 ⟨rfl, hk1⟩; rw [HIN.out]; have HK1 := Lib.hid hk1; clear hk1))
        go_ret
        exact ⟨_, rfl, (fun _ => by omega), (fun h => by rw [all_stop HX.out HAL.out HIN.out] at h; cases h), HKP.out.trans HK1.out⟩
    · have hke : k = l.length := by omega
      subst hke
      go_wp2_with (fail)
      go_ret
      exact ⟨-1, rfl, (fun h => by rw [all_end HAL.out] at h; cases h), (fun _ => rfl), HKP.out⟩

set_option maxRecDepth 100000 in
set_option maxHeartbeats 4000000 in
theorem contains_calls (B : Nat) (sh : List Int) (p : Option Addr) (c : Nat) (q : Option Addr) (l : List Lk) (d : Nat) (w : World) (hB : w.cell? ⟨B, 0, none⟩ = some (.slice p sh.length c)) (hs : SliceV intEnc 1 w p sh) (hl : sh.length ≤ 1000000) (hlk : SliceV Lk.enc 4 w q l) (hll : l.length ≤ 1000000) :
    Calls Try.prog 53 #[.slice q l.length d, .func (.func 54) #[] #[.pointer (some ⟨B, 0, none⟩)]] w (Gives None (.bool (!l.all (linkIn sh))) w) := by
  have HI := Lib.hid (index_calls B sh p c q l d w hB hs hl hlk hll)
  clear hB hs hlk
  cases hb : l.all (linkIn sh) with
  | true =>
    have HB := Lib.hid hb
    clear hb
    show Calls _ _ _ _ (Gives None (.bool false) w)
    go_enter Try.func53, Try.ntmps53
    go_wp2_with (fail)
    refine HI.out.mono ?_
    rintro e w1 ⟨n, rfl, -, h2, hk1⟩
    rw [HB.out] at h2
    obtain rfl : n = -1 := h2 rfl
    have HK1 := Lib.hid hk1
    clear hk1 h2
    go_wp2_with (fail)
    go_ret
    exact ⟨rfl, HK1.out⟩
  | false =>
    have HB := Lib.hid hb
    clear hb
    show Calls _ _ _ _ (Gives None (.bool true) w)
    go_enter Try.func53, Try.ntmps53
    go_wp2_with (fail)
    refine HI.out.mono ?_
    rintro e w1 ⟨n, rfl, h2, -, hk1⟩
    rw [HB.out] at h2
    have hn : 0 ≤ n := h2 rfl
    have HK1 := Lib.hid hk1
    clear hk1 h2
    go_wp2_with (fail)
    go_ret
    exact ⟨rfl, HK1.out⟩

end Go.Proofs.Ytlhmajjmhkjcoaa
