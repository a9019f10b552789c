/-
  Chapter 44: which policies are valid; both functions.
-/
import Derived.Test.YtgelfefoiplekaaDoorPolStat
namespace Go.Proofs.YtgelfefoiplekaaDoor
open Go.RowKit PN

def stEnc (s : Int × Int) : List Value := [.int .i64 s.1, .int .i64 s.2]
theorem stEnc_len (s : Int × Int) : (stEnc s).length = 2 := rfl
theorem Tryd.sizeStage : (Tryd.prog.info? 45).map (·.size) = some 2 := by kernel_rfl
def polVal (a : Option Addr) (c : Nat) (p : Pol) : Value := .agg #[.slice a p.st.length c, .int .i64 p.num, .int .i64 p.den, .int .i64 p.margin]
structure PolAt (w : World) (a : Option Addr) (p : Pol) : Prop where
  st : SliceV stEnc 2 w a p.st
  ln : p.st.length ≤ 1000000
theorem PolAt.still {w w' : World} {a : Option Addr} {p : Pol} (h : PolAt w a p) (k : Keep None w w') : PolAt w' a p := ⟨h.st.keep k (fun _ _ => id), h.ln⟩
theorem PolAt.keep {w w' : World} {a : Option Addr} {p : Pol} {S : Nat → Prop} (h : PolAt w a p) (k : Keep S w w') (ho : OffS S a) : PolAt w' a p := ⟨h.st.keep k ho, h.ln⟩

theorem valid_head {p : Pol} (h : p.st.length < 1 ∨ 8 < p.st.length ∨ p.margin < 0 ∨ 1000 < p.margin) : validB p = false := by
  unfold validB
  rcases h with h | h | h | h
  · simp [show ¬ 1 ≤ p.st.length by omega]
  · simp [show ¬ p.st.length ≤ 8 by omega]
  · simp [show ¬ 0 ≤ p.margin by omega]
  · simp [show ¬ p.margin ≤ 1000 by omega]
theorem valid_asc {p : Pol} (h : asc (0, 0) p.st = false) : validB p = false := by unfold validB; rw [h]; simp
theorem valid_share {p : Pol} (h : shareB p.num p.den p.st.length = false) : validB p = false := by unfold validB; rw [h]; simp
theorem valid_yes {p : Pol} (h1 : 1 ≤ p.st.length) (h2 : p.st.length ≤ 8) (h3 : 0 ≤ p.margin) (h4 : p.margin ≤ 1000) (h5 : asc (0, 0) p.st = true) (h6 : shareB p.num p.den p.st.length = true) : validB p = true := by
  unfold validB; rw [h5, h6]; simp [h1, h2, h3, h4]
theorem asc_step {l m : Int × Int} {r : List (Int × Int)} (h1 : ¬ m.1 ≤ l.1) (h2 : ¬ 100 < m.1) (h3 : ¬ m.2 ≤ l.2) (h4 : ¬ 60 < m.2) : asc l (m :: r) = asc m r := by
  obtain ⟨a, b⟩ := l
  obtain ⟨x, y⟩ := m
  simp only at h1 h2 h3 h4
  simp [asc, show a < x by omega, show x ≤ 100 by omega, show b < y by omega, show y ≤ 60 by omega]
theorem asc_no {l m : Int × Int} {r : List (Int × Int)} (h : m.1 ≤ l.1 ∨ 100 < m.1 ∨ m.2 ≤ l.2 ∨ 60 < m.2) : asc l (m :: r) = false := by
  obtain ⟨a, b⟩ := l
  obtain ⟨x, y⟩ := m
  simp only at h
  rcases h with h | h | h | h
  · simp [asc, show ¬ a < x by omega]
  · simp [asc, show ¬ x ≤ 100 by omega]
  · simp [asc, show ¬ b < y by omega]
  · simp [asc, show ¬ y ≤ 60 by omega]
theorem drop_at {α : Type} {l : List α} {k : Nat} {x : α} (h : l[k]? = some x) : l.drop k = x :: l.drop (k + 1) := by
  obtain ⟨hk, rfl⟩ := List.getElem?_eq_some_iff.1 h
  exact List.drop_eq_getElem_cons hk

def VdInv (st : List (Int × Int)) (lb : Nat) (w0 : World) (i : Value) (w : World) : Prop :=
  ∃ (k : Nat) (l : Int × Int), i = .int .i64 k ∧ k ≤ st.length ∧ w.heap[lb]? = some (.cells #[.int .i64 l.1, .int .i64 l.2] 45 (0, 0)) ∧ asc (0, 0) st = asc l (st.drop k) ∧ Keep (· = lb) w0 w

set_option maxRecDepth 100000 in
set_option maxHeartbeats 4000000 in
theorem valid_calls (a : Option Addr) (c : Nat) (p : Pol) (w : World) (h : PolAt w a p) :
    Calls Tryd.prog 15 #[polVal a c p] w (Gives None (.bool (validB p)) w) := by
  have ln := h.ln
  have HP := Lib.hid h
  unfold polVal
  clear h
  have HBX : Hid (∃ W : World, Keep None w W ∧ W = w.alloc (.cells #[.slice a p.st.length c, .int .i64 p.num, .int .i64 p.den, .int .i64 p.margin] 30) ∧ W.heap[w.heap.size]? = some (.cells #[.slice a p.st.length c, .int .i64 p.num, .int .i64 p.den, .int .i64 p.margin] 30 (0, 0))) :=
    Lib.hid ⟨_, (Keep.refl None w).alloc _, rfl, heap_alloc_new _ _⟩
  obtain ⟨W, hKW, hWe, ho1⟩ := HBX.out
  have HK := Lib.hid hKW
  have HWE := Lib.hid hWe.symm
  have O1 := Lib.hid ho1
  have hwW := heap_lt ho1
  clear HBX hKW hWe ho1
  have b1 : Hid (∀ W' : World, Keep None W W' → W'.cell? ⟨w.heap.size, 0, none⟩ = some (.slice a p.st.length c) ∧ W'.cell? ⟨w.heap.size, 1, none⟩ = some (.int .i64 p.num) ∧ W'.cell? ⟨w.heap.size, 2, none⟩ = some (.int .i64 p.den) ∧ W'.cell? ⟨w.heap.size, 3, none⟩ = some (.int .i64 p.margin)) := Lib.hid (fun W' hk => by
    have h2 := hk.obj O1.out id
    simp [World.cell?, h2])
  cases d1 : decide ((p.st.length : Int) < 1) with
  | true =>
    have HV := Lib.hid (valid_head (p := p) (.inl (by have := of_decide_eq_true d1; omega)))
    go_enter Tryd.func15, Tryd.ntmps15
    go_wp2
    rw [HWE.out]
    (go_ret; exact ⟨by rw [HV.out]; rfl, by first | exact HK.out | exact HK.out.trans HKK.out⟩)
  | false =>
  cases d2 : decide ((8 : Int) < p.st.length) with
  | true =>
    have HV := Lib.hid (valid_head (p := p) (.inr (.inl (by have := of_decide_eq_true d2; omega))))
    go_enter Tryd.func15, Tryd.ntmps15
    go_wp2
    rw [HWE.out]
    (go_ret; exact ⟨by rw [HV.out]; rfl, by first | exact HK.out | exact HK.out.trans HKK.out⟩)
  | false =>
  cases d3 : decide (p.margin < 0) with
  | true =>
    have HV := Lib.hid (valid_head (p := p) (.inr (.inr (.inl (of_decide_eq_true d3)))))
    go_enter Tryd.func15, Tryd.ntmps15
    go_wp2
    rw [HWE.out]
    (go_ret; exact ⟨by rw [HV.out]; rfl, by first | exact HK.out | exact HK.out.trans HKK.out⟩)
  | false =>
  cases d4 : decide (1000 < p.margin) with
  | true =>
    have HV := Lib.hid (valid_head (p := p) (.inr (.inr (.inr (of_decide_eq_true d4)))))
    go_enter Tryd.func15, Tryd.ntmps15
    go_wp2
    rw [HWE.out]
    (go_ret; exact ⟨by rw [HV.out]; rfl, by first | exact HK.out | exact HK.out.trans HKK.out⟩)
  | false =>
    have hn1 : 1 ≤ p.st.length := by have := of_decide_eq_false d1; omega
    have hn8 : p.st.length ≤ 8 := by have := of_decide_eq_false d2; omega
    have hm0 : 0 ≤ p.margin := by have := of_decide_eq_false d3; omega
    have hm1 : p.margin ≤ 1000 := by have := of_decide_eq_false d4; omega
    go_enter Tryd.func15, Tryd.ntmps15
    go_wp2_with (fail)
    rw [HWE.out]
    generalize hw3 : World.alloc _ _ = w3
    have hsz : W.heap.size = w.heap.size + 1 := by rw [← HWE.out]; simp
    have hk3 : Keep None W w3 := by rw [← hw3]; exact (Keep.refl _ _).alloc _
    have ho3 : w3.heap[w.heap.size + 1]? = some (.cells #[.int .i64 (0, 0).1, .int .i64 (0, 0).2] 45 (0, 0)) := by rw [← hw3]; exact alloc_at hsz.symm
    have HO3 := Lib.hid ho3
    have HK3 := Lib.hid hk3
    have HSZ := Lib.hid hsz
    clear hw3 hk3 ho3 hsz
    go_loopw [32] (VdInv p.st (w.heap.size + 1) w3) (fun i _ => p.st.length - (intOf i).toNat)
    case atStart => exact ⟨0, (0, 0), rfl, by omega, HO3.out, by simp, Keep.refl _ _⟩
    case round =>
      obtain ⟨k, ⟨l1, l2⟩, rfl, hk, hlb, has, hkp⟩ := hrel
      have HLB := Lib.hid hlb
      have HAS := Lib.hid has
      have HKP := Lib.hid hkp
      have HKK : Hid (Keep None W wr) := Lib.hid (HK3.out.andThen hkp (fun g h1 h2 => by have h3 : g = w.heap.size + 1 := h2; have := HSZ.out; omega))
      have hlbs := heap_lt hlb
      clear has hkp
      by_cases hlt : k < p.st.length
      · obtain ⟨⟨x, y⟩, hx⟩ : ∃ s, p.st[k]? = some s := ⟨p.st[k], by simp [hlt]⟩
        have hlti : (k : Int) < p.st.length := by omega
        obtain ⟨b, off, rfl, hsl⟩ : ∃ b off, a = some ⟨b, off, none⟩ ∧ SlAt stEnc 2 wr b off p.st := by
          rcases ((HP.out.still HK.out).still HKK.out).st with h | h
          · rw [h] at hlt; simp at hlt
          · exact h
        have HRG := Lib.hid (hsl.range hx)
        have HX := Lib.hid hx
        have hla := (((Keep.refl None wr).alloc (.cells #[.int .i64 x, .int .i64 y] 45))).obj hlb id
        have l0 : (wr.alloc (.cells #[.int .i64 x, .int .i64 y] 45)).cell? ⟨w.heap.size + 1, 0, none⟩ = some (.int .i64 l1) := cell_of_row _ _ 0 _ _ _ hla
        have l0' : (wr.alloc (.cells #[.int .i64 x, .int .i64 y] 45)).cell? ⟨w.heap.size + 1, 1, none⟩ = some (.int .i64 l2) := cell_of_row _ _ 1 _ _ _ hla
        have HLA := Lib.hid hla
        have HDR := Lib.hid (drop_at hx)
        clear hsl hx hla hlb
        cases e1 : decide (x ≤ l1) with
        | true =>
          have HV := Lib.hid (valid_asc (p := p) (by rw [HAS.out, HDR.out]; exact asc_no (.inl (of_decide_eq_true e1))))
          go_wp2_with ((with_reducible (show wpList _ _ _ (⟨some 35, .load 45 _, _, _, _, none⟩ :: _) _ _)); refine wpList_loadEl (enc := stEnc) (size := 2) rfl 45 _ rfl _ _ rfl (x, y) _ HRG.out rfl Tryd.underlying45 rfl Tryd.sizeStage (.agg #[.int .i64 x, .int .i64 y]) rfl ?_)
          (go_ret; exact ⟨by rw [HV.out]; rfl, (HK.out.trans HKK.out).alloc _⟩)
        | false =>
        cases e2 : decide (100 < x) with
        | true =>
          have HV := Lib.hid (valid_asc (p := p) (by rw [HAS.out, HDR.out]; exact asc_no (.inr (.inl (of_decide_eq_true e2)))))
          go_wp2_with ((with_reducible (show wpList _ _ _ (⟨some 35, .load 45 _, _, _, _, none⟩ :: _) _ _)); refine wpList_loadEl (enc := stEnc) (size := 2) rfl 45 _ rfl _ _ rfl (x, y) _ HRG.out rfl Tryd.underlying45 rfl Tryd.sizeStage (.agg #[.int .i64 x, .int .i64 y]) rfl ?_)
          (go_ret; exact ⟨by rw [HV.out]; rfl, (HK.out.trans HKK.out).alloc _⟩)
        | false =>
        cases e3 : decide (y ≤ l2) with
        | true =>
          have HV := Lib.hid (valid_asc (p := p) (by rw [HAS.out, HDR.out]; exact asc_no (.inr (.inr (.inl (of_decide_eq_true e3))))))
          go_wp2_with ((with_reducible (show wpList _ _ _ (⟨some 35, .load 45 _, _, _, _, none⟩ :: _) _ _)); refine wpList_loadEl (enc := stEnc) (size := 2) rfl 45 _ rfl _ _ rfl (x, y) _ HRG.out rfl Tryd.underlying45 rfl Tryd.sizeStage (.agg #[.int .i64 x, .int .i64 y]) rfl ?_)
          (go_ret; exact ⟨by rw [HV.out]; rfl, (HK.out.trans HKK.out).alloc _⟩)
        | false =>
        cases e4 : decide (60 < y) with
        | true =>
          have HV := Lib.hid (valid_asc (p := p) (by rw [HAS.out, HDR.out]; exact asc_no (.inr (.inr (.inr (of_decide_eq_true e4))))))
          go_wp2_with ((with_reducible (show wpList _ _ _ (⟨some 35, .load 45 _, _, _, _, none⟩ :: _) _ _)); refine wpList_loadEl (enc := stEnc) (size := 2) rfl 45 _ rfl _ _ rfl (x, y) _ HRG.out rfl Tryd.underlying45 rfl Tryd.sizeStage (.agg #[.int .i64 x, .int .i64 y]) rfl ?_)
          (go_ret; exact ⟨by rw [HV.out]; rfl, (HK.out.trans HKK.out).alloc _⟩)
        | false =>
          have HST := Lib.hid (asc_step (l := (l1, l2)) (m := (x, y)) (r := p.st.drop (k + 1)) (of_decide_eq_false e1) (of_decide_eq_false e2) (of_decide_eq_false e3) (of_decide_eq_false e4))
          go_wp2_with (first
            | ((with_reducible (show wpList _ _ _ (⟨some 35, .load 45 _, _, _, _, none⟩ :: _) _ _)); refine wpList_loadEl (enc := stEnc) (size := 2) rfl 45 _ rfl _ _ rfl (x, y) _ HRG.out rfl Tryd.underlying45 rfl Tryd.sizeStage (.agg #[.int .i64 x, .int .i64 y]) rfl ?_)
            | ((with_reducible (show wpList _ _ _ (⟨some 58, .load 45 _, _, _, _, none⟩ :: _) _ _)); refine wpList_loadEl (enc := listEnc) (size := 2) rfl 45 _ rfl _ _ rfl [.int .i64 x, .int .i64 y] _ (range_of_obj (heap_alloc_new _ _)) rfl Tryd.underlying45 rfl Tryd.sizeStage (.agg #[.int .i64 x, .int .i64 y]) rfl ?_)
            | ((with_reducible (show wpList _ _ _ (⟨_, .store 45 (.tmp 3) _, _, _, _, none⟩ :: _) _ _)); (refine wpList_storeObj rfl 45 _ _ rfl (w.heap.size + 1) rfl [.int .i64 l1, .int .i64 l2] [.int .i64 x, .int .i64 y] rfl _ (by simp) HLA.out 2 Tryd.sizeStage rfl (by simp [Value.oneCell']) ?_); intro w9 hres hk9 hs9; have HRES := Lib.hid hres; have HK9 := Lib.hid hk9; clear hres hk9 hs9))
          go_roundw
          case rel => exact ⟨k + 1, (x, y), by go_num, by omega, HRES.out, by rw [HAS.out, HDR.out, HST.out], (HKP.out.alloc _).trans HK9.out⟩
          case measure => simp [intOf]; omega
      · have hke : k = p.st.length := by omega
        subst hke
        have hasc : asc (0, 0) p.st = true := by rw [HAS.out, List.drop_length]; rfl
        have HASC := Lib.hid hasc
        have HLV : Hid (wr.rangeAt w.heap.size 1 (listEnc [.int .i64 p.num, .int .i64 p.den])) := Lib.hid (fun j u hu => by
          have h2 := HKK.out.obj O1.out id
          have hj : j < 2 := (List.getElem?_eq_some_iff.1 hu).1
          match j, hj, hu with
          | 0, _, hu => simp [listEnc] at hu; subst hu; exact cell_of_row _ _ 1 _ _ _ h2
          | 1, _, hu => simp [listEnc] at hu; subst hu; exact cell_of_row _ _ 2 _ _ _ h2)
        obtain ⟨q0, -, -, -⟩ := b1.out _ HKK.out
        cases hs : shareB p.num p.den p.st.length with
        | true =>
          have HV := Lib.hid (valid_yes hn1 hn8 hm0 hm1 hasc hs)
          have HSV : Hid (shareV p.num p.den p.st.length = _) := Lib.hid (by unfold shareV; rw [if_pos hs])
          clear hasc hs
          go_wp2_with (first | ((with_reducible (show wpList _ _ _ (⟨some 62, .load 28 _, _, _, _, none⟩ :: _) _ _)); refine wpList_loadEl (enc := listEnc) (size := 2) rfl 28 _ rfl _ _ rfl [.int .i64 p.num, .int .i64 p.den] _ (HLV.out) rfl Tryd.underlying28 rfl Tryd.sizeLevel (.agg #[.int .i64 p.num, .int .i64 p.den]) rfl ?_) | (go_at_call 33; refine (share_statistics p.num p.den p.st.length wr ln).mono ?_; rintro e w5 ⟨rfl, hk5⟩; rw [HSV.out]; have HK5 := Lib.hid hk5; clear hk5))
          (go_ret; exact ⟨by rw [HV.out]; rfl, ((HK.out.trans HKK.out).trans HK5.out).alloc _⟩)
        | false =>
          have HV := Lib.hid (valid_share hs)
          have HSV : Hid (shareV p.num p.den p.st.length = _) := Lib.hid (by unfold shareV; rw [if_neg (by rw [hs]; simp)])
          clear hasc hs
          go_wp2_with (first | ((with_reducible (show wpList _ _ _ (⟨some 62, .load 28 _, _, _, _, none⟩ :: _) _ _)); refine wpList_loadEl (enc := listEnc) (size := 2) rfl 28 _ rfl _ _ rfl [.int .i64 p.num, .int .i64 p.den] _ (HLV.out) rfl Tryd.underlying28 rfl Tryd.sizeLevel (.agg #[.int .i64 p.num, .int .i64 p.den]) rfl ?_) | (go_at_call 33; refine (share_statistics p.num p.den p.st.length wr ln).mono ?_; rintro e w5 ⟨rfl, hk5⟩; rw [HSV.out]; have HK5 := Lib.hid hk5; clear hk5))
          (go_ret; exact ⟨by rw [HV.out]; rfl, ((HK.out.trans HKK.out).trans HK5.out).alloc _⟩)

end Go.Proofs.YtgelfefoiplekaaDoor
