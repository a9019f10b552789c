/-
  Chapter 44: a policy that is drawn.
-/
import Derived.Test.YtgelfefoiplekaaDoorPolAwake
namespace Go.Proofs.YtgelfefoiplekaaDoor
open Go.RowKit PN

def lastO : Int × Int → List (Int × Int) → Int × Int
  | l, [] => l
  | _, x :: r => lastO x r
theorem lastO_snoc : ∀ (st : List (Int × Int)) (l m : Int × Int), lastO l (st ++ [m]) = m
  | [], _, _ => rfl
  | x :: st, _, m => lastO_snoc st x m
theorem asc_snoc : ∀ (st : List (Int × Int)) (l : Int × Int) (x y : Int), asc l st = true → (lastO l st).1 < x → x ≤ 100 → (lastO l st).2 < y → y ≤ 60 → asc l (st ++ [(x, y)]) = true
  | [], (a, b), x, y, _, h1, h2, h3, h4 => by
    simp only [lastO] at h1 h3
    simp [asc, h1, h2, h3, h4]
  | (u, v) :: st, (a, b), x, y, h, h1, h2, h3, h4 => by
    simp only [asc, Bool.and_eq_true, decide_eq_true_eq] at h
    have ih := asc_snoc st (u, v) x y h.2 h1 h2 h3 h4
    simp [asc, ih, h.1]
theorem CodesAt.same {w w' : World} {b bl : Nat} {r : List Int} (h : CodesAt w b bl r) (k : Keep None w w') : CodesAt w' b bl r := h.keep k id id

/-- A policy that is drawn. -/
def DrawPost (b bl : Nat) (w : World) (e : Ending) (w' : World) : Prop :=
  ∃ a c p r, e = .returned (polVal a c p) ∧ PolAt w' a p ∧ validB p = true ∧ From w.heap.size a ∧ p.st.length ≤ c ∧ c ≤ maxLen ∧ CodesAt w' b bl r ∧ Keep (· = b) w w'

def DrwInv (b bl g : Nat) (num den mg : Int) (w0 : World) (pv qv kv : Value) (w : World) : Prop :=
  ∃ (p : Pol) (k x y : Int) (r : List Int), p.num = num ∧ p.den = den ∧ p.margin = mg ∧ kv = .int .i64 k ∧ pv = .int .i64 x ∧ qv = .int .i64 y ∧ 0 ≤ k ∧ 1 ≤ p.st.length + k ∧ p.st.length + k ≤ 4 ∧
    asc (0, 0) p.st = true ∧ lastO (0, 0) p.st = (x, y) ∧ 0 ≤ x ∧ x ≤ 20 * p.st.length ∧ 0 ≤ y ∧ y ≤ 12 * p.st.length ∧ PBox (g + 1) w g p ∧ CodesAt w b bl r ∧ Keep (fun i => i = b ∨ g ≤ i) w0 w

set_option maxRecDepth 100000 in
set_option maxHeartbeats 4000000 in
theorem draw_calls (b bl : Nat) (r : List Int) (w : World) (h : CodesAt w b bl r) : Calls Tryd.prog 11 #[.pointer (some ⟨b, 0, none⟩)] w (DrawPost b bl w) := by
  have HBX : Hid (∃ W : World, Keep None w W ∧ W = w.alloc (.cells #[.slice none 0 0, .int .i64 0, .int .i64 0, .int .i64 0] 30) ∧ W.heap[w.heap.size]? = some (.cells #[.slice none 0 0, .int .i64 0, .int .i64 0, .int .i64 0] 30 (0, 0)) ∧ W.heap.size = w.heap.size + 1) :=
    Lib.hid ⟨_, (Keep.refl None w).alloc _, rfl, heap_alloc_new _ _, by simp⟩
  obtain ⟨W, hKW, hWe, ho1, hsz⟩ := HBX.out
  have HKW := Lib.hid hKW
  have HWE := Lib.hid hWe.symm
  have HT2 := Lib.hid ho1
  have HSZ := Lib.hid hsz
  have HC := Lib.hid (h.same hKW)
  have hbw := h.lt.1
  clear HBX hKW hWe ho1 hsz h
  go_enter Tryd.func11, Tryd.ntmps11
  go_wp2_with (fail)
  rw [HWE.out]
  refine (next_in b bl _ _ _ HC.out (by omega) (by omega)).mono ?_
  rintro e w1 ⟨rfl, hc1, hk1, a0, a1⟩
  generalize next 20 r = q1 at *
  obtain ⟨num, r1⟩ := q1
  simp only at hc1 a0 a1
  have HC1 := Lib.hid hc1
  have HK1 := Lib.hid hk1
  clear hc1 hk1
  go_wp2_with (fail)
  refine (next_in b bl _ _ _ HC1.out (by omega) (by omega)).mono ?_
  rintro e w2 ⟨rfl, hc2, hk2, b0, b1⟩
  generalize next 200 r1 = q2 at *
  obtain ⟨dn, r2⟩ := q2
  simp only at hc2 b0 b1
  have HC2 := Lib.hid hc2
  have HK2 := Lib.hid (HK1.out.trans hk2)
  clear hc2 hk2 HC1 HK1
  go_wp2_with (fail)
  refine (next_in b bl _ _ _ HC2.out (by omega) (by omega)).mono ?_
  rintro e w3 ⟨rfl, hc3, hk3, c0, c1⟩
  generalize next 20 r2 = q3 at *
  obtain ⟨mg, r3⟩ := q3
  simp only at hc3 c0 c1
  have HC3 := Lib.hid hc3
  have HK3 := Lib.hid (HK2.out.trans hk3)
  clear hc3 hk3 HC2 HK2
  go_wp2_with (fail)
  generalize hw4 : World.alloc _ _ = w4
  have hk4 : Keep None w3 w4 := by rw [← hw4]; exact (Keep.refl _ _).alloc _
  have ho4 : w4.heap[w3.heap.size]? = some (.cells #[.slice none 0 0, .int .i64 num, .int .i64 (20 + dn), .int .i64 mg] 30 (0, 0)) := by rw [← hw4]; exact heap_alloc_new _ _
  clear hw4
  have HC4 := Lib.hid (HC3.out.same hk4)
  have HO4 := Lib.hid ho4
  have HK4 := Lib.hid (HK3.out.trans (hk4.weaken (T := (· = b)) (fun _ _ q => q.elim)))
  have hw34 := heap_lt ho4
  have hbw3 := HC3.out.lt
  have hW3 : w.heap.size < w3.heap.size := by have := HK3.out.size; have := HSZ.out; omega
  clear hk4 ho4 HC3
  refine (next_in b bl _ _ _ HC4.out (by omega) (by omega)).mono ?_
  rintro e w5 ⟨rfl, hc5, hk5, d0, d1⟩
  generalize next 4 r3 = q4 at *
  obtain ⟨n0, r5⟩ := q4
  simp only at hc5 d0 d1
  have HC5 := Lib.hid hc5
  have HK5 := Lib.hid (HK4.out.trans hk5)
  have HB5 : Hid (PBox (w3.heap.size + 1) w5 w3.heap.size ⟨num, 20 + dn, mg, []⟩) := Lib.hid ⟨by omega, by have := hk5.size; omega, none, 0, hk5.obj HO4.out (by omega), Own.nil _ _ _ _ _⟩
  clear hc5 hk5 HC4
  obtain ⟨den, hden⟩ : ∃ d, d = 20 + dn := ⟨_, rfl⟩
  have HDEN := Lib.hid hden
  go_wp2_with (fail)
  rw [← hden] at HB5
  have hdb : 20 ≤ den ∧ den < 220 := by omega
  clear hden
  go_loopw [4, 5, 6] (DrwInv b bl w3.heap.size num den mg w5) (fun _ _ k _ => (intOf k).toNat)
  case atStart => exact ⟨⟨num, den, mg, []⟩, 1 + n0, 0, 0, r5, rfl, rfl, rfl, rfl, rfl, rfl, by omega, by simp; omega, by simp; omega, rfl, rfl, by omega, by simp, by omega, by simp, HB5.out, HC5.out, Keep.refl _ _⟩
  case round =>
    obtain ⟨p, k, x, y, r, hp1, hp2, hp3, rfl, rfl, rfl, hk0, hkn, hkm, hasc, hlast, hx0, hx1, hy0, hy1, hbox, hcr, hkp⟩ := hrel
    have HCR := Lib.hid hcr
    have HKP := Lib.hid hkp
    have HASC := Lib.hid hasc
    have HLAST := Lib.hid hlast
    have HP1 := Lib.hid hp1
    have HP2 := Lib.hid hp2
    have HP3 := Lib.hid hp3
    obtain ⟨hgb, hbsz, s, c, hob, hown⟩ := hbox
    have HOB := Lib.hid hob
    have HOWN := Lib.hid hown
    clear hp1 hp2 hp3 hasc hlast hcr hkp hob hown
    by_cases hk : 0 < k
    · have hki : decide (0 < k) = true := by simp [hk]
      go_wp2_with (fail)
      refine (next_in b bl _ _ _ HCR.out (by omega) (by omega)).mono ?_
      rintro e w6 ⟨rfl, hc6, hk6, e0, e1⟩
      generalize next 20 r = q6 at *
      obtain ⟨m6, r6⟩ := q6
      simp only at hc6 e0 e1
      have HC6 := Lib.hid hc6
      have HK6 := Lib.hid hk6
      clear hc6 hk6
      go_wp2_with (fail)
      refine (next_in b bl _ _ _ HC6.out (by omega) (by omega)).mono ?_
      rintro e w7 ⟨rfl, hc7, hk7, f0, f1⟩
      generalize next 12 r6 = q7 at *
      obtain ⟨m7, r7⟩ := q7
      simp only at hc7 f0 f1
      have HC7 := Lib.hid hc7
      have HK7 := Lib.hid (HK6.out.trans hk7)
      clear hc7 hk7 HC6 HK6
      have hbb7 := HC7.out.lt
      have ho7 := HK7.out.obj HOB.out (by omega)
      have q0 : w7.cell? ⟨w3.heap.size, 0, none⟩ = some (.slice s p.st.length c) := cell_of_row _ _ 0 _ _ _ ho7
      have HO7 := Lib.hid ho7
      have HOWN7 := Lib.hid (HOWN.out.keep HK7.out (fun g hg hs => by have := (World.ownsRow.lt HOWN.out g hg).1; have h3 : g = b := hs; omega))
      obtain ⟨i5, hi5, hv0, hv1, hv2⟩ := info_parts Tryd.infoStage
      clear ho7
      go_wp2_with (at_builtin; go_loud (refine wpList_pushAt rfl _ _ 26 rfl (w3.heap.size + 1) _ i5 _ 16 Tryd.underlying26 hi5 hv0 hv1 hv2 rfl (by decide) stEnc_len (.slice s p.st.length c) p.st rfl (HOWN7.out.keep (S := None) ((Keep.refl _ _).alloc _) (fun _ _ => id)) (x + (1 + m6), y + (1 + m7)) w7.heap.size _ rfl _ (heap_alloc_new _ _) (by simp [stEnc]) rfl (by simp [Value.oneCell']) (by omega) (by omega) (by have := HK7.out.size; simp; omega) ?_; intro p5 c5 w10 hown5 hk5 hk5' hb5; have HE5 := Lib.hid hown5; have HK10 := Lib.hid (show Keep (fun k => (Value.slice s p.st.length c).ownBlock = some k) _ w10 from ⟨hk5.os, hk5.tape, hk5.output, hk5.size, fun k hk hs => hk5' k (fun e => hs e.symm) hk⟩); have hx5 := HK10.out.obj (((Keep.refl None w7).alloc _).obj HO7.out id) (fun h => by have := (World.ownsRow.lt HOWN7.out _ h).1; omega); have s1 : w10.cell? ⟨w3.heap.size, 0, none⟩ = some (.slice s p.st.length c) := cell_of_row w10 _ 0 _ _ _ hx5; have s2 : w10.frozen? ⟨w3.heap.size, 0, none⟩ = false := (by unfold World.frozen?; rw [hx5]; rfl); have HX5 := Lib.hid hx5; clear hown5 hk5 hk5' hb5 hx5))
      clear s1 s2 q0
      have hx6 := heap_setCell' (j := 0) (v := .slice p5 (p.st.length + 1) c5) HX5.out
      simp only [List.setIfInBounds_toArray, List.set_cons_succ, List.set_cons_zero] at hx6
      have hkf : Keep (fun i => w3.heap.size ≤ i) w7 (w10.setCell ⟨w3.heap.size, 0, none⟩ (.slice p5 (p.st.length + 1) c5)) :=
        ((((Keep.refl None w7).alloc _).weaken (fun _ _ q => q.elim)).trans (HK10.out.weaken (fun g _ hg => by have := (World.ownsRow.lt HOWN7.out g hg).1; show w3.heap.size ≤ g; omega))).setCell (p := ⟨w3.heap.size, 0, none⟩) (.inl (Nat.le_refl _)) _
      go_roundw
      case rel =>
        refine ⟨⟨p.num, p.den, p.margin, p.st ++ [(x + (1 + m6), y + (1 + m7))]⟩, k - 1, x + (1 + m6), y + (1 + m7), r7, HP1.out, HP2.out, HP3.out, rfl, rfl, rfl, by omega, by simp; omega, by simp; omega, ?_, lastO_snoc _ _ _, by omega, by simp; omega, by omega, by simp; omega, ?_, HC7.out.keep hkf (by omega) (by omega), HKP.out.trans ((HK7.out.weaken (fun g _ hg => .inl hg)).trans (hkf.weaken (fun g _ hg => .inr hg)))⟩
        · refine asc_snoc _ _ _ _ HASC.out ?_ ?_ ?_ ?_
          · rw [HLAST.out]; simp only; omega
          · omega
          · rw [HLAST.out]; simp only; omega
          · omega
        · have hz := hkf.size
          have hz2 := HK7.out.size
          refine ⟨by omega, by omega, p5, c5, by rw [List.length_append]; exact hx6, ?_⟩
          rw [List.length_append]
          exact HE5.out.keep (S := (· = w3.heap.size)) ((Keep.refl (· = w3.heap.size) w10).setCell (p := ⟨w3.heap.size, 0, none⟩) (.inl rfl) _) (fun g hg hs => by have := (World.ownsRow.lt HE5.out g hg).1; have h3 : g = w3.heap.size := hs; omega)
      case measure => simp [intOf]; omega
    · have hki : decide (0 < k) = false := by simp; omega
      have hk2 : k = 0 := by omega
      have HV : Hid (validB p = true) := Lib.hid (by
        have h1 := HP1.out; have h2 := HP2.out; have h3 := HP3.out
        have hsh : shareB p.num p.den p.st.length = true := by
          have hmul : p.den * (p.st.length : Int) ≤ 220 * 4 := Int.le_trans (Int.mul_le_mul_of_nonneg_right (by omega : p.den ≤ 220) (by omega)) (Int.mul_le_mul_of_nonneg_left (by omega) (by omega))
          unfold shareB
          simp only [Bool.and_eq_true, decide_eq_true_eq]
          omega
        exact valid_yes (by omega) (by omega) (by omega) (by omega) HASC.out hsh)
      have HKWr : Hid (Keep (fun i => i = b ∨ w3.heap.size ≤ i) W wr) := Lib.hid ((HK5.out.weaken (fun g _ hg => .inl hg)).trans HKP.out)
      have HT2r := Lib.hid (HKWr.out.obj HT2.out (by omega))
      have hsl := HOWN.out.reads stEnc_len
      obtain ⟨-, hcap1, hcap2, hslv, hfrom⟩ := hsl
      have HSL := Lib.hid hslv
      have HFR := Lib.hid hfrom
      clear hslv hfrom
      go_wp2_with (first
        | ((with_reducible (show wpList _ _ _ (⟨some 41, .load 30 _, _, _, _, none⟩ :: _) _ _)); refine wpList_loadEl (enc := listEnc) (size := 4) rfl 30 _ rfl _ _ rfl [.slice s p.st.length c, .int .i64 p.num, .int .i64 p.den, .int .i64 p.margin] _ (range_of_obj HOB.out) rfl Tryd.underlying30 rfl Tryd.sizePolicy (.agg #[.slice s p.st.length c, .int .i64 p.num, .int .i64 p.den, .int .i64 p.margin]) rfl ?_)
        | ((with_reducible (show wpList _ _ _ (⟨_, .store 30 (.tmp 2) _, _, _, _, none⟩ :: _) _ _)); (refine wpList_storeObj rfl 30 _ _ rfl w.heap.size rfl [.slice none 0 0, .int .i64 0, .int .i64 0, .int .i64 0] [.slice s p.st.length c, .int .i64 p.num, .int .i64 p.den, .int .i64 p.margin] rfl _ (by simp) HT2r.out 4 Tryd.sizePolicy rfl (by simp [Value.oneCell']) ?_); intro w9 hres hk9 hs9; have HRES := Lib.hid hres; have HK9 := Lib.hid hk9; clear hres hk9 hs9))
      refine bodyPost_ret (results_obj rfl rfl _ _ (range_of_obj HRES.out) Tryd.underlying30 rfl 4 Tryd.sizePolicy rfl) rfl ?_
      have hb9 := HCR.out.lt
      refine ⟨s, c, p, r, rfl, ⟨HSL.out.keep HK9.out (fun z hz hzs => by have := HFR.out z hz; have h3 : z.block = w.heap.size := hzs; omega), by omega⟩, HV.out, (fun z hz => by have := HFR.out z hz; omega), hcap1, hcap2, HCR.out.keep HK9.out (by omega) (by omega), ?_⟩
      exact (HKW.out.weaken (T := (· = b)) (fun _ _ q => q.elim)).andThen ((HKWr.out.weaken (T := fun i => i = b ∨ w.heap.size ≤ i) (fun g _ h => by omega)).trans (HK9.out.weaken (fun g _ q => .inr (by have h3 : g = w.heap.size := q; omega)))) (fun g h1 h2 => by omega)

end Go.Proofs.YtgelfefoiplekaaDoor
