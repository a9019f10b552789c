/-
  Chapter 44: pairs of measurements that are drawn.
-/
import Derived.Test.YtgelfefoiplekaaDoorPolLook
namespace Go.Proofs.YtgelfefoiplekaaDoor
open Go.RowKit PN

theorem Tryd.infoPair : (Tryd.prog.info? 53).map (fun i => (i.zero, i.size, i.bytes)) = some (some (.agg #[.int .i64 0, .int .i64 0]), 2, 16) := by kernel_rfl

def smallPr (x : Pr) : Prop := (0 ≤ x.1 ∧ x.1 ≤ 2000) ∧ 0 ≤ x.2 ∧ x.2 ≤ 2000

/-- Pairs that are drawn. -/
def ResPost (b bl most : Nat) (w : World) (e : Ending) (w' : World) : Prop :=
  ∃ q c l r, e = .returned (.slice q l.length c) ∧ SliceV prEnc 2 w' q l ∧ From w.heap.size q ∧ l.length ≤ c ∧ c ≤ maxLen ∧ l.length ≤ most ∧ (∀ x ∈ l, smallPr x) ∧ CodesAt w' b bl r ∧ Keep (· = b) w w'

def ResInv (b bl most g : Nat) (w0 : World) (lv kv : Value) (w : World) : Prop :=
  ∃ (q : Option Addr) (c : Nat) (l : List Pr) (k : Int) (r : List Int), kv = .int .i64 k ∧ lv = .slice q l.length c ∧ 0 ≤ k ∧ l.length + k ≤ most ∧ Own prEnc 2 53 g w (.slice q l.length c) l ∧ (∀ x ∈ l, smallPr x) ∧ CodesAt w b bl r ∧ Keep (fun i => i = b ∨ g ≤ i) w0 w

set_option maxRecDepth 100000 in
set_option maxHeartbeats 4000000 in
theorem results_calls (b bl most : Nat) (r : List Int) (w : World) (h : CodesAt w b bl r) (hm : most ≤ 100) : Calls Tryd.prog 20 #[.pointer (some ⟨b, 0, none⟩), .int .i64 most] w (ResPost b bl most w) := by
  have HC := Lib.hid h
  have hbw := h.lt.1
  clear h
  go_enter Tryd.func20, Tryd.ntmps20
  go_wp2_with (fail)
  refine (next_in b bl _ _ _ HC.out (by omega) (by omega)).mono ?_
  rintro e w1 ⟨rfl, hc1, hk1, a0, a1⟩
  generalize next 60 r = q1 at *
  obtain ⟨bias, r1⟩ := q1
  simp only at hc1 a0 a1
  have HC1 := Lib.hid hc1
  have HK1 := Lib.hid hk1
  clear hc1 hk1
  go_wp2_with (fail)
  refine (next_in b bl _ _ _ HC1.out (by omega) (by omega)).mono ?_
  rintro e w2 ⟨rfl, hc2, hk2, b0, b1⟩
  generalize next ((most : Int) + 1) r1 = q2 at *
  obtain ⟨n0, r2⟩ := q2
  simp only at hc2 b0 b1
  have HC2 := Lib.hid hc2
  have HK2 := Lib.hid (HK1.out.trans hk2)
  clear hc2 hk2 HC1 HK1
  go_wp2_with (fail)
  go_loopw [5, 7] (ResInv b bl most w.heap.size w) (fun _ k _ => (intOf k).toNat)
  case atStart => exact ⟨none, 0, [], n0, r2, rfl, rfl, by omega, by simp; omega, Own.nil _ _ _ _ _, by simp, HC2.out, HK2.out.weaken (fun _ _ q => .inl q)⟩
  case round =>
    obtain ⟨q, c, l, k, r, rfl, rfl, hk0, hkn, hown, hall, hcr, hkp⟩ := hrel
    have HCR := Lib.hid hcr
    have HKW := Lib.hid hkp
    have HALL := Lib.hid hall
    have HOWN := Lib.hid hown
    clear hown hall hcr hkp
    by_cases hk : 0 < k
    · have hki : decide (0 < k) = true := by simp [hk]
      go_wp2_with (fail)
      refine (next_in b bl _ _ _ HCR.out (by omega) (by omega)).mono ?_
      rintro e w6 ⟨rfl, hc6, hk6, e0, e1⟩
      generalize next 40 r = q6 at *
      obtain ⟨m6, r6⟩ := q6
      simp only at hc6 e0 e1
      have HC6 := Lib.hid hc6
      have HK6 := Lib.hid hk6
      clear hc6 hk6
      go_wp2_with (fail)
      refine (next_in b bl _ _ _ HC6.out (by omega) (by omega)).mono ?_
      rintro e w7 ⟨rfl, hc7, hk7, f0, f1⟩
      generalize next 40 r6 = q7 at *
      obtain ⟨m7, r7⟩ := q7
      simp only at hc7 f0 f1
      have HC7 := Lib.hid hc7
      have HK7 := Lib.hid (HK6.out.trans hk7)
      clear hc7 hk7 HC6 HK6
      have hbb7 := HC7.out.lt
      have HOWN7 := Lib.hid (HOWN.out.keep HK7.out (fun g hg hs => by have := (World.ownsRow.lt HOWN.out g hg).1; have h3 : g = b := hs; omega))
      obtain ⟨i5, hi5, hv0, hv1, hv2⟩ := info_parts Tryd.infoPair
      go_wp2_with (at_builtin; go_loud (refine wpList_pushAt rfl _ _ 47 rfl w.heap.size _ i5 _ 16 Tryd.underlying47 hi5 hv0 hv1 hv2 rfl (by decide) prEnc_len (.slice q l.length c) l rfl (HOWN7.out.keep (S := None) ((Keep.refl _ _).alloc _) (fun _ _ => id)) (1000 + m6, 980 + bias + m7) w7.heap.size _ rfl _ (heap_alloc_new _ _) (by simp [prEnc]) rfl (by simp [Value.oneCell']) (by omega) (by omega) (by have := HK7.out.size; have := HKW.out.size; simp; omega) ?_; intro p5 c5 w10 hown5 hk5 hk5' hb5; have HE5 := Lib.hid hown5; have HK10 := Lib.hid hk5; clear hown5 hk5 hk5' hb5))
      have hk10 : Keep (fun i => w.heap.size ≤ i) w7 w10 := ((Keep.refl None w7).alloc _ |>.weaken (fun _ _ q => q.elim)).trans HK10.out
      go_roundw
      case rel =>
        refine ⟨p5, c5, l ++ [(1000 + m6, 980 + bias + m7)], k - 1, r7, rfl, by rw [List.length_append]; rfl, by omega, by simp; omega, ?_, ?_, HC7.out.keep hk10 (by omega) (by omega), HKW.out.trans ((HK7.out.weaken (fun g _ hg => .inl hg)).trans (hk10.weaken (fun g _ hg => .inr hg)))⟩
        · rw [List.length_append]; exact HE5.out
        · intro x hx
          rcases List.mem_append.1 hx with hx | hx
          · exact HALL.out x hx
          · simp at hx; subst hx; unfold smallPr; simp only; omega
      case measure => simp [intOf]; omega
    · have hki : decide (0 < k) = false := by simp; omega
      obtain ⟨-, hcap1, hcap2, hslv, hfrom⟩ := HOWN.out.reads prEnc_len
      have HSL := Lib.hid hslv
      have HFR := Lib.hid hfrom
      clear hslv hfrom
      go_wp2_with (fail)
      go_ret
      exact ⟨q, c, l, r, rfl, HSL.out, HFR.out, hcap1, hcap2, by omega, HALL.out, HCR.out, (Keep.refl (· = b) w).andThen HKW.out (fun g h1 h2 => by omega)⟩

end Go.Proofs.YtgelfefoiplekaaDoor
