/-
  Chapter 44: one line of a policy's text.
-/
import Derived.Test.YtgelfefoiplekaaDoorPolTwo
import Derived.Test.YtgelfefoiplekaaDoorPush1
namespace Go.Proofs.YtgelfefoiplekaaDoor
open Go.RowKit PN

theorem Tryd.infoStage : (Tryd.prog.info? 45).map (fun i => (i.zero, i.size, i.bytes)) = some (some (.agg #[.int .i64 0, .int .i64 0]), 2, 16) := by kernel_rfl

/-- A policy in a box, its stages in a row that the call owns. -/
def PBox (base : Nat) (w : World) (g : Nat) (p : Pol) : Prop :=
  g < base ∧ base ≤ w.heap.size ∧ ∃ s c, w.heap[g]? = some (.cells #[.slice s p.st.length c, .int .i64 p.num, .int .i64 p.den, .int .i64 p.margin] 30 (0, 0)) ∧ Own stEnc 2 45 base w (.slice s p.st.length c) p.st
theorem PBox.still {base : Nat} {w w' : World} {g : Nat} {p : Pol} (h : PBox base w g p) (k : Keep None w w') : PBox base w' g p := by
  obtain ⟨h1, h2, s, c, h3, h4⟩ := h
  exact ⟨h1, Nat.le_trans h2 k.size, s, c, k.obj h3 id, h4.keep k (fun _ _ => id)⟩

/-- What one line says. -/
def ruleP (p : Pol) (l : Bs) (n : Int) : Option Pol :=
  if n = 1 then (level l).map fun q => { p with num := q.1, den := q.2 }
  else if n = 2 then (PN.margin l).map fun m => { p with margin := m }
  else (stage l).map fun s => { p with st := p.st ++ [s] }

def RulePost (g base : Nat) (o : Option Pol) (w : World) (e : Ending) (w' : World) : Prop :=
  Keep (fun k => k = g ∨ base ≤ k) w w' ∧ match o with
    | some p => e = .returned (.bool true) ∧ PBox base w' g p
    | none => e = .returned (.bool false)

theorem beq_dec (l m : Bs) : (l == m) = decide (l = m) := by rw [Bool.eq_iff_iff]; simp
theorem numV_cases (l : Bs) : ∃ x okx, numV l = .tuple #[.int .i64 x, .bool okx] ∧ (match number l with | some z => x = z ∧ okx = true | none => okx = false) := by
  unfold numV
  cases number l with
  | none => exact ⟨_, _, rfl, rfl⟩
  | some z => exact ⟨_, _, rfl, rfl, rfl⟩
theorem sz_ct {line r : ByteArray} {c : UInt8} (h : bl r = (ct c (bl line)).2) : r.size ≤ line.size := by
  have h1 : (bl r).length ≤ (bl line).length := by
    rw [h]
    by_cases he : bl line = []
    · rw [he]; simp [ct]
    · exact Nat.le_of_lt (ct_shorter c _ he)
  rwa [bl_len, bl_len] at h1

set_option maxRecDepth 100000 in
set_option maxHeartbeats 4000000 in
theorem rule_calls (g base : Nat) (line : ByteArray) (n : Int) (p : Pol) (w : World) (hE : Env w) (hB : PBox base w g p) (hl : line.size < 4294967281) (hs : p.st.length < 1000000) :
    Calls Tryd.prog 32 #[.pointer (some ⟨g, 0, none⟩), .string line, .int .i64 n] w (RulePost g base (ruleP p (bl line) n) w) := by
  obtain ⟨hgb, hbw, s, c, hob, hown⟩ := hB
  have HOB := Lib.hid hob
  have HOWN := Lib.hid hown
  have HE := Lib.hid hE
  have hgw := heap_lt hob
  clear hob hown hE
  by_cases h1 : n = 1
  · subst h1
    have HR := Lib.hid (show ruleP p (bl line) 1 = (level (bl line)).map fun q => { p with num := q.1, den := q.2 } from rfl)
    go_enter Tryd.func32, Tryd.ntmps32
    go_wp2_with (go_at_call 43; refine (two_calls line _ _ w HE.out hl).mono ?_; rintro e w1 ⟨x, y, ok, rfl, hxy, hk⟩; have hxy' : (match level (bl line) with | some p => x = p.1 ∧ y = p.2 ∧ ok = true | none => ok = false) := hxy; have HXY := Lib.hid hxy'; have HK := Lib.hid hk; have ho1 := hk.obj HOB.out id; have s1 : w1.cell? ⟨g, 1, none⟩ = some (.int .i64 p.num) := cell_of_row _ _ 1 _ _ _ ho1; have s2 : w1.frozen? ⟨g, 1, none⟩ = false := (by unfold World.frozen?; rw [ho1]; rfl); have ho2 := heap_setCell' (j := 1) (v := .int .i64 x) ho1; simp only [List.setIfInBounds_toArray, List.set_cons_succ, List.set_cons_zero] at ho2; have s3 : (w1.setCell ⟨g, 1, none⟩ (.int .i64 x)).cell? ⟨g, 2, none⟩ = some (.int .i64 p.den) := cell_of_row _ _ 2 _ _ _ ho2; have s4 : (w1.setCell ⟨g, 1, none⟩ (.int .i64 x)).frozen? ⟨g, 2, none⟩ = false := (by unfold World.frozen?; rw [ho2]; rfl); have HO2 := Lib.hid ho2; clear hxy hxy' hk ho1 ho2)
    go_ret
    have hx3 := heap_setCell' (j := 2) (v := .int .i64 y) HO2.out
    simp only [List.setIfInBounds_toArray, List.set_cons_succ, List.set_cons_zero] at hx3
    have hkk : Keep (fun k => k = g ∨ base ≤ k) w ((w1.setCell ⟨g, 1, none⟩ (.int .i64 x)).setCell ⟨g, 2, none⟩ (.int .i64 y)) := ((HK.out.weaken (fun _ _ q => q.elim)).setCell (p := ⟨g, 1, none⟩) (.inl (.inl rfl)) _).setCell (p := ⟨g, 2, none⟩) (.inl (.inl rfl)) _
    refine ⟨hkk, ?_⟩
    rw [HR.out]
    have h2 := HXY.out
    cases hle : level (bl line) with
    | none => rw [hle] at h2; simp only at h2; subst h2; rfl
    | some q =>
      rw [hle] at h2
      simp only at h2
      obtain ⟨rfl, rfl, rfl⟩ := h2
      refine ⟨rfl, hgb, Nat.le_trans hbw hkk.size, s, c, hx3, ?_⟩
      exact (HOWN.out.keep HK.out (fun _ _ => id)).keep (S := (· = g)) (((Keep.refl (· = g) w1).setCell (p := ⟨g, 1, none⟩) (.inl rfl) _).setCell (p := ⟨g, 2, none⟩) (.inl rfl) _) (fun b hb hbs => by have := (World.ownsRow.lt HOWN.out b hb).1; have h3 : b = g := hbs; omega)
  · have e1 : (n == 1) = false := by simpa using h1
    by_cases h2 : n = 2
    · subst h2
      have HR := Lib.hid (show ruleP p (bl line) 2 = (PN.margin (bl line)).map fun m => { p with margin := m } from rfl)
      clear e1 h1
      go_enter Tryd.func32, Tryd.ntmps32
      go_upto_region 10 with (go_at_call 31; refine (cut_calls line 32 w HE.out hl).mono ?_; rintro e w1 ⟨aa, rr, ff, k, hca, hcr, rfl, rfl⟩; have HCA := Lib.hid hca; have HCR := Lib.hid hcr; have HK := Lib.hid ((Keep.refl None w).drewN k); clear hca hcr)
      have HRS := sz_ct (line := line) (r := rr) HCR.out
      obtain ⟨x, okx, hx1, hx2⟩ := numV_cases (bl rr)
      have HX1 := Lib.hid hx1
      have HX2 := Lib.hid hx2
      clear hx1 hx2
      have ho1 := HK.out.obj HOB.out id
      have s1 : (w.drewN k).cell? ⟨g, 3, none⟩ = some (.int .i64 p.margin) := cell_of_row _ _ 3 _ _ _ ho1
      have s2 : (w.drewN k).frozen? ⟨g, 3, none⟩ = false := by unfold World.frozen?; rw [ho1]; rfl
      have HO1 := Lib.hid ho1
      clear ho1
      have ho3 := heap_setCell' (j := 3) (v := .int .i64 x) HO1.out
      simp only [List.setIfInBounds_toArray, List.set_cons_succ, List.set_cons_zero] at ho3
      have HO3 := Lib.hid ho3
      have hkk : Keep (fun k => k = g ∨ base ≤ k) w ((w.drewN k).setCell ⟨g, 3, none⟩ (.int .i64 x)) := ((HK.out.weaken (fun _ _ q => q.elim)).setCell (p := ⟨g, 3, none⟩) (.inl (.inl rfl)) _)
      have HKK := Lib.hid hkk
      clear hkk ho3
      have a2 : (aa.toList == [109, 97, 114, 103, 105, 110]) = decide (bl aa = wMargin) := by rw [bl_eq]; exact beq_dec _ _
      by_cases ha : bl aa = wMargin
      · have HM := Lib.hid (show PN.margin (bl line) = number (bl rr) by unfold PN.margin; rw [← HCA.out, ← HCR.out, if_pos ha])
        have a3 : (aa.toList == [109, 97, 114, 103, 105, 110]) = true := by rw [a2, decide_eq_true ha]
        have a4 : aa.toList = [109, 97, 114, 103, 105, 110] := by simpa using a3
        clear ha a2
        cases okx
        · go_wp2_with (go_at_call 44; refine (number_calls rr _ (by omega)).mono ?_; rintro e w2 ⟨rfl, rfl⟩; rw [HX1.out])
          go_ret
          refine ⟨HKK.out, ?_⟩
          have h2 := HX2.out
          rw [HR.out, HM.out]
          cases hn : number (bl rr) with
          | none => rfl
          | some z => rw [hn] at h2; cases h2.2
        · go_wp2_with (go_at_call 44; refine (number_calls rr _ (by omega)).mono ?_; rintro e w2 ⟨rfl, rfl⟩; rw [HX1.out])
          go_ret
          refine ⟨HKK.out, ?_⟩
          have h2 := HX2.out
          rw [HR.out, HM.out]
          cases hn : number (bl rr) with
          | none => rw [hn] at h2; cases h2
          | some z =>
            rw [hn] at h2
            obtain ⟨rfl, -⟩ := h2
            refine ⟨rfl, hgb, Nat.le_trans hbw HKK.out.size, s, c, HO3.out, ?_⟩
            exact (HOWN.out.keep HK.out (fun _ _ => id)).keep (S := (· = g)) ((Keep.refl (· = g) _).setCell (p := ⟨g, 3, none⟩) (.inl rfl) _) (fun b hb hbs => by have := (World.ownsRow.lt HOWN.out b hb).1; have h3 : b = g := hbs; omega)
      · have HM := Lib.hid (show PN.margin (bl line) = none by unfold PN.margin; rw [← HCA.out, if_neg ha])
        have a3 : (aa.toList == [109, 97, 114, 103, 105, 110]) = false := by rw [a2, decide_eq_false ha]
        have a4 : ¬ aa.toList = [109, 97, 114, 103, 105, 110] := by simpa using a3
        clear ha a2
        cases okx
        all_goals
          go_wp2_with (go_at_call 44; refine (number_calls rr _ (by omega)).mono ?_; rintro e w2 ⟨rfl, rfl⟩; rw [HX1.out])
          go_ret
          refine ⟨HKK.out, ?_⟩
          rw [HR.out, HM.out]
          rfl
    · have e2 : (n == 2) = false := by simpa using h2
      have HR := Lib.hid (show ruleP p (bl line) n = (stage (bl line)).map fun s => { p with st := p.st ++ [s] } by unfold ruleP; rw [if_neg h1, if_neg h2])
      clear h1 h2
      go_enter Tryd.func32, Tryd.ntmps32
      go_upto_region 5 with (go_at_call 43; refine (two_calls line _ _ _ (HE.out.still ((Keep.refl _ _).alloc _)) hl).mono ?_; rintro e w1 ⟨x, y, ok, rfl, hxy, hk⟩; have hxy' : (match stage (bl line) with | some p => x = p.1 ∧ y = p.2 ∧ ok = true | none => ok = false) := hxy; have HXY := Lib.hid hxy'; have HK := Lib.hid (((Keep.refl None w).alloc (.cells #[.int .i64 0, .int .i64 0] 45)).trans hk); have ho1 := hk.obj (heap_alloc_new w (.cells #[.int .i64 0, .int .i64 0] 45)) id; have s1 : w1.cell? ⟨w.heap.size, 0, none⟩ = some (.int .i64 0) := cell_of_row _ _ 0 _ _ _ ho1; have s2 : w1.frozen? ⟨w.heap.size, 0, none⟩ = false := (by unfold World.frozen?; rw [ho1]; rfl); have ho2 := heap_setCell' (j := 0) (v := .int .i64 x) ho1; simp only [List.setIfInBounds_toArray, List.set_cons_succ, List.set_cons_zero] at ho2; have s3 : (w1.setCell ⟨w.heap.size, 0, none⟩ (.int .i64 x)).cell? ⟨w.heap.size, 1, none⟩ = some (.int .i64 0) := cell_of_row _ _ 1 _ _ _ ho2; have s4 : (w1.setCell ⟨w.heap.size, 0, none⟩ (.int .i64 x)).frozen? ⟨w.heap.size, 1, none⟩ = false := (by unfold World.frozen?; rw [ho2]; rfl); have HO2 := Lib.hid ho2; clear hxy hxy' hk ho1 ho2)
      clear s1 s2 s3 s4
      have ho3 := heap_setCell' (j := 1) (v := .int .i64 y) HO2.out
      simp only [List.setIfInBounds_toArray, List.set_cons_succ, List.set_cons_zero] at ho3
      have hk3 : Keep None w ((w1.setCell ⟨w.heap.size, 0, none⟩ (.int .i64 x)).setCell ⟨w.heap.size, 1, none⟩ (.int .i64 y)) := (HK.out.setCell (p := ⟨w.heap.size, 0, none⟩) (.inr (Nat.le_refl _)) _).setCell (p := ⟨w.heap.size, 1, none⟩) (.inr (Nat.le_refl _)) _
      generalize (w1.setCell ⟨w.heap.size, 0, none⟩ (.int .i64 x)).setCell ⟨w.heap.size, 1, none⟩ (.int .i64 y) = w4 at *
      have HO3 := Lib.hid ho3
      have HK3 := Lib.hid hk3
      have HOB3 := Lib.hid (hk3.obj HOB.out id)
      have HOWN3 := Lib.hid (HOWN.out.keep hk3 (fun _ _ => id))
      clear HO2 HK ho3 hk3
      obtain ⟨S, hS⟩ : ∃ S : Nat → Prop, S = fun b => (Value.slice s p.st.length c).ownBlock = some b := ⟨_, rfl⟩
      have HSA : Hid (∀ b, S b → base ≤ b ∧ b < w.heap.size) := Lib.hid (fun b hb => by rw [hS] at hb; exact World.ownsRow.lt HOWN.out b hb)
      have HS1 : Hid (∀ b, (Value.slice s p.st.length c).ownBlock = some b → S b) := Lib.hid (fun b hb => by rw [hS]; exact hb)
      clear hS
      have HFB : Hid (∀ w', Keep S w4 w' → w'.heap[g]? = some (.cells #[.slice s p.st.length c, .int .i64 p.num, .int .i64 p.den, .int .i64 p.margin] 30 (0, 0))) := Lib.hid (fun w' hk' => hk'.obj HOB3.out (fun hg => by have := HSA.out _ hg; omega))
      have HFS : Hid (∀ w', Keep S w4 w' → w'.heap[w.heap.size]? = some (.cells #[.int .i64 x, .int .i64 y] 45 (0, 0))) := Lib.hid (fun w' hk' => hk'.obj HO3.out (fun hg => by have := HSA.out _ hg; omega))
      have hw4 : w.heap.size < w4.heap.size := heap_lt HO3.out
      obtain ⟨i5, hi5, hv0, hv1, hv2⟩ := info_parts Tryd.infoStage
      refine RR.region_kindsG_tail (R1 stEnc 2 45 S base (p.st ++ [(x, y)])) [.is (.pointer (some ⟨g, 0, none⟩)), .is (.pointer (some ⟨g, 0, none⟩)), .is (.pointer (some ⟨g, 0, none⟩)), .is (.pointer (some ⟨g, 0, none⟩)), .is (.slice s p.st.length c), .is (.agg #[.int .i64 x, .int .i64 y]), .sat (Made 45 w4.heap.size [.int .i64 x, .int .i64 y]) (made1_keep _ _ _ (fun b hb hs => by have := HSA.out b hs; omega)), .sat (App1 stEnc 2 45 base (p.st.length + 1) (p.st ++ [(x, y)])) app1_keep, .any, .any, .any]
        (fun w' => Own stEnc 2 45 base w' (.slice s p.st.length c) p.st ∧ Keep S w4 w') 69 8 (by kernel_rfl) (by decide) (by kernel_rfl) (by kernel_rfl) (by kernel_rfl) rfl (by kernel_rfl) ⟨HOWN3.out.keep (S := None) (Keep.refl _ _).drew (fun _ _ => id), (Keep.refl _ _).drew⟩ ?_ ?_
      · have hR := R1.refl (enc := stEnc) (size := 2) (e := 45) S base (p.st ++ [(x, y)])
        refine ⟨?_, ?_, ?_, ?_, ?_, ?_, ?_, ?_, trivial⟩
        · exact RR.st_free rfl (RR.st_ev1 hR (RR.dep_f (t := 0) rfl rfl) _ (by intro a w' h1 hI; go_simp) rfl)
        · exact RR.st_free rfl (RR.st_ev1 hR (RR.dep_f (t := 0) rfl rfl) _ (by intro a w' h1 hI; go_simp) rfl)
        · exact RR.st_free rfl (RR.st_ev1 hR (RR.dep_e 1 rfl rfl rfl) _ (by intro a w' h1 hI; go_simp) rfl)
        · exact RR.st_free rfl (RR.st_ev1 hR (RR.dep_e 2 rfl rfl rfl) _ (by intro a w' h1 hI; go_simp) rfl)
        · exact RR.st_free rfl (RR.st_ev1 hR (RR.dep_e 3 rfl rfl rfl) _ (by intro a w' h1 hI; have q0 := cell_of_row _ _ 0 _ _ _ (HFB.out _ hI.2); go_simp) rfl)
        · exact RR.st_free rfl (RR.st_loadD hR 45 w.heap.size 0 [.int .i64 x, .int .i64 y] rfl (RR.dep_f (t := 11) rfl rfl) (fun w' hI => range_of_obj (HFS.out _ hI.2)) _ Tryd.underlying45 rfl 2 Tryd.sizeStage rfl rfl)
        · refine RR.st_free rfl (RR.st_mk (RR.dep_e 5 rfl rfl rfl) 45 [.int .i64 x, .int .i64 y] (by intro a w' h1; go_simp) ?_)
          intro w' w'' hI hk hn
          exact ⟨⟨_, _, rfl, hI.2.size, heap_lt hn, hn⟩, ⟨hI.1.keep hk (fun _ _ => id), hI.2.trans (hk.weaken (fun _ _ q => q.elim))⟩, R1.still hk⟩
        · refine RR.st_free rfl (RR.st_push (enc := stEnc) (size := 2) 26 rfl base _ i5 _ 16 Tryd.underlying26 hi5 hv0 hv1 hv2 rfl (by decide) stEnc_len (.slice s p.st.length c) p.st (RR.dep_e 4 rfl rfl rfl) w4.heap.size (x, y) (RR.dep_s 6 rfl rfl rfl) (by simp [stEnc, Value.oneCell']) hs (by omega) (fun w' hI => ⟨hI.1, by have := hI.2.size; omega⟩) ?_)
          intro w' w'' p' c' hI h1 h2 hk htw
          refine ⟨⟨p', c', rfl, h1⟩, ⟨h2, hI.2.trans (hk.weaken (fun b _ hb => HS1.out b hb))⟩, hk.weaken (fun b _ hb => HS1.out b hb), htw⟩
      intro f' w10 hkinds hI
      obtain ⟨p5, c5, k28, e5⟩ : App1 stEnc 2 45 base (p.st.length + 1) (p.st ++ [(x, y)]) w10 (f' 28) := hkinds 7 _ 28 (by omega) rfl rfl
      have k21 : f' 21 = .pointer (some ⟨g, 0, none⟩) := hkinds 0 _ 21 (by omega) rfl rfl
      rw [k28] at e5
      simp only [putsOf, Act.put, List.take_succ_cons, List.take_zero, List.drop_succ_cons, List.drop_zero, List.setIfInBounds_toArray, List.set_cons_zero, List.set_cons_succ, k28, k21]
      clear hkinds k28 k21
      have hob10 := HFB.out _ hI.2
      have HOB10 := Lib.hid hob10
      have HE5 := Lib.hid e5
      have HKI := Lib.hid hI.2
      have s1 : w10.cell? ⟨g, 0, none⟩ = some (.slice s p.st.length c) := cell_of_row _ _ 0 _ _ _ hob10
      have s2 : w10.frozen? ⟨g, 0, none⟩ = false := by unfold World.frozen?; rw [hob10]; rfl
      clear hob10 e5 hI
      cases ok
      all_goals
        go_wp2_with (fail)
        go_ret
        have hk10 : Keep (fun k => k = g ∨ base ≤ k) w w10 := ((HK3.out.weaken (fun _ _ q => q.elim)).trans (HKI.out.weaken (fun b _ hb => .inr (HSA.out b hb).1)))
        have hk11 : Keep (fun k => k = g ∨ base ≤ k) w (w10.setCell ⟨g, 0, none⟩ (.slice p5 (p.st.length + 1) c5)) := hk10.setCell (p := ⟨g, 0, none⟩) (.inl (.inl rfl)) _
        have hoz := heap_setCell' (j := 0) (v := .slice p5 (p.st.length + 1) c5) HOB10.out
        simp only [List.setIfInBounds_toArray, List.set_cons_succ, List.set_cons_zero] at hoz
        refine ⟨hk11, ?_⟩
        rw [HR.out]
        have h2 := HXY.out
        cases hle : stage (bl line) with
        | none => rw [hle] at h2; first | rfl | (exfalso; cases h2)
        | some q =>
          rw [hle] at h2
          simp only at h2
          obtain ⟨rfl, rfl, h3⟩ := h2
          first
            | cases h3; done
            | (refine ⟨rfl, hgb, Nat.le_trans hbw hk11.size, p5, c5, by rw [List.length_append]; exact hoz, ?_⟩
               rw [List.length_append]
               exact HE5.out.keep (S := (· = g)) ((Keep.refl (· = g) _).setCell (p := ⟨g, 0, none⟩) (.inl rfl) _) (fun b hb hbs => by have := (World.ownsRow.lt HE5.out b hb).1; have h3 : b = g := hbs; omega))

end Go.Proofs.YtgelfefoiplekaaDoor
