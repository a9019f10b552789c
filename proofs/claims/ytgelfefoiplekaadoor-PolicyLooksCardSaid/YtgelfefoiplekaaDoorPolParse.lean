/-
  Chapter 44: what a text is read as.
-/
import Derived.Test.YtgelfefoiplekaaDoorPolRule
namespace Go.Proofs.YtgelfefoiplekaaDoor
open Go.RowKit PN

def strSize : Value → Nat
  | .string s => s.size
  | _ => 0
def zeroPol : Pol := ⟨0, 0, 0, []⟩
def runs : Pol → Nat → List Bs → Option Pol
  | p, _, [] => some p
  | p, n, l :: ls => match ruleP p l ((n : Int) + 1) with | some p' => runs p' (n + 1) ls | none => none

theorem runs_stages : ∀ (ls : List Bs) (p : Pol) (n : Nat), 2 ≤ n → runs p n ls = match stagesOf ls with | some l => some { p with st := p.st ++ l } | none => none
  | [], p, n, _ => by simp [runs, stagesOf]
  | l :: ls, p, n, h => by
    have e : ruleP p l ((n : Int) + 1) = (stage l).map fun s => { p with st := p.st ++ [s] } := by
      unfold ruleP
      rw [if_neg (by omega), if_neg (by omega)]
    rw [runs, e]
    cases hs : stage l with
    | none => simp [stagesOf, hs]
    | some s =>
      simp only [Option.map_some]
      rw [runs_stages ls _ (n + 1) (by omega)]
      cases hr : stagesOf ls <;> simp [stagesOf, hs, hr]

/-- What the loop finds is what the text is read as. -/
theorem runs_parse (s : Bs) : parse s = match runs zeroPol 0 (lines s) with | some p => if validB p then some p else none | none => none := by
  unfold parse
  match lines s with
  | [] => rfl
  | [a] =>
    simp only [readLines, runs, ruleP]
    cases level a with
    | none => rfl
    | some q => rfl
  | a :: b :: ls =>
    simp only [readLines, runs, ruleP]
    cases level a with
    | none => rfl
    | some q =>
      have e1 : ((0 : Nat) : Int) + 1 = 1 := rfl
      have e2 : ((0 + 1 : Nat) : Int) + 1 = 2 := rfl
      rw [e1, e2]
      simp only [Option.map_some, if_true]
      rw [if_neg (by decide)]
      cases PN.margin b with
      | none => rfl
      | some m =>
        simp only [Option.map_some]
        rw [runs_stages ls _ 2 (by omega)]
        cases stagesOf ls with
        | none => rfl
        | some l => rfl

theorem results_obj_tmp2 {P : Program} {fn : Func} {t u v : Tmp} {ty : TypeId} {tmps : Array Value} {w : World} {g : Nat} (h : fn.results = #[.cell t ty, .tmp u, .tmp v]) (ht : tmps.getD t undef = .pointer (some ⟨g, 0, none⟩)) (cs : List Value) (d : TypeDesc) (hc : w.rangeAt g 0 cs)
    (hu : P.underlying ty = some d) (hd : d.isRow = true) (size : Nat) (hi : (P.info? ty).map (·.size) = some size) (hcl : cs.length = size) : (results fn tmps).run P w = .ok (.tuple #[.agg cs.toArray, tmps.getD u undef, tmps.getD v undef]) w := by
  subst hcl
  have hl := run_loadVar_mid (P := P) w g 0 ty cs d hc hu hd hi
  have ht' : tmps[t]?.getD undef = .pointer (some ⟨g, 0, none⟩) := by simpa using ht
  simp [results, h, asAddr, ht', hl]

/-- What Parse returns. -/
def ParsePost (s : Bs) (w : World) (e : Ending) (w' : World) : Prop :=
  ∃ a c p n err, e = .returned (.tuple #[polVal a c p, .int .i64 n, .int .i64 err]) ∧ PolAt w' a p ∧ From w.heap.size a ∧ Keep None w w' ∧ match parse s with | some q => p = q ∧ n = 0 ∧ err = 0 | none => err ≠ 0

theorem post_no {s : Bs} {w w' : World} {e : Ending} {n err : Int} (hv : parse s = none) (herr : err ≠ 0) (hk : Keep None w w') (he : e = .returned (.tuple #[.agg #[.slice none 0 0, .int .i64 0, .int .i64 0, .int .i64 0], .int .i64 n, .int .i64 err])) : ParsePost s w e w' :=
  ⟨none, 0, zeroPol, n, err, he, ⟨.inl rfl, by simp [zeroPol]⟩, (by intro a ha; cases ha), hk, by rw [hv]; exact herr⟩

theorem sz_ct1 {line r : ByteArray} {c : UInt8} (h : bl r = (ct c (bl line)).1) : r.size ≤ line.size := by
  have h1 : (bl r).length ≤ (bl line).length := by
    rw [h]
    rcases ct_or c (bl line) with ⟨a, t, e, -, hc⟩ | ⟨-, hc⟩
    · rw [hc, e]; simp
    · rw [hc]; exact Nat.le_refl _
  rwa [bl_len, bl_len] at h1
theorem ruleP_len {p p' : Pol} {l : Bs} {n : Int} {m : Nat} (h : ruleP p l n = some p') (hm : p.st.length ≤ m) : p'.st.length ≤ m + 1 := by
  unfold ruleP at h
  by_cases h1 : n = 1
  · rw [if_pos h1] at h
    cases hl : level l with
    | none => rw [hl] at h; cases h
    | some q => rw [hl] at h; cases h; simp only; omega
  · rw [if_neg h1] at h
    by_cases h2 : n = 2
    · rw [if_pos h2] at h
      cases hl : PN.margin l with
      | none => rw [hl] at h; cases h
      | some q => rw [hl] at h; cases h; simp only; omega
    · rw [if_neg h2] at h
      cases hl : stage l with
      | none => rw [hl] at h; cases h
      | some q => rw [hl] at h; cases h; simp only [List.length_append, List.length_singleton]; omega

def ParInv (s0 : ByteArray) (g base : Nat) (w0 : World) (sv nv : Value) (w : World) : Prop :=
  ∃ (s : ByteArray) (n : Nat) (p : Pol), sv = .string s ∧ nv = .int .i64 n ∧ n + s.size ≤ s0.size ∧ p.st.length ≤ n ∧ runs zeroPol 0 (lines (bl s0)) = runs p n (lines (bl s)) ∧ PBox base w g p ∧ Keep (fun k => k = g ∨ base ≤ k) w0 w

theorem PBox.at {base : Nat} {w : World} {g : Nat} {p : Pol} (h : PBox base w g p) : ∃ a c, w.heap[g]? = some (.cells #[.slice a p.st.length c, .int .i64 p.num, .int .i64 p.den, .int .i64 p.margin] 30 (0, 0)) ∧ SliceV stEnc 2 w a p.st ∧ From base a := by
  obtain ⟨-, -, s, c, h3, h4⟩ := h
  obtain ⟨-, -, -, h5, h6⟩ := h4.reads stEnc_len
  exact ⟨s, c, h3, h5, h6⟩

set_option maxRecDepth 100000 in
set_option maxHeartbeats 4000000 in
theorem parse_calls (s0 : ByteArray) (w : World) (hE : Env w) (hw : 6 ≤ w.heap.size) (hl : s0.size ≤ 900000) :
    Calls Tryd.prog 13 #[.string s0] w (ParsePost (bl s0) w) := by
  have HBX : Hid (∃ W : World, Keep None w W ∧ W = (w.alloc (.cells #[.slice none 0 0, .int .i64 0, .int .i64 0, .int .i64 0] 30)).alloc (.cells #[.slice none 0 0, .int .i64 0, .int .i64 0, .int .i64 0] 30) ∧ W.heap[w.heap.size]? = some (.cells #[.slice none 0 0, .int .i64 0, .int .i64 0, .int .i64 0] 30 (0, 0)) ∧ W.heap[w.heap.size + 1]? = some (.cells #[.slice none 0 0, .int .i64 0, .int .i64 0, .int .i64 0] 30 (0, 0)) ∧ W.heap.size = w.heap.size + 2) :=
    Lib.hid ⟨_, ((Keep.refl None w).alloc _).alloc _, rfl, ((Keep.refl None _).alloc _).obj (heap_alloc_new _ _) id, alloc_at (by simp), by simp⟩
  obtain ⟨W, hKW, hWe, ho1, ho2, hsz⟩ := HBX.out
  have HKW := Lib.hid hKW
  have HWE := Lib.hid hWe.symm
  have O1 := Lib.hid ho1
  have HB0 : Hid (PBox (w.heap.size + 2) W (w.heap.size + 1) zeroPol) := Lib.hid ⟨by omega, by omega, none, 0, ho2, Own.nil _ _ _ _ _⟩
  have HSZ := Lib.hid hsz
  have HEW := Lib.hid (hE.still hKW)
  have HPAR := Lib.hid (runs_parse (bl s0))
  clear HBX hKW hWe ho1 ho2 hE hsz
  go_enter Tryd.func13, Tryd.ntmps13
  go_wp2_with (fail)
  rw [HWE.out]
  go_loopw [0, 6] (ParInv s0 (w.heap.size + 1) (w.heap.size + 2) W) (fun s _ _ => strSize s)
  case atStart => exact ⟨s0, 0, zeroPol, rfl, rfl, by omega, by simp [zeroPol], rfl, HB0.out, Keep.refl _ _⟩
  case round =>
    obtain ⟨s, n, p, rfl, rfl, hns, hpn, hruns, hbox, hkp⟩ := hrel
    have HRUNS := Lib.hid hruns
    have HBOX := Lib.hid hbox
    have HKP := Lib.hid hkp
    have HKR : Hid (Keep None w wr) := Lib.hid (HKW.out.andThen hkp (fun k h1 h2 => by omega))
    have HER := Lib.hid (HEW.out.keep hkp (fun k hk => by omega))
    have HT2 := Lib.hid (hkp.obj O1.out (by omega))
    have hwr : w.heap.size + 2 ≤ wr.heap.size := by have := hkp.size; have := HSZ.out; omega
    clear hruns hbox hkp
    have hlb := bl_len s
    by_cases h0 : s.size = 0
    · have hbs : bl s = [] := List.eq_nil_of_length_eq_zero (by omega)
      have e0 : s.toList = [] := by rw [bl_eq]; exact hbs
      have e0' : s.toList.isEmpty = true := by rw [e0]; rfl
      have HP : Hid (parse (bl s0) = if validB p then some p else none) := Lib.hid (by rw [HPAR.out, HRUNS.out, hbs, lines_nil]; rfl)
      obtain ⟨a, c, hob, hsl, hfr⟩ := HBOX.out.at
      have HOB := Lib.hid hob
      have HPA : Hid (PolAt wr a p) := Lib.hid ⟨hsl, by omega⟩
      have HFR := Lib.hid hfr
      have q0 : wr.cell? ⟨w.heap.size + 1, 0, none⟩ = some (.slice a p.st.length c) := cell_of_row _ _ 0 _ _ _ hob
      clear hob hsl hfr h0 hbs hlb
      by_cases hp : p.st.length = 0
      · have hpi : ((p.st.length : Int) == 0) = true := by simp [hp]
        have HV : Hid (parse (bl s0) = none) := Lib.hid (by rw [HP.out, valid_head (p := p) (.inl (by omega))]; rfl)
        go_wp2_with ((with_reducible (show wpList _ _ _ (⟨_, .store 30 (.tmp 2) _, _, _, _, none⟩ :: _) _ _)); go_loud (refine wpList_storeObj rfl 30 _ _ rfl w.heap.size rfl [.slice none 0 0, .int .i64 0, .int .i64 0, .int .i64 0] [.slice none 0 0, .int .i64 0, .int .i64 0, .int .i64 0] rfl _ (by simp) (by first | exact HK5.out.obj HT2.out id | exact HT2.out) 4 Tryd.sizePolicy rfl (by simp [Value.oneCell']) ?_); intro w9 hres hk9 hs9; have HRES := Lib.hid hres; have HK9 := Lib.hid hk9; clear hres hk9 hs9)
        (refine bodyPost_ret (results_obj_tmp2 rfl rfl _ _ (range_of_obj HRES.out) Tryd.underlying30 rfl 4 Tryd.sizePolicy rfl) rfl ?_)
        exact post_no HV.out (by decide) (HKR.out.andThen HK9.out (fun k h1 h2 => by have h3 : k = w.heap.size := h2; omega)) rfl
      · have hpi : ((p.st.length : Int) == 0) = false := by rw [beq_eq_false_iff_ne]; omega
        have HLR : Hid (wr.rangeAt (w.heap.size + 1) 0 (listEnc [.slice a p.st.length c, .int .i64 p.num, .int .i64 p.den, .int .i64 p.margin])) := Lib.hid (range_of_obj HOB.out)
        cases hv : validB p with
        | false =>
          have HVB := Lib.hid hv
          have HV : Hid (parse (bl s0) = none) := Lib.hid (by rw [HP.out, hv]; rfl)
          clear hv
          go_wp2_with (first | ((with_reducible (show wpList _ _ _ (⟨some 36, .load 30 _, _, _, _, none⟩ :: _) _ _)); refine wpList_loadEl (enc := listEnc) (size := 4) rfl 30 _ rfl _ _ rfl [.slice a p.st.length c, .int .i64 p.num, .int .i64 p.den, .int .i64 p.margin] _ (range_of_obj (by first | exact HK5.out.obj HOB.out id | exact HOB.out)) rfl Tryd.underlying30 rfl Tryd.sizePolicy (.agg #[.slice a p.st.length c, .int .i64 p.num, .int .i64 p.den, .int .i64 p.margin]) rfl ?_) | (go_at_call 15; refine (valid_calls a c p _ HPA.out).mono ?_; rintro e w5 ⟨rfl, hk5⟩; rw [HVB.out]; have HK5 := Lib.hid hk5; clear hk5) | ((with_reducible (show wpList _ _ _ (⟨_, .store 30 (.tmp 2) _, _, _, _, none⟩ :: _) _ _)); go_loud (refine wpList_storeObj rfl 30 _ _ rfl w.heap.size rfl [.slice none 0 0, .int .i64 0, .int .i64 0, .int .i64 0] [.slice none 0 0, .int .i64 0, .int .i64 0, .int .i64 0] rfl _ (by simp) (by first | exact HK5.out.obj HT2.out id | exact HT2.out) 4 Tryd.sizePolicy rfl (by simp [Value.oneCell']) ?_); intro w9 hres hk9 hs9; have HRES := Lib.hid hres; have HK9 := Lib.hid hk9; clear hres hk9 hs9))
          (refine bodyPost_ret (results_obj_tmp2 rfl rfl _ _ (range_of_obj HRES.out) Tryd.underlying30 rfl 4 Tryd.sizePolicy rfl) rfl ?_)
          exact post_no HV.out (by decide) ((HKR.out.trans HK5.out).andThen HK9.out (fun k h1 h2 => by have h3 : k = w.heap.size := h2; omega)) rfl
        | true =>
          have HVB := Lib.hid hv
          have HV : Hid (parse (bl s0) = some p) := Lib.hid (by rw [HP.out, hv]; rfl)
          clear hv
          go_wp2_with (first | ((with_reducible (show wpList _ _ _ (⟨some 36, .load 30 _, _, _, _, none⟩ :: _) _ _)); refine wpList_loadEl (enc := listEnc) (size := 4) rfl 30 _ rfl _ _ rfl [.slice a p.st.length c, .int .i64 p.num, .int .i64 p.den, .int .i64 p.margin] _ (range_of_obj (by first | exact HK5.out.obj HOB.out id | exact HOB.out)) rfl Tryd.underlying30 rfl Tryd.sizePolicy (.agg #[.slice a p.st.length c, .int .i64 p.num, .int .i64 p.den, .int .i64 p.margin]) rfl ?_) | (go_at_call 15; refine (valid_calls a c p _ HPA.out).mono ?_; rintro e w5 ⟨rfl, hk5⟩; rw [HVB.out]; have HK5 := Lib.hid hk5; clear hk5) | ((with_reducible (show wpList _ _ _ (⟨some 40, .load 30 _, _, _, _, none⟩ :: _) _ _)); refine wpList_loadEl (enc := listEnc) (size := 4) rfl 30 _ rfl _ _ rfl [.slice a p.st.length c, .int .i64 p.num, .int .i64 p.den, .int .i64 p.margin] _ (range_of_obj (by first | exact HK5.out.obj HOB.out id | exact HOB.out)) rfl Tryd.underlying30 rfl Tryd.sizePolicy (.agg #[.slice a p.st.length c, .int .i64 p.num, .int .i64 p.den, .int .i64 p.margin]) rfl ?_) | ((with_reducible (show wpList _ _ _ (⟨_, .store 30 (.tmp 2) _, _, _, _, none⟩ :: _) _ _)); go_loud (refine wpList_storeObj rfl 30 _ _ rfl w.heap.size rfl [.slice none 0 0, .int .i64 0, .int .i64 0, .int .i64 0] [.slice a p.st.length c, .int .i64 p.num, .int .i64 p.den, .int .i64 p.margin] rfl _ (by simp) (by first | exact HK5.out.obj HT2.out id | exact HT2.out) 4 Tryd.sizePolicy rfl (by simp [Value.oneCell']) ?_); intro w9 hres hk9 hs9; have HRES := Lib.hid hres; have HK9 := Lib.hid hk9; clear hres hk9 hs9))
          (refine bodyPost_ret (results_obj_tmp2 rfl rfl _ _ (range_of_obj HRES.out) Tryd.underlying30 rfl 4 Tryd.sizePolicy rfl) rfl ?_)
          refine ⟨a, c, p, 0, 0, rfl, ?_, ?_, (HKR.out.trans HK5.out).andThen HK9.out (fun k h1 h2 => by have h3 : k = w.heap.size := h2; omega), by rw [HV.out]; exact ⟨rfl, rfl, rfl⟩⟩
          · exact (HPA.out.still HK5.out).keep HK9.out (fun x hx hxs => by have := HFR.out x hx; have h3 : x.block = w.heap.size := hxs; omega)
          · intro x hx; have := HFR.out x hx; omega
    · have e0 : ¬ s.toList = [] := by rw [bl_eq]; intro e; rw [e] at hlb; simp at hlb; omega
      have e0' : s.toList.isEmpty = false := by simpa using e0
      have hne : bl s ≠ [] := by rwa [bl_eq] at e0
      have HLN := Lib.hid (lines_cons hne)
      have HSH := Lib.hid (ct_shorter 10 (bl s) hne)
      have HLB := Lib.hid hlb
      clear hne hlb
      cases hr : ruleP p (ct 10 (bl s)).1 ((n : Int) + 1) with
      | none =>
        have HRP := Lib.hid hr
        have HV : Hid (parse (bl s0) = none) := Lib.hid (by rw [HPAR.out, HRUNS.out, HLN.out, runs, hr])
        clear hr
        go_wp2_with (first | (go_at_call 31; refine (cut_calls s 10 wr HER.out (by omega)).mono ?_; rintro e w1 ⟨aa, rr, ff, k, hca, hcr, rfl, rfl⟩; have HCA := Lib.hid hca; have HCR := Lib.hid hcr; have HK := Lib.hid ((Keep.refl None wr).drewN k); clear hca hcr) | (go_at_call 32; refine (rule_calls (w.heap.size + 1) (w.heap.size + 2) aa _ p _ (HER.out.still HK.out) (HBOX.out.still HK.out) (by have := sz_ct1 HCA.out; omega) (by omega)).mono ?_; rintro e w2 ⟨hk, hm⟩; rw [HCA.out, HRP.out] at hm; subst hm; have HKS := Lib.hid (HKW.out.andThen (HKP.out.trans ((HK.out.weaken (fun _ _ q => q.elim)).trans hk)) (fun k h1 h2 => by omega)); have HT3 := Lib.hid (hk.obj (HK.out.obj HT2.out id) (by omega)); clear hk) | ((with_reducible (show wpList _ _ _ (⟨_, .store 30 (.tmp 2) _, _, _, _, none⟩ :: _) _ _)); (refine wpList_storeObj rfl 30 _ _ rfl w.heap.size rfl [.slice none 0 0, .int .i64 0, .int .i64 0, .int .i64 0] [.slice none 0 0, .int .i64 0, .int .i64 0, .int .i64 0] rfl _ (by simp) HT3.out 4 Tryd.sizePolicy rfl (by simp [Value.oneCell']) ?_); intro w9 hres hk9 hs9; have HRES := Lib.hid hres; have HK9 := Lib.hid hk9; clear hres hk9 hs9))
        (refine bodyPost_ret (results_obj_tmp2 rfl rfl _ _ (range_of_obj HRES.out) Tryd.underlying30 rfl 4 Tryd.sizePolicy rfl) rfl ?_)
        exact post_no HV.out (by decide) (HKS.out.andThen HK9.out (fun k h1 h2 => by have h3 : k = w.heap.size := h2; omega)) rfl
      | some p' =>
        have HRP := Lib.hid hr
        have HST : Hid (runs zeroPol 0 (lines (bl s0)) = runs p' (n + 1) (lines (ct 10 (bl s)).2)) := Lib.hid (by rw [HRUNS.out, HLN.out, runs, hr])
        have HPL : Hid (p'.st.length ≤ n + 1) := Lib.hid (ruleP_len hr hpn)
        clear hr
        go_wp2_with (first | (go_at_call 31; refine (cut_calls s 10 wr HER.out (by omega)).mono ?_; rintro e w1 ⟨aa, rr, ff, k, hca, hcr, rfl, rfl⟩; have HCA := Lib.hid hca; have HCR := Lib.hid hcr; have HK := Lib.hid ((Keep.refl None wr).drewN k); clear hca hcr) | (go_at_call 32; refine (rule_calls (w.heap.size + 1) (w.heap.size + 2) aa _ p _ (HER.out.still HK.out) (HBOX.out.still HK.out) (by have := sz_ct1 HCA.out; omega) (by omega)).mono ?_; rintro e w2 ⟨hk, hm⟩; rw [HCA.out, HRP.out] at hm; obtain ⟨rfl, hbx⟩ := hm; have HBX2 := Lib.hid hbx; have HKP2 := Lib.hid (HKP.out.trans ((HK.out.weaken (fun _ _ q => q.elim)).trans hk)); clear hk hbx))
        go_roundw
        case rel =>
          have hr1 := bl_len rr
          have hr2 := HSH.out
          rw [← HCR.out] at hr2
          have hr3 := HLB.out
          refine ⟨rr, n + 1, p', rfl, by go_num, by omega, HPL.out, by rw [HST.out, HCR.out], HBX2.out, HKP2.out⟩
        case measure =>
          have hr1 := bl_len rr
          have hr2 := HSH.out
          rw [← HCR.out] at hr2
          have hr3 := HLB.out
          simp only [strSize]
          omega

end Go.Proofs.YtgelfefoiplekaaDoor
