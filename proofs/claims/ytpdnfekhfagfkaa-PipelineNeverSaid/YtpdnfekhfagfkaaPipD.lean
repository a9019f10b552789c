/-
  Chapter 19: predictor.Each.
-/
import Derived.Test.YtpdnfekhfagfkaaPipC
namespace Go.Proofs.Ytpdnfekhfagfkaa
open Go.RowKit PI

theorem Try.infoBool : (Try.prog.info? 4).map (fun i => (i.zero, i.size, i.bytes)) = some (some (.bool false), 1, 1) := by kernel_rfl
def boolEnc (b : Bool) : List Value := [.bool b]
theorem boolEnc_len (b : Bool) : (boolEnc b).length = 1 := rfl

/-- What lay in memory before is not touched by what only writes blocks from there on. -/
theorem slice_old {α : Type} {enc : α → List Value} {size : Nat} (hsz : ∀ x, (enc x).length = size) (hpos : 0 < size) {w0 w w' : World} {p : Option Addr} {xs : List α} (h : SliceV enc size w0 p xs) (h0 : Keep None w0 w) (k : Keep (w.heap.size ≤ ·) w w') : SliceV enc size w' p xs := by
  rcases h with h | ⟨b, o, rfl, h⟩
  · exact .inl h
  · cases xs with
    | nil => exact .inl rfl
    | cons x l =>
      have hc := h 0 x rfl 0 ((enc x)[0]'(by rw [hsz]; exact hpos)) (List.getElem?_eq_getElem _)
      have hb : b < w0.heap.size := by
        unfold World.cell? at hc
        cases hg : w0.heap[b]? with
        | none => simp [hg] at hc
        | some o => exact heap_lt hg
      have hb' := h0.size
      refine .inr ⟨b, o, rfl, (h.keep h0 (fun h => h)).keep k (by show ¬ w.heap.size ≤ b; omega)⟩

theorem prRun_snoc : ∀ (l : List Fe) (t : List Int) (f : Fe), prRun t (l ++ [f]) = ((prStep (prRun t l).1 f).1, (prRun t l).2 ++ [(prStep (prRun t l).1 f).2])
  | [], _, _ => rfl
  | g :: l, t, f => by rw [List.cons_append, prRun, prRun_snoc l, prRun]; rfl
theorem prStep_len (t : List Int) (f : Fe) : (prStep t f).1.length = t.length := by
  unfold prStep; split <;> simp
theorem prRun_tlen : ∀ (l : List Fe) (t : List Int), (prRun t l).1.length = t.length
  | [], _ => rfl
  | f :: l, t => by rw [prRun]; simp only; rw [prRun_tlen l, prStep_len]
theorem after_in {n : Int} (b : Bool) (h0 : 0 ≤ n) (h1 : n ≤ 3) : 0 ≤ after n b ∧ after n b ≤ 3 := by
  unfold after; split <;> omega
theorem prStep_in (t : List Int) (f : Fe) (h : ∀ x ∈ t, 0 ≤ x ∧ x ≤ 3) : ∀ x ∈ (prStep t f).1, 0 ≤ x ∧ x ≤ 3 := by
  unfold prStep
  split
  · rename_i h1
    intro x hx
    rcases List.mem_or_eq_of_mem_set hx with hx | rfl
    · exact h x hx
    · have hm : f.addr.toNat % t.length < t.length := Nat.mod_lt _ (by omega)
      have h2 := h (t.getD (f.addr.toNat % t.length) 0) (by rw [List.getD_eq_getElem?_getD, List.getElem?_eq_getElem hm]; simp)
      exact after_in _ h2.1 h2.2
  · exact h
theorem prRun_in : ∀ (l : List Fe) (t : List Int), (∀ x ∈ t, 0 ≤ x ∧ x ≤ 3) → ∀ x ∈ (prRun t l).1, 0 ≤ x ∧ x ≤ 3
  | [], _, h => h
  | f :: l, t, h => by rw [prRun]; exact prRun_in l _ (prStep_in t f h)

def PrInv (p5 : Option Addr) (c5 : Nat) (t0 : List Int) (l : List Fe) (base : Nat) (w0 : World) (b6 t16 : Value) (w : World) : Prop :=
  ∃ (k : Nat) (q : Option Addr) (c : Nat), t16 = .int .i64 k ∧ k ≤ l.length ∧ b6 = .slice q k c ∧ Own intEnc 1 3 base w (.slice p5 t0.length c5) (prRun t0 (l.take k)).1 ∧ Own boolEnc 1 4 base w (.slice q k c) (prRun t0 (l.take k)).2 ∧ Keep (base ≤ ·) w0 w

/-- A slice of fetches within bounds. -/
def FeOk (f : Fe) : Prop := 0 ≤ f.addr ∧ f.addr ≤ 1000 ∧ 0 ≤ f.size ∧ f.size ≤ 1000

theorem own_apart {α β : Type} {enc : α → List Value} {enc' : β → List Value} {size size' : Nat} {e e' : TypeId} {base base' : Nat} {w w' : World} {v v' : Value} {xs : List α} {ys : List β} {S : Nat → Prop} (h : Own enc size e base w v xs) (h' : Own enc' size' e' base' w v' ys) (he : e ≠ e')
    (hk : Keep S w w') (hd : ∀ k, some k ≠ v'.ownBlock → k < w.heap.size → w'.heap[k]? = w.heap[k]?) : Own enc size e base w' v xs :=
  h.keep (S := fun k => some k = v'.ownBlock) ⟨hk.os, hk.tape, hk.output, hk.size, fun k hlt hs => hd k hs hlt⟩ fun g hg hs => (h.typed hg).ne (h'.typed hs.symm) he rfl

theorem own_cell {base : Nat} {w : World} {g n c : Nat} {xs : List Int} (h : Own intEnc 1 3 base w (.slice (some ⟨g, 0, none⟩) n c) xs) {i : Nat} (hi : i < xs.length) : w.cell? ⟨g, i, none⟩ = some (.int .i64 (xs.getD i 0)) ∧ w.frozen? ⟨g, i, none⟩ = false := by
  obtain ⟨-, -, -, hsl, -⟩ := h.reads intEnc_len
  constructor
  · rcases hsl with hs | ⟨b, o, hb, hs⟩
    · rw [hs] at hi; simp at hi
    · cases hb
      have := hs.int (getD_at hi)
      rwa [Nat.zero_add] at this
  · rcases h.2 with ⟨h0, -⟩ | ⟨g', c', cur, hv, hb, hg, -⟩
    · cases h0
    · cases hv; simp [World.frozen?, hg]
theorem own_set {base : Nat} {w : World} {g n c : Nat} {xs : List Int} (h : Own intEnc 1 3 base w (.slice (some ⟨g, 0, none⟩) n c) xs) {i : Nat} (hi : i < xs.length) (x : Int) : Own intEnc 1 3 base (w.setCell ⟨g, i, none⟩ (.int .i64 x)) (.slice (some ⟨g, 0, none⟩) n c) (xs.set i x) := by
  obtain ⟨rfl, -, -, -, -⟩ := h.reads intEnc_len
  have := h.setField intEnc_len (getD_at hi) (j := 0) (by omega) (v := .int .i64 x) (c := x) rfl
  simpa using this
theorem tmod_nat {a : Int} (h : 0 ≤ a) (n : Nat) : a.tmod (n : Int) = ((a.toNat % n : Nat) : Int) := by
  rw [Int.tmod_eq_emod_of_nonneg h, Int.natCast_emod, Int.toNat_of_nonneg h]

set_option maxRecDepth 100000 in
set_option maxHeartbeats 1000000 in
theorem preach_calls (n : Int) (p : Option Addr) (l : List Fe) (c : Nat) (w : World) (h : SliceV feEnc 3 w p l) (hl : l.length ≤ 1000) (hok : ∀ f ∈ l, FeOk f) :
    Calls Try.prog 14 #[.int .i64 n, .slice p l.length c] w (OwnPost boolEnc 1 4 (wrongs n l) w) := by
  obtain ⟨ib, hib, hb0, hb1, hb2⟩ := info_parts Try.infoBool
  have HS := Lib.hid h
  have HOK := Lib.hid hok
  clear h hok
  have ht0 : ∀ x ∈ prNew n, 0 ≤ x ∧ x ≤ 3 := by
    unfold prNew; split
    · intro x hx; have := (List.mem_replicate.1 hx).2; omega
    · intro x hx; simp at hx
  have htl : (prNew n).length ≤ 4096 := by unfold prNew; split <;> simp; omega
  have HT0 := Lib.hid ht0
  have HW : Hid (wrongs n l = (prRun (prNew n) l).2) := Lib.hid rfl
  clear ht0
  generalize ht : prNew n = t0 at *
  go_enter Try.func14, Try.ntmps14
  go_wp2_with (go_at_call 22; go_loud (refine (prnew_calls n w).mono ?_; rintro e w1 ⟨p5, c5, he, ho, hk⟩; rw [ht] at he ho; subst he; have HO := Lib.hid ho; have HK1 := Lib.hid hk; clear ho hk))
  go_loopw [6, 16] (PrInv p5 c5 t0 l w.heap.size w1) (fun _ i _ => l.length - (intOf i).toNat)
  case atStart => exact ⟨0, none, 0, by simp, by omega, rfl, by simpa [prRun] using HO.out, Own.nil _ _ _ _ _, Keep.refl _ _⟩
  case round =>
    obtain ⟨k, q, cq, rfl, hk, rfl, hint, hboo, hkr⟩ := hrel
    have hbs1 := HK1.out.size
    have hbs := hkr.size
    by_cases hlt : k < l.length
    · obtain ⟨f, hf⟩ : ∃ f, l[k]? = some f := ⟨l[k], List.getElem?_eq_getElem hlt⟩
      have hfo := HOK.out f (List.mem_of_getElem? hf)
      have hsl : SliceV feEnc 3 wr p l := slice_old feEnc_len (by omega) HS.out (Keep.refl None w) ((HK1.out.weaken (fun k _ h => h.elim)).trans hkr)
      rcases hsl with hsl | ⟨pb, po, rfl, hsl⟩
      · rw [hsl] at hlt; simp at hlt
      have HRG := Lib.hid (hsl.range hf)
      have hlen := prRun_tlen (l.take k) t0
      have hblen : (prRun t0 (l.take k)).2.length = k := (prRun_len (l.take k) t0).trans (by rw [List.length_take]; omega)
      have hin := prRun_in (l.take k) t0 HT0.out
      have hsn : prRun t0 (l.take (k + 1)) = _ := (congrArg (prRun t0) (take_snoc hf)).trans (prRun_snoc _ _ _)
      generalize hT : (prRun t0 (l.take k)).1 = T at *
      generalize hB : (prRun t0 (l.take k)).2 = B at *
      have HSN := Lib.hid hsn
      have HI := Lib.hid hint
      have HB := Lib.hid hboo
      have HKR := Lib.hid hkr
      have HIN := Lib.hid hin
      clear hsn hint hboo hkr hf hsl hT hB hin
      obtain ⟨fa, fs, fk⟩ := f
      obtain ⟨hf0, hf1, hf2, hf3⟩ := hfo
      simp only at hf0 hf1 hf2 hf3
      go_upto_region 6 with (first
        | ((with_reducible (show wpList _ _ _ (⟨_, .load 37 (.tmp 18), _, _, _, none⟩ :: _) _ _)); go_loud (refine wpList_loadEl rfl 37 _ rfl _ _ rfl _ _ HRG.out (feEnc_len _) Try.underlying37 rfl Try.sizeFetch (.agg #[.int .i64 fa, .int .i64 fs, .int .i64 fk]) rfl ?_))
        | ((with_reducible (show wpList _ _ _ (⟨_, .store 37 (.tmp 8) _, _, _, _, none⟩ :: _) _ _)); go_loud (refine wpList_storeObj rfl 37 _ _ rfl wr.heap.size rfl [.int .i64 0, .int .i64 0, .int .i64 0] [.int .i64 fa, .int .i64 fs, .int .i64 fk] rfl _ (by simp) (heap_alloc_new _ _) 3 Try.sizeFetch rfl (by simp [Value.oneCell']) ?_; intro w2 hres2 hk2 hs2; have HR2 := Lib.hid hres2; have HK2 := Lib.hid (((Keep.refl None wr).alloc _).andThen hk2 (by intro k h1 h2; omega)); clear hres2 hk2 hs2)))
      have hs2 := HK2.out.size
      have q0 := cell_of_row _ _ 0 _ _ _ HR2.out
      have q1 := cell_of_row _ _ 1 _ _ _ HR2.out
      have q2 := cell_of_row _ _ 2 _ _ _ HR2.out
      by_cases hz : t0.length = 0
      · have HST : prStep T ⟨fa, fs, fk⟩ = (T, false) := by unfold prStep; rw [if_neg (by omega)]
        have hz' : ¬ (0 : Int) < (t0.length : Int) := by omega
        clear hz
        go_wp2_with ((at_builtin; go_loud (refine wpList_pushAt rfl _ _ 46 rfl w.heap.size _ ib _ 1 Try.underlying46 hib hb0 hb1 hb2 rfl (by decide) boolEnc_len (.slice q k cq) B rfl ((HB.out.keep HK2.out (fun _ _ => id)).keep (S := None) ((Keep.refl _ _).alloc _) (fun _ _ => id)) (false) w2.heap.size 1 rfl _ (heap_alloc_new _ _) rfl rfl (by simp [Value.oneCell']) (by omega) (by omega) (by simp; omega) ?_; intro p7 c7 w7 hown7 hk7 hd7 _; have HO7 := Lib.hid hown7; have HK7 := Lib.hid hk7; have HT7 := Lib.hid (own_apart ((HI.out.keep HK2.out (fun _ _ => id)).keep (S := None) ((Keep.refl _ _).alloc _) (fun _ _ => id)) ((HB.out.keep HK2.out (fun _ _ => id)).keep (S := None) ((Keep.refl _ _).alloc _) (fun _ _ => id)) (by decide) hk7 hd7); clear hown7 hk7 hd7)))
        go_roundw
        case rel =>
          have hrel2 : PrInv p5 c5 t0 l w.heap.size w1 (.slice p7 (k + 1) c7) (.int .i64 ((k : Int) + 1)) w7 := by
            refine ⟨k + 1, p7, c7, by simp, by omega, rfl, ?_, ?_, (HKR.out.trans ((HK2.out.alloc _).weaken (fun _ _ q => q.elim))).trans HK7.out⟩
            · rw [HSN.out, HST]; exact HT7.out
            · rw [HSN.out, HST]; have := HO7.out; rw [hblen] at this; exact this
          first | exact hrel2 | ((repeat apply Exists.intro); exact ⟨hrel2, rfl⟩)
        case measure => simp [intOf]; omega
      by_cases hk1 : fk = 1
      · subst hk1
        have htp : 0 < T.length := by omega
        obtain ⟨g, rfl, hgw⟩ := HI.out.row intEnc_len htp
        have hm := Nat.mod_lt fa.toNat (show 0 < t0.length by omega)
        have q7 := tmod_nat hf0 t0.length
        have q9 : ((t0.length : Int) == 0) = false := by rw [beq_eq_false_iff_ne]; omega
        have HM : Hid (fa.toNat % T.length = fa.toNat % t0.length) := Lib.hid (by rw [hlen])
        generalize hmm : fa.toNat % t0.length = m at *
        obtain ⟨q5, q6⟩ := own_cell (HI.out.keep HK2.out (fun _ _ => id)) (show m < T.length by omega)
        have hv := HIN.out (T.getD m 0) (List.mem_of_getElem? (getD_at (show m < T.length by omega)))
        have HV : Hid (T.getD m 0 = T.getD (fa.toNat % T.length) 0) := Lib.hid (by rw [HM.out])
        generalize hvv : T.getD m 0 = v at *
        have HVV := Lib.hid hvv
        clear hvv hmm
        have hsz0 : 0 < t0.length := by omega
        have hpc := predict_calls (some ⟨g, 0, none⟩) T c5 fa w2 (HI.out.keep HK2.out (fun _ _ => id) |>.reads intEnc_len).2.2.2.1 htp (by omega) hf0 (by omega)
        rw [HM.out, HVV.out, hlen] at hpc
        have HPC := Lib.hid hpc
        clear hpc
        by_cases h2 : 2 ≤ v
        · have HST : prStep T ⟨fa, fs, 1⟩ = (T.set m (after v true), false) := by
            unfold prStep
            rw [if_pos ⟨by omega, rfl⟩]
            rw [← HV.out, HM.out]
            simp [h2]
          have h3 : decide (2 ≤ v) = _ := (by first | exact decide_eq_true h2 | exact decide_eq_false h2)
          go_wp2_with (first
            | (go_at_call 23; go_loud (refine HPC.out.mono ?_; rintro e w3 ⟨rfl, hw⟩; subst w3))
            | (go_at_call 24; go_loud (refine (after_calls v true w2 (by omega) (by omega)).mono ?_; rintro e w3 ⟨rfl, hw⟩; subst w3))
            | (at_builtin; go_loud (generalize hw3 : World.setCell _ _ _ = w3; have hz3 : w2.heap.size = w3.heap.size := (by rw [← hw3]; simp [World.setCell]); have ho3 : Own intEnc 1 3 w.heap.size w3 (.slice (some ⟨g, 0, none⟩) t0.length c5) (T.set m (after v true)) := (by rw [← hw3]; exact own_set (HI.out.keep HK2.out (fun _ _ => id)) (by omega) _); have hk3 : Keep (· = g) w2 w3 := (by rw [← hw3]; exact Keep.setCell (S := (· = g)) (Keep.refl (· = g) w2) (.inl rfl) _); have hb3 : Own boolEnc 1 4 w.heap.size w3 (.slice q k cq) B := ((HB.out.keep HK2.out (fun _ _ => id)).keep hk3 (fun g' h1 h2 => by subst h2; exact (HI.out.typed rfl).ne (HB.out.typed h1) (by decide) rfl)); have HO3 := Lib.hid ho3; have HK3 := Lib.hid hk3; have HB3 := Lib.hid hb3; have hs3 := hk3.size; clear hw3 ho3 hk3 hb3; refine wpList_pushAt rfl _ _ 46 rfl w.heap.size _ ib _ 1 Try.underlying46 hib hb0 hb1 hb2 rfl (by decide) boolEnc_len (.slice q k cq) B rfl (HB3.out.keep (S := None) ((Keep.refl _ _).alloc _) (fun _ _ => id)) false w2.heap.size 1 rfl _ (alloc_at hz3) rfl rfl (by simp [Value.oneCell']) (by omega) (by omega) (by simp; omega) ?_; intro p7 c7 w7 hown7 hk7 hd7 _; have HO7 := Lib.hid hown7; have HK7 := Lib.hid hk7; have HT7 := Lib.hid (own_apart (HO3.out.keep (S := None) ((Keep.refl _ _).alloc _) (fun _ _ => id)) (HB3.out.keep (S := None) ((Keep.refl _ _).alloc _) (fun _ _ => id)) (by decide) hk7 hd7); clear hown7 hk7 hd7)))
          go_roundw
          case rel =>
            have hk8 : Keep (w.heap.size ≤ ·) w2 w3 := HK3.out.weaken (fun k _ h => by have h' : k = g := h; show w.heap.size ≤ k; omega)
            have hk9 : Keep (w.heap.size ≤ ·) w1 w7 := ((HKR.out.trans (HK2.out.weaken (fun _ _ q => q.elim))).trans (hk8.alloc _)).trans HK7.out
            have hrel2 : PrInv (some ⟨g, 0, none⟩) c5 t0 l w.heap.size w1 (.slice p7 (k + 1) c7) (.int .i64 ((k : Int) + 1)) w7 := by
              refine ⟨k + 1, p7, c7, by simp, by omega, rfl, ?_, ?_, hk9⟩
              · rw [HSN.out, HST]; exact HT7.out
              · rw [HSN.out, HST]; have := HO7.out; rw [hblen] at this; exact this
            first | exact hrel2 | ((repeat apply Exists.intro); exact ⟨hrel2, rfl⟩)
          case measure => simp [intOf]; omega
        · have HST : prStep T ⟨fa, fs, 1⟩ = (T.set m (after v true), true) := by
            unfold prStep
            rw [if_pos ⟨by omega, rfl⟩]
            rw [← HV.out, HM.out]
            simp [h2]
          have h3 : decide (2 ≤ v) = _ := (by first | exact decide_eq_true h2 | exact decide_eq_false h2)
          go_wp2_with (first
            | (go_at_call 23; go_loud (refine HPC.out.mono ?_; rintro e w3 ⟨rfl, hw⟩; subst w3))
            | (go_at_call 24; go_loud (refine (after_calls v true w2 (by omega) (by omega)).mono ?_; rintro e w3 ⟨rfl, hw⟩; subst w3))
            | (at_builtin; go_loud (generalize hw3 : World.setCell _ _ _ = w3; have hz3 : w2.heap.size = w3.heap.size := (by rw [← hw3]; simp [World.setCell]); have ho3 : Own intEnc 1 3 w.heap.size w3 (.slice (some ⟨g, 0, none⟩) t0.length c5) (T.set m (after v true)) := (by rw [← hw3]; exact own_set (HI.out.keep HK2.out (fun _ _ => id)) (by omega) _); have hk3 : Keep (· = g) w2 w3 := (by rw [← hw3]; exact Keep.setCell (S := (· = g)) (Keep.refl (· = g) w2) (.inl rfl) _); have hb3 : Own boolEnc 1 4 w.heap.size w3 (.slice q k cq) B := ((HB.out.keep HK2.out (fun _ _ => id)).keep hk3 (fun g' h1 h2 => by subst h2; exact (HI.out.typed rfl).ne (HB.out.typed h1) (by decide) rfl)); have HO3 := Lib.hid ho3; have HK3 := Lib.hid hk3; have HB3 := Lib.hid hb3; have hs3 := hk3.size; clear hw3 ho3 hk3 hb3; refine wpList_pushAt rfl _ _ 46 rfl w.heap.size _ ib _ 1 Try.underlying46 hib hb0 hb1 hb2 rfl (by decide) boolEnc_len (.slice q k cq) B rfl (HB3.out.keep (S := None) ((Keep.refl _ _).alloc _) (fun _ _ => id)) true w2.heap.size 1 rfl _ (alloc_at hz3) rfl rfl (by simp [Value.oneCell']) (by omega) (by omega) (by simp; omega) ?_; intro p7 c7 w7 hown7 hk7 hd7 _; have HO7 := Lib.hid hown7; have HK7 := Lib.hid hk7; have HT7 := Lib.hid (own_apart (HO3.out.keep (S := None) ((Keep.refl _ _).alloc _) (fun _ _ => id)) (HB3.out.keep (S := None) ((Keep.refl _ _).alloc _) (fun _ _ => id)) (by decide) hk7 hd7); clear hown7 hk7 hd7)))
          go_roundw
          case rel =>
            have hk8 : Keep (w.heap.size ≤ ·) w2 w3 := HK3.out.weaken (fun k _ h => by have h' : k = g := h; show w.heap.size ≤ k; omega)
            have hk9 : Keep (w.heap.size ≤ ·) w1 w7 := ((HKR.out.trans (HK2.out.weaken (fun _ _ q => q.elim))).trans (hk8.alloc _)).trans HK7.out
            have hrel2 : PrInv (some ⟨g, 0, none⟩) c5 t0 l w.heap.size w1 (.slice p7 (k + 1) c7) (.int .i64 ((k : Int) + 1)) w7 := by
              refine ⟨k + 1, p7, c7, by simp, by omega, rfl, ?_, ?_, hk9⟩
              · rw [HSN.out, HST]; exact HT7.out
              · rw [HSN.out, HST]; have := HO7.out; rw [hblen] at this; exact this
            first | exact hrel2 | ((repeat apply Exists.intro); exact ⟨hrel2, rfl⟩)
          case measure => simp [intOf]; omega
      by_cases hk2 : fk = 2
      · subst hk2
        have htp : 0 < T.length := by omega
        obtain ⟨g, rfl, hgw⟩ := HI.out.row intEnc_len htp
        have hm := Nat.mod_lt fa.toNat (show 0 < t0.length by omega)
        have q7 := tmod_nat hf0 t0.length
        have q9 : ((t0.length : Int) == 0) = false := by rw [beq_eq_false_iff_ne]; omega
        have HM : Hid (fa.toNat % T.length = fa.toNat % t0.length) := Lib.hid (by rw [hlen])
        generalize hmm : fa.toNat % t0.length = m at *
        obtain ⟨q5, q6⟩ := own_cell (HI.out.keep HK2.out (fun _ _ => id)) (show m < T.length by omega)
        have hv := HIN.out (T.getD m 0) (List.mem_of_getElem? (getD_at (show m < T.length by omega)))
        have HV : Hid (T.getD m 0 = T.getD (fa.toNat % T.length) 0) := Lib.hid (by rw [HM.out])
        generalize hvv : T.getD m 0 = v at *
        have HVV := Lib.hid hvv
        clear hvv hmm
        have hsz0 : 0 < t0.length := by omega
        have hpc := predict_calls (some ⟨g, 0, none⟩) T c5 fa w2 (HI.out.keep HK2.out (fun _ _ => id) |>.reads intEnc_len).2.2.2.1 htp (by omega) hf0 (by omega)
        rw [HM.out, HVV.out, hlen] at hpc
        have HPC := Lib.hid hpc
        clear hpc
        by_cases h2 : 2 ≤ v
        · have HST : prStep T ⟨fa, fs, 2⟩ = (T.set m (after v false), true) := by
            unfold prStep
            rw [if_pos ⟨by omega, rfl⟩]
            rw [← HV.out, HM.out]
            simp [h2]
          have h3 : decide (2 ≤ v) = _ := (by first | exact decide_eq_true h2 | exact decide_eq_false h2)
          go_wp2_with (first
            | (go_at_call 23; go_loud (refine HPC.out.mono ?_; rintro e w3 ⟨rfl, hw⟩; subst w3))
            | (go_at_call 24; go_loud (refine (after_calls v false w2 (by omega) (by omega)).mono ?_; rintro e w3 ⟨rfl, hw⟩; subst w3))
            | (at_builtin; go_loud (generalize hw3 : World.setCell _ _ _ = w3; have hz3 : w2.heap.size = w3.heap.size := (by rw [← hw3]; simp [World.setCell]); have ho3 : Own intEnc 1 3 w.heap.size w3 (.slice (some ⟨g, 0, none⟩) t0.length c5) (T.set m (after v false)) := (by rw [← hw3]; exact own_set (HI.out.keep HK2.out (fun _ _ => id)) (by omega) _); have hk3 : Keep (· = g) w2 w3 := (by rw [← hw3]; exact Keep.setCell (S := (· = g)) (Keep.refl (· = g) w2) (.inl rfl) _); have hb3 : Own boolEnc 1 4 w.heap.size w3 (.slice q k cq) B := ((HB.out.keep HK2.out (fun _ _ => id)).keep hk3 (fun g' h1 h2 => by subst h2; exact (HI.out.typed rfl).ne (HB.out.typed h1) (by decide) rfl)); have HO3 := Lib.hid ho3; have HK3 := Lib.hid hk3; have HB3 := Lib.hid hb3; have hs3 := hk3.size; clear hw3 ho3 hk3 hb3; refine wpList_pushAt rfl _ _ 46 rfl w.heap.size _ ib _ 1 Try.underlying46 hib hb0 hb1 hb2 rfl (by decide) boolEnc_len (.slice q k cq) B rfl (HB3.out.keep (S := None) ((Keep.refl _ _).alloc _) (fun _ _ => id)) true w2.heap.size 1 rfl _ (alloc_at hz3) rfl rfl (by simp [Value.oneCell']) (by omega) (by omega) (by simp; omega) ?_; intro p7 c7 w7 hown7 hk7 hd7 _; have HO7 := Lib.hid hown7; have HK7 := Lib.hid hk7; have HT7 := Lib.hid (own_apart (HO3.out.keep (S := None) ((Keep.refl _ _).alloc _) (fun _ _ => id)) (HB3.out.keep (S := None) ((Keep.refl _ _).alloc _) (fun _ _ => id)) (by decide) hk7 hd7); clear hown7 hk7 hd7)))
          go_roundw
          case rel =>
            have hk8 : Keep (w.heap.size ≤ ·) w2 w3 := HK3.out.weaken (fun k _ h => by have h' : k = g := h; show w.heap.size ≤ k; omega)
            have hk9 : Keep (w.heap.size ≤ ·) w1 w7 := ((HKR.out.trans (HK2.out.weaken (fun _ _ q => q.elim))).trans (hk8.alloc _)).trans HK7.out
            have hrel2 : PrInv (some ⟨g, 0, none⟩) c5 t0 l w.heap.size w1 (.slice p7 (k + 1) c7) (.int .i64 ((k : Int) + 1)) w7 := by
              refine ⟨k + 1, p7, c7, by simp, by omega, rfl, ?_, ?_, hk9⟩
              · rw [HSN.out, HST]; exact HT7.out
              · rw [HSN.out, HST]; have := HO7.out; rw [hblen] at this; exact this
            first | exact hrel2 | ((repeat apply Exists.intro); exact ⟨hrel2, rfl⟩)
          case measure => simp [intOf]; omega
        · have HST : prStep T ⟨fa, fs, 2⟩ = (T.set m (after v false), false) := by
            unfold prStep
            rw [if_pos ⟨by omega, rfl⟩]
            rw [← HV.out, HM.out]
            simp [h2]
          have h3 : decide (2 ≤ v) = _ := (by first | exact decide_eq_true h2 | exact decide_eq_false h2)
          go_wp2_with (first
            | (go_at_call 23; go_loud (refine HPC.out.mono ?_; rintro e w3 ⟨rfl, hw⟩; subst w3))
            | (go_at_call 24; go_loud (refine (after_calls v false w2 (by omega) (by omega)).mono ?_; rintro e w3 ⟨rfl, hw⟩; subst w3))
            | (at_builtin; go_loud (generalize hw3 : World.setCell _ _ _ = w3; have hz3 : w2.heap.size = w3.heap.size := (by rw [← hw3]; simp [World.setCell]); have ho3 : Own intEnc 1 3 w.heap.size w3 (.slice (some ⟨g, 0, none⟩) t0.length c5) (T.set m (after v false)) := (by rw [← hw3]; exact own_set (HI.out.keep HK2.out (fun _ _ => id)) (by omega) _); have hk3 : Keep (· = g) w2 w3 := (by rw [← hw3]; exact Keep.setCell (S := (· = g)) (Keep.refl (· = g) w2) (.inl rfl) _); have hb3 : Own boolEnc 1 4 w.heap.size w3 (.slice q k cq) B := ((HB.out.keep HK2.out (fun _ _ => id)).keep hk3 (fun g' h1 h2 => by subst h2; exact (HI.out.typed rfl).ne (HB.out.typed h1) (by decide) rfl)); have HO3 := Lib.hid ho3; have HK3 := Lib.hid hk3; have HB3 := Lib.hid hb3; have hs3 := hk3.size; clear hw3 ho3 hk3 hb3; refine wpList_pushAt rfl _ _ 46 rfl w.heap.size _ ib _ 1 Try.underlying46 hib hb0 hb1 hb2 rfl (by decide) boolEnc_len (.slice q k cq) B rfl (HB3.out.keep (S := None) ((Keep.refl _ _).alloc _) (fun _ _ => id)) false w2.heap.size 1 rfl _ (alloc_at hz3) rfl rfl (by simp [Value.oneCell']) (by omega) (by omega) (by simp; omega) ?_; intro p7 c7 w7 hown7 hk7 hd7 _; have HO7 := Lib.hid hown7; have HK7 := Lib.hid hk7; have HT7 := Lib.hid (own_apart (HO3.out.keep (S := None) ((Keep.refl _ _).alloc _) (fun _ _ => id)) (HB3.out.keep (S := None) ((Keep.refl _ _).alloc _) (fun _ _ => id)) (by decide) hk7 hd7); clear hown7 hk7 hd7)))
          go_roundw
          case rel =>
            have hk8 : Keep (w.heap.size ≤ ·) w2 w3 := HK3.out.weaken (fun k _ h => by have h' : k = g := h; show w.heap.size ≤ k; omega)
            have hk9 : Keep (w.heap.size ≤ ·) w1 w7 := ((HKR.out.trans (HK2.out.weaken (fun _ _ q => q.elim))).trans (hk8.alloc _)).trans HK7.out
            have hrel2 : PrInv (some ⟨g, 0, none⟩) c5 t0 l w.heap.size w1 (.slice p7 (k + 1) c7) (.int .i64 ((k : Int) + 1)) w7 := by
              refine ⟨k + 1, p7, c7, by simp, by omega, rfl, ?_, ?_, hk9⟩
              · rw [HSN.out, HST]; exact HT7.out
              · rw [HSN.out, HST]; have := HO7.out; rw [hblen] at this; exact this
            first | exact hrel2 | ((repeat apply Exists.intro); exact ⟨hrel2, rfl⟩)
          case measure => simp [intOf]; omega
      have e1 : (fk == 1) = false := by simpa using hk1
      have e2 : (fk == 2) = false := by simpa using hk2
      have HST : prStep T ⟨fa, fs, fk⟩ = (T, false) := by unfold prStep isBr; rw [if_neg]; simp; intro _; exact ⟨hk1, hk2⟩
      go_wp2_with ((at_builtin; go_loud (refine wpList_pushAt rfl _ _ 46 rfl w.heap.size _ ib _ 1 Try.underlying46 hib hb0 hb1 hb2 rfl (by decide) boolEnc_len (.slice q k cq) B rfl ((HB.out.keep HK2.out (fun _ _ => id)).keep (S := None) ((Keep.refl _ _).alloc _) (fun _ _ => id)) (false) w2.heap.size 1 rfl _ (heap_alloc_new _ _) rfl rfl (by simp [Value.oneCell']) (by omega) (by omega) (by simp; omega) ?_; intro p7 c7 w7 hown7 hk7 hd7 _; have HO7 := Lib.hid hown7; have HK7 := Lib.hid hk7; have HT7 := Lib.hid (own_apart ((HI.out.keep HK2.out (fun _ _ => id)).keep (S := None) ((Keep.refl _ _).alloc _) (fun _ _ => id)) ((HB.out.keep HK2.out (fun _ _ => id)).keep (S := None) ((Keep.refl _ _).alloc _) (fun _ _ => id)) (by decide) hk7 hd7); clear hown7 hk7 hd7)))
      go_roundw
      case rel =>
        have hrel2 : PrInv p5 c5 t0 l w.heap.size w1 (.slice p7 (k + 1) c7) (.int .i64 ((k : Int) + 1)) w7 := by
          refine ⟨k + 1, p7, c7, by simp, by omega, rfl, ?_, ?_, (HKR.out.trans ((HK2.out.alloc _).weaken (fun _ _ q => q.elim))).trans HK7.out⟩
          · rw [HSN.out, HST]; exact HT7.out
          · rw [HSN.out, HST]; have := HO7.out; rw [hblen] at this; exact this
        first | exact hrel2 | ((repeat apply Exists.intro); exact ⟨hrel2, rfl⟩)
      case measure => simp [intOf]; omega
    · obtain rfl : k = l.length := by omega
      have HO2 := Lib.hid hboo
      have HKR := Lib.hid hkr
      clear hboo hkr
      go_wp2_with (fail)
      go_ret
      have hb := HO2.out
      rw [List.take_length, ← HW.out] at hb
      have hlw := wrongs_len n l
      refine ⟨q, cq, by rw [hlw]; rfl, by rw [hlw]; exact hb, HK1.out.andThen HKR.out (fun g h1 h2 => by have h3 : w.heap.size ≤ g := h2; omega)⟩

end Go.Proofs.Ytpdnfekhfagfkaa
