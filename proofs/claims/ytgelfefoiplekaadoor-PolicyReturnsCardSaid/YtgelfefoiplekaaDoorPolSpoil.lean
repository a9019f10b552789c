/-
  Codes.Spoilt: some bytes with one change.
-/
import Derived.Test.YtgelfefoiplekaaDoorPolOdd
import Derived.Test.YtgelfefoiplekaaDoorAppendAll
import Derived.Laws.BytesArg
namespace Go.Proofs.YtgelfefoiplekaaDoor
open Go.RowKit PN

theorem Tryd.infoByte : (Tryd.prog.info? 5).map (fun i => (i.zero, i.size, i.bytes)) = some (some (.int .u8 0), 1, 1) := by kernel_rfl

def SpoiltPost (b bl n : Nat) (w : World) (e : Ending) (w' : World) : Prop :=
  ∃ (p : Option Addr) (c : Nat) (xs : List Int) (r : List Int), e = .returned (.slice p xs.length c) ∧ SliceV byteEnc 1 w' p xs ∧ xs.length ≤ n + 1 ∧ CodesAt w' b bl r ∧ Keep (· = b) w w'

theorem Own.take {α : Type} {enc : α → List Value} {size : Nat} (hsz : ∀ x, (enc x).length = size) {w : World} {base : Nat} {e : TypeId} {g cap : Nat} {xs : List α} (h : Own enc size e base w (.slice (some ⟨g, 0, none⟩) xs.length cap) xs) {n : Nat} (hn : n ≤ xs.length) :
    Own enc size e base w (.slice (some ⟨g, 0, none⟩) n cap) (xs.take n) := by
  have hl : (xs.take n).length = n := by rw [List.length_take]; omega
  refine ⟨by rw [flat_len hsz], ?_⟩
  rcases h.2 with ⟨hn', -⟩ | ⟨g', cap', cur, hv, hb, hg, h1, h2, h3, h4⟩
  · cases hn'
  · cases hv
    refine .inr ⟨g, cap, cur, by rw [hl], hb, hg, by rw [hl]; omega, h2, h3, ?_⟩
    have h5 : ((xs.take n).flatMap enc) = (xs.flatMap enc).take (n * size) := by
      have key : ∀ (ys : List α) (n : Nat), n ≤ ys.length → (ys.take n).flatMap enc = (ys.flatMap enc).take (n * size) := by
        intro ys
        induction ys with
        | nil => intro n hn; simp
        | cons y ys ih =>
          intro n hn
          cases n with
          | zero => simp
          | succ n =>
            rw [List.take_succ_cons, List.flatMap_cons, List.flatMap_cons, ih n (by simpa using hn), List.take_append]
            rw [hsz, Nat.succ_mul, show n * size + size - size = n * size by omega, List.take_of_length_le (l := enc y) (by rw [hsz]; omega)]
      exact key xs n hn
    rw [h5, ← h4, List.take_take, hl, Nat.min_eq_left (Nat.mul_le_mul_right _ hn)]

theorem SliceV.dropAt {α : Type} {enc : α → List Value} {size : Nat} {w : World} {b off : Nat} {xs : List α} (h : SlAt enc size w b off xs) (n : Nat) : SliceV enc size w (some ⟨b, off + n * size, none⟩) (xs.drop n) := by
  refine .inr ⟨b, _, rfl, fun i x hx j u hu => ?_⟩
  rw [List.getElem?_drop] at hx
  have := h (n + i) x hx j u hu
  rw [Nat.add_mul, ← Nat.add_assoc] at this
  exact this

def Is8 (_ : World) (v : Value) : Prop := ∃ m, v = .int .u8 m
theorem is8_keep (S : Nat → Prop) : ∀ w w' v, Keep S w w' → Is8 w v → Is8 w' v := fun _ _ _ _ h => h

set_option maxRecDepth 100000 in
set_option maxHeartbeats 4000000 in
theorem spoilt_calls (b bl : Nat) (r : List Int) (q : Option Addr) (bs : List Int) (cap : Nat) (w : World) (h : CodesAt w b bl r) (hq : SliceV byteEnc 1 w q bs) (hqb : OffS (· = b) q) (n1 : 1 ≤ bs.length) (n2 : bs.length ≤ 100000) (hc : bs.length ≤ cap) (hc2 : cap ≤ maxLen) :
    Calls Tryd.prog 16 #[.pointer (some ⟨b, 0, none⟩), .slice q bs.length cap] w (SpoiltPost b bl bs.length w) := by
  obtain ⟨i5, hi5, hv0, hv1, hv2⟩ := info_parts Tryd.infoByte
  have HQ := Lib.hid hq
  have HQO := Lib.hid hqb
  have HC := Lib.hid h
  have hbw := h.lt
  clear hq h
  go_enter Tryd.func16, Tryd.ntmps16
  go_upto_region 2 with (at_builtin; go_loud (refine wpList_copyAll rfl _ _ 22 rfl 5 i5 _ 1 Tryd.underlying22 hi5 hv0 hv1 hv2 rfl (by decide) byteEnc_len rfl q bs cap rfl HQ.out (by intro x u hu; simp [byteEnc] at hu; subst hu; rfl) (by omega) (by omega) ?_; intro v2 w2 hown2 hk2; have HOWN2 := Lib.hid hown2; have HK2 := Lib.hid hk2; clear hown2 hk2))
  obtain ⟨p2, c2, rfl, hcc1, hcc2, -, hfr⟩ := HOWN2.out.slice byteEnc_len
  obtain ⟨g, rfl, hg⟩ := HOWN2.out.row byteEnc_len (by omega)
  have HC2 := Lib.hid (HC.out.same HK2.out)
  have hn0 : ((bs.length : Int) == 0) = false := by rw [beq_eq_false_iff_ne]; omega
  clear hfr
  go_wp2_with (fail)
  refine (next_in b bl _ _ _ HC2.out (by omega) (by omega)).mono ?_
  rintro e w3 ⟨rfl, hc3, hk3, a0, a1⟩
  generalize next bs.length r = q1 at *
  obtain ⟨A, r3⟩ := q1
  simp only at hc3 a0 a1
  obtain ⟨j, rfl⟩ : ∃ j : Nat, A = j := ⟨A.toNat, by omega⟩
  have HC3 := Lib.hid hc3
  have HK3 := Lib.hid ((HK2.out.weaken (T := (· = b)) (fun _ _ q => q.elim)).trans hk3)
  have HOWN3 := Lib.hid (HOWN2.out.keepOld hk3 (fun i hi => by omega))
  clear hc3 hk3
  go_wp2_with (fail)
  refine (next_in b bl _ _ _ HC3.out (by omega) (by omega)).mono ?_
  rintro e w4 ⟨rfl, hc4, hk4, b0, b1⟩
  generalize next 4 r3 = q2 at *
  obtain ⟨M, r4⟩ := q2
  simp only at hc4 b0 b1
  have HC4 := Lib.hid hc4
  have HK4 := Lib.hid (HK3.out.trans hk4)
  have HOWN4 := Lib.hid (HOWN3.out.keepOld hk4 (fun i hi => by omega))
  have hjn : j < bs.length := by omega
  have hb4 := hc4.lt
  have hgw : g < w4.heap.size := (World.ownsRow.lt HOWN4.out g rfl).2
  clear hc4 hk4 a0 a1
  by_cases hM0 : M = 0
  · subst hM0
    obtain ⟨qb, qo, rfl, hsl⟩ : ∃ qb qo, q = some ⟨qb, qo, none⟩ ∧ SlAt byteEnc 1 w qb qo bs := by
      rcases HQ.out with h | h
      · rw [h] at n1; simp at n1
      · exact h
    go_wp2_with (fail)
    have HQB : Hid (¬ qb = b) := Lib.hid (HQO.out _ rfl)
    obtain ⟨pa, hpa⟩ : ∃ pa : Option Addr, pa = if cap = j + 1 then some ⟨qb, qo, none⟩ else some ⟨qb, qo + (j + 1), none⟩ := ⟨_, rfl⟩
    have hz1 : IntKind.i64.wrap ((j : Int) + 1) = j + 1 := IntWalk.i64_in _ (by omega)
    have hz2 : ¬ c2 < j := by omega
    have hz3 : (0 : Int) ≤ (j : Int) + 1 := by omega
    have hz4 : (j : Int) + 1 ≤ bs.length := by omega
    refine region_kindsG_tail None [.is (.slice (some ⟨g, 0, none⟩) bs.length c2), .is (.int .i64 j), .is (.slice (some ⟨g, 0, none⟩) j c2), .is (.slice (some ⟨qb, qo, none⟩) bs.length cap), .is (.int .i64 j), .is (.int .i64 (j + 1)), .is (.slice pa (bs.length - (j + 1)) (cap - (j + 1))), .any, .any]
      (fun w' => Keep None w4 w') 51 7 (by kernel_rfl) (by decide) (by kernel_rfl) (by kernel_rfl) (by kernel_rfl) rfl (by kernel_rfl) (Keep.refl _ _).drew ?_ ?_
    · refine ⟨?_, ?_, ?_, ?_, ?_, ?_, ?_, trivial⟩
      · exact st_free rfl (st_ev1 (dep_f (t := 5) rfl rfl) _ (by intro a w' h1 hI; go_simp) rfl)
      · exact st_free rfl (st_ev1 (dep_f (t := 6) rfl rfl) _ (by intro a w' h1 hI; go_simp) rfl)
      · exact st_free rfl (st_ev2 (dep_e 0 rfl rfl rfl) (dep_e 1 rfl rfl rfl) _ (by intro a w' h1 h2 hI; go_simp) rfl)
      · exact st_free rfl (st_ev1 (dep_f (t := 1) rfl rfl) _ (by intro a w' h1 hI; go_simp) rfl)
      · exact st_free rfl (st_ev1 (dep_f (t := 6) rfl rfl) _ (by intro a w' h1 hI; go_simp) rfl)
      · exact st_free rfl (st_ev1 (dep_e 4 rfl rfl rfl) _ (by intro a w' h1 hI; go_simp) rfl)
      · exact st_free rfl (st_ev2 (dep_e 3 rfl rfl rfl) (dep_e 5 rfl rfl rfl) _ (by intro a w' h1 h2 hI; rw [hpa]; go_simp) rfl)
    intro f' w5 hkinds hI
    have k26 : f' 26 = .slice (some ⟨g, 0, none⟩) j c2 := hkinds 2 _ 26 (by omega) rfl rfl
    have k30 : f' 30 = .slice pa (bs.length - (j + 1)) (cap - (j + 1)) := hkinds 6 _ 30 (by omega) rfl rfl
    rw [← List.length_drop] at k30
    simp only [putsOf, Act.put, List.take_succ_cons, List.take_zero, List.drop_succ_cons, List.drop_zero, List.setIfInBounds_toArray, List.set_cons_zero, List.set_cons_succ, k26, k30]
    clear hkinds k26 k30
    have HOWN5 := Lib.hid ((HOWN4.out.keep hI (fun _ _ => id)).take byteEnc_len (n := j) (by omega))
    have HKI := Lib.hid hI
    have HC5 := Lib.hid (HC4.out.same hI)
    have HPA : Hid (SliceV byteEnc 1 w5 pa (bs.drop (j + 1))) := Lib.hid (by
      have hs5 : SlAt byteEnc 1 w5 qb qo bs := ((hsl.keep HK4.out (fun hh => HQB.out hh)).keep hI id)
      rw [hpa]
      by_cases hcj : cap = j + 1
      · rw [if_pos hcj]
        exact .inl (List.drop_eq_nil_of_le (by omega))
      · rw [if_neg hcj]
        have := SliceV.dropAt hs5 (j + 1)
        rwa [Nat.mul_one] at this)
    have hz5 := hI.size
    clear hI hpa hz1 hz2 hz3 hz4 hsl
    go_wp2_with (at_builtin; go_loud (refine wpList_appendAll rfl _ _ 22 rfl w.heap.size _ i5 _ 1 Tryd.underlying22 hi5 hv0 hv1 hv2 rfl (by decide) byteEnc_len (.slice (some ⟨g, 0, none⟩) j c2) (bs.take j) rfl HOWN5.out pa (bs.drop (j + 1)) (cap - (j + 1)) rfl HPA.out (by intro x u hu; simp [byteEnc] at hu; subst hu; rfl) (by simp; omega) (by simp; omega) (by omega) ?_; intro p7 c7 w7 hown7 hk7 hb7; have HO7 := Lib.hid hown7; have HK7 := Lib.hid hk7; clear hown7 hk7 hb7))
    go_ret
    refine ⟨p7, c7, bs.take j ++ bs.drop (j + 1), r4, by simp, ?_, by simp; omega, HC5.out.keep HK7.out (fun h => by have h3 : g = b := (by simpa [Value.ownBlock] using h); omega) (fun h => by have h3 : g = bl := (by simpa [Value.ownBlock] using h); omega), HK4.out.andThen ((HKI.out.weaken (T := fun k => (Value.slice (some ⟨g, 0, none⟩) j c2).ownBlock = some k) (fun _ _ q => q.elim)).trans HK7.out) (fun k h1 h2 => by have h3 : g = k := (by simpa [Value.ownBlock] using h2); omega)⟩
    have := HO7.out.slice byteEnc_len
    obtain ⟨p8, c8, he8, -, -, hs8, -⟩ := this
    rw [List.length_append] at he8
    cases he8
    exact hs8
  · by_cases hM1 : M = 1
    · subst hM1
      go_wp2_with (fail)
      refine (next_in b bl _ _ _ HC4.out (by omega) (by omega)).mono ?_
      rintro e w5 ⟨rfl, hc5, hk5, d0, d1⟩
      generalize next 256 r4 = q5 at *
      obtain ⟨Z, r5⟩ := q5
      simp only at hc5 d0 d1
      have HC5 := Lib.hid hc5
      have HK5 := Lib.hid (HK4.out.trans hk5)
      have HOWN5 := Lib.hid (HOWN4.out.keepOld hk5 (fun i hi => by omega))
      have hz5 := hk5.size
      clear hc5 hk5
      obtain ⟨Y, hY⟩ : ∃ Y, Y = IntKind.u8.wrap Z := ⟨_, rfl⟩
      go_wp2_with (at_builtin; go_loud (refine wpList_pushAt rfl _ _ 22 rfl w.heap.size _ i5 _ 1 Tryd.underlying22 hi5 hv0 hv1 hv2 rfl (by decide) byteEnc_len (.slice (some ⟨g, 0, none⟩) bs.length c2) bs rfl (HOWN5.out.keep (S := None) ((Keep.refl _ _).alloc _) (fun _ _ => id)) Z w5.heap.size _ rfl _ (heap_alloc_new _ _) (by simp [byteEnc]) rfl (by simp [Value.oneCell']) (by omega) (by omega) (by simp; omega) ?_; intro p7 c7 w7 hown7 hk7 hk7' hb7; have HO7 := Lib.hid hown7; have HK7 := Lib.hid (show Keep (fun k => (Value.slice (some ⟨g, 0, none⟩) bs.length c2).ownBlock = some k) _ w7 from ⟨hk7.os, hk7.tape, hk7.output, hk7.size, fun k hk hs => hk7' k (fun e => hs e.symm) hk⟩); clear hown7 hk7 hk7' hb7))
      go_ret
      have hka : Keep None w5 (w5.alloc (.cells #[.int .u8 Z] 5)) := (Keep.refl _ _).alloc _
      refine ⟨p7, c7, bs ++ [Z], r5, by simp, ?_, by simp, (HC5.out.same hka).keep HK7.out (fun h => by have h3 : g = b := (by simpa [Value.ownBlock] using h); omega) (fun h => by have h3 : g = bl := (by simpa [Value.ownBlock] using h); omega), HK5.out.andThen ((hka.weaken (T := fun k => (Value.slice (some ⟨g, 0, none⟩) bs.length c2).ownBlock = some k) (fun _ _ q => q.elim)).trans HK7.out) (fun k h1 h2 => by have h3 : g = k := (by simpa [Value.ownBlock] using h2); omega)⟩
      obtain ⟨p8, c8, he8, -, -, hs8, -⟩ := HO7.out.slice byteEnc_len
      rw [List.length_append] at he8
      cases he8
      exact hs8
    · have e0 : (M == 0) = false := by simp [hM0]
      have e1 : (M == 1) = false := by simp [hM1]
      clear hM0 hM1
      obtain ⟨Y, hY⟩ : ∃ Y, bs[j]? = some Y := ⟨bs[j], by simp [hjn]⟩
      have HCELL : Hid (∀ w', Keep (· = b) w4 w' → w'.cell? ⟨g, j, none⟩ = some (.int .u8 Y)) := Lib.hid (fun w' hk => by
        have ho := HOWN4.out.keepOld hk (fun i hi => by omega)
        obtain ⟨p8, c8, he8, -, -, hs8, -⟩ := ho.slice byteEnc_len
        cases he8
        rcases hs8 with h | ⟨b', o', he, hsl⟩
        · rw [h] at n1; simp at n1
        · cases he
          have := hsl j Y hY 0 _ rfl
          simpa using this)
      have hjl : (j : Int) < bs.length := by omega
      go_wp2_with (fail)
      refine region_kindsG_tail (· = b) [.is (.slice (some ⟨g, 0, none⟩) bs.length c2), .is (.int .i64 j), .is (.pointer (some ⟨g, j, none⟩)), .is (.int .u8 Y), .is (.pointer (some ⟨b, 0, none⟩)), .sat (NumIn 0 255) (numIn_keep _ _ _), .sat (NumIn 1 256) (numIn_keep _ _ _), .sat Is8 (is8_keep _), .sat Is8 (is8_keep _), .any, .any]
        (fun w' => (∃ r, CodesAt w' b bl r) ∧ Keep (· = b) w4 w') 51 9 (by kernel_rfl) (by decide) (by kernel_rfl) (by kernel_rfl) (by kernel_rfl) rfl (by kernel_rfl) ⟨⟨_, HC4.out.same (Keep.refl _ _).drew⟩, (Keep.refl _ _).drew⟩ ?_ ?_
      · refine ⟨?_, ?_, ?_, ?_, ?_, ?_, ?_, ?_, ?_, trivial⟩
        · exact st_free rfl (st_ev1 (dep_f (t := 5) rfl rfl) _ (by intro a w' h1 hI; go_simp) rfl)
        · exact st_free rfl (st_ev1 (dep_f (t := 6) rfl rfl) _ (by intro a w' h1 hI; go_simp) rfl)
        · exact st_free rfl (st_ev2 (dep_e 0 rfl rfl rfl) (dep_e 1 rfl rfl rfl) _ (by intro a w' h1 h2 hI; go_simp) rfl)
        · exact st_free rfl (st_ev1 (dep_e 2 rfl rfl rfl) _ (by intro a w' h1 hI; have q0 := HCELL.out _ hI.2; go_simp) rfl)
        · exact st_free rfl (st_ev1 (dep_f (t := 0) rfl rfl) _ (by intro a w' h1 hI; go_simp) rfl)
        · exact st_free rfl (st_callD1 (dep_e 4 rfl rfl rfl) 23 #[.pointer (some ⟨b, 0, none⟩), .int .i64 255] (by intro a w' h1; go_simp) (by rintro w' ⟨⟨rr', hcc⟩, hI⟩; refine (next_in b bl _ rr' w' hcc (by omega) (by omega)).mono ?_; rintro e w'' ⟨rfl, a1, a2, a3, a4⟩; exact ⟨_, rfl, ⟨_, rfl, a3, a4⟩, ⟨⟨_, a1⟩, hI.trans a2⟩, a2⟩))
        · exact st_free rfl (st_evS (dep_s 5 rfl rfl rfl) (by rintro a w' ⟨mm, h1, h2, h3⟩ hI; have q0 : IntKind.i64.wrap (1 + mm) = 1 + mm := IntWalk.i64_in _ (by omega); exact ⟨.int .i64 (1 + mm), by go_simp, 1 + mm, rfl, by omega, by omega⟩))
        · exact st_free rfl (st_evS (dep_s 6 rfl rfl rfl) (by rintro a w' ⟨mm, h1, h2, h3⟩ hI; exact ⟨.int .u8 (IntKind.u8.wrap mm), by go_simp, _, rfl⟩))
        · exact st_free rfl (st_evES (dep_e 3 rfl rfl rfl) (dep_s 7 rfl rfl rfl) (by rintro a w' h1 ⟨mm, h2⟩ hI; exact ⟨.int .u8 (bits .xor .u8 Y mm), by go_simp, _, rfl⟩))
      intro f' w5 hkinds hI
      have k40 : f' 40 = .slice (some ⟨g, 0, none⟩) bs.length c2 := hkinds 0 _ 40 (by omega) rfl rfl
      have k41 : f' 41 = .int .i64 j := hkinds 1 _ 41 (by omega) rfl rfl
      obtain ⟨X, k48⟩ : Is8 w5 (f' 48) := hkinds 8 _ 48 (by omega) rfl rfl
      simp only [putsOf, Act.put, List.take_succ_cons, List.take_zero, List.drop_succ_cons, List.drop_zero, List.setIfInBounds_toArray, List.set_cons_zero, List.set_cons_succ, k40, k41, k48]
      clear hkinds k40 k41 k48
      obtain ⟨⟨r5, hc5⟩, hki⟩ := hI
      have s1 := HCELL.out _ hki
      have HOWN5 := Lib.hid (HOWN4.out.keepOld hki (fun i hi => by omega))
      have s2 : w5.frozen? ⟨g, j, none⟩ = false := own_free HOWN5.out _
      have HC5 := Lib.hid hc5
      have HKI := Lib.hid hki
      have hz5 := hki.size
      clear hc5 hki
      go_wp2_with (fail)
      go_ret
      clear s1 s2
      have hset := HOWN5.out.setField byteEnc_len hY (j := 0) (by omega) (v := .int .u8 X) (c := X) rfl
      rw [show j * 1 + 0 = j by omega] at hset
      have hk9 : Keep (· = g) w5 (w5.setCell ⟨g, j, none⟩ (.int .u8 X)) := (Keep.refl (· = g) _).setCell (p := ⟨g, j, none⟩) (.inl rfl) _
      refine ⟨some ⟨g, 0, none⟩, c2, bs.set j X, r5, by simp, ?_, by simp, HC5.out.keep hk9 (by omega) (by omega), (HK4.out.trans HKI.out).andThen hk9 (fun k h1 h2 => by have h3 : k = g := h2; omega)⟩
      obtain ⟨p8, c8, he8, -, -, hs8, -⟩ := hset.slice byteEnc_len
      rw [List.length_set] at he8
      cases he8
      exact hs8

end Go.Proofs.YtgelfefoiplekaaDoor
