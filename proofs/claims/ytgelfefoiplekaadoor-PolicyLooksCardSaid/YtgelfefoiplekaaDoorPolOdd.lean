/-
  Chapter 44: a policy with one change.
-/
import Derived.Test.YtgelfefoiplekaaDoorPolDraw
import Derived.Test.YtgelfefoiplekaaDoorOwnMore
namespace Go.Proofs.YtgelfefoiplekaaDoor
open Go.RowKit PN

/-- A policy with one change. -/
def OddPost (b bl : Nat) (w : World) (e : Ending) (w' : World) : Prop :=
  ∃ a c p r, e = .returned (polVal a c p) ∧ PolAt w' a p ∧ From w.heap.size a ∧ p.st.length ≤ c ∧ c ≤ maxLen ∧ p.st.length ≤ 9 ∧ CodesAt w' b bl r ∧ Keep (· = b) w w'

def OddCut (b bl g : Nat) (w0 : World) (w : World) : Prop :=
  ∃ p r, PBox (g + 2) w g p ∧ p.st.length ≤ 9 ∧ CodesAt w b bl r ∧ Keep (fun i => i = b ∨ i = g ∨ g + 2 ≤ i) w0 w

theorem spliceA_toArray (vs : List Value) (o : Nat) (l : List Value) (h : o + vs.length ≤ l.length) : spliceA vs o l.toArray = (l.take o ++ vs ++ l.drop (o + vs.length)).toArray := by
  rw [← Array.toList_inj, spliceA_list vs o l.toArray (by simpa using h)]

/-- A struct is stored into the middle of a block that is known whole. -/
theorem wpList_storeMid {P : Program} {ops : Array Oper} {rest : List Oper} {op : Oper} {a : Act} {w : World} {Q : Exit → Act → World → Prop} (hgd : op.guard = none) (ty : TypeId) (x y : Operand) (ho : op.op = .store ty x y)
    (g o : Nat) (hx : a.eval x = .pointer (some ⟨g, o, none⟩)) (old new : List Value) (hy : a.eval y = .agg new.toArray) (e : TypeId) (hl : o + new.length ≤ old.length) (h : w.heap[g]? = some (.cells old.toArray e (0, 0)))
    (size : Nat) (hif : (P.info? ty).map (·.size) = some size) (hnl : new.length = size) (h1 : ∀ v ∈ new, v.oneCell' = true)
    (hk : ∀ w', w'.heap[g]? = some (.cells (old.take o ++ new ++ old.drop (o + new.length)).toArray e (0, 0)) → Keep (· = g) w w' → w'.heap.size = w.heap.size → wpList P ops Q rest (a.put op.dst undef) w') : wpList P ops Q (op :: rest) a w := by
  subst hnl
  have hc : (Value.agg new.toArray).cells = new.toArray := rfl
  have ht : w.there g o (Value.agg new.toArray).cells.size := by
    intro j hj
    rw [hc] at hj
    have hj' : o + j < old.length := by simp at hj; omega
    exact ⟨by simp [World.cell?, h, hj'], by simp [World.frozen?, h]⟩
  have hrun := run_storeVar_any (P := P) w g o ty (.agg new.toArray) ht (by rw [hc]; simpa using hif) (by rw [hc]; simpa using h1)
  refine wpList_plain hgd fun K hK => ?_
  unfold Oper.wp execOp
  simp only [ho, hx, hy, Instr.storeAt, Instr.sureAddr, Sem.run_bind, Sem.run_pure, Result.andThen_ok, hrun]
  rw [hc]
  refine hK _ _ (hk _ ?_ (Keep.setCells (S := (· = g)) (.inl rfl) _ _ (Keep.refl _ _)) (size_setCells _ _ _ _))
  rw [heap_setCells _ _ _ _ h, spliceA_toArray _ _ _ hl]

theorem own_free {α : Type} {enc : α → List Value} {size : Nat} {e : TypeId} {base : Nat} {w : World} {g n cap : Nat} {xs : List α} (h : Own enc size e base w (.slice (some ⟨g, 0, none⟩) n cap) xs) (j : Nat) : w.frozen? ⟨g, j, none⟩ = false := by
  rcases h.2 with ⟨hn, -⟩ | ⟨g', cap', cur, hv, hb, hg, -⟩
  · cases hn
  · cases hv
    unfold World.frozen?
    rw [hg]
    simp

def NumIn (lo hi : Int) (_ : World) (v : Value) : Prop := ∃ m, v = .int .i64 m ∧ lo ≤ m ∧ m < hi
theorem numIn_keep (S : Nat → Prop) (lo hi : Int) : ∀ w w' v, Keep S w w' → NumIn lo hi w v → NumIn lo hi w' v := fun _ _ _ _ h => h
def Is64 (_ : World) (v : Value) : Prop := ∃ m, v = .int .i64 m ∧ i64 m
theorem is64_keep (S : Nat → Prop) : ∀ w w' v, Keep S w w' → Is64 w v → Is64 w' v := fun _ _ _ _ h => h
def StVal (_ : World) (v : Value) : Prop := ∃ m, v = .agg #[.int .i64 100, .int .i64 m]
theorem stVal_keep (S : Nat → Prop) : ∀ w w' v, Keep S w w' → StVal w v → StVal w' v := fun _ _ _ _ h => h
def StMade (lo : Nat) (w : World) (v : Value) : Prop := ∃ g m, v = .slice (some ⟨g, 0, none⟩) 1 1 ∧ lo ≤ g ∧ w.heap[g]? = some (.cells #[.int .i64 100, .int .i64 m] 45 (0, 0))
theorem stMade_keep (b lo : Nat) (hb : b < lo) : ∀ w w' v, Keep (· = b) w w' → StMade lo w v → StMade lo w' v :=
  fun _ _ _ h ⟨g, m, h1, h2, h3⟩ => ⟨g, m, h1, h2, h.obj h3 (by omega)⟩

set_option maxRecDepth 100000 in
set_option maxHeartbeats 8000000 in
theorem odd_calls (b bl : Nat) (r : List Int) (a : Option Addr) (c : Nat) (p : Pol) (w : World) (h : CodesAt w b bl r) (hp : PolAt w a p) (n1 : 1 ≤ p.st.length) (n8 : p.st.length ≤ 8) :
    Calls Tryd.prog 17 #[.pointer (some ⟨b, 0, none⟩), polVal a c p] w (OddPost b bl w) := by
  have HBX : Hid (∃ W : World, Keep None w W ∧ W = (w.alloc (.cells #[.slice a p.st.length c, .int .i64 p.num, .int .i64 p.den, .int .i64 p.margin] 30)).alloc (.cells #[.slice none 0 0, .int .i64 0, .int .i64 0, .int .i64 0] 30) ∧ W.heap[w.heap.size]? = some (.cells #[.slice a p.st.length c, .int .i64 p.num, .int .i64 p.den, .int .i64 p.margin] 30 (0, 0)) ∧ W.heap[w.heap.size + 1]? = some (.cells #[.slice none 0 0, .int .i64 0, .int .i64 0, .int .i64 0] 30 (0, 0)) ∧ W.heap.size = w.heap.size + 2) :=
    Lib.hid ⟨_, ((Keep.refl None w).alloc _).alloc _, rfl, ((Keep.refl None _).alloc _).obj (heap_alloc_new _ _) id, alloc_at (by simp), by simp⟩
  obtain ⟨W, hKW, hWe, ho1, ho2, hsz⟩ := HBX.out
  have HKW := Lib.hid hKW
  have HWE := Lib.hid hWe.symm
  have O1 := Lib.hid ho1
  have HT4 := Lib.hid ho2
  have HSZ := Lib.hid hsz
  have HC := Lib.hid (h.same hKW)
  have hbw := h.lt.1
  have HPA := Lib.hid (hp.still hKW)
  have q0 : W.cell? ⟨w.heap.size, 0, none⟩ = some (.slice a p.st.length c) := cell_of_row _ _ 0 _ _ _ ho1
  clear HBX hKW hWe ho1 ho2 hsz h hp
  unfold polVal
  obtain ⟨i5, hi5, hv0, hv1, hv2⟩ := info_parts Tryd.infoStage
  go_enter Tryd.func17, Tryd.ntmps17
  go_upto_region 1 with (fail)
  rw [HWE.out]
  go_upto_region 2 with (at_builtin; go_loud (refine wpList_copyAll rfl _ _ 26 rfl 45 i5 _ 16 Tryd.underlying26 hi5 hv0 hv1 hv2 rfl (by decide) stEnc_len rfl a p.st c rfl HPA.out.st (by intro x u hu; simp [stEnc] at hu; rcases hu with rfl | rfl <;> rfl) (by omega) (by omega) ?_; intro v2 w2 hown2 hk2; obtain ⟨s, d, rfl, -, -, -, -⟩ := hown2.slice stEnc_len; have hx5 := hk2.obj O1.out id; have s1 : w2.cell? ⟨w.heap.size, 0, none⟩ = some (.slice a p.st.length c) := cell_of_row w2 _ 0 _ _ _ hx5; have s2 : w2.frozen? ⟨w.heap.size, 0, none⟩ = false := (by unfold World.frozen?; rw [hx5]; rfl); have HO2 := Lib.hid hx5; have HOWN2 := Lib.hid hown2; have HK2 := Lib.hid hk2; clear hown2 hk2 hx5))
  clear s1 s2 q0
  have hx6 := heap_setCell' (j := 0) (v := .slice s p.st.length d) HO2.out
  simp only [List.setIfInBounds_toArray, List.set_cons_succ, List.set_cons_zero] at hx6
  have hk3 : Keep (fun i => i = b ∨ i = w.heap.size ∨ w.heap.size + 2 ≤ i) W (w2.setCell ⟨w.heap.size, 0, none⟩ (.slice s p.st.length d)) := (HK2.out.weaken (fun _ _ q => q.elim)).setCell (p := ⟨w.heap.size, 0, none⟩) (.inl (.inr (.inl rfl))) _
  have hks : Keep (· = w.heap.size) w2 (w2.setCell ⟨w.heap.size, 0, none⟩ (.slice s p.st.length d)) := (Keep.refl (· = w.heap.size) _).setCell (p := ⟨w.heap.size, 0, none⟩) (.inl rfl) _
  have hc3 := (HC.out.same HK2.out).keep hks (by omega) (by have := HC.out.lt; omega)
  have hown3 := HOWN2.out.keep hks (fun g hg hs => by have := (World.ownsRow.lt HOWN2.out g hg).1; have := HSZ.out; have h3 : g = w.heap.size := hs; omega)
  generalize w2.setCell ⟨w.heap.size, 0, none⟩ (.slice s p.st.length d) = w3 at *
  have HB3 : Hid (PBox (w.heap.size + 2) w3 w.heap.size p) := Lib.hid ⟨by omega, by have := hk3.size; have := HSZ.out; omega, s, d, hx6, by have h2 := HSZ.out; rw [h2] at hown3; exact hown3⟩
  have HC3 := Lib.hid hc3
  have HK3 := Lib.hid hk3
  clear hks hk3 hc3 hown3 hx6 HO2 HOWN2 HK2 HC
  go_wp2_with (fail)
  refine (next_in b bl _ _ _ HC3.out (by omega) (by omega)).mono ?_
  rintro e w4 ⟨rfl, hc4, hk4, a0, a1⟩
  generalize next 6 r = q1 at *
  obtain ⟨M, r4⟩ := q1
  simp only at hc4 a0 a1
  have HC4 := Lib.hid hc4
  have hb3 := HC3.out.lt
  have HB4 : Hid (PBox (w.heap.size + 2) w4 w.heap.size p) := Lib.hid (by
    obtain ⟨h1, h2, s, d, h3, h4⟩ := HB3.out
    exact ⟨h1, Nat.le_trans h2 hk4.size, s, d, hk4.obj h3 (by omega), h4.keepOld hk4 (fun i hi => by omega)⟩)
  have HK4 := Lib.hid (HK3.out.trans (hk4.weaken (T := fun i => i = b ∨ i = w.heap.size ∨ w.heap.size + 2 ≤ i) (fun i _ h => .inl h)))
  clear hc4 hk4 HC3 HK3 HB3
  go_upto_block 0 with (fail)
  go_cut [] (fun wx => OddCut b bl w.heap.size W wx)
  case first =>
    obtain ⟨hgb, hbsz, s, d, hob, hown⟩ := HB4.out
    have HOB := Lib.hid hob
    have HOWN := Lib.hid hown
    have hb4 := HC4.out.lt
    have hgw := heap_lt hob
    clear hob hown HB4
    have hM : M = 0 ∨ M = 1 ∨ M = 2 ∨ M = 3 ∨ M = 4 ∨ M = 5 := by omega
    rcases hM with rfl | rfl | rfl | rfl | rfl | rfl
    · go_wp2_with (fail)
      refine (int_in b bl _ _ HC4.out).mono ?_
      rintro e w5 ⟨x, r5, rfl, hc5, hk5, hx5⟩
      have HC5 := Lib.hid hc5
      have HK5 := Lib.hid hk5
      clear hc5 hk5
      go_wp2_with (fail)
      refine (int_in b bl _ _ HC5.out).mono ?_
      rintro e w6 ⟨y, r6, rfl, hc6, hk6, hy6⟩
      have HC6 := Lib.hid hc6
      have HK6 := Lib.hid (HK5.out.trans hk6)
      have HO6 := Lib.hid ((HK5.out.trans hk6).obj HOB.out (by omega))
      clear hc6 hk6
      go_wp2_with ((with_reducible (show wpList _ _ _ (⟨_, .store 28 _ _, _, _, _, none⟩ :: _) _ _)); (refine wpList_storeMid rfl 28 _ _ rfl w.heap.size 1 rfl [.slice s p.st.length d, .int .i64 p.num, .int .i64 p.den, .int .i64 p.margin] [.int .i64 x, .int .i64 y] rfl _ (by simp) HO6.out 2 Tryd.sizeLevel rfl (by simp [Value.oneCell']) ?_); intro w9 hres hk9 hs9; have HRES := Lib.hid hres; have HK9 := Lib.hid hk9; have HS9 := Lib.hid hs9; clear hres hk9 hs9)
      go_meet
      case rel =>
        refine ⟨⟨x, y, p.margin, p.st⟩, r6, ⟨hgb, by have := HK6.out.size; have := HK9.out.size; omega, s, d, HRES.out, (HOWN.out.keepOld HK6.out (fun i hi => by omega)).keepOld HK9.out (fun i hi => by omega)⟩, by simp only; omega, HC6.out.keep HK9.out (by omega) (by omega), HK4.out.trans ((HK6.out.weaken (fun i _ h => .inl h)).trans (HK9.out.weaken (fun i _ h => .inr (.inl h))))⟩
    · go_wp2_with (fail)
      refine (int_in b bl _ _ HC4.out).mono ?_
      rintro e w5 ⟨x, r5, rfl, hc5, hk5, hx5⟩
      have HC5 := Lib.hid hc5
      have HK5 := Lib.hid hk5
      clear hc5 hk5
      go_wp2_with (fail)
      refine (next_behind b bl _ r5 _ _ HC5.out (by omega) (by omega)).mono ?_
      rintro e w6 ⟨rfl, hc6, hk6, ⟨d0, d1⟩, htab⟩
      have HC6 := Lib.hid hc6
      have HK6 := Lib.hid (HK5.out.trans hk6)
      have ho6 := (HK5.out.trans hk6).obj HOB.out (by omega)
      have HO6 := Lib.hid ho6
      have s1 : w6.cell? ⟨w.heap.size, 3, none⟩ = some (.int .i64 p.margin) := cell_of_row _ _ 3 _ _ _ ho6
      have s2 : w6.frozen? ⟨w.heap.size, 3, none⟩ = false := by unfold World.frozen?; rw [ho6]; rfl
      clear hc6 hk6 ho6
      generalize next 3 r5 = q6 at *
      obtain ⟨m6, r6⟩ := q6
      simp only at d0 d1
      have hmn : m6.toNat < 3 := by omega
      obtain ⟨z, hz, -⟩ := row_get (xs := [x, 1000, 1001]) htab hmn
      clear htab
      go_wp2_with (fail)
      clear s1 s2 hz
      have hx7 := heap_setCell' (j := 3) (v := .int .i64 z) HO6.out
      simp only [List.setIfInBounds_toArray, List.set_cons_succ, List.set_cons_zero] at hx7
      have HK9 : Hid (Keep (· = w.heap.size) w6 (w6.setCell ⟨w.heap.size, 3, none⟩ (.int .i64 z))) := Lib.hid ((Keep.refl (· = w.heap.size) _).setCell (p := ⟨w.heap.size, 3, none⟩) (.inl rfl) _)
      go_meet
      case rel =>
        refine ⟨⟨p.num, p.den, z, p.st⟩, r6, ⟨hgb, by have := HK6.out.size; have := HK9.out.size; omega, s, d, hx7, (HOWN.out.keepOld HK6.out (fun i hi => by omega)).keepOld HK9.out (fun i hi => by omega)⟩, by simp only; omega, HC6.out.keep HK9.out (by omega) (by omega), HK4.out.trans ((HK6.out.weaken (fun i _ h => .inl h)).trans (HK9.out.weaken (fun i _ h => .inr (.inl h))))⟩
    · have HOBK : Hid (∀ w', Keep (· = b) w4 w' → w'.heap[w.heap.size]? = some (.cells #[.slice s p.st.length d, .int .i64 p.num, .int .i64 p.den, .int .i64 p.margin] 30 (0, 0))) := Lib.hid (fun w' hk' => hk'.obj HOB.out (by omega))
      go_wp2_with (fail)
      refine region_kindsG_tail (· = b) [.is (.pointer (some ⟨w.heap.size, 0, none⟩)), .is (.slice s p.st.length d), .is (.pointer (some ⟨b, 0, none⟩)), .sat (NumIn 0 2) (numIn_keep _ _ _), .sat (NumIn 60 62) (numIn_keep _ _ _), .sat StVal (stVal_keep _), .sat (StMade w4.heap.size) (stMade_keep b _ hb4.1), .any, .any, .any]
        (fun w' => (∃ r, CodesAt w' b bl r) ∧ Keep (· = b) w4 w') 70 7 (by kernel_rfl) (by decide) (by kernel_rfl) (by kernel_rfl) (by kernel_rfl) rfl (by kernel_rfl) ⟨⟨_, HC4.out.same (Keep.refl _ _).drew⟩, (Keep.refl _ _).drew⟩ ?_ ?_
      · refine ⟨?_, ?_, ?_, ?_, ?_, ?_, ?_, trivial⟩
        · exact st_free rfl (st_ev1 (dep_f (t := 3) rfl rfl) _ (by intro a w' h1 hI; go_simp) rfl)
        · exact st_free rfl (st_ev1 (dep_e 0 rfl rfl rfl) _ (by intro a w' h1 hI; have q0 := cell_of_row _ _ 0 _ _ _ (HOBK.out _ hI.2); go_simp) rfl)
        · exact st_free rfl (st_ev1 (dep_f (t := 0) rfl rfl) _ (by intro a w' h1 hI; go_simp) rfl)
        · exact st_free rfl (st_callD1 (dep_e 2 rfl rfl rfl) 23 #[.pointer (some ⟨b, 0, none⟩), .int .i64 2] (by intro a w' h1; go_simp) (by rintro w' ⟨⟨rr', hcc⟩, hI⟩; refine (next_in b bl _ rr' w' hcc (by omega) (by omega)).mono ?_; rintro e w'' ⟨rfl, a1, a2, a3, a4⟩; exact ⟨_, rfl, ⟨_, rfl, a3, a4⟩, ⟨⟨_, a1⟩, hI.trans a2⟩, a2⟩))
        · exact st_free rfl (st_evS (dep_s 3 rfl rfl rfl) (by rintro a w' ⟨mm, h1, h2, h3⟩ hI; have q0 : IntKind.i64.wrap (60 + mm) = 60 + mm := IntWalk.i64_in _ (by omega); exact ⟨.int .i64 (60 + mm), by go_simp, 60 + mm, rfl, by omega, by omega⟩))
        · exact st_free rfl (st_evS (dep_s 4 rfl rfl rfl) (by rintro a w' ⟨mm, h1, h2, h3⟩ hI; exact ⟨.agg #[.int .i64 100, .int .i64 mm], by go_simp, mm, rfl⟩))
        · refine st_free rfl ?_
          intro a w' K' hI hV hF hK
          obtain ⟨mm, e0⟩ : StVal w' (a.eval (.tmp 36)) := tells hV 5 36 rfl rfl
          unfold Oper.wp execOp
          have hb : ∀ v : Value, (Instr.buildSlice 26 1 #[(0, .agg #[.int .i64 100, .int .i64 mm])]).run Tryd.prog w' = .ok (.slice (some ⟨w'.heap.size, 0, none⟩) 1 1) (w'.alloc (.cells #[.int .i64 100, .int .i64 mm] 45)) := by intro _; go_simp
          simp only [List.map_toArray, List.map_cons, List.map_nil, e0, Sem.run_bind, hb undef, Result.andThen_ok, Sem.run_pure, Oper.upon_value]
          have hal : Keep None w' (w'.alloc (.cells #[.int .i64 100, .int .i64 mm] 45)) := (Keep.refl None w').alloc _
          obtain ⟨⟨r7, a1⟩, a2⟩ := hI
          exact hK _ _ ⟨⟨r7, a1.same hal⟩, a2.alloc _⟩ ((Keep.refl _ _).alloc _) ⟨w'.heap.size, mm, rfl, a2.size, heap_alloc_new _ _⟩
      intro f' w5 hkinds hI
      have k1 : f' 32 = .slice s p.st.length d := hkinds 1 _ 32 (by omega) rfl rfl
      obtain ⟨gh, mm, k6, hgh, hgo⟩ : StMade w4.heap.size w5 (f' 37) := hkinds 6 _ 37 (by omega) rfl rfl
      simp only [putsOf, Act.put, List.take_succ_cons, List.take_zero, List.drop_succ_cons, List.drop_zero, List.setIfInBounds_toArray, List.set_cons_zero, List.set_cons_succ, k1, k6]
      clear hkinds k1 k6
      obtain ⟨⟨r7, hc7⟩, hki⟩ := hI
      have HO5 := Lib.hid (HOBK.out _ hki)
      have HGO := Lib.hid hgo
      have HOWN5 := Lib.hid (HOWN.out.keepOld hki (fun i hi => by omega))
      have HC7 := Lib.hid hc7
      have HKI := Lib.hid hki
      have hz5 := hki.size
      clear hc7 hki hgo
      go_wp2_with (at_builtin; go_loud (refine wpList_pushAt rfl _ _ 26 rfl (w.heap.size + 2) _ i5 _ 16 Tryd.underlying26 hi5 hv0 hv1 hv2 rfl (by decide) stEnc_len (.slice s p.st.length d) p.st rfl HOWN5.out (100, mm) gh 1 rfl _ HGO.out rfl rfl (by simp [Value.oneCell']) (by omega) (by omega) (by omega) ?_; intro p7 c7' w7 hown7 hk7 hk7' hb7; have HO7 := Lib.hid hown7; have HK7 := Lib.hid (show Keep (fun k => (Value.slice s p.st.length d).ownBlock = some k) _ w7 from ⟨hk7.os, hk7.tape, hk7.output, hk7.size, fun k hk hs => hk7' k (fun e => hs e.symm) hk⟩); have hx7 := HK7.out.obj HO5.out (fun h => by have := (World.ownsRow.lt HOWN5.out _ h).1; omega); have s1 : w7.cell? ⟨w.heap.size, 0, none⟩ = some (.slice s p.st.length d) := cell_of_row w7 _ 0 _ _ _ hx7; have s2 : w7.frozen? ⟨w.heap.size, 0, none⟩ = false := (by unfold World.frozen?; rw [hx7]; rfl); have HX7 := Lib.hid hx7; clear hown7 hk7 hk7' hb7 hx7))
      clear s1 s2
      have hx8 := heap_setCell' (j := 0) (v := .slice p7 (p.st.length + 1) c7') HX7.out
      simp only [List.setIfInBounds_toArray, List.set_cons_succ, List.set_cons_zero] at hx8
      have hko : Keep (fun i => w.heap.size + 2 ≤ i) w5 w7 := HK7.out.weaken (fun g _ hg => (World.ownsRow.lt HOWN5.out g hg).1)
      have hk9 : Keep (· = w.heap.size) w7 (w7.setCell ⟨w.heap.size, 0, none⟩ (.slice p7 (p.st.length + 1) c7')) := (Keep.refl (· = w.heap.size) _).setCell (p := ⟨w.heap.size, 0, none⟩) (.inl rfl) _
      go_meet
      case rel =>
        refine ⟨⟨p.num, p.den, p.margin, p.st ++ [(100, mm)]⟩, r7, ⟨hgb, by have := hk9.size; have := hko.size; omega, p7, c7', ?_, ?_⟩, by simp; omega, (HC7.out.keep hko (by omega) (by omega)).keep hk9 (by omega) (by omega), HK4.out.trans ((HKI.out.weaken (fun i _ h => .inl h)).trans ((hko.weaken (fun i _ h => .inr (.inr h))).trans (hk9.weaken (fun i _ h => .inr (.inl h)))))⟩
        · rw [List.length_append]; exact hx8
        · rw [List.length_append]; exact HO7.out.keepOld hk9 (fun i hi => by omega)
    · have HOBK : Hid (∀ w', Keep (· = b) w4 w' → w'.heap[w.heap.size]? = some (.cells #[.slice s p.st.length d, .int .i64 p.num, .int .i64 p.den, .int .i64 p.margin] 30 (0, 0))) := Lib.hid (fun w' hk' => hk'.obj HOB.out (by omega))
      go_wp2_with (fail)
      refine region_kindsG_tail (· = b) [.is (.pointer (some ⟨w.heap.size, 0, none⟩)), .is (.slice s p.st.length d), .is (.pointer (some ⟨b, 0, none⟩)), .is (.pointer (some ⟨w.heap.size, 0, none⟩)), .is (.slice s p.st.length d), .is (.int .i64 p.st.length), .sat (NumIn 0 p.st.length) (numIn_keep _ _ _), .is (.pointer (some ⟨b, 0, none⟩)), .sat Is64 (is64_keep _), .any, .any, .any]
        (fun w' => (∃ r, CodesAt w' b bl r) ∧ Keep (· = b) w4 w') 70 9 (by kernel_rfl) (by decide) (by kernel_rfl) (by kernel_rfl) (by kernel_rfl) rfl (by kernel_rfl) ⟨⟨_, HC4.out.same (Keep.refl _ _).drew⟩, (Keep.refl _ _).drew⟩ ?_ ?_
      · refine ⟨?_, ?_, ?_, ?_, ?_, ?_, ?_, ?_, ?_, trivial⟩
        · exact st_free rfl (st_ev1 (dep_f (t := 3) rfl rfl) _ (by intro a w' h1 hI; go_simp) rfl)
        · exact st_free rfl (st_ev1 (dep_e 0 rfl rfl rfl) _ (by intro a w' h1 hI; have q0 := cell_of_row _ _ 0 _ _ _ (HOBK.out _ hI.2); go_simp) rfl)
        · exact st_free rfl (st_ev1 (dep_f (t := 0) rfl rfl) _ (by intro a w' h1 hI; go_simp) rfl)
        · exact st_free rfl (st_ev1 (dep_f (t := 3) rfl rfl) _ (by intro a w' h1 hI; go_simp) rfl)
        · exact st_free rfl (st_ev1 (dep_e 3 rfl rfl rfl) _ (by intro a w' h1 hI; have q0 := cell_of_row _ _ 0 _ _ _ (HOBK.out _ hI.2); go_simp) rfl)
        · exact st_free rfl (st_ev1 (dep_e 4 rfl rfl rfl) _ (by intro a w' h1 hI; go_simp) rfl)
        · exact st_free rfl (st_callD2 (dep_e 2 rfl rfl rfl) (dep_e 5 rfl rfl rfl) 23 #[.pointer (some ⟨b, 0, none⟩), .int .i64 p.st.length] (by intro a w' h1 h2; go_simp) (by rintro w' ⟨⟨rr', hcc⟩, hI⟩; refine (next_in b bl _ rr' w' hcc (by omega) (by omega)).mono ?_; rintro e w'' ⟨rfl, a1, a2, a3, a4⟩; exact ⟨_, rfl, ⟨_, rfl, a3, a4⟩, ⟨⟨_, a1⟩, hI.trans a2⟩, a2⟩))
        · exact st_free rfl (st_ev1 (dep_f (t := 0) rfl rfl) _ (by intro a w' h1 hI; go_simp) rfl)
        · exact st_free rfl (st_callD1 (dep_e 7 rfl rfl rfl) 22 #[.pointer (some ⟨b, 0, none⟩)] (by intro a w' h1; go_simp) (by rintro w' ⟨⟨rr', hcc⟩, hI⟩; refine (int_in b bl rr' w' hcc).mono ?_; rintro e w'' ⟨mm, r7, rfl, a1, a2, a3⟩; exact ⟨_, rfl, ⟨mm, rfl, a3⟩, ⟨⟨r7, a1⟩, hI.trans a2⟩, a2⟩))
      intro f' w5 hkinds hI
      have k1 : f' 43 = .slice s p.st.length d := hkinds 1 _ 43 (by omega) rfl rfl
      obtain ⟨jz, k6, hj0, hj1⟩ : NumIn 0 p.st.length w5 (f' 48) := hkinds 6 _ 48 (by omega) rfl rfl
      obtain ⟨y, k8, -⟩ : Is64 w5 (f' 50) := hkinds 8 _ 50 (by omega) rfl rfl
      simp only [putsOf, Act.put, List.take_succ_cons, List.take_zero, List.drop_succ_cons, List.drop_zero, List.setIfInBounds_toArray, List.set_cons_zero, List.set_cons_succ, k1, k6, k8]
      clear hkinds k1 k6 k8
      obtain ⟨⟨r7, hc7⟩, hki⟩ := hI
      obtain ⟨j, rfl⟩ : ∃ j : Nat, jz = j := ⟨jz.toNat, by omega⟩
      have hjn : j < p.st.length := by omega
      obtain ⟨st, hst⟩ : ∃ st, p.st[j]? = some st := ⟨p.st[j], by simp [hjn]⟩
      have hown5 := HOWN.out.keepOld hki (fun i hi => by omega)
      obtain ⟨gs, rfl, hgs⟩ := hown5.row stEnc_len (by omega)
      have s1 : ∃ v, w5.cell? ⟨gs, j * 2, none⟩ = some v := by
        obtain ⟨-, -, -, hsl, -⟩ := hown5.reads stEnc_len
        rcases hsl with h | ⟨b', o', he, hsl⟩
        · rw [h] at hjn; simp at hjn
        · cases he
          have := hsl j st hst 0 _ rfl
          rw [Nat.zero_add] at this
          exact ⟨_, this⟩
      obtain ⟨v1, s1⟩ := s1
      have s2 : w5.frozen? ⟨gs, j * 2, none⟩ = false := own_free hown5 _
      have HO5 := Lib.hid (HOBK.out _ hki)
      have HOWN5 := Lib.hid hown5
      have HC7 := Lib.hid hc7
      have HKI := Lib.hid hki
      have HST := Lib.hid hst
      have hz5 := hki.size
      clear hown5 hc7 hki hst
      go_wp2_with (fail)
      clear s1 s2
      have hset := HOWN5.out.setField stEnc_len HST.out (j := 0) (by omega) (v := .int .i64 y) (c := (y, st.2)) (by cases st; rfl)
      have hk9 : Keep (fun i => i = b ∨ i = w.heap.size ∨ w.heap.size + 2 ≤ i) w5 (w5.setCell ⟨gs, j * 2, none⟩ (.int .i64 y)) := (Keep.refl _ _).setCell (p := ⟨gs, j * 2, none⟩) (.inl (.inr (.inr hgs))) _
      have hk9' : Keep (· = gs) w5 (w5.setCell ⟨gs, j * 2, none⟩ (.int .i64 y)) := (Keep.refl (· = gs) _).setCell (p := ⟨gs, j * 2, none⟩) (.inl rfl) _
      go_meet
      case rel =>
        refine ⟨⟨p.num, p.den, p.margin, p.st.set j (y, st.2)⟩, r7, ⟨hgb, by have := hk9.size; omega, some ⟨gs, 0, none⟩, d, ?_, ?_⟩, by simp only [List.length_set]; omega, HC7.out.keep hk9' (by omega) (by omega), HK4.out.trans ((HKI.out.weaken (fun i _ h => .inl h)).trans hk9)⟩
        · rw [List.length_set]; exact hk9'.obj HO5.out (by omega)
        · rw [List.length_set]; exact hset
    · have HOBK : Hid (∀ w', Keep (· = b) w4 w' → w'.heap[w.heap.size]? = some (.cells #[.slice s p.st.length d, .int .i64 p.num, .int .i64 p.den, .int .i64 p.margin] 30 (0, 0))) := Lib.hid (fun w' hk' => hk'.obj HOB.out (by omega))
      go_wp2_with (fail)
      refine region_kindsG_tail (· = b) [.is (.pointer (some ⟨w.heap.size, 0, none⟩)), .is (.slice s p.st.length d), .is (.pointer (some ⟨b, 0, none⟩)), .is (.pointer (some ⟨w.heap.size, 0, none⟩)), .is (.slice s p.st.length d), .is (.int .i64 p.st.length), .sat (NumIn 0 p.st.length) (numIn_keep _ _ _), .is (.pointer (some ⟨b, 0, none⟩)), .sat Is64 (is64_keep _), .any, .any, .any]
        (fun w' => (∃ r, CodesAt w' b bl r) ∧ Keep (· = b) w4 w') 70 9 (by kernel_rfl) (by decide) (by kernel_rfl) (by kernel_rfl) (by kernel_rfl) rfl (by kernel_rfl) ⟨⟨_, HC4.out.same (Keep.refl _ _).drew⟩, (Keep.refl _ _).drew⟩ ?_ ?_
      · refine ⟨?_, ?_, ?_, ?_, ?_, ?_, ?_, ?_, ?_, trivial⟩
        · exact st_free rfl (st_ev1 (dep_f (t := 3) rfl rfl) _ (by intro a w' h1 hI; go_simp) rfl)
        · exact st_free rfl (st_ev1 (dep_e 0 rfl rfl rfl) _ (by intro a w' h1 hI; have q0 := cell_of_row _ _ 0 _ _ _ (HOBK.out _ hI.2); go_simp) rfl)
        · exact st_free rfl (st_ev1 (dep_f (t := 0) rfl rfl) _ (by intro a w' h1 hI; go_simp) rfl)
        · exact st_free rfl (st_ev1 (dep_f (t := 3) rfl rfl) _ (by intro a w' h1 hI; go_simp) rfl)
        · exact st_free rfl (st_ev1 (dep_e 3 rfl rfl rfl) _ (by intro a w' h1 hI; have q0 := cell_of_row _ _ 0 _ _ _ (HOBK.out _ hI.2); go_simp) rfl)
        · exact st_free rfl (st_ev1 (dep_e 4 rfl rfl rfl) _ (by intro a w' h1 hI; go_simp) rfl)
        · exact st_free rfl (st_callD2 (dep_e 2 rfl rfl rfl) (dep_e 5 rfl rfl rfl) 23 #[.pointer (some ⟨b, 0, none⟩), .int .i64 p.st.length] (by intro a w' h1 h2; go_simp) (by rintro w' ⟨⟨rr', hcc⟩, hI⟩; refine (next_in b bl _ rr' w' hcc (by omega) (by omega)).mono ?_; rintro e w'' ⟨rfl, a1, a2, a3, a4⟩; exact ⟨_, rfl, ⟨_, rfl, a3, a4⟩, ⟨⟨_, a1⟩, hI.trans a2⟩, a2⟩))
        · exact st_free rfl (st_ev1 (dep_f (t := 0) rfl rfl) _ (by intro a w' h1 hI; go_simp) rfl)
        · exact st_free rfl (st_callD1 (dep_e 7 rfl rfl rfl) 22 #[.pointer (some ⟨b, 0, none⟩)] (by intro a w' h1; go_simp) (by rintro w' ⟨⟨rr', hcc⟩, hI⟩; refine (int_in b bl rr' w' hcc).mono ?_; rintro e w'' ⟨mm, r7, rfl, a1, a2, a3⟩; exact ⟨_, rfl, ⟨mm, rfl, a3⟩, ⟨⟨r7, a1⟩, hI.trans a2⟩, a2⟩))
      intro f' w5 hkinds hI
      have k1 : f' 56 = .slice s p.st.length d := hkinds 1 _ 56 (by omega) rfl rfl
      obtain ⟨jz, k6, hj0, hj1⟩ : NumIn 0 p.st.length w5 (f' 61) := hkinds 6 _ 61 (by omega) rfl rfl
      obtain ⟨y, k8, -⟩ : Is64 w5 (f' 63) := hkinds 8 _ 63 (by omega) rfl rfl
      simp only [putsOf, Act.put, List.take_succ_cons, List.take_zero, List.drop_succ_cons, List.drop_zero, List.setIfInBounds_toArray, List.set_cons_zero, List.set_cons_succ, k1, k6, k8]
      clear hkinds k1 k6 k8
      obtain ⟨⟨r7, hc7⟩, hki⟩ := hI
      obtain ⟨j, rfl⟩ : ∃ j : Nat, jz = j := ⟨jz.toNat, by omega⟩
      have hjn : j < p.st.length := by omega
      obtain ⟨st, hst⟩ : ∃ st, p.st[j]? = some st := ⟨p.st[j], by simp [hjn]⟩
      have hown5 := HOWN.out.keepOld hki (fun i hi => by omega)
      obtain ⟨gs, rfl, hgs⟩ := hown5.row stEnc_len (by omega)
      have s1 : ∃ v, w5.cell? ⟨gs, j * 2 + 1, none⟩ = some v := by
        obtain ⟨-, -, -, hsl, -⟩ := hown5.reads stEnc_len
        rcases hsl with h | ⟨b', o', he, hsl⟩
        · rw [h] at hjn; simp at hjn
        · cases he
          have := hsl j st hst 1 _ rfl
          rw [Nat.zero_add] at this
          exact ⟨_, this⟩
      obtain ⟨v1, s1⟩ := s1
      have s2 : w5.frozen? ⟨gs, j * 2 + 1, none⟩ = false := own_free hown5 _
      have HO5 := Lib.hid (HOBK.out _ hki)
      have HOWN5 := Lib.hid hown5
      have HC7 := Lib.hid hc7
      have HKI := Lib.hid hki
      have HST := Lib.hid hst
      have hz5 := hki.size
      clear hown5 hc7 hki hst
      go_wp2_with (fail)
      clear s1 s2
      have hset := HOWN5.out.setField stEnc_len HST.out (j := 1) (by omega) (v := .int .i64 y) (c := (st.1, y)) (by cases st; rfl)
      have hk9 : Keep (fun i => i = b ∨ i = w.heap.size ∨ w.heap.size + 2 ≤ i) w5 (w5.setCell ⟨gs, j * 2 + 1, none⟩ (.int .i64 y)) := (Keep.refl _ _).setCell (p := ⟨gs, j * 2 + 1, none⟩) (.inl (.inr (.inr hgs))) _
      have hk9' : Keep (· = gs) w5 (w5.setCell ⟨gs, j * 2 + 1, none⟩ (.int .i64 y)) := (Keep.refl (· = gs) _).setCell (p := ⟨gs, j * 2 + 1, none⟩) (.inl rfl) _
      go_meet
      case rel =>
        refine ⟨⟨p.num, p.den, p.margin, p.st.set j (st.1, y)⟩, r7, ⟨hgb, by have := hk9.size; omega, some ⟨gs, 0, none⟩, d, ?_, ?_⟩, by simp only [List.length_set]; omega, HC7.out.keep hk9' (by omega) (by omega), HK4.out.trans ((HKI.out.weaken (fun i _ h => .inl h)).trans hk9)⟩
        · rw [List.length_set]; exact hk9'.obj HO5.out (by omega)
        · rw [List.length_set]; exact hset
    · have s1 : w4.cell? ⟨w.heap.size, 0, none⟩ = some (.slice s p.st.length d) := cell_of_row _ _ 0 _ _ _ HOB.out
      have s2 : w4.frozen? ⟨w.heap.size, 0, none⟩ = false := by unfold World.frozen?; rw [HOB.out]; rfl
      go_wp2_with (fail)
      clear s1 s2
      have hx7 := heap_setCell' (j := 0) (v := .slice none 0 0) HOB.out
      simp only [List.setIfInBounds_toArray, List.set_cons_succ, List.set_cons_zero] at hx7
      have HK9 : Hid (Keep (· = w.heap.size) w4 (w4.setCell ⟨w.heap.size, 0, none⟩ (.slice none 0 0))) := Lib.hid ((Keep.refl (· = w.heap.size) _).setCell (p := ⟨w.heap.size, 0, none⟩) (.inl rfl) _)
      go_meet
      case rel =>
        exact ⟨⟨p.num, p.den, p.margin, []⟩, r4, ⟨hgb, by have := HK9.out.size; omega, none, 0, hx7, Own.nil _ _ _ _ _⟩, by simp, HC4.out.keep HK9.out (by omega) (by omega), HK4.out.trans (HK9.out.weaken (fun i _ h => .inr (.inl h)))⟩
  case rest =>
    obtain ⟨p', r', hbox, hn9, hcc, hkk⟩ := hcut
    obtain ⟨hgb, hbsz, s, d, hob, hown⟩ := hbox
    have HOB := Lib.hid hob
    have HKK := Lib.hid hkk
    have HC9 := Lib.hid hcc
    have hT := hkk.obj HT4.out (by omega)
    have HT := Lib.hid hT
    obtain ⟨-, hcap1, hcap2, hslv, hfrom⟩ := hown.reads stEnc_len
    have HSL := Lib.hid hslv
    have HFR := Lib.hid hfrom
    have hb9 := hcc.lt
    clear hob hkk hcc hT hslv hfrom hown HB4
    go_wp2_with (first
      | ((with_reducible (show wpList _ _ _ (⟨some 69, .load 30 _, _, _, _, none⟩ :: _) _ _)); refine wpList_loadEl (enc := listEnc) (size := 4) rfl 30 _ rfl _ _ rfl [.slice s p'.st.length d, .int .i64 p'.num, .int .i64 p'.den, .int .i64 p'.margin] _ (range_of_obj HOB.out) rfl Tryd.underlying30 rfl Tryd.sizePolicy (.agg #[.slice s p'.st.length d, .int .i64 p'.num, .int .i64 p'.den, .int .i64 p'.margin]) rfl ?_)
      | ((with_reducible (show wpList _ _ _ (⟨_, .store 30 (.tmp 4) _, _, _, _, none⟩ :: _) _ _)); (refine wpList_storeObj rfl 30 _ _ rfl (w.heap.size + 1) rfl [.slice none 0 0, .int .i64 0, .int .i64 0, .int .i64 0] [.slice s p'.st.length d, .int .i64 p'.num, .int .i64 p'.den, .int .i64 p'.margin] rfl _ (by simp) HT.out 4 Tryd.sizePolicy rfl (by simp [Value.oneCell']) ?_); intro w9 hres hk9 hs9; have HRES := Lib.hid hres; have HK9 := Lib.hid hk9; clear hres hk9 hs9))
    refine bodyPost_ret (results_obj rfl rfl _ _ (range_of_obj HRES.out) Tryd.underlying30 rfl 4 Tryd.sizePolicy rfl) rfl ?_
    refine ⟨s, d, p', r', rfl, ⟨HSL.out.keep HK9.out (fun z hz hzs => by have := HFR.out z hz; have h3 : z.block = w.heap.size + 1 := hzs; omega), by omega⟩, (fun z hz => by have := HFR.out z hz; omega), hcap1, hcap2, hn9, HC9.out.keep HK9.out (by omega) (by omega), ?_⟩
    exact (HKW.out.weaken (T := (· = b)) (fun _ _ q => q.elim)).andThen ((HKK.out.weaken (T := fun i => i = b ∨ w.heap.size ≤ i) (fun g _ h => by omega)).trans (HK9.out.weaken (fun g _ q => .inr (by have h3 : g = w.heap.size + 1 := q; omega)))) (fun g h1 h2 => by omega)

end Go.Proofs.YtgelfefoiplekaaDoor
