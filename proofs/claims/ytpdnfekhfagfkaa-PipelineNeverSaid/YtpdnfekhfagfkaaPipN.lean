/-
  Chapter 19: the draws: a model, fetches.
-/
import Derived.Test.YtpdnfekhfagfkaaPipM
import Derived.Test.YtpdnfekhfagfkaaRegAnyG
namespace Go.Proofs.Ytpdnfekhfagfkaa
open Go.RowKit PI

theorem next_some (b bl : Nat) (n : Int) (r : List Int) (w : World) (h : CodesAt w b bl r) (hn : n ≤ 100000) (h1 : 1 ≤ n) :
    Calls Try.prog 8 #[.pointer (some ⟨b, 0, none⟩), .int .i64 n] w fun e w' => ∃ x r', e = .returned (.int .i64 x) ∧ 0 ≤ x ∧ x < n ∧ CodesAt w' b bl r' ∧ Keep (fun k => k = b) w w' :=
  (next_in b bl n r w h hn h1).mono fun _ _ ⟨h2, h3, h4, h5, h6⟩ => ⟨_, _, h2, h5, h6, h3, h4⟩

/-- A model as it is drawn. -/
def ModPost (b bl : Nat) (w : World) (e : Ending) (w' : World) : Prop :=
  ∃ m r, e = .returned (moVal m) ∧ MoOk m ∧ m.step ≤ 100 ∧ m.mis ≤ 100 ∧ m.miss ≤ 100 ∧ m.fault ≤ 100 ∧ m.call ≤ 100 ∧ CodesAt w' b bl r ∧ Keep (fun k => k = b) w w'

/-- A number below another. -/
def Bel (n : Int) (_ : World) (v : Value) : Prop := ∃ x, v = .int .i64 x ∧ 0 ≤ x ∧ x < n
def Upto (n : Int) (_ : World) (v : Value) : Prop := ∃ x, v = .int .i64 x ∧ 1 ≤ x ∧ x ≤ n
def AnyI (_ : World) (v : Value) : Prop := ∃ x, v = .int .i64 x
/-- A row of four numbers. -/
def Four (base : Nat) (cs : Array Value) (w : World) (v : Value) : Prop := ∃ g, v = .slice (some ⟨g, 0, none⟩) 4 4 ∧ base ≤ g ∧ w.heap[g]? = some (.cells cs 3 (0, 0))
def InFour (base : Nat) (cs : Array Value) (w : World) (v : Value) : Prop := ∃ g j, v = .pointer (some ⟨g, j, none⟩) ∧ j < 4 ∧ base ≤ g ∧ w.heap[g]? = some (.cells cs 3 (0, 0))
theorem Four.keep {base : Nat} {cs : Array Value} {S : Nat → Prop} {w w' : World} {v : Value} (h : Four base cs w v) (k : Keep S w w') (hS : ∀ g, base ≤ g → ¬ S g) : Four base cs w' v := by
  obtain ⟨g, h1, h2, h3⟩ := h
  exact ⟨g, h1, h2, k.obj h3 (hS g h2)⟩
theorem InFour.keep {base : Nat} {cs : Array Value} {S : Nat → Prop} {w w' : World} {v : Value} (h : InFour base cs w v) (k : Keep S w w') (hS : ∀ g, base ≤ g → ¬ S g) : InFour base cs w' v := by
  obtain ⟨g, j, h1, h2, h3, h4⟩ := h
  exact ⟨g, j, h1, h2, h3, k.obj h4 (hS g h3)⟩
theorem store_mo {w : World} {g : Nat} {m : Mod} (h : w.heap[g]? = some (.cells (moEnc m).toArray 27 (0, 0))) (i : Nat) (hi : i < 12) (n : Int) :
    (Instr.storeAt 3 (.pointer (some ⟨g, i, none⟩)) (.int .i64 n)).run Try.prog w = .ok () (w.setCell ⟨g, i, none⟩ (.int .i64 n)) := by
  obtain ⟨v, hv⟩ : ∃ v, (moEnc m)[i]? = some v := ⟨(moEnc m)[i]'hi, List.getElem?_eq_getElem hi⟩
  have c := mo_cell h i v hv
  have f := cells_free h i
  go_simp

/-- What a drawn model has, whatever its lines and pages are. -/
def MoLo (m : Mod) : Prop := (0 ≤ m.step ∧ m.step ≤ 100) ∧ (0 ≤ m.mis ∧ m.mis ≤ 100) ∧ (0 ≤ m.miss ∧ m.miss ≤ 100) ∧ (0 ≤ m.fault ∧ m.fault ≤ 100) ∧ (0 ≤ m.call ∧ m.call ≤ 100) ∧ (0 ≤ m.ind ∧ m.ind ≤ 100) ∧ m.res ≤ 900
def MoIn (m : Mod) : Prop := MoLo m ∧ (1 ≤ m.sets → 1 ≤ m.ways ∧ m.ways ≤ 900)
/-- The model in its block, of which P is known, and the choices. -/
def MoSt (P : Mod → Prop) (b bl g : Nat) (W w : World) : Prop :=
  ∃ m r, P m ∧ CodesAt w b bl r ∧ w.heap[g]? = some (.cells (moEnc m).toArray 27 (0, 0)) ∧ Keep (fun k => k = b ∨ k = g) W w

theorem MoSt.next {P : Mod → Prop} {b bl g : Nat} {W w w' : World} {r : List Int} (h : MoSt P b bl g W w) (hne : b ≠ g) (hc : CodesAt w' b bl r) (hk : Keep (fun k => k = b) w w') : MoSt P b bl g W w' := by
  obtain ⟨m, r0, h1, h2, h3, h4⟩ := h
  exact ⟨m, r, h1, hc, hk.obj h3 (fun e => hne e.symm), h4.trans (hk.weaken (fun _ _ h => .inl h))⟩
theorem MoSt.same {P : Mod → Prop} {b bl g : Nat} {W w w' : World} (h : MoSt P b bl g W w) (hk : Keep None w w') : MoSt P b bl g W w' := by
  obtain ⟨m, r, h1, h2, h3, h4⟩ := h
  exact ⟨m, r, h1, h2.keep hk id id, hk.obj h3 id, h4.trans (hk.weaken (fun _ _ h => h.elim))⟩
theorem MoSt.size {P : Mod → Prop} {b bl g : Nat} {W w : World} (h : MoSt P b bl g W w) : W.heap.size ≤ w.heap.size := by
  obtain ⟨m, r, h1, h2, h3, h4⟩ := h
  exact h4.size
theorem MoSt.imp {P P' : Mod → Prop} {b bl g : Nat} {W w : World} (h : MoSt P b bl g W w) (hp : ∀ m, P m → P' m) : MoSt P' b bl g W w := by
  obtain ⟨m, r, h1, h2⟩ := h
  exact ⟨m, r, hp m h1, h2⟩
/-- A number stored into the model. -/
theorem MoSt.put {P P' : Mod → Prop} {b bl g : Nat} {W w : World} (h : MoSt P b bl g W w) (hne : b ≠ g) (hbl : bl ≠ g) (i : Nat) (hi : i < 12) (n : Int) (hm : ∀ m, P m → ∃ m', P' m' ∧ (moEnc m').toArray = ((moEnc m).toArray).setIfInBounds i (.int .i64 n)) :
    (Instr.storeAt 3 (.pointer (some ⟨g, i, none⟩)) (.int .i64 n)).run Try.prog w = .ok () (w.setCell ⟨g, i, none⟩ (.int .i64 n)) ∧ MoSt P' b bl g W (w.setCell ⟨g, i, none⟩ (.int .i64 n)) ∧ Keep (fun k => k = b ∨ k = g) w (w.setCell ⟨g, i, none⟩ (.int .i64 n)) := by
  obtain ⟨m, r, h1, h2, h3, h4⟩ := h
  obtain ⟨m', h5, h6⟩ := hm m h1
  have hk := keep_set w g i (.int .i64 n)
  refine ⟨store_mo h3 i hi n, ⟨m', r, h5, h2.keep hk (fun e => hne e) (fun e => hbl e), ?_, h4.trans (hk.weaken (fun _ _ h => .inr h))⟩, hk.weaken (fun _ _ h => .inr h)⟩
  rw [h6]
  exact cell_put h3 i _

set_option maxRecDepth 100000 in
set_option maxHeartbeats 4000000 in
theorem model_calls (b bl : Nat) (r : List Int) (w : World) (h : CodesAt w b bl r) : Calls Try.prog 6 #[.pointer (some ⟨b, 0, none⟩)] w (ModPost b bl w) := by
  have HC := Lib.hid h
  have hbw := h.lt
  clear h
  go_enter Try.func6, Try.ntmps6
  go_upto_region 1 with (fail)
  generalize hw1 : World.alloc _ _ = w1
  have HC : Hid (CodesAt w1 b bl r) := Lib.hid (by rw [← hw1]; exact HC.out.keep ((Keep.refl None _).alloc _) id id)
  have HB1 : Hid (w1.heap[w.heap.size]? = some (.cells (moEnc ⟨0, 0, 0, 0, 0, 0, 0, 0, 0, 0, 0, 0⟩).toArray 27 (0, 0))) := Lib.hid (by rw [← hw1]; exact heap_alloc_new _ _)
  have HK1 : Hid (Keep None w w1) := Lib.hid (by rw [← hw1]; exact (Keep.refl _ _).alloc _)
  have HKW : Hid (Keep (fun k => k = b) w1 w1) := Lib.hid (Keep.refl _ _)
  clear hw1
  go_upto_region 2 with (go_at_call 8; go_loud (refine (next_some b bl _ _ _ HC.out (by omega) (by omega)).mono ?_; rintro e w1 ⟨x1, r1, rfl, hx1, hx2, hc1, hk1⟩; have HC := Lib.hid hc1; have HKW := Lib.hid (HKW.out.trans hk1); clear hc1 hk1))
  have hsz := HC.out.lt
  have hzW := HKW.out.size
  have hw10 : w.heap.size < w1.heap.size := Nat.lt_of_lt_of_le (heap_lt HB1.out) hzW
  generalize hw2 : World.alloc _ _ = w2
  have hk2 : Keep None w1 w2 := by rw [← hw2]; exact (Keep.refl _ _).alloc _
  have HMS : Hid (MoSt MoIn b bl w1.heap.size w2 w2) := Lib.hid ⟨⟨_, _, _, _, _, _, 0, 0, 0, 0, 0, 0⟩, _, ⟨⟨⟨?a1, ?a2⟩, ⟨?b1, ?b2⟩, ⟨?c1, ?c2⟩, ⟨?d1, ?d2⟩, ⟨?e1, ?e2⟩, ⟨?f1, ?f2⟩, by simp⟩, fun h => by simp at h⟩, HC.out.keep hk2 id id, by rw [← hw2]; exact heap_alloc_new _ _, Keep.refl _ _⟩
  all_goals try (simp only; omega)
  have HZ2 : Hid (w2.heap[w.heap.size]? = some (.cells (moEnc ⟨0, 0, 0, 0, 0, 0, 0, 0, 0, 0, 0, 0⟩).toArray 27 (0, 0))) := Lib.hid (hk2.obj (HKW.out.obj HB1.out (by omega)) id)
  have HKA : Hid (Keep (fun k => k = b) w w2) := Lib.hid (((HK1.out.weaken (fun _ _ h => h.elim)).trans HKW.out).trans (hk2.weaken (fun _ _ h => h.elim)))
  have hbg : b ≠ w1.heap.size := by omega
  have hblg : bl ≠ w1.heap.size := by omega
  have hgz : w.heap.size ≠ w1.heap.size := by omega
  have hgw : w1.heap.size < w2.heap.size := by rw [← hw2]; simp
  clear hw2 hk2
  generalize w1.heap.size = g at *
  go_upto_if 20 with (go_at_call 8; go_loud (obtain ⟨m1, r1, hm1, hc1, ho1, hk1⟩ := HMS.out; refine (next_some b bl _ r1 _ hc1 (by omega) (by omega)).mono ?_; rintro e v ⟨x1, r2, rfl, hx1, hx2, hc2, hk2⟩; have HMS := Lib.hid (MoSt.next ⟨m1, r1, hm1, hc1, ho1, hk1⟩ hbg hc2 hk2); clear hm1 hc1 ho1 hk1 hc2 hk2))
  have hb2 : b < w2.heap.size := by omega
  go_cut [] (fun wx => MoSt MoIn b bl g w2 wx)
  case first =>
    by_cases hx : 0 < x1
    · go_upto_region 3 with (fail)
      refine region_anyS [Four w2.heap.size #[.int .i64 4, .int .i64 8, .int .i64 16, .int .i64 7], isV (.pointer (some ⟨b, 0, none⟩)), Bel 4, InFour w2.heap.size #[.int .i64 4, .int .i64 8, .int .i64 16, .int .i64 7], AnyI, isV (.pointer (some ⟨b, 0, none⟩)), Bel 4, AnyI, isV (.pointer (some ⟨b, 0, none⟩)), Bel 3, Upto 3, isV (.pointer (some ⟨g, 6, none⟩)), (fun _ _ => True), isV (.pointer (some ⟨g, 7, none⟩)), (fun _ _ => True)]
        (MoSt MoLo b bl g w2) (Keep (fun k => k = b ∨ k = g)) 56 15 (by kernel_rfl) (by decide) (by kernel_rfl) (by kernel_rfl) (by kernel_rfl) rfl ?_ ?_ ((HMS.out.imp (fun _ h => h.1)).same (Keep.refl None _).drew) ?_ ?_
      · intro i w1 w2 v h1 h2
        match i with
        | 0 => exact Four.keep h1 h2 (by omega)
        | 3 => exact InFour.keep h1 h2 (by omega)
        | 1 | 2 | 4 | 5 | 6 | 7 | 8 | 9 | 10 | 11 | 12 | 13 | 14 => exact h1
        | _ + 15 => trivial
      · intro i w o ho hd
        match i, ho with
        | 0, ho | 1, ho | 2, ho | 3, ho | 4, ho | 5, ho | 6, ho | 7, ho | 8, ho | 9, ho | 10, ho | 11, ho | 12, ho | 13, ho | 14, ho => first | (simp at ho; subst ho; cases hd; done) | trivial
        | _ + 15, _ => trivial
      · refine ⟨?_, ?_, ?_, ?_, ?_, ?_, ?_, ?_, ?_, ?_, ?_, ?_, ?_, ?_, ?_, trivial⟩
        · intro a w' K hI hV hF hK
          rw [if_pos (by simp [Region.wanted])]
          have hrun : (Instr.buildSlice 40 4 #[(0, .int .i64 4), (1, .int .i64 8), (2, .int .i64 16), (3, .int .i64 7)]).run Try.prog w' = .ok (.slice (some ⟨w'.heap.size, 0, none⟩) 4 4) (w'.alloc (.cells #[.int .i64 4, .int .i64 8, .int .i64 16, .int .i64 7] 3)) := by go_simp
          have hal : Keep None w' (w'.alloc (.cells #[.int .i64 4, .int .i64 8, .int .i64 16, .int .i64 7] 3)) := (Keep.refl None w').alloc _
          have hsz := hI.size
          unfold Oper.wp execOp
          simp only [List.map_toArray, List.map_cons, List.map_nil]
          show (Oper.upon _ _ _ _ _ (((Instr.buildSlice 40 4 #[(0, .int .i64 4), (1, .int .i64 8), (2, .int .i64 16), (3, .int .i64 7)]) >>= fun v => pure (Next.value v)).run _ _))
          rw [Sem.run_bind, hrun]
          simp only [Result.andThen_ok, Sem.run_pure, Oper.upon_value]
          exact hK _ _ (hI.same hal) (hal.weaken (fun _ _ h => h.elim)) ⟨w'.heap.size, rfl, hsz, heap_alloc_new _ _⟩
        · exact sv_evW (vw_free rfl) [(0, .pointer (some ⟨b, 0, none⟩))] (by simp only [List.forall_mem_singleton]; exact vdep_f rfl rfl) _ (by simp only [List.forall_mem_singleton]; intro a w' h1 hI; go_simp) (fun _ => Keep.refl _ _) (fun _ => rfl)
        · refine sv_callW (vw_free rfl) [(22, .pointer (some ⟨b, 0, none⟩))] (by simp only [List.forall_mem_singleton]; exact vdep_e 1 rfl rfl (fun _ _ h => h)) 8 #[.pointer (some ⟨b, 0, none⟩), .int .i64 4] (by simp only [List.forall_mem_singleton]; intro a w' h1; go_simp) ?_
          intro w' hI
          obtain ⟨m, r2, h1, h2, h3, h4⟩ := hI
          have hsz := h4.size
          refine (next_some b bl 4 r2 w' h2 (by omega) (by omega)).mono ?_
          rintro e w5 ⟨x, r3, rfl, hx1, hx2, hc, hk⟩
          exact ⟨_, rfl, MoSt.next ⟨m, r2, h1, h2, h3, h4⟩ hbg hc hk, hk.weaken (fun _ _ h => .inl h), x, rfl, hx1, hx2⟩
        · refine sv_pass2W (vw_free rfl) 0 21 2 23 rfl rfl rfl rfl ?_ (fun _ => Keep.refl _ _)
          rintro a w' v v' ⟨g', rfl, hg1, hg2⟩ ⟨x, rfl, hx1, hx2⟩ e1 e2 hI
          obtain ⟨j, rfl⟩ : ∃ j : Nat, x = j := ⟨x.toNat, by omega⟩
          have hj : j < 4 := by omega
          exact ⟨.pointer (some ⟨g', j, none⟩), by go_simp, g', j, rfl, hj, hg1, hg2⟩
        · refine sv_passW (vw_free rfl) 3 24 rfl rfl ?_ (fun _ => Keep.refl _ _)
          rintro a w' v ⟨g', j, rfl, hj, hg1, hg2⟩ e1 hI
          have c0 := cell_of_row _ _ j _ _ _ hg2
          rcases (by omega : j = 0 ∨ j = 1 ∨ j = 2 ∨ j = 3) with rfl | rfl | rfl | rfl
          · exact ⟨.int .i64 4, by go_simp, _, rfl⟩
          · exact ⟨.int .i64 8, by go_simp, _, rfl⟩
          · exact ⟨.int .i64 16, by go_simp, _, rfl⟩
          · exact ⟨.int .i64 7, by go_simp, _, rfl⟩
        · exact sv_evW (vw_free rfl) [(0, .pointer (some ⟨b, 0, none⟩))] (by simp only [List.forall_mem_singleton]; exact vdep_f rfl rfl) _ (by simp only [List.forall_mem_singleton]; intro a w' h1 hI; go_simp) (fun _ => Keep.refl _ _) (fun _ => rfl)
        · refine sv_callW (vw_free rfl) [(26, .pointer (some ⟨b, 0, none⟩))] (by simp only [List.forall_mem_singleton]; exact vdep_e 5 rfl rfl (fun _ _ h => h)) 8 #[.pointer (some ⟨b, 0, none⟩), .int .i64 4] (by simp only [List.forall_mem_singleton]; intro a w' h1; go_simp) ?_
          intro w' hI
          obtain ⟨m, r2, h1, h2, h3, h4⟩ := hI
          have hsz := h4.size
          refine (next_some b bl 4 r2 w' h2 (by omega) (by omega)).mono ?_
          rintro e w5 ⟨x, r3, rfl, hx1, hx2, hc, hk⟩
          exact ⟨_, rfl, MoSt.next ⟨m, r2, h1, h2, h3, h4⟩ hbg hc hk, hk.weaken (fun _ _ h => .inl h), x, rfl, hx1, hx2⟩
        · refine sv_passW (vw_free rfl) 6 27 rfl rfl ?_ (fun _ => Keep.refl _ _)
          rintro a w' v ⟨x, rfl, hx1, hx2⟩ e1 hI
          have hwr : IntKind.i64.wrap (1 + x) = 1 + x := IntWalk.i64_in _ (by omega)
          exact ⟨.int .i64 (1 + x), (by first | (go_simp; done) | (go_simp; exact hwr)), _, rfl⟩
        · exact sv_evW (vw_free rfl) [(0, .pointer (some ⟨b, 0, none⟩))] (by simp only [List.forall_mem_singleton]; exact vdep_f rfl rfl) _ (by simp only [List.forall_mem_singleton]; intro a w' h1 hI; go_simp) (fun _ => Keep.refl _ _) (fun _ => rfl)
        · refine sv_callW (vw_free rfl) [(29, .pointer (some ⟨b, 0, none⟩))] (by simp only [List.forall_mem_singleton]; exact vdep_e 8 rfl rfl (fun _ _ h => h)) 8 #[.pointer (some ⟨b, 0, none⟩), .int .i64 3] (by simp only [List.forall_mem_singleton]; intro a w' h1; go_simp) ?_
          intro w' hI
          obtain ⟨m, r2, h1, h2, h3, h4⟩ := hI
          have hsz := h4.size
          refine (next_some b bl 3 r2 w' h2 (by omega) (by omega)).mono ?_
          rintro e w5 ⟨x, r3, rfl, hx1, hx2, hc, hk⟩
          exact ⟨_, rfl, MoSt.next ⟨m, r2, h1, h2, h3, h4⟩ hbg hc hk, hk.weaken (fun _ _ h => .inl h), x, rfl, hx1, hx2⟩
        · refine sv_passW (vw_free rfl) 9 30 rfl rfl ?_ (fun _ => Keep.refl _ _)
          rintro a w' v ⟨x, rfl, hx1, hx2⟩ e1 hI
          have hwr : IntKind.i64.wrap (1 + x) = 1 + x := IntWalk.i64_in _ (by omega)
          exact ⟨.int .i64 (1 + x), (by first | (go_simp; done) | (go_simp; exact hwr)), _, rfl, by omega, by omega⟩
        · exact sv_evW (vw_free rfl) [(3, .pointer (some ⟨g, 0, none⟩))] (by simp only [List.forall_mem_singleton]; exact vdep_f rfl rfl) _ (by simp only [List.forall_mem_singleton]; intro a w' h1 hI; go_simp) (fun _ => Keep.refl _ _) (fun _ => rfl)
        · refine sv_store (vw_free rfl) 11 4 32 25 3 ⟨g, 6, none⟩ rfl rfl rfl rfl rfl (fun _ _ h => h) ?_
          rintro w' v hI hv
          obtain ⟨n, rfl⟩ : ∃ n, v = .int .i64 n := by obtain ⟨n, hn⟩ := hv; exact ⟨n, by first | exact hn | exact hn.1⟩
          obtain ⟨h1, h2, h3⟩ := hI.put (P' := MoLo) hbg hblg 6 (by omega) n (fun m hm => ⟨{ m with line := n }, hm, rfl⟩)
          exact ⟨n, rfl, h1, h2, h3, trivial⟩
        · exact sv_evW (vw_free rfl) [(3, .pointer (some ⟨g, 0, none⟩))] (by simp only [List.forall_mem_singleton]; exact vdep_f rfl rfl) _ (by simp only [List.forall_mem_singleton]; intro a w' h1 hI; go_simp) (fun _ => Keep.refl _ _) (fun _ => rfl)
        · refine sv_store (vw_free rfl) 13 7 33 28 3 ⟨g, 7, none⟩ rfl rfl rfl rfl rfl (fun _ _ h => h) ?_
          rintro w' v hI hv
          obtain ⟨n, rfl⟩ : ∃ n, v = .int .i64 n := by obtain ⟨n, hn⟩ := hv; exact ⟨n, by first | exact hn | exact hn.1⟩
          obtain ⟨h1, h2, h3⟩ := hI.put (P' := MoLo) hbg hblg 7 (by omega) n (fun m hm => ⟨{ m with sets := n }, hm, rfl⟩)
          exact ⟨n, rfl, h1, h2, h3, trivial⟩

      intro f' w5 hkinds hI
      obtain ⟨xw, kw, hw1, hw2⟩ : Upto 3 w5 (f' 31) := hkinds 10 _ 31 (by omega) rfl rfl
      obtain ⟨m5, r5, hm5, hc5, ho5, hk5⟩ := hI
      have m8 := mo_cell ho5 8 _ rfl
      have n8 := cells_free ho5 8
      simp only [putsOf, Act.put, List.take_succ_cons, List.take_zero, List.drop_succ_cons, List.drop_zero, List.setIfInBounds_toArray, List.set_cons_zero, List.set_cons_succ, kw]
      have HP := Lib.hid (MoSt.put (P' := MoIn) ⟨m5, r5, hm5, hc5, ho5, hk5⟩ hbg hblg 8 (by omega) xw (fun m hm => ⟨{ m with ways := xw }, ⟨hm, fun _ => ⟨hw1, by simp only; omega⟩⟩, rfl⟩)).2.1
      clear hkinds kw hm5 hc5 ho5 hk5
      go_wp2_with (fail)
      go_meet
      case rel => exact HP.out
    · go_wp2_with (fail)
      go_meet
      case rel => exact HMS.out
  case rest =>
    have HMS := Lib.hid hcut
    clear hcut
    have hzc := HMS.out.size
    go_upto_if 37 with (go_at_call 8; go_loud (obtain ⟨m1, r1, hm1, hc1, ho1, hk1⟩ := HMS.out; refine (next_some b bl _ r1 _ hc1 (by omega) (by omega)).mono ?_; rintro e v ⟨x1, r2, rfl, hx1, hx2, hc2, hk2⟩; have HMS := Lib.hid (MoSt.next ⟨m1, r1, hm1, hc1, ho1, hk1⟩ hbg hc2 hk2); clear hm1 hc1 ho1 hk1 hc2 hk2))
    go_cut [] (fun wx => MoSt MoIn b bl g w2 wx)
    case first =>
      by_cases hx : 0 < x1
      · go_upto_region 5 with (fail)
        refine region_anyS [Four w2.heap.size #[.int .i64 16, .int .i64 32, .int .i64 64, .int .i64 10], isV (.pointer (some ⟨b, 0, none⟩)), Bel 4, InFour w2.heap.size #[.int .i64 16, .int .i64 32, .int .i64 64, .int .i64 10], AnyI, isV (.pointer (some ⟨b, 0, none⟩)), Bel 4, Upto 4, isV (.pointer (some ⟨g, 9, none⟩)), (fun _ _ => True)]
          (MoSt MoIn b bl g w2) (Keep (fun k => k = b ∨ k = g)) 56 10 (by kernel_rfl) (by decide) (by kernel_rfl) (by kernel_rfl) (by kernel_rfl) rfl ?_ ?_ ((HMS.out.imp (fun _ h => h)).same (Keep.refl None _).drew) ?_ ?_
        · intro i w1 w2 v h1 h2
          match i with
          | 0 => exact Four.keep h1 h2 (by omega)
          | 3 => exact InFour.keep h1 h2 (by omega)
          | 1 | 2 | 4 | 5 | 6 | 7 | 8 | 9 => exact h1
          | _ + 10 => trivial
        · intro i w o ho hd
          match i, ho with
          | 0, ho | 1, ho | 2, ho | 3, ho | 4, ho | 5, ho | 6, ho | 7, ho | 8, ho | 9, ho => first | (simp at ho; subst ho; cases hd; done) | trivial
          | _ + 10, _ => trivial
        · refine ⟨?_, ?_, ?_, ?_, ?_, ?_, ?_, ?_, ?_, ?_, trivial⟩
          · intro a w' K hI hV hF hK
            rw [if_pos (by simp [Region.wanted])]
            have hrun : (Instr.buildSlice 40 4 #[(0, .int .i64 16), (1, .int .i64 32), (2, .int .i64 64), (3, .int .i64 10)]).run Try.prog w' = .ok (.slice (some ⟨w'.heap.size, 0, none⟩) 4 4) (w'.alloc (.cells #[.int .i64 16, .int .i64 32, .int .i64 64, .int .i64 10] 3)) := by go_simp
            have hal : Keep None w' (w'.alloc (.cells #[.int .i64 16, .int .i64 32, .int .i64 64, .int .i64 10] 3)) := (Keep.refl None w').alloc _
            have hsz := hI.size
            unfold Oper.wp execOp
            simp only [List.map_toArray, List.map_cons, List.map_nil]
            show (Oper.upon _ _ _ _ _ (((Instr.buildSlice 40 4 #[(0, .int .i64 16), (1, .int .i64 32), (2, .int .i64 64), (3, .int .i64 10)]) >>= fun v => pure (Next.value v)).run _ _))
            rw [Sem.run_bind, hrun]
            simp only [Result.andThen_ok, Sem.run_pure, Oper.upon_value]
            exact hK _ _ (hI.same hal) (hal.weaken (fun _ _ h => h.elim)) ⟨w'.heap.size, rfl, hsz, heap_alloc_new _ _⟩
          · exact sv_evW (vw_free rfl) [(0, .pointer (some ⟨b, 0, none⟩))] (by simp only [List.forall_mem_singleton]; exact vdep_f rfl rfl) _ (by simp only [List.forall_mem_singleton]; intro a w' h1 hI; go_simp) (fun _ => Keep.refl _ _) (fun _ => rfl)
          · refine sv_callW (vw_free rfl) [(39, .pointer (some ⟨b, 0, none⟩))] (by simp only [List.forall_mem_singleton]; exact vdep_e 1 rfl rfl (fun _ _ h => h)) 8 #[.pointer (some ⟨b, 0, none⟩), .int .i64 4] (by simp only [List.forall_mem_singleton]; intro a w' h1; go_simp) ?_
            intro w' hI
            obtain ⟨m, r2, h1, h2, h3, h4⟩ := hI
            have hsz := h4.size
            refine (next_some b bl 4 r2 w' h2 (by omega) (by omega)).mono ?_
            rintro e w5 ⟨x, r3, rfl, hx1, hx2, hc, hk⟩
            exact ⟨_, rfl, MoSt.next ⟨m, r2, h1, h2, h3, h4⟩ hbg hc hk, hk.weaken (fun _ _ h => .inl h), x, rfl, hx1, hx2⟩
          · refine sv_pass2W (vw_free rfl) 0 38 2 40 rfl rfl rfl rfl ?_ (fun _ => Keep.refl _ _)
            rintro a w' v v' ⟨g', rfl, hg1, hg2⟩ ⟨x, rfl, hx1, hx2⟩ e1 e2 hI
            obtain ⟨j, rfl⟩ : ∃ j : Nat, x = j := ⟨x.toNat, by omega⟩
            have hj : j < 4 := by omega
            exact ⟨.pointer (some ⟨g', j, none⟩), by go_simp, g', j, rfl, hj, hg1, hg2⟩
          · refine sv_passW (vw_free rfl) 3 41 rfl rfl ?_ (fun _ => Keep.refl _ _)
            rintro a w' v ⟨g', j, rfl, hj, hg1, hg2⟩ e1 hI
            have c0 := cell_of_row _ _ j _ _ _ hg2
            rcases (by omega : j = 0 ∨ j = 1 ∨ j = 2 ∨ j = 3) with rfl | rfl | rfl | rfl
            · exact ⟨.int .i64 16, by go_simp, _, rfl⟩
            · exact ⟨.int .i64 32, by go_simp, _, rfl⟩
            · exact ⟨.int .i64 64, by go_simp, _, rfl⟩
            · exact ⟨.int .i64 10, by go_simp, _, rfl⟩
          · exact sv_evW (vw_free rfl) [(0, .pointer (some ⟨b, 0, none⟩))] (by simp only [List.forall_mem_singleton]; exact vdep_f rfl rfl) _ (by simp only [List.forall_mem_singleton]; intro a w' h1 hI; go_simp) (fun _ => Keep.refl _ _) (fun _ => rfl)
          · refine sv_callW (vw_free rfl) [(43, .pointer (some ⟨b, 0, none⟩))] (by simp only [List.forall_mem_singleton]; exact vdep_e 5 rfl rfl (fun _ _ h => h)) 8 #[.pointer (some ⟨b, 0, none⟩), .int .i64 4] (by simp only [List.forall_mem_singleton]; intro a w' h1; go_simp) ?_
            intro w' hI
            obtain ⟨m, r2, h1, h2, h3, h4⟩ := hI
            have hsz := h4.size
            refine (next_some b bl 4 r2 w' h2 (by omega) (by omega)).mono ?_
            rintro e w5 ⟨x, r3, rfl, hx1, hx2, hc, hk⟩
            exact ⟨_, rfl, MoSt.next ⟨m, r2, h1, h2, h3, h4⟩ hbg hc hk, hk.weaken (fun _ _ h => .inl h), x, rfl, hx1, hx2⟩
          · refine sv_passW (vw_free rfl) 6 44 rfl rfl ?_ (fun _ => Keep.refl _ _)
            rintro a w' v ⟨x, rfl, hx1, hx2⟩ e1 hI
            have hwr : IntKind.i64.wrap (1 + x) = 1 + x := IntWalk.i64_in _ (by omega)
            exact ⟨.int .i64 (1 + x), (by first | (go_simp; done) | (go_simp; exact hwr)), _, rfl, by omega, by omega⟩
          · exact sv_evW (vw_free rfl) [(3, .pointer (some ⟨g, 0, none⟩))] (by simp only [List.forall_mem_singleton]; exact vdep_f rfl rfl) _ (by simp only [List.forall_mem_singleton]; intro a w' h1 hI; go_simp) (fun _ => Keep.refl _ _) (fun _ => rfl)
          · refine sv_store (vw_free rfl) 8 4 46 42 3 ⟨g, 9, none⟩ rfl rfl rfl rfl rfl (fun _ _ h => h) ?_
            rintro w' v hI hv
            obtain ⟨n, rfl⟩ : ∃ n, v = .int .i64 n := by obtain ⟨n, hn⟩ := hv; exact ⟨n, by first | exact hn | exact hn.1⟩
            obtain ⟨h1, h2, h3⟩ := hI.put (P' := MoIn) hbg hblg 9 (by omega) n (fun m hm => ⟨{ m with page := n }, hm, rfl⟩)
            exact ⟨n, rfl, h1, h2, h3, trivial⟩

        intro f' w5 hkinds hI
        obtain ⟨xw, kw, hw1, hw2⟩ : Upto 4 w5 (f' 45) := hkinds 7 _ 45 (by omega) rfl rfl
        obtain ⟨m5, r5, hm5, hc5, ho5, hk5⟩ := hI
        have m8 := mo_cell ho5 10 _ rfl
        have n8 := cells_free ho5 10
        simp only [putsOf, Act.put, List.take_succ_cons, List.take_zero, List.drop_succ_cons, List.drop_zero, List.setIfInBounds_toArray, List.set_cons_zero, List.set_cons_succ, kw]
        have HP := Lib.hid (MoSt.put (P' := MoIn) ⟨m5, r5, hm5, hc5, ho5, hk5⟩ hbg hblg 10 (by omega) xw (fun m hm => ⟨{ m with res := xw }, ⟨⟨hm.1.1, hm.1.2.1, hm.1.2.2.1, hm.1.2.2.2.1, hm.1.2.2.2.2.1, hm.1.2.2.2.2.2.1, by simp only; omega⟩, hm.2⟩, rfl⟩)).2.1
        clear hkinds kw hm5 hc5 ho5 hk5
        go_wp2_with (fail)
        go_meet
        case rel => exact HP.out
      · go_wp2_with (fail)
        go_meet
        case rel => exact HMS.out
    case rest =>
      have HMS := Lib.hid hcut
      clear hcut
      have hzc := HMS.out.size
      go_upto_if 50 with (go_at_call 8; go_loud (obtain ⟨m1, r1, hm1, hc1, ho1, hk1⟩ := HMS.out; refine (next_some b bl _ r1 _ hc1 (by omega) (by omega)).mono ?_; rintro e v ⟨x1, r2, rfl, hx1, hx2, hc2, hk2⟩; have HMS := Lib.hid (MoSt.next ⟨m1, r1, hm1, hc1, ho1, hk1⟩ hbg hc2 hk2); clear hm1 hc1 ho1 hk1 hc2 hk2))
      go_cut [] (fun wx => MoSt MoIn b bl g w2 wx)
      case first =>
        by_cases hx : 0 < x1
        · go_wp2_with (go_at_call 8; go_loud (obtain ⟨m1, r1, hm1, hc1, ho1, hk1⟩ := HMS.out; refine (next_some b bl _ r1 _ hc1 (by omega) (by omega)).mono ?_; rintro e v2 ⟨xp, r2, rfl, hxp1, hxp2, hc2, hk2⟩; have m8 := mo_cell (hk2.obj ho1 (fun e => hbg e.symm)) 11 _ rfl; have n8 := cells_free (hk2.obj ho1 (fun e => hbg e.symm)) 11; have HMS := Lib.hid (MoSt.next ⟨m1, r1, hm1, hc1, ho1, hk1⟩ hbg hc2 hk2); clear hm1 hc1 ho1 hk1 hc2 hk2))
          go_meet
          case rel => exact (MoSt.put (P' := MoIn) HMS.out hbg hblg 11 (by omega) (1 + xp) (fun m hm => ⟨{ m with pred := 1 + xp }, hm, rfl⟩)).2.1
        · go_wp2_with (fail)
          go_meet
          case rel => exact HMS.out
      case rest =>
        obtain ⟨m, r, hm, hc, ho, hk⟩ := hcut
        have HO := Lib.hid ho
        have HZ := Lib.hid (hk.obj HZ2.out (by omega))
        have HCW := Lib.hid hc
        have HKB := Lib.hid hk
        clear hc ho hk
        go_wp2_with (first
          | ((with_reducible (show wpList _ _ _ (⟨_, .load 27 (.tmp 3), _, _, _, none⟩ :: _) _ _)); go_loud (refine wpList_loadEl (enc := listEnc) (size := 12) rfl 27 _ rfl _ _ rfl _ _ (range_of_obj HO.out) rfl Try.underlying27 rfl Try.sizeModel (moVal m) rfl ?_))
          | ((with_reducible (show wpList _ _ _ (⟨_, .store 27 (.tmp 2) _, _, _, _, none⟩ :: _) _ _)); go_loud (refine wpList_storeObj rfl 27 _ _ rfl w.heap.size rfl (moEnc ⟨0, 0, 0, 0, 0, 0, 0, 0, 0, 0, 0, 0⟩) (moEnc m) rfl _ rfl HZ.out 12 Try.sizeModel rfl (by simp [Value.oneCell', moEnc]) ?_; intro w8 ho8 hk8 _; have HO8 := Lib.hid ho8; have HK8 := Lib.hid hk8; clear ho8 hk8)))
        refine bodyPost_ret (results_obj rfl rfl _ _ (range_of_obj HO8.out) Try.underlying27 rfl 12 Try.sizeModel rfl) rfl ?_
        obtain ⟨⟨h1, h2, h3, h4, h5, h6, h7⟩, h8⟩ := hm
        refine ⟨m, r, rfl, ⟨⟨h1.1, by omega⟩, ⟨h2.1, by omega⟩, ⟨h3.1, by omega⟩, ⟨h4.1, by omega⟩, ⟨h5.1, by omega⟩, ⟨h6.1, by omega⟩, h8, h7⟩, h1.2, h2.2, h3.2, h4.2, h5.2, HCW.out.keep HK8.out (by omega) (by omega), ?_⟩
        refine (HKA.out.andThen HKB.out (fun x h1 h2 => ?_)).andThen HK8.out (fun x h1 h2 => ?_)
        · rcases h2 with h2 | h2
          · exact h2
          · omega
        · have h3 : x = w.heap.size := h2
          omega

/-! ### Fetches -/
def TracePost (b bl most : Nat) (w : World) (e : Ending) (w' : World) : Prop :=
  ∃ l p c r, e = .returned (.slice p l.length c) ∧ l.length ≤ most ∧ (∀ f ∈ l, FeOk f) ∧ Own feEnc 3 37 w.heap.size w' (.slice p l.length c) l ∧ CodesAt w' b bl r ∧ Keep (fun k => k = b) w w'

def TrInv (b bl base : Nat) (w0 : World) (most : Nat) (t5 t6 : Value) (w : World) : Prop :=
  ∃ (l : List Fe) (k : Nat) (p : Option Addr) (c : Nat) (r : List Int), t6 = .int .i64 k ∧ l.length + k ≤ most ∧ t5 = .slice p l.length c ∧ (∀ f ∈ l, FeOk f) ∧ Own feEnc 3 37 base w (.slice p l.length c) l ∧ CodesAt w b bl r ∧ Keep (fun x => x = b ∨ base ≤ x) w0 w

theorem Try.infoFetch : (Try.prog.info? 37).map (fun i => (i.zero, i.size, i.bytes)) = some (some (feVal ⟨0, 0, 0⟩), 3, 24) := by kernel_rfl

set_option maxRecDepth 100000 in
set_option maxHeartbeats 4000000 in
theorem trace_calls (b bl most : Nat) (r : List Int) (w : World) (h : CodesAt w b bl r) (hm : most ≤ 900) : Calls Try.prog 7 #[.pointer (some ⟨b, 0, none⟩), .int .i64 (most : Int)] w (TracePost b bl most w) := by
  obtain ⟨im, him, hv0, hv1, hv2⟩ := info_parts Try.infoFetch
  have HC := Lib.hid h
  have hbw := h.lt
  clear h
  go_enter Try.func7, Try.ntmps7
  go_wp2_with (go_at_call 8; go_loud (refine (next_some b bl _ r _ HC.out (by omega) (by omega)).mono ?_; rintro e w1 ⟨x1, r1, rfl, hx1, hx2, hc1, hk1⟩; have HC1 := Lib.hid hc1; have HK1 := Lib.hid hk1; clear hc1 hk1))
  obtain ⟨k1, rfl⟩ : ∃ k : Nat, x1 = k := ⟨x1.toNat, by omega⟩
  have hz1 := HK1.out.size
  go_loopw [5, 6] (TrInv b bl w.heap.size w1 most) (fun _ i _ => (intOf i).toNat)
  case atStart => exact ⟨[], k1, none, 0, r1, rfl, by simp; omega, rfl, by simp, Own.nil _ _ _ _ _, HC1.out, Keep.refl _ _⟩
  case round =>
    obtain ⟨l, k, p, c, r2, rfl, hk, rfl, hok, hown, hc, hkr⟩ := hrel
    have HOK := Lib.hid hok
    have HOWN := Lib.hid hown
    have HC := Lib.hid hc
    have HKR := Lib.hid hkr
    have hzr := hkr.size
    clear hok hown hc hkr
    by_cases hk0 : 0 < k
    · have HKX : Hid (Keep (fun x => x = b) wr wr) := Lib.hid (Keep.refl _ _)
      go_wp2_with (first
        | (go_at_call 8; go_loud (refine (next_some b bl _ _ _ HC.out (by omega) (by omega)).mono ?_; rintro e v ⟨x1, r1, rfl, hx1, hx2, hc1, hk1⟩; have HC := Lib.hid hc1; have HKX := Lib.hid (HKX.out.trans hk1); clear hc1 hk1))
        | (at_builtin; go_loud (have hzx := HKX.out.size; refine wpList_pushAt rfl _ _ 29 rfl w.heap.size _ im _ 24 Try.underlying29 him hv0 hv1 hv2 rfl (by decide) feEnc_len (.slice p l.length c) l rfl ((HOWN.out.keep HKX.out (fun x h1 h2 => by have := (World.ownsRow.lt HOWN.out x h1).1; have h3 : x = b := h2; omega)).keep (S := None) ((Keep.refl _ _).alloc _) (fun _ _ => id)) ⟨_, _, _⟩ _ 1 rfl _ (heap_alloc_new _ _) rfl rfl (by simp [Value.oneCell']) (by omega) (by omega) (by simp; omega) ?_; intro p7 c7 w7 hown7 hk7 hd7 _; have HO7 := Lib.hid hown7; have HK7 := Lib.hid hk7; have HD7 := Lib.hid hd7; clear hown7 hk7 hd7)))
      refine ⟨⟨l ++ [_], k - 1, p7, c7, r1, ?_, ?_, by simp, ?_, by rw [List.length_append]; exact HO7.out, (HC.out.keep ((Keep.refl None _).alloc _) id id).keep HK7.out (by omega) (by omega), (HKR.out.trans ((HKX.out.alloc _).weaken (fun _ _ h => .inl h))).trans (HK7.out.weaken (fun _ _ h => .inr h))⟩, by simp [intOf]; omega⟩
      · congr 1; omega
      · rw [List.length_append, List.length_singleton]; omega
      · intro f hf
        rcases List.mem_append.1 hf with hf | hf
        · exact HOK.out f hf
        · rw [List.mem_singleton] at hf
          subst hf
          unfold FeOk
          simp only
          omega
    · obtain rfl : k = 0 := by omega
      go_wp2_with (fail)
      go_ret
      refine ⟨l, p, c, r2, rfl, by omega, HOK.out, HOWN.out, HC.out, HK1.out.andThen HKR.out (fun x h1 h2 => ?_)⟩
      rcases h2 with h2 | h2
      · exact h2
      · omega

end Go.Proofs.Ytpdnfekhfagfkaa
