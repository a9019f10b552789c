/-
  Chapter 30: a function's counts with one change.
-/
import Derived.Test.YtcdophocpheadaaGreatDoorSvDraw
import Derived.Test.YtcdophocpheadaaGreatDoorOwnMore
namespace Go.Proofs.YtcdophocpheadaaGreatDoor
open Go.RowKit

/-- 'append([]T(nil), xs...)' as an operation of a drawn region. -/
theorem wp_copyAll {P : Program} {α : Type} {enc : α → List Value} {size : Nat} {w : World} {o : Oper} {a : Act} {K : Act → World → Prop} {Q : Exit → Act → World → Prop} (s x : Operand) (t : TypeId)
    (ho : o.op = .call { callee := .builtin .append, args := #[s, x], argTypes := #[t, t] })
    (e : TypeId) (i : TypeInfo) (z : Value) (bytes : Nat) (ht : P.underlying t = some (.slice e)) (hi : P.info? e = some i) (hz : i.zero = some z)
    (hsize : i.size = size) (hby : i.bytes = bytes) (hzs : z.cells.size = size) (hsz : 0 < size) (henc : ∀ x, (enc x).length = size)
    (hs : a.eval s = .slice none 0 0) (p : Option Addr) (xs : List α) (c : Nat) (hx : a.eval x = .slice p xs.length c) (hv : SliceV enc size w p xs) (h1 : ∀ x, ∀ u ∈ enc x, u.oneCell' = true)
    (hlen : xs.length ≤ 2000000) (hb : bytes ≤ 10000)
    (h : ∀ v' w', Own enc size e w.heap.size w' v' xs → Keep None w w' → K (a.put o.dst v') w') :
    Oper.wp P o a w K Q := by
  have hbytes : (0 + xs.length) * bytes ≤ 140737488355328 := by
    have : (0 + xs.length) * bytes ≤ 2000000 * 10000 := Nat.mul_le_mul (by omega) hb
    omega
  have hown : Own enc size e w.heap.size w (.slice none 0 0) ([] : List α) := Own.nil _ _ _ _ _
  have some_case : ∀ ad : Addr, p = some ad → (∀ j u, (xs.flatMap enc)[j]? = some u → w.cell? (ad.add j) = some u) → Oper.wp P o a w K Q := by
    intro ad hp hc
    subst hp
    obtain ⟨v', w', hr, h2, h3, h4, h5⟩ := run_append_own_at (P := P) w w.heap.size t o.type e i z size bytes ht hi hz hsize hby hzs hsz (.slice none 0 0) 0 [] hown ad xs.length c (xs.flatMap enc) (flat_len henc xs) hc
      (by intro u hu; obtain ⟨y, -, hy⟩ := List.mem_flatMap.1 hu; exact h1 y u hy) (by unfold maxLen; omega) hbytes (Nat.le_refl _)
    unfold Oper.wp execOp
    simp only [ho, resolve, invoke, builtin, Sem.run_bind, Sem.run_pure, Result.andThen_ok, List.map_toArray, List.map_cons, List.map_nil, hs, hx, hr]
    refine h v' w' (by unfold Own; simpa using h2) ?_
    exact (Keep.refl _ _).grown h3 fun k hk => by cases hk
  cases p with
  | none =>
    have hxs : xs = [] := by
      rcases hv with h0 | ⟨b, off, h0, -⟩
      · exact h0
      · cases h0
    subst hxs
    have hr : (Builtin.append_ #[t, t] o.type #[.slice none 0 0, .slice none 0 c]).run P w = .ok (.slice none 0 0) w := by
      simp [Builtin.append_, run_underlying ht, sizeOf, typeInfo, hi, Builtin.lenOf, Builtin.firstCells]
    unfold Oper.wp execOp
    simp only [ho, resolve, invoke, builtin, Sem.run_bind, Sem.run_pure, Result.andThen_ok, List.map_toArray, List.map_cons, List.map_nil, hs, hx, List.length_nil, hr]
    exact h _ _ hown (Keep.refl _ _)
  | some ad =>
    refine some_case ad rfl ?_
    rcases hv with h0 | ⟨b, off, h0, hv⟩
    · subst h0; simp
    · cases h0
      intro j u hu
      have hj : j < (xs.flatMap enc).length := (List.getElem?_eq_some_iff.1 hu).1
      rw [flat_len henc] at hj
      have hq : j / size < xs.length := Nat.div_lt_of_lt_mul (by rw [Nat.mul_comm]; exact hj)
      have hm := Nat.mod_lt j hsz
      have e1 : xs[j / size]? = some (xs[j / size]'hq) := List.getElem?_eq_getElem hq
      have e2 : (enc (xs[j / size]'hq))[j % size]? = some ((enc (xs[j / size]'hq))[j % size]'(by rw [henc]; exact hm)) := List.getElem?_eq_getElem _
      have e3 := flat_get henc xs (j / size) _ e1 (j % size) _ e2
      have e4 := hv (j / size) _ e1 (j % size) _ e2
      have hd : j / size * size + j % size = j := by rw [Nat.mul_comm]; exact Nat.div_add_mod j size
      rw [hd] at e3
      rw [e3] at hu
      have : (⟨b, off, none⟩ : Addr).add j = ⟨b, off + j, none⟩ := by unfold Addr.add; split <;> simp_all
      rw [this, ← hu, ← e4]
      congr 2
      omega

theorem Own.base {α : Type} {enc : α → List Value} {size : Nat} {e : TypeId} {base base' : Nat} {w : World} {v : Value} {xs : List α} (h : Own enc size e base w v xs) (hb : base' ≤ base) : Own enc size e base' w v xs := by
  refine ⟨h.1, ?_⟩
  rcases h.2 with hn | ⟨g, cap, cur, hv, hg, rest⟩
  · exact .inl hn
  · exact .inr ⟨g, cap, cur, hv, by omega, rest⟩

def OwnV {α : Type} (enc : α → List Value) (size : Nat) (e : TypeId) (lo : Nat) (xs : List α) (w : World) (v : Value) : Prop := Own enc size e lo w v xs
theorem ownV_keep {α : Type} {enc : α → List Value} {size : Nat} {e : TypeId} (lo : Nat) (xs : List α) : ∀ w w' v, Keep None w w' → OwnV enc size e lo xs w v → OwnV enc size e lo xs w' v :=
  fun _ _ _ h o => Own.keepOld o h (fun _ h => h.elim)

/-- What Odd answers. -/
def OddPost (b bl : Nat) (x : FcM) (w : World) (e : Ending) (w' : World) : Prop :=
  ∃ y : FcM, e = .returned y.val ∧ y.ok w' ∧ From w.heap.size y.pb ∧ From w.heap.size y.pe ∧ y.ps = x.ps ∧ y.cs = x.cs ∧ y.st = x.st ∧ Cd b bl w' ∧ Keep (· = b) w w'

/-- The box of what is being changed. -/
structure OB (b bl gy : Nat) (ps : Option Addr) (cs ns : Nat) (w0 w : World) (ent : Int) (pb : Option Addr) (cb : Nat) (bs : List Int) (pe : Option Addr) (ce : Nat) (es : List (Int × Int)) : Prop where
  cd : Cd b bl w
  box : w.heap[gy]? = some (.cells #[.int .i64 ent, .slice pb bs.length cb, .slice pe es.length ce, .slice ps ns cs] 45 (0, 0))
  ob : Own intEnc 1 3 (gy + 1) w (.slice pb bs.length cb) bs
  oe : Own prEnc 2 97 (gy + 1) w (.slice pe es.length ce) es
  lb : bs.length ≤ 300
  le : es.length ≤ 300
  kp : Keep (fun i => i = b ∨ gy ≤ i) w0 w

theorem own_free {α : Type} {enc : α → List Value} {size : Nat} {e : TypeId} {base : Nat} {w : World} {g n cap : Nat} {xs : List α} (h : Own enc size e base w (.slice (some ⟨g, 0, none⟩) n cap) xs) (j : Nat) : w.frozen? ⟨g, j, none⟩ = false := by
  rcases h.2 with ⟨hn, -⟩ | ⟨g', cap', cur, hv, hb, hg, -⟩
  · cases hn
  · cases hv
    unfold World.frozen?
    rw [hg]
    simp
def Is64 (_ : World) (v : Value) : Prop := ∃ m, v = .int .i64 m ∧ i64 m
theorem is64_keep (S : Nat → Prop) : ∀ w w' v, Keep S w w' → Is64 w v → Is64 w' v := fun _ _ _ _ h => h

def PtrIn (g : Nat) (n : Nat) (_ : World) (v : Value) : Prop := ∃ j, j < n ∧ v = .pointer (some ⟨g, j * 2, none⟩)
theorem ptrIn_keep (S : Nat → Prop) (g n : Nat) : ∀ w w' v, Keep S w w' → PtrIn g n w v → PtrIn g n w' v := fun _ _ _ _ h => h

theorem OB.drawn {b bl gy : Nat} {ps : Option Addr} {cs ns : Nat} {w0 w w' : World} {ent : Int} {pb : Option Addr} {cb : Nat} {bs : List Int} {pe : Option Addr} {ce : Nat} {es : List (Int × Int)}
    (h : OB b bl gy ps cs ns w0 w ent pb cb bs pe ce es) (hc : Cd b bl w') (hk : Keep (· = b) w w') (hb : b < gy) : OB b bl gy ps cs ns w0 w' ent pb cb bs pe ce es :=
  ⟨hc, hk.obj h.box (by omega), h.ob.keepOld hk (fun i hi => by omega), h.oe.keepOld hk (fun i hi => by omega), h.lb, h.le, h.kp.trans (hk.weaken (fun i _ h => .inl h))⟩

set_option maxRecDepth 100000 in
set_option maxHeartbeats 8000000 in
theorem odd_calls (b bl : Nat) (x : FcM) (w : World) (h : Cd b bl w) (hx : x.ok w) (n1 : 1 ≤ x.bs.length) (n2 : x.bs.length ≤ 256) (n3 : x.es.length = x.bs.length) (hoff : x.off (fun i => i = b ∨ w.heap.size ≤ i)) :
    Calls Tryz.prog 14 #[.pointer (some ⟨b, 0, none⟩), x.val] w (OddPost b bl x w) := by
  obtain ⟨ent, pb, cb, bs, pe, ce, es, ps, cs, st⟩ := x
  simp only at n1 n2 n3
  simp only [FcM.val]
  have hbw := h.lt.1
  have HC0 := Lib.hid h
  have HX := Lib.hid hx
  obtain ⟨i3, hi3, hv0, hv1, hv2⟩ := info_parts Tryz.infoInt
  obtain ⟨i4, hi4, hu0, hu1, hu2⟩ := info_parts Tryz.infoPr
  have HN3 := Lib.hid n3
  have HOFF := Lib.hid hoff
  have le : 1 ≤ es.length ∧ es.length ≤ 256 := by omega
  clear h hx n3 hoff
  go_enter Tryz.func14, Tryz.ntmps14
  go_upto_region 2 with (fail)
  generalize hw1 : World.alloc _ _ = w1
  have hk1 : Keep None w w1 := by rw [← hw1]; exact (((Keep.refl None w).alloc _).alloc _).alloc _
  have hA : w1.heap[w.heap.size]? = some (.cells #[.int .i64 ent, .slice pb bs.length cb, .slice pe es.length ce, .slice ps st.length cs] 45 (0, 0)) := by
    rw [← hw1]; exact (((Keep.refl None _).alloc _).alloc _).obj (heap_alloc_new _ _) id
  have hR : w1.heap[w.heap.size + 1]? = some (.cells #[.int .i64 0, .slice none 0 0, .slice none 0 0, .slice none 0 0] 45 (0, 0)) := by
    rw [← hw1]; exact ((Keep.refl None _).alloc _).obj (alloc_at (by simp)) id
  have hG : w1.heap[w.heap.size + 1 + 1]? = some (.cells #[.int .i64 ent, .slice pb bs.length cb, .slice pe es.length ce, .slice ps st.length cs] 45 (0, 0)) := by
    rw [← hw1]; exact alloc_at (by simp)
  have hz1 : w1.heap.size = w.heap.size + 3 := by rw [← hw1]; simp
  have HC := Lib.hid (HC0.out.same hk1)
  have HX := Lib.hid (HX.out.keep hk1)
  have HK := Lib.hid hk1
  have HG := Lib.hid hG
  have HR := Lib.hid hR
  have HA := Lib.hid hA
  clear hw1 hk1 hA hR hG HC0
  generalize hH : w.heap.size = H at *
  have HAK : Hid (∀ w', Keep None w1 w' → w'.heap[H]? = some (.cells #[.int .i64 ent, .slice pb bs.length cb, .slice pe es.length ce, .slice ps st.length cs] 45 (0, 0))) := Lib.hid (fun w' hk' => hk'.obj HA.out id)
  have hw3 : H + 3 ≤ w1.heap.size := by omega
  refine region_kindsG_tail None [.is (.pointer (some ⟨H, 1, none⟩)), .is (.slice pb bs.length cb), .sat (OwnV intEnc 1 3 (H + 3) bs) (ownV_keep _ _), .is (.pointer (some ⟨H, 2, none⟩)), .is (.slice pe es.length ce), .sat (OwnV prEnc 2 97 (H + 3) es) (ownV_keep _ _), .is (.pointer (some ⟨H + 1 + 1, 1, none⟩)), .any, .any, .any]
    (fun w' => Keep None w1 w') 73 7 (by kernel_rfl) (by decide) (by kernel_rfl) (by kernel_rfl) (by kernel_rfl) rfl (by kernel_rfl) ((Keep.refl _ _).drew) ?_ ?_
  · refine ⟨?_, ?_, ?_, ?_, ?_, ?_, ?_, trivial⟩
    · exact st_free rfl (st_ev1 (dep_f (t := 3) rfl rfl) _ (by intro a w' h1 hI; go_simp) rfl)
    · exact st_free rfl (st_ev1 (dep_e 0 rfl rfl rfl) _ (by intro a w' h1 hI; have q0 := cell_of_row _ _ 1 _ _ _ (HAK.out _ hI); go_simp) rfl)
    · refine st_free rfl ?_
      intro a w' K' hI hV hF hK
      have e0 : a.eval (.tmp 8) = .slice pb bs.length cb := tells hV 1 8 rfl rfl
      refine wp_copyAll _ _ 41 rfl 3 i3 _ 8 Tryz.underlying41 hi3 hv0 hv1 hv2 rfl (by decide) intEnc_len rfl pb bs cb e0 (HX.out.keep hI).bs (by intro x u hu; simp [intEnc] at hu; subst hu; rfl) (by omega) (by omega) ?_
      intro v' w'' ho hk
      exact hK _ _ (hI.trans hk) hk (Own.base ho (by have := hI.size; omega))
    · exact st_free rfl (st_ev1 (dep_f (t := 3) rfl rfl) _ (by intro a w' h1 hI; go_simp) rfl)
    · exact st_free rfl (st_ev1 (dep_e 3 rfl rfl rfl) _ (by intro a w' h1 hI; have q0 := cell_of_row _ _ 2 _ _ _ (HAK.out _ hI); go_simp) rfl)
    · refine st_free rfl ?_
      intro a w' K' hI hV hF hK
      have e0 : a.eval (.tmp 11) = .slice pe es.length ce := tells hV 4 11 rfl rfl
      refine wp_copyAll _ _ 42 rfl 97 i4 _ 16 Tryz.underlying42 hi4 hu0 hu1 hu2 rfl (by decide) prEnc_len rfl pe es ce e0 (HX.out.keep hI).es (by intro x u hu; simp [prEnc] at hu; rcases hu with rfl | rfl <;> rfl) (by omega) (by omega) ?_
      intro v' w'' ho hk
      exact hK _ _ (hI.trans hk) hk (Own.base ho (by have := hI.size; omega))
    · exact st_free rfl (st_ev1 (dep_f (t := 5) rfl rfl) _ (by intro a w' h1 hI; go_simp) rfl)
  intro f' w2 hkinds hI
  have o1 : Own intEnc 1 3 (H + 3) w2 (f' 9) bs := hkinds 2 _ 9 (by omega) rfl rfl
  have o2 : Own prEnc 2 97 (H + 3) w2 (f' 12) es := hkinds 5 _ 12 (by omega) rfl rfl
  obtain ⟨p1, c1, k1, -⟩ := o1.slice intEnc_len
  obtain ⟨p2, c2, k2, -⟩ := o2.slice prEnc_len
  rw [k1] at o1
  rw [k2] at o2
  have k3 : f' 13 = .pointer (some ⟨H + 1 + 1, 1, none⟩) := hkinds 6 _ 13 (by omega) rfl rfl
  simp only [putsOf, Act.put, List.take_succ_cons, List.take_zero, List.drop_succ_cons, List.drop_zero, List.setIfInBounds_toArray, List.set_cons_zero, List.set_cons_succ, k1, k2, k3]
  clear hkinds k1 k2 k3
  have HO1 := Lib.hid o1
  have HO2 := Lib.hid o2
  have HG := Lib.hid (hI.obj HG.out id)
  have HR := Lib.hid (hI.obj HR.out id)
  have HC := Lib.hid (HC.out.same hI)
  have HX := Lib.hid (HX.out.keep hI)
  have HK := Lib.hid (HK.out.trans hI)
  have hz2 := hI.size
  have s1 : w2.cell? ⟨H + 1 + 1, 1, none⟩ = some (.slice pb bs.length cb) := cell_of_row _ _ 1 _ _ _ HG.out
  have s2 : w2.frozen? ⟨H + 1 + 1, 1, none⟩ = false := by have h := HG.out; unfold World.frozen?; rw [h]; rfl
  have s3 : w2.cell? ⟨H + 1 + 1, 2, none⟩ = some (.slice pe es.length ce) := cell_of_row _ _ 2 _ _ _ HG.out
  have s4 : w2.frozen? ⟨H + 1 + 1, 2, none⟩ = false := by have h := HG.out; unfold World.frozen?; rw [h]; rfl
  clear o1 o2 hI HA HAK
  go_upto_region 3 with (fail)
  clear s1 s2 s3 s4
  have hx3 := heap_setCell' (j := 1) (v := .slice p1 bs.length c1) HG.out
  simp only [List.setIfInBounds_toArray, List.set_cons_succ, List.set_cons_zero] at hx3
  have hx4 := heap_setCell' (j := 2) (v := .slice p2 es.length c2) hx3
  simp only [List.setIfInBounds_toArray, List.set_cons_succ, List.set_cons_zero] at hx4
  have hk4 : Keep (· = H + 1 + 1) w2 ((w2.setCell ⟨H + 1 + 1, 1, none⟩ (.slice p1 bs.length c1)).setCell ⟨H + 1 + 1, 2, none⟩ (.slice p2 es.length c2)) :=
    ((Keep.refl (· = H + 1 + 1) _).setCell (p := ⟨H + 1 + 1, 1, none⟩) (.inl rfl) _).setCell (p := ⟨H + 1 + 1, 2, none⟩) (.inl rfl) _
  generalize (w2.setCell ⟨H + 1 + 1, 1, none⟩ (.slice p1 bs.length c1)).setCell ⟨H + 1 + 1, 2, none⟩ (.slice p2 es.length c2) = w4 at *
  have hz4 := hk4.size
  generalize hgy : H + 1 + 1 = gy at *
  have HO4 : Hid (OB b bl gy ps cs st.length w2 w4 ent p1 c1 bs p2 c2 es) := Lib.hid ⟨HC.out.keep hk4 (fun i hi h3 => by have h4 : i = gy := h3; omega), hx4, (HO1.out.base (by omega)).keepOld hk4 (fun i hi => by have h3 : i = gy := hi; omega), (HO2.out.base (by omega)).keepOld hk4 (fun i hi => by have h3 : i = gy := hi; omega), by omega, by omega, hk4.weaken (fun i _ h => .inr (by have h3 : i = gy := h; omega))⟩
  clear hx3 hx4 hk4 HO1 HO2 HG HC
  go_wp2_with (fail)
  refine (Cd.next HO4.out.cd (by omega) (by omega)).mono ?_
  rintro e w5 ⟨ch, rfl, ch0, ch1, hc5, hk5⟩
  have hz5 := hk5.size
  have HO5 : Hid (OB b bl gy ps cs st.length w2 w5 ent p1 c1 bs p2 c2 es) := Lib.hid ⟨hc5, hk5.obj HO4.out.box (by omega), HO4.out.ob.keepOld hk5 (fun i hi => by omega), HO4.out.oe.keepOld hk5 (fun i hi => by omega), by omega, by omega, HO4.out.kp.trans (hk5.weaken (fun i _ h => .inl h))⟩
  clear hc5 hk5 HO4
  go_upto_block 0 with (fail)
  go_cut [] (fun wx => ∃ ent pb cb bs pe ce es, OB b bl gy ps cs st.length w2 wx ent pb cb bs pe ce es)
  case first =>
    have hbg : b < gy := by omega
    obtain rfl | rfl | rfl | rfl | rfl | rfl : ch = 0 ∨ ch = 1 ∨ ch = 2 ∨ ch = 3 ∨ ch = 4 ∨ ch = 5 := by omega
    · go_wp2_with (fail)
      refine (Cd.int HO5.out.cd).mono ?_
      rintro e w6 ⟨m, rfl, mi, hc6, hk6⟩
      have HO6 := Lib.hid (HO5.out.drawn hc6 hk6 hbg)
      have s1 : w6.cell? ⟨gy, 0, none⟩ = some (.int .i64 ent) := cell_of_row _ _ 0 _ _ _ HO6.out.box
      have s2 : w6.frozen? ⟨gy, 0, none⟩ = false := by have h := HO6.out.box; unfold World.frozen?; rw [h]; rfl
      clear hc6 hk6 HO5
      go_wp2
      clear s1 s2
      go_meet
      case rel =>
        have hx7 := heap_setCell' (j := 0) (v := .int .i64 m) HO6.out.box
        simp only [List.setIfInBounds_toArray, List.set_cons_succ, List.set_cons_zero] at hx7
        have hk7 : Keep (· = gy) w6 (w6.setCell ⟨gy, 0, none⟩ (.int .i64 m)) := (Keep.refl (· = gy) _).setCell (p := ⟨gy, 0, none⟩) (.inl rfl) _
        exact ⟨m, p1, c1, bs, p2, c2, es, ⟨HO6.out.cd.keep hk7 (fun i hi h3 => by have h4 : i = gy := h3; omega), hx7, HO6.out.ob.keepOld hk7 (fun i hi => by have h3 : i = gy := hi; omega), HO6.out.oe.keepOld hk7 (fun i hi => by have h3 : i = gy := hi; omega), HO6.out.lb, HO6.out.le, HO6.out.kp.trans (hk7.weaken (fun i _ h => .inr (by have h3 : i = gy := h; omega)))⟩⟩
    · have HOBK : Hid (∀ w', Keep (· = b) w5 w' → w'.heap[gy]? = some (.cells #[.int .i64 ent, .slice p1 bs.length c1, .slice p2 es.length c2, .slice ps st.length cs] 45 (0, 0))) := Lib.hid (fun w' hk' => hk'.obj HO5.out.box (by omega))
      have s0 : w5.cell? ⟨gy, 1, none⟩ = some (.slice p1 bs.length c1) := cell_of_row _ _ 1 _ _ _ HO5.out.box
      have hb5 := HO5.out.cd.lt
      go_wp2_with (fail)
      refine region_kindsG_tail (· = b) [.is (.pointer (some ⟨gy, 1, none⟩)), .is (.slice p1 bs.length c1), .is (.pointer (some ⟨b, 0, none⟩)), .is (.pointer (some ⟨gy, 1, none⟩)), .is (.slice p1 bs.length c1), .is (.int .i64 bs.length), .sat (NumIn 0 bs.length) (numIn_keep _ _ _), .is (.pointer (some ⟨b, 0, none⟩)), .sat Is64 (is64_keep _), .any, .any]
        (fun w' => Cd b bl w' ∧ Keep (· = b) w5 w') 73 9 (by kernel_rfl) (by decide) (by kernel_rfl) (by kernel_rfl) (by kernel_rfl) rfl (by kernel_rfl) ⟨HO5.out.cd.same (Keep.refl _ _).drew, (Keep.refl _ _).drew⟩ ?_ ?_
      · refine ⟨?_, ?_, ?_, ?_, ?_, ?_, ?_, ?_, ?_, trivial⟩
        · exact st_free rfl (st_ev1 (dep_f (t := 5) rfl rfl) _ (by intro a w' h1 hI; go_simp) rfl)
        · exact st_free rfl (st_ev1 (dep_e 0 rfl rfl rfl) _ (by intro a w' h1 hI; have q0 := cell_of_row _ _ 1 _ _ _ (HOBK.out _ hI.2); go_simp) rfl)
        · exact st_free rfl (st_ev1 (dep_f (t := 0) rfl rfl) _ (by intro a w' h1 hI; go_simp) rfl)
        · exact st_free rfl (st_ev1 (dep_f (t := 5) rfl rfl) _ (by intro a w' h1 hI; go_simp) rfl)
        · exact st_free rfl (st_ev1 (dep_e 3 rfl rfl rfl) _ (by intro a w' h1 hI; have q0 := cell_of_row _ _ 1 _ _ _ (HOBK.out _ hI.2); go_simp) rfl)
        · exact st_free rfl (st_ev1 (dep_e 4 rfl rfl rfl) _ (by intro a w' h1 hI; go_simp) rfl)
        · exact st_free rfl (st_callD2 (dep_e 2 rfl rfl rfl) (dep_e 5 rfl rfl rfl) 12 #[.pointer (some ⟨b, 0, none⟩), .int .i64 bs.length] (by intro a w' h1 h2; go_simp) (by rintro w' ⟨hcc, hI⟩; refine (Cd.next hcc (by omega) (by omega)).mono ?_; rintro e w'' ⟨mm, rfl, a3, a4, a1, a2⟩; exact ⟨_, rfl, ⟨_, rfl, a3, a4⟩, ⟨a1, hI.trans a2⟩, a2⟩))
        · exact st_free rfl (st_ev1 (dep_f (t := 0) rfl rfl) _ (by intro a w' h1 hI; go_simp) rfl)
        · exact st_free rfl (st_callD1 (dep_e 7 rfl rfl rfl) 13 #[.pointer (some ⟨b, 0, none⟩)] (by intro a w' h1; go_simp) (by rintro w' ⟨hcc, hI⟩; refine (Cd.int hcc).mono ?_; rintro e w'' ⟨mm, rfl, a3, a1, a2⟩; exact ⟨_, rfl, ⟨mm, rfl, a3⟩, ⟨a1, hI.trans a2⟩, a2⟩))
      intro f' w6 hkinds hI
      have k1 : f' 29 = .slice p1 bs.length c1 := hkinds 1 _ 29 (by omega) rfl rfl
      obtain ⟨jz, k6, hj0, hj1⟩ : NumIn 0 bs.length w6 (f' 34) := hkinds 6 _ 34 (by omega) rfl rfl
      obtain ⟨y, k8, -⟩ : Is64 w6 (f' 36) := hkinds 8 _ 36 (by omega) rfl rfl
      simp only [putsOf, Act.put, List.take_succ_cons, List.take_zero, List.drop_succ_cons, List.drop_zero, List.setIfInBounds_toArray, List.set_cons_zero, List.set_cons_succ, k1, k6, k8]
      clear hkinds k1 k6 k8 s0
      have HO6 := Lib.hid (HO5.out.drawn hI.1 hI.2 hbg)
      obtain ⟨j, rfl⟩ : ∃ j : Nat, jz = j := ⟨jz.toNat, by omega⟩
      have hjn : j < bs.length := by omega
      obtain ⟨z, hzj⟩ : ∃ z, bs[j]? = some z := ⟨bs[j], by simp [hjn]⟩
      obtain ⟨gs, rfl, hgs⟩ := HO6.out.ob.row intEnc_len (by omega)
      have s1 : w6.cell? ⟨gs, j, none⟩ = some (.int .i64 z) := by
        obtain ⟨-, -, -, hsl, -⟩ := HO6.out.ob.reads intEnc_len
        rcases hsl with h | ⟨b', o', he, hsl⟩
        · rw [h] at hjn; simp at hjn
        · cases he
          have := hsl.int hzj
          rw [Nat.zero_add] at this
          exact this
      have s2 : w6.frozen? ⟨gs, j, none⟩ = false := own_free HO6.out.ob _
      have HZ := Lib.hid hzj
      clear hI hzj HOBK
      go_wp2_with (fail)
      clear s1 s2
      have hset := HO6.out.ob.setField intEnc_len HZ.out (j := 0) (by omega) (v := .int .i64 y) (c := y) rfl
      simp only [Nat.mul_one, Nat.add_zero] at hset
      have hkg : Keep (· = gs) w6 (w6.setCell ⟨gs, j, none⟩ (.int .i64 y)) := (Keep.refl (· = gs) _).setCell (p := ⟨gs, j, none⟩) (.inl rfl) _
      go_meet
      case rel =>
        have hL : (bs.set j y).length = bs.length := by simp
        exact ⟨ent, some ⟨gs, 0, none⟩, c1, bs.set j y, p2, c2, es, ⟨HO6.out.cd.keep hkg (fun i hi h3 => by have h4 : i = gs := h3; omega), by rw [hL]; exact hkg.obj HO6.out.box (by omega), by rw [hL]; exact hset, HO6.out.oe.keep hkg (fun i hi h3 => Own.apart HO6.out.ob HO6.out.oe (by decide) gs rfl (by have h4 : i = gs := h3; rw [← h4]; exact hi)), by rw [hL]; exact HO6.out.lb, HO6.out.le, HO6.out.kp.trans (hkg.weaken (fun i _ h => .inr (by have h3 : i = gs := h; omega)))⟩⟩
    · have HOBK : Hid (∀ w', Keep (· = b) w5 w' → w'.heap[gy]? = some (.cells #[.int .i64 ent, .slice p1 bs.length c1, .slice p2 es.length c2, .slice ps st.length cs] 45 (0, 0))) := Lib.hid (fun w' hk' => hk'.obj HO5.out.box (by omega))
      have s0 : w5.cell? ⟨gy, 2, none⟩ = some (.slice p2 es.length c2) := cell_of_row _ _ 2 _ _ _ HO5.out.box
      have hb5 := HO5.out.cd.lt
      obtain ⟨gs, rfl, hgs⟩ := HO5.out.oe.row prEnc_len (by omega)
      go_wp2_with (fail)
      refine region_kindsG_tail (· = b) [.is (.pointer (some ⟨gy, 2, none⟩)), .is (.slice (some ⟨gs, 0, none⟩) es.length c2), .is (.pointer (some ⟨b, 0, none⟩)), .is (.pointer (some ⟨gy, 2, none⟩)), .is (.slice (some ⟨gs, 0, none⟩) es.length c2), .is (.int .i64 es.length), .sat (NumIn 0 es.length) (numIn_keep _ _ _), .is (.pointer (some ⟨b, 0, none⟩)), .sat (NumIn 0 2) (numIn_keep _ _ _), .is (.pointer (some ⟨b, 0, none⟩)), .sat Is64 (is64_keep _), .sat (PtrIn gs es.length) (ptrIn_keep _ _ _), .any, .any]
        (fun w' => Cd b bl w' ∧ Keep (· = b) w5 w') 73 12 (by kernel_rfl) (by decide) (by kernel_rfl) (by kernel_rfl) (by kernel_rfl) rfl (by kernel_rfl) ⟨HO5.out.cd.same (Keep.refl _ _).drew, (Keep.refl _ _).drew⟩ ?_ ?_
      · refine ⟨?_, ?_, ?_, ?_, ?_, ?_, ?_, ?_, ?_, ?_, ?_, ?_, trivial⟩
        · exact st_free rfl (st_ev1 (dep_f (t := 5) rfl rfl) _ (by intro a w' h1 hI; go_simp) rfl)
        · exact st_free rfl (st_ev1 (dep_e 0 rfl rfl rfl) _ (by intro a w' h1 hI; have q0 := cell_of_row _ _ 2 _ _ _ (HOBK.out _ hI.2); go_simp) rfl)
        · exact st_free rfl (st_ev1 (dep_f (t := 0) rfl rfl) _ (by intro a w' h1 hI; go_simp) rfl)
        · exact st_free rfl (st_ev1 (dep_f (t := 5) rfl rfl) _ (by intro a w' h1 hI; go_simp) rfl)
        · exact st_free rfl (st_ev1 (dep_e 3 rfl rfl rfl) _ (by intro a w' h1 hI; have q0 := cell_of_row _ _ 2 _ _ _ (HOBK.out _ hI.2); go_simp) rfl)
        · exact st_free rfl (st_ev1 (dep_e 4 rfl rfl rfl) _ (by intro a w' h1 hI; go_simp) rfl)
        · exact st_free rfl (st_callD2 (dep_e 2 rfl rfl rfl) (dep_e 5 rfl rfl rfl) 12 #[.pointer (some ⟨b, 0, none⟩), .int .i64 es.length] (by intro a w' h1 h2; go_simp) (by rintro w' ⟨hcc, hI⟩; refine (Cd.next hcc (by omega) (by omega)).mono ?_; rintro e w'' ⟨mm, rfl, a3, a4, a1, a2⟩; exact ⟨_, rfl, ⟨_, rfl, a3, a4⟩, ⟨a1, hI.trans a2⟩, a2⟩))
        · exact st_free rfl (st_ev1 (dep_f (t := 0) rfl rfl) _ (by intro a w' h1 hI; go_simp) rfl)
        · exact st_free rfl (st_callD1 (dep_e 7 rfl rfl rfl) 12 #[.pointer (some ⟨b, 0, none⟩), .int .i64 2] (by intro a w' h1; go_simp) (by rintro w' ⟨hcc, hI⟩; refine (Cd.next hcc (by omega) (by omega)).mono ?_; rintro e w'' ⟨mm, rfl, a3, a4, a1, a2⟩; exact ⟨_, rfl, ⟨_, rfl, a3, a4⟩, ⟨a1, hI.trans a2⟩, a2⟩))
        · exact st_free rfl (st_ev1 (dep_f (t := 0) rfl rfl) _ (by intro a w' h1 hI; go_simp) rfl)
        · exact st_free rfl (st_callD1 (dep_e 9 rfl rfl rfl) 13 #[.pointer (some ⟨b, 0, none⟩)] (by intro a w' h1; go_simp) (by rintro w' ⟨hcc, hI⟩; refine (Cd.int hcc).mono ?_; rintro e w'' ⟨mm, rfl, a3, a1, a2⟩; exact ⟨_, rfl, ⟨mm, rfl, a3⟩, ⟨a1, hI.trans a2⟩, a2⟩))
        · exact st_free rfl (st_evES (dep_e 1 rfl rfl rfl) (dep_s 6 rfl rfl rfl) (by
            rintro a w' h1 ⟨mm, h2, h3, h4⟩ hI
            obtain ⟨j, rfl⟩ : ∃ j : Nat, mm = j := ⟨mm.toNat, by omega⟩
            exact ⟨.pointer (some ⟨gs, j * 2, none⟩), by go_simp, j, by omega, rfl⟩))
      intro f' w6 hkinds hI
      have k8' : NumIn 0 2 w6 (f' 52) := hkinds 8 _ 52 (by omega) rfl rfl
      obtain ⟨h, k8, hh0, hh1⟩ := k8'
      obtain ⟨y, k10, -⟩ : Is64 w6 (f' 54) := hkinds 10 _ 54 (by omega) rfl rfl
      obtain ⟨j, hjn, k11⟩ : PtrIn gs es.length w6 (f' 55) := hkinds 11 _ 55 (by omega) rfl rfl
      simp only [putsOf, Act.put, List.take_succ_cons, List.take_zero, List.drop_succ_cons, List.drop_zero, List.setIfInBounds_toArray, List.set_cons_zero, List.set_cons_succ, k8, k10, k11]
      clear hkinds k8 k10 k11 s0
      have HO6 := Lib.hid (HO5.out.drawn hI.1 hI.2 hbg)
      obtain ⟨⟨za, zb⟩, hzj⟩ : ∃ z, es[j]? = some z := ⟨es[j], by simp [hjn]⟩
      have HZ := Lib.hid hzj
      obtain ⟨s1, s2⟩ : w6.cell? ⟨gs, j * 2, none⟩ = some (.int .i64 za) ∧ w6.cell? ⟨gs, j * 2 + 1, none⟩ = some (.int .i64 zb) := by
        obtain ⟨-, -, -, hsl, -⟩ := HO6.out.oe.reads prEnc_len
        rcases hsl with h | ⟨b', o', he, hsl⟩
        · rw [h] at hjn; simp at hjn
        · cases he
          have := hsl.pr hzj
          rw [Nat.zero_add] at this
          exact this
      have s3 : w6.frozen? ⟨gs, j * 2, none⟩ = false := own_free HO6.out.oe _
      have s4 : w6.frozen? ⟨gs, j * 2 + 1, none⟩ = false := own_free HO6.out.oe _
      clear hI hzj HOBK
      obtain rfl | rfl : h = 0 ∨ h = 1 := by omega
      · go_wp2_with (fail)
        clear s1 s2 s3 s4
        have hset := HO6.out.oe.setField prEnc_len HZ.out (j := 0) (by omega) (v := .int .i64 y) (c := (y, zb)) rfl
        simp only [Nat.add_zero] at hset
        have hkg : Keep (· = gs) w6 (w6.setCell ⟨gs, j * 2, none⟩ (.int .i64 y)) := (Keep.refl (· = gs) _).setCell (p := ⟨gs, j * 2, none⟩) (.inl rfl) _
        go_meet
        case rel =>
          have hL : (es.set j (y, zb)).length = es.length := by simp
          exact ⟨ent, p1, c1, bs, some ⟨gs, 0, none⟩, c2, es.set j (y, zb), ⟨HO6.out.cd.keep hkg (fun i hi h3 => by have h4 : i = gs := h3; omega), by rw [hL]; exact hkg.obj HO6.out.box (by omega), HO6.out.ob.keep hkg (fun i hi h3 => Own.apart HO6.out.oe HO6.out.ob (by decide) gs rfl (by have h4 : i = gs := h3; rw [← h4]; exact hi)), by rw [hL]; exact hset, HO6.out.lb, by rw [hL]; exact HO6.out.le, HO6.out.kp.trans (hkg.weaken (fun i _ h => .inr (by have h3 : i = gs := h; omega)))⟩⟩
      · go_wp2_with (fail)
        clear s1 s2 s3 s4
        have hset := HO6.out.oe.setField prEnc_len HZ.out (j := 1) (by omega) (v := .int .i64 y) (c := (za, y)) rfl
        have hkg : Keep (· = gs) w6 (w6.setCell ⟨gs, j * 2 + 1, none⟩ (.int .i64 y)) := (Keep.refl (· = gs) _).setCell (p := ⟨gs, j * 2 + 1, none⟩) (.inl rfl) _
        go_meet
        case rel =>
          have hL : (es.set j (za, y)).length = es.length := by simp
          exact ⟨ent, p1, c1, bs, some ⟨gs, 0, none⟩, c2, es.set j (za, y), ⟨HO6.out.cd.keep hkg (fun i hi h3 => by have h4 : i = gs := h3; omega), by rw [hL]; exact hkg.obj HO6.out.box (by omega), HO6.out.ob.keep hkg (fun i hi h3 => Own.apart HO6.out.oe HO6.out.ob (by decide) gs rfl (by have h4 : i = gs := h3; rw [← h4]; exact hi)), by rw [hL]; exact hset, HO6.out.lb, by rw [hL]; exact HO6.out.le, HO6.out.kp.trans (hkg.weaken (fun i _ h => .inr (by have h3 : i = gs := h; omega)))⟩⟩
    · have s0 : w5.cell? ⟨gy, 1, none⟩ = some (.slice p1 bs.length c1) := cell_of_row _ _ 1 _ _ _ HO5.out.box
      have hbs := HO5.out.lb
      have hbz := heap_lt HO5.out.box
      go_wp2_with (at_builtin; go_loud (refine wpList_push rfl _ _ 41 rfl (gy + 1) _ i3 _ 8 Tryz.underlying41 hi3 hv0 hv1 hv2 rfl (by decide) (.slice p1 bs.length c1) bs rfl HO5.out.ob (1 : Int) 1 rfl [.int .i64 1] rfl rfl (by simp [Value.oneCell']) (by omega) (by omega) (by omega) ?_; intro v10 w10 hown10 hk10 hob10 hbk10; obtain ⟨p10, c10, rfl, -⟩ := hown10.slice intEnc_len; have HO10 := Lib.hid hown10; have HBK10 := Lib.hid hbk10; have HK10 := Lib.hid hk10; have hx10 := hk10.obj HO5.out.box (by omega); have s1 : w10.cell? ⟨gy, 1, none⟩ = some (.slice p1 bs.length c1) := cell_of_row w10 _ 1 _ _ _ hx10; have s2 : w10.frozen? ⟨gy, 1, none⟩ = false := (by unfold World.frozen?; rw [hx10]; rfl); have HX10 := Lib.hid hx10; clear hown10 hob10 hbk10 hk10 hx10))
      clear s0 s1 s2
      go_meet
      case rel =>
        have hL : (bs ++ [(1 : Int)]).length = bs.length + 1 := by simp
        have hx11 := heap_setCell' (j := 1) (v := .slice p10 (bs.length + 1) c10) HX10.out
        simp only [List.setIfInBounds_toArray, List.set_cons_succ, List.set_cons_zero] at hx11
        have hkg : Keep (· = gy) w10 (w10.setCell ⟨gy, 1, none⟩ (.slice p10 (bs.length + 1) c10)) := (Keep.refl (· = gy) _).setCell (p := ⟨gy, 1, none⟩) (.inl rfl) _
        have hks : Keep (fun k => (Value.slice p1 bs.length c1).ownBlock = some k) w5 w10 := ⟨HK10.out.os, HK10.out.tape, HK10.out.output, HK10.out.size, fun k hk hs => HBK10.out k (fun e => hs e.symm) hk⟩
        have hcd := (HO5.out.cd.keep HK10.out (fun i hi => by omega)).keep hkg (fun i hi h3 => by have h4 : i = gy := h3; omega)
        have hothers := (HO5.out.oe.keep hks (fun i hi hj => Own.apart HO5.out.ob HO5.out.oe (by decide) i hj hi)).keepOld hkg (fun i hi => by have h3 : i = gy := hi; omega)
        have hmine := HO10.out.keepOld hkg (fun i hi => by have h3 : i = gy := hi; omega)
        have hkk := (HO5.out.kp.trans (HK10.out.weaken (fun i _ h => .inr (by omega)))).trans (hkg.weaken (T := fun i => i = b ∨ gy ≤ i) (fun i _ h => .inr (by have h3 : i = gy := h; omega)))
        exact ⟨ent, p10, c10, bs ++ [(1 : Int)], p2, c2, es, ⟨hcd, by rw [hL]; exact hx11, hmine, hothers, by rw [hL]; omega, HO5.out.le, hkk⟩⟩
    · have s0 : w5.cell? ⟨gy, 2, none⟩ = some (.slice p2 es.length c2) := cell_of_row _ _ 2 _ _ _ HO5.out.box
      have hbs := HO5.out.le
      have hbz := heap_lt HO5.out.box
      go_wp2_with (at_builtin; go_loud (refine wpList_push rfl _ _ 42 rfl (gy + 1) _ i4 _ 16 Tryz.underlying42 hi4 hu0 hu1 hu2 rfl (by decide) (.slice p2 es.length c2) es rfl HO5.out.oe ((0 : Int), (0 : Int)) 1 rfl [.int .i64 0, .int .i64 0] rfl rfl (by simp [Value.oneCell']) (by omega) (by omega) (by omega) ?_; intro v10 w10 hown10 hk10 hob10 hbk10; obtain ⟨p10, c10, rfl, -⟩ := hown10.slice prEnc_len; have HO10 := Lib.hid hown10; have HBK10 := Lib.hid hbk10; have HK10 := Lib.hid hk10; have hx10 := hk10.obj HO5.out.box (by omega); have s1 : w10.cell? ⟨gy, 2, none⟩ = some (.slice p2 es.length c2) := cell_of_row w10 _ 2 _ _ _ hx10; have s2 : w10.frozen? ⟨gy, 2, none⟩ = false := (by unfold World.frozen?; rw [hx10]; rfl); have HX10 := Lib.hid hx10; clear hown10 hob10 hbk10 hk10 hx10))
      clear s0 s1 s2
      go_meet
      case rel =>
        have hL : (es ++ [((0 : Int), (0 : Int))]).length = es.length + 1 := by simp
        have hx11 := heap_setCell' (j := 2) (v := .slice p10 (es.length + 1) c10) HX10.out
        simp only [List.setIfInBounds_toArray, List.set_cons_succ, List.set_cons_zero] at hx11
        have hkg : Keep (· = gy) w10 (w10.setCell ⟨gy, 2, none⟩ (.slice p10 (es.length + 1) c10)) := (Keep.refl (· = gy) _).setCell (p := ⟨gy, 2, none⟩) (.inl rfl) _
        have hks : Keep (fun k => (Value.slice p2 es.length c2).ownBlock = some k) w5 w10 := ⟨HK10.out.os, HK10.out.tape, HK10.out.output, HK10.out.size, fun k hk hs => HBK10.out k (fun e => hs e.symm) hk⟩
        have hcd := (HO5.out.cd.keep HK10.out (fun i hi => by omega)).keep hkg (fun i hi h3 => by have h4 : i = gy := h3; omega)
        have hothers := (HO5.out.ob.keep hks (fun i hi hj => Own.apart HO5.out.oe HO5.out.ob (by decide) i hj hi)).keepOld hkg (fun i hi => by have h3 : i = gy := hi; omega)
        have hmine := HO10.out.keepOld hkg (fun i hi => by have h3 : i = gy := hi; omega)
        have hkk := (HO5.out.kp.trans (HK10.out.weaken (fun i _ h => .inr (by omega)))).trans (hkg.weaken (T := fun i => i = b ∨ gy ≤ i) (fun i _ h => .inr (by have h3 : i = gy := h; omega)))
        exact ⟨ent, p1, c1, bs, p10, c10, es ++ [((0 : Int), (0 : Int))], ⟨hcd, by rw [hL]; exact hx11, hothers, hmine, HO5.out.lb, by rw [hL]; omega, hkk⟩⟩
    · go_wp2
      go_meet
      case rel => exact ⟨ent, p1, c1, bs, p2, c2, es, HO5.out⟩
  case rest =>
    obtain ⟨ent', pb', cb', bs', pe', ce', es', hob⟩ := hcut
    obtain ⟨hcd, hbox, hb1, he1, hlb, hle', hkp⟩ := hob
    obtain ⟨-, hcb, hcb2, hslb, hfb⟩ := hb1.reads intEnc_len
    obtain ⟨-, hce, hce2, hsle, hfe⟩ := he1.reads prEnc_len
    have hbx := hcd.lt
    have HBOX := Lib.hid hbox
    have HRR := Lib.hid (hkp.obj HR.out (by omega))
    have HCD := Lib.hid hcd
    have HSB := Lib.hid hslb
    have HSE := Lib.hid hsle
    have HFB := Lib.hid hfb
    have HFE := Lib.hid hfe
    have HKP := Lib.hid hkp
    clear hcd hbox hb1 he1 hkp hslb hsle hfb hfe
    go_wp2_with (first
      | ((with_reducible (show wpList _ _ _ (⟨some 72, .load 45 _, _, _, _, none⟩ :: _) _ _)); refine wpList_loadEl (enc := listEnc) (size := 4) rfl 45 _ rfl _ _ rfl [.int .i64 ent', .slice pb' bs'.length cb', .slice pe' es'.length ce', .slice ps st.length cs] _ (range_of_obj HBOX.out) rfl Tryz.underlying45 rfl Tryz.sizeFc (.agg #[.int .i64 ent', .slice pb' bs'.length cb', .slice pe' es'.length ce', .slice ps st.length cs]) rfl ?_)
      | ((with_reducible (show wpList _ _ _ (⟨_, .store 45 (.tmp 4) _, _, _, _, none⟩ :: _) _ _)); (refine wpList_storeObj rfl 45 _ _ rfl (H + 1) rfl [.int .i64 0, .slice none 0 0, .slice none 0 0, .slice none 0 0] [.int .i64 ent', .slice pb' bs'.length cb', .slice pe' es'.length ce', .slice ps st.length cs] rfl _ (by simp) HRR.out 4 Tryz.sizeFc rfl (by simp [Value.oneCell']) ?_); intro w9 hres hk9 hs9; have HRES := Lib.hid hres; have HK9 := Lib.hid hk9; clear hres hk9 hs9))
    refine bodyPost_ret (results_obj rfl rfl _ _ (range_of_obj HRES.out) Tryz.underlying45 rfl 4 Tryz.sizeFc rfl) rfl ?_
    have hkw := HK.out.size
    have hkall : Keep (· = b) w w9 := (HK.out.weaken (T := (· = b)) (fun _ _ q => q.elim)).andThen ((HKP.out.weaken (T := fun i => i = b ∨ H ≤ i) (fun i _ h => by omega)).trans (HK9.out.weaken (T := fun i => i = b ∨ H ≤ i) (fun i _ h => .inr (by have h3 : i = H + 1 := h; omega)))) (fun i h1 h2 => by omega)
    have hst2 := HX.out.st.keep HKP.out (HOFF.out.2.2.1.mono fun i hi => by rcases hi with hi | hi; exact .inl hi; exact .inr (by omega))
    have hst9 := hst2.keep HK9.out (HOFF.out.2.2.1.mono fun i hi => .inr (by have h3 : i = H + 1 := hi; omega))
    refine ⟨⟨ent', pb', cb', bs', pe', ce', es', ps, cs, st⟩, rfl, ⟨HSB.out.keep HK9.out (fun a ha h3 => by have := HFB.out a ha; have h4 : a.block = H + 1 := h3; omega), HSE.out.keep HK9.out (fun a ha h3 => by have := HFE.out a ha; have h4 : a.block = H + 1 := h3; omega), hst9, fun s hs => ⟨?_, (HX.out.tg s hs).2⟩, by simp only; omega, by simp only; omega, HX.out.ls⟩, fun a ha => by have := HFB.out a ha; omega, fun a ha => by have := HFE.out a ha; omega, rfl, rfl, rfl, ?_, hkall⟩
    · have h1 := (HX.out.tg s hs).1.keep HKP.out ((HOFF.out.2.2.2 s hs).mono fun i hi => by rcases hi with hi | hi; exact .inl hi; exact .inr (by omega))
      exact h1.keep HK9.out ((HOFF.out.2.2.2 s hs).mono fun i hi => .inr (by have h3 : i = H + 1 := hi; omega))
    · exact HCD.out.keep HK9.out (fun i hi h3 => by have h4 : i = H + 1 := h3; omega)

end Go.Proofs.YtcdophocpheadaaGreatDoor
