/-
  Chapter 30: a piece is drawn.
-/
import Derived.Test.YtcdophocpheadaaGreatDoorSvTop
import Derived.Test.YtcdophocpheadaaGreatDoorRegDep
import Derived.Test.YtcdophocpheadaaGreatDoorCodeInt
namespace Go.Proofs.YtcdophocpheadaaGreatDoor
open Go.RowKit

/-! ### Choices -/
def Cd (b bl : Nat) (w : World) : Prop := ∃ r, CodesAt w b bl r
theorem Cd.lt {b bl : Nat} {w : World} (h : Cd b bl w) : b < w.heap.size ∧ bl ≤ b := h.elim fun _ h => h.lt
theorem Cd.keep {b bl : Nat} {w w' : World} {S : Nat → Prop} (h : Cd b bl w) (k : Keep S w w') (hS : ∀ i, i ≤ b → ¬ S i) : Cd b bl w' :=
  h.elim fun r h => ⟨r, h.keep k (hS b (Nat.le_refl _)) (hS bl h.lt.2)⟩
theorem Cd.same {b bl : Nat} {w w' : World} (h : Cd b bl w) (k : Keep None w w') : Cd b bl w' := h.keep k fun _ _ => id
def DrewE (b bl : Nat) (n : Int) (w : World) (e : Ending) (w' : World) : Prop := ∃ m : Int, e = .returned (.int .i64 m) ∧ 0 ≤ m ∧ m < n ∧ Cd b bl w' ∧ Keep (· = b) w w'
theorem Cd.next {b bl : Nat} {w : World} (h : Cd b bl w) {n : Int} (h1 : 1 ≤ n) (hn : n ≤ 100000) :
    Calls Tryz.prog 12 #[.pointer (some ⟨b, 0, none⟩), .int .i64 n] w (DrewE b bl n w) := by
  obtain ⟨r, h⟩ := h
  exact (next_in b bl n r w h hn h1).mono fun e w' ⟨h2, h3, h4, h5, h6⟩ => ⟨_, h2, h5, h6, ⟨_, h3⟩, h4⟩
def DrewI (b bl : Nat) (w : World) (e : Ending) (w' : World) : Prop := ∃ m : Int, e = .returned (.int .i64 m) ∧ i64 m ∧ Cd b bl w' ∧ Keep (· = b) w w'
theorem Cd.int {b bl : Nat} {w : World} (h : Cd b bl w) :
    Calls Tryz.prog 13 #[.pointer (some ⟨b, 0, none⟩)] w (DrewI b bl w) := by
  obtain ⟨r, h⟩ := h
  exact (int_in b bl r w h).mono fun e w' ⟨n, r', h2, h3, h4, h5⟩ => ⟨n, h2, h5, ⟨r', h3⟩, h4⟩

/-! ### Where the parts of functions lie -/
def FcM.off (S : Nat → Prop) (x : FcM) : Prop := OffS S x.pb ∧ OffS S x.pe ∧ OffS S x.ps ∧ ∀ s ∈ x.st, OffS S s.p
theorem OffS.mono {S T : Nat → Prop} {p : Option Addr} (h : OffS S p) (k : ∀ i, T i → S i) : OffS T p := fun a ha ht => h a ha (k _ ht)
theorem FcM.off.mono {S T : Nat → Prop} {x : FcM} (h : x.off S) (k : ∀ i, T i → S i) : x.off T := ⟨h.1.mono k, h.2.1.mono k, h.2.2.1.mono k, fun s hs => (h.2.2.2 s hs).mono k⟩
theorem FcM.ok.keepS {S : Nat → Prop} {w w' : World} {x : FcM} (h : x.ok w) (k : Keep S w w') (o : x.off S) : x.ok w' :=
  ⟨h.bs.keep k o.1, h.es.keep k o.2.1, h.st.keep k o.2.2.1, fun s hs => ⟨(h.tg s hs).1.keep k (o.2.2.2 s hs), (h.tg s hs).2⟩, h.lb, h.le, h.ls⟩
theorem FcsOk.keepS {S : Nat → Prop} {w w' : World} {p : Option Addr} {l : List FcM} (h : FcsOk w p l) (k : Keep S w w') (o : OffS S p) (ol : ∀ x ∈ l, x.off S) : FcsOk w' p l :=
  ⟨h.sl.keep k o, fun x hx => (h.fc x hx).keepS k (ol x hx), h.ln⟩

theorem Tryz.infoPr : (Tryz.prog.info? 97).map (fun i => (i.zero, i.size, i.bytes)) = some (some (.agg #[.int .i64 0, .int .i64 0]), 2, 16) := by kernel_rfl
theorem Tryz.infoFc : (Tryz.prog.info? 45).map (fun i => (i.zero, i.size, i.bytes)) = some (some (.agg #[.int .i64 0, .slice none 0 0, .slice none 0 0, .slice none 0 0]), 4, 80) := by kernel_rfl
theorem Tryz.sizeFc : (Tryz.prog.info? 45).map (·.size) = some 4 := by kernel_rfl
theorem Tryz.sizePc : (Tryz.prog.info? 35).map (·.size) = some 5 := by kernel_rfl

/-- Rows of different types lie in different blocks. -/
theorem Own.apart {α β : Type} {enc : α → List Value} {enc' : β → List Value} {s s' : Nat} {e e' : TypeId} {base base' : Nat} {w : World} {v v' : Value} {xs : List α} {ys : List β}
    (h : Own enc s e base w v xs) (h' : Own enc' s' e' base' w v' ys) (he : e ≠ e') (g : Nat) (hg : v.ownBlock = some g) : v'.ownBlock ≠ some g := by
  intro hg'
  rcases h.2 with ⟨rfl, -⟩ | ⟨g1, c1, cur1, rfl, -, h1, -⟩
  · cases hg
  rcases h'.2 with ⟨rfl, -⟩ | ⟨g2, c2, cur2, rfl, -, h2, -⟩
  · cases hg'
  cases hg; cases hg'
  rw [h1] at h2
  cases h2
  exact he rfl

theorem heap_setCell' {w : World} {g j : Nat} {C : Array Value} {e : TypeId} {fr : Nat × Nat} {v : Value} (h : w.heap[g]? = some (.cells C e fr)) : (w.setCell ⟨g, j, none⟩ v).heap[g]? = some (.cells (C.setIfInBounds j v) e fr) := by
  simp [World.setCell, Array.getElem?_modify, h]

/-- The function that is being drawn: its box, its blocks and edges. -/
structure FB (b bl g : Nat) (ent : Int) (k : Nat) (w0 w : World) (pb : Option Addr) (cb : Nat) (pe : Option Addr) (ce : Nat) (bs : List Int) (es : List (Int × Int)) : Prop where
  cd : Cd b bl w
  box : w.heap[g]? = some (.cells #[.int .i64 ent, .slice pb k cb, .slice pe k ce, .slice none 0 0] 45 (0, 0))
  ob : Own intEnc 1 3 (g + 1) w (.slice pb k cb) bs
  oe : Own prEnc 2 97 (g + 1) w (.slice pe k ce) es
  lb : bs.length = k
  le : es.length = k
  kb : ∀ n ∈ bs, knownP n
  ke : ∀ e ∈ es, knownP e.1 ∧ knownP e.2
  kp : Keep (fun i => i = b ∨ i = g) w0 w

/-- The function that was drawn. -/
structure FD (b bl g : Nat) (ent : Int) (w0 w : World) (pb : Option Addr) (cb : Nat) (pe : Option Addr) (ce : Nat) (bs : List Int) (es : List (Int × Int)) (ps : Option Addr) (cs : Nat) (st : List SiteM) : Prop where
  cd : Cd b bl w
  box : w.heap[g]? = some (.cells #[.int .i64 ent, .slice pb 2 cb, .slice pe 2 ce, .slice ps st.length cs] 45 (0, 0))
  ob : Own intEnc 1 3 (g + 1) w (.slice pb 2 cb) bs
  oe : Own prEnc 2 97 (g + 1) w (.slice pe 2 ce) es
  sl : SliceV SiteM.enc 3 w ps st
  tg : ∀ s ∈ st, s.ok w
  fs : OffS (fun i => i ≤ g ∨ w.heap.size ≤ i) ps
  ft : ∀ s ∈ st, OffS (fun i => i ≤ g ∨ w.heap.size ≤ i) s.p
  sp : ∀ fn, 1 ≤ fn → sitesP 2 fn st
  ls : st.length ≤ 1
  kp : Keep (fun i => i = b ∨ i = g) w0 w

def NumIn (lo hi : Int) (_ : World) (v : Value) : Prop := ∃ m, v = .int .i64 m ∧ lo ≤ m ∧ m < hi
theorem numIn_keep (S : Nat → Prop) (lo hi : Int) : ∀ w w' v, Keep S w w' → NumIn lo hi w v → NumIn lo hi w' v := fun _ _ _ _ h => h
def IMade (lo : Nat) (a c : Int) (w : World) (v : Value) : Prop := ∃ g m, v = .slice (some ⟨g, 0, none⟩) 1 1 ∧ lo ≤ g ∧ a ≤ m ∧ m < c ∧ w.heap[g]? = some (.cells #[.int .i64 m] 3 (0, 0))
theorem iMade_keep (b lo : Nat) (a c : Int) (hb : b < lo) : ∀ w w' v, Keep (· = b) w w' → IMade lo a c w v → IMade lo a c w' v :=
  fun _ _ _ h ⟨g, m, h1, h2, h3, h4, h5⟩ => ⟨g, m, h1, h2, h3, h4, h.obj h5 (by omega)⟩
def PrVal (_ : World) (v : Value) : Prop := ∃ x y, v = .agg #[.int .i64 x, .int .i64 y] ∧ -1 ≤ x ∧ x < 4 ∧ -1 ≤ y ∧ y < 4
theorem prVal_keep (S : Nat → Prop) : ∀ w w' v, Keep S w w' → PrVal w v → PrVal w' v := fun _ _ _ _ h => h
def PMade (lo : Nat) (w : World) (v : Value) : Prop := ∃ g x y, v = .slice (some ⟨g, 0, none⟩) 1 1 ∧ lo ≤ g ∧ -1 ≤ x ∧ x < 4 ∧ -1 ≤ y ∧ y < 4 ∧ w.heap[g]? = some (.cells #[.int .i64 x, .int .i64 y] 97 (0, 0))
theorem pMade_keep (b lo : Nat) (hb : b < lo) : ∀ w w' v, Keep (· = b) w w' → PMade lo w v → PMade lo w' v :=
  fun _ _ _ h ⟨g, x, y, h1, h2, h3, h4, h5, h6, h7⟩ => ⟨g, x, y, h1, h2, h3, h4, h5, h6, h.obj h7 (by omega)⟩

/-- The functions that were drawn. -/
structure PB (b bl H g3 : Nat) (w0 w : World) (p : Option Addr) (c : Nat) (l : List FcM) (rr mm nn dd : Int) : Prop where
  cd : Cd b bl w
  box : w.heap[g3]? = some (.cells #[.int .i64 rr, .int .i64 mm, .int .i64 nn, .int .u64 dd, .slice p l.length c] 35 (0, 0))
  own : Own FcM.enc 4 45 (g3 + 1) w (.slice p l.length c) l
  fc : ∀ x ∈ l, x.ok w ∧ (∀ fn, 1 ≤ fn → FcP fn x) ∧ x.off (fun i => (Value.slice p l.length c).ownBlock = some i ∨ i ≤ g3 ∨ w.heap.size ≤ i)
  kp : Keep (fun i => i = b ∨ g3 ≤ i) w0 w

/-- What is drawn. -/
def PiecePost (b bl : Nat) (w : World) (e : Ending) (w' : World) : Prop :=
  ∃ P : PcM, e = .returned P.val ∧ PcP P ∧ FcsOk w' P.p P.l ∧ From w.heap.size P.p ∧ (∀ x ∈ P.l, x.off (fun i => i < w.heap.size ∨ w'.heap.size ≤ i)) ∧ P.l.length ≤ P.c ∧ P.c ≤ maxLen ∧ Cd b bl w' ∧ Keep (· = b) w w'

set_option maxRecDepth 100000 in
set_option maxHeartbeats 8000000 in
theorem piece_calls (b bl : Nat) (w : World) (h : Cd b bl w) : Calls Tryz.prog 11 #[.pointer (some ⟨b, 0, none⟩)] w (PiecePost b bl w) := by
  have hbw := h.lt.1
  have HC0 := Lib.hid h
  obtain ⟨i3, hi3, hv0, hv1, hv2⟩ := info_parts Tryz.infoInt
  obtain ⟨i4, hi4, hu0, hu1, hu2⟩ := info_parts Tryz.infoPr
  obtain ⟨i5, hi5, hz0, hz1, hz2⟩ := info_parts Tryz.infoFc
  clear h
  go_enter Tryz.func11, Tryz.ntmps11
  go_upto_region 1 with (fail)
  generalize hw1 : World.alloc _ _ = w1
  have hk1 : Keep None w w1 := by rw [← hw1]; exact (Keep.refl _ _).alloc _
  have hb2 : w1.heap[w.heap.size]? = some (.cells #[.int .i64 0, .int .i64 0, .int .i64 0, .int .u64 0, .slice none 0 0] 35 (0, 0)) := by rw [← hw1]; exact heap_alloc_new _ _
  have HC := Lib.hid (HC0.out.same hk1)
  have HK := Lib.hid (hk1.weaken (T := (· = b)) (fun _ _ q => q.elim))
  have HB2 := Lib.hid hb2
  have hsz1 : w1.heap.size = w.heap.size + 1 := by rw [← hw1]; simp
  clear hw1 hk1 hb2 HC0
  generalize hH : w.heap.size = H at *
  go_wp2_with (fail)
  refine (Cd.next HC.out (by omega) (by omega)).mono ?_
  rintro e w2 ⟨rr, rfl, rr0, rr1, hc, hk⟩
  have HC := Lib.hid hc
  have HK := Lib.hid (HK.out.trans hk)
  have HB2 := Lib.hid (hk.obj HB2.out (by omega))
  clear hc hk
  go_wp2_with (fail)
  refine (Cd.next HC.out (by omega) (by omega)).mono ?_
  rintro e w2 ⟨mm, rfl, mm0, mm1, hc, hk⟩
  have HC := Lib.hid hc
  have HK := Lib.hid (HK.out.trans hk)
  have HB2 := Lib.hid (hk.obj HB2.out (by omega))
  clear hc hk
  go_wp2_with (fail)
  refine (Cd.next HC.out (by omega) (by omega)).mono ?_
  rintro e w2 ⟨nn, rfl, nn0, nn1, hc, hk⟩
  have HC := Lib.hid hc
  have HK := Lib.hid (HK.out.trans hk)
  have HB2 := Lib.hid (hk.obj HB2.out (by omega))
  clear hc hk
  go_wp2_with (fail)
  refine (Cd.next HC.out (by omega) (by omega)).mono ?_
  rintro e w2 ⟨dd, rfl, dd0, dd1, hc, hk⟩
  have HC := Lib.hid hc
  have HK := Lib.hid (HK.out.trans hk)
  have HB2 := Lib.hid (hk.obj HB2.out (by omega))
  clear hc hk
  go_upto_region 2 with (fail)
  have hsz2 : H < w2.heap.size := heap_lt HB2.out
  generalize hw3 : World.alloc _ _ = w3
  have hk3 : Keep None w2 w3 := by rw [← hw3]; exact (Keep.refl _ _).alloc _
  have hb3 : w3.heap[w2.heap.size]? = some (.cells #[.int .i64 rr, .int .i64 mm, .int .i64 nn, .int .u64 dd, .slice none 0 0] 35 (0, 0)) := by rw [← hw3]; exact heap_alloc_new _ _
  have hsz3 : w3.heap.size = w2.heap.size + 1 := by rw [← hw3]; simp
  have HC := Lib.hid (HC.out.same hk3)
  have HK := Lib.hid (HK.out.trans (hk3.weaken (T := (· = b)) (fun _ _ q => q.elim)))
  have HB2 := Lib.hid (hk3.obj HB2.out id)
  have HB3 := Lib.hid hb3
  clear hw3 hk3 hb3
  generalize w2.heap.size = g3 at *
  go_cut [4] (fun t wx => ∃ f : Int, t = .int .i64 f ∧ 1 ≤ f ∧ f ≤ 2 ∧ Cd b bl wx ∧ Keep (· = b) w3 wx)
  case first =>
    go_wp2_with (fail)
    refine (Cd.next HC.out (by omega) (by omega)).mono ?_
    rintro e w4 ⟨q, rfl, q0, q1, hc4, hk4⟩
    have HC4 := Lib.hid hc4
    have HK4 := Lib.hid hk4
    clear hc4 hk4
    go_wp2_with (fail)
    refine (Cd.next HC4.out (by omega) (by omega)).mono ?_
    rintro e w5 ⟨s, rfl, s0, s1, hc5, hk5⟩
    have HC5 := Lib.hid hc5
    have HK5 := Lib.hid (HK4.out.trans hk5)
    clear hc5 hk5
    obtain rfl | rfl : q = 0 ∨ q = 1 := by omega
    all_goals obtain rfl | rfl | rfl : s = 0 ∨ s = 1 ∨ s = 2 := by omega
    all_goals clear q0 q1 s0 s1
    all_goals go_wp2
    all_goals go_meet
    all_goals exact ⟨_, rfl, by omega, by omega, HC5.out, HK5.out⟩
  case rest =>
    obtain ⟨f, rfl, f0, f1, hc4, hk4⟩ := hcut
    have HC := Lib.hid hc4
    have HB2 := Lib.hid (hk4.obj HB2.out (by omega))
    have HB3 := Lib.hid (hk4.obj HB3.out (by omega))
    have HK := Lib.hid (HK.out.trans hk4)
    have hsz4 := hk4.size
    clear hc4 hk4
    go_wp2
    go_loopw [4] (fun t wr => ∃ (i : Int) (p : Option Addr) (c : Nat) (l : List FcM), t = .int .i64 i ∧ 0 ≤ i ∧ 1 ≤ i + l.length ∧ i + l.length ≤ 2 ∧ PB b bl H g3 wc wr p c l rr mm nn dd) (fun t _ => (intOf t).toNat)
    case atStart =>
      exact ⟨f, none, 0, [], rfl, by omega, by simp; omega, by simp; omega, ⟨HC.out, HB3.out, Own.nil _ _ _ _ _, by simp, Keep.refl _ _⟩⟩
    case round =>
      obtain ⟨i, p, c, l, rfl, i0, i1, i2, hpb⟩ := hrel
      have HPB := Lib.hid hpb
      clear hpb
      by_cases hi : 0 < i
      · have hg3 : g3 < wr.heap.size := heap_lt HPB.out.box
        have hbr := HPB.out.cd.lt
        go_wp2_with (fail)
        refine (Cd.next HPB.out.cd (by omega) (by omega)).mono ?_
        rintro e w4 ⟨en, rfl, en0, en1, hc4, hk4⟩
        have HC4 := Lib.hid hc4
        have HK4 := Lib.hid hk4
        have hz4 := hk4.size
        clear hc4 hk4
        go_upto_region 6 with (fail)
        have hen : IntKind.i64.wrap (en - 1) = en - 1 := IntWalk.i64_in _ (by omega)
        try rw [hen]
        generalize hw5 : World.alloc _ _ = w5
        have hk5 : Keep None w4 w5 := by rw [← hw5]; exact (Keep.refl _ _).alloc _
        have hb5 : w5.heap[w4.heap.size]? = some (.cells #[.int .i64 (en - 1), .slice none 0 0, .slice none 0 0, .slice none 0 0] 45 (0, 0)) := by rw [← hw5]; exact heap_alloc_new _ _
        have hz5 : w5.heap.size = w4.heap.size + 1 := by rw [← hw5]; simp
        have HC5 := Lib.hid (HC4.out.same hk5)
        have HK5 := Lib.hid (HK4.out.trans (hk5.weaken (T := (· = b)) (fun _ _ q => q.elim)))
        have HB5 := Lib.hid hb5
        clear hw5 hk5 hb5 HC4 HK4
        generalize w4.heap.size = g at *
        obtain ⟨wo, rfl⟩ : ∃ wo : World, wo = wr := ⟨_, rfl⟩
        have HEN := Lib.hid hen
        have hent : -1 ≤ en - 1 ∧ en - 1 < 8 := by omega
        clear hen
        generalize en - 1 = ent at *
        go_wp2
        go_loopw [6] (fun t wq => ∃ (k : Nat) (pb pe : Option Addr) (cb ce : Nat) (bs : List Int) (es : List (Int × Int)), t = .int .i64 k ∧ k ≤ 2 ∧ FB b bl g ent k w5 wq pb cb pe ce bs es) (fun t _ => 2 - (intOf t).toNat)
        case atStart => exact ⟨0, none, none, 0, 0, [], [], rfl, by omega, ⟨HC5.out, HB5.out, Own.nil _ _ _ _ _, Own.nil _ _ _ _ _, rfl, rfl, by simp, by simp, Keep.refl _ _⟩⟩
        case round =>
          obtain ⟨k, pb, pe, cb, ce, bs, es, rfl, hk2, hfb⟩ := hrel
          obtain ⟨hcd, hbox, hob, hoe, hlb, hle, hkb, hke, hkp⟩ := hfb
          have hbq := hcd.lt
          have hzq := hkp.size
          have HCD := Lib.hid hcd
          have HBX := Lib.hid hbox
          have HOB := Lib.hid hob
          have HOE := Lib.hid hoe
          have HKB := Lib.hid hkb
          have HKE := Lib.hid hke
          have HKP := Lib.hid hkp
          clear hcd hbox hob hoe hkb hke hkp
          by_cases hlt : k < 2
          · have HOBK : Hid (∀ w', Keep (· = b) wr w' → w'.heap[g]? = some (.cells #[.int .i64 ent, .slice pb k cb, .slice pe k ce, .slice none 0 0] 45 (0, 0))) := Lib.hid (fun w' hk' => hk'.obj HBX.out (by omega))
            go_wp2_with (fail)
            refine region_kindsG_tail (· = b) [.is (.pointer (some ⟨g, 1, none⟩)), .is (.slice pb k cb), .is (.pointer (some ⟨b, 0, none⟩)), .sat (NumIn 0 9) (numIn_keep _ _ _), .sat (NumIn (-1) 8) (numIn_keep _ _ _), .sat (IMade wr.heap.size (-1) 8) (iMade_keep b _ _ _ hbq.1), .any, .any, .any]
              (fun w' => Cd b bl w' ∧ Keep (· = b) wr w') 79 6 (by kernel_rfl) (by decide) (by kernel_rfl) (by kernel_rfl) (by kernel_rfl) rfl (by kernel_rfl) ⟨HCD.out.same (Keep.refl _ _).drew, (Keep.refl _ _).drew⟩ ?_ ?_
            · refine ⟨?_, ?_, ?_, ?_, ?_, ?_, trivial⟩
              · exact st_free rfl (st_ev1 (dep_f (t := 5) rfl rfl) _ (by intro a w' h1 hI; go_simp) rfl)
              · exact st_free rfl (st_ev1 (dep_e 0 rfl rfl rfl) _ (by intro a w' h1 hI; have q0 := cell_of_row _ _ 1 _ _ _ (HOBK.out _ hI.2); go_simp) rfl)
              · exact st_free rfl (st_ev1 (dep_f (t := 0) rfl rfl) _ (by intro a w' h1 hI; go_simp) rfl)
              · exact st_free rfl (st_callD1 (dep_e 2 rfl rfl rfl) 12 #[.pointer (some ⟨b, 0, none⟩), .int .i64 9] (by intro a w' h1; go_simp) (by rintro w' ⟨hcc, hI⟩; refine (Cd.next hcc (by omega) (by omega)).mono ?_; rintro e w'' ⟨mm, rfl, a3, a4, a1, a2⟩; exact ⟨_, rfl, ⟨_, rfl, a3, a4⟩, ⟨a1, hI.trans a2⟩, a2⟩))
              · exact st_free rfl (st_evS (dep_s 3 rfl rfl rfl) (by rintro a w' ⟨mm, h1, h2, h3⟩ hI; have q0 : IntKind.i64.wrap (mm - 1) = mm - 1 := IntWalk.i64_in _ (by omega); exact ⟨.int .i64 (mm - 1), by go_simp, mm - 1, rfl, by omega, by omega⟩))
              · refine st_free rfl ?_
                intro a w' K' hI hV hF hK
                obtain ⟨mm, e0, e1, e2⟩ : NumIn (-1) 8 w' (a.eval (.tmp 40)) := tells hV 4 40 rfl rfl
                unfold Oper.wp execOp
                have hb : ∀ v : Value, (Instr.buildSlice 41 1 #[(0, .int .i64 mm)]).run Tryz.prog w' = .ok (.slice (some ⟨w'.heap.size, 0, none⟩) 1 1) (w'.alloc (.cells #[.int .i64 mm] 3)) := by intro _; go_simp
                simp only [List.map_toArray, List.map_cons, List.map_nil, e0, Sem.run_bind, hb undef, Result.andThen_ok, Sem.run_pure, Oper.upon_value]
                have hal : Keep None w' (w'.alloc (.cells #[.int .i64 mm] 3)) := (Keep.refl None w').alloc _
                exact hK _ _ ⟨hI.1.same hal, hI.2.alloc _⟩ ((Keep.refl _ _).alloc _) ⟨w'.heap.size, mm, rfl, hI.2.size, e1, e2, heap_alloc_new _ _⟩
            intro f' w6 hkinds hI
            have k1 : f' 37 = .slice pb k cb := hkinds 1 _ 37 (by omega) rfl rfl
            obtain ⟨gh, nb, k5, hgh, nb0, nb1, hgo⟩ : IMade wr.heap.size (-1) 8 w6 (f' 41) := hkinds 5 _ 41 (by omega) rfl rfl
            simp only [putsOf, Act.put, List.take_succ_cons, List.take_zero, List.drop_succ_cons, List.drop_zero, List.setIfInBounds_toArray, List.set_cons_zero, List.set_cons_succ, k1, k5]
            clear hkinds k1 k5
            have hz6 := hI.2.size
            have HC6 := Lib.hid hI.1
            have HK6 := Lib.hid hI.2
            have HGO := Lib.hid hgo
            have HO6 := Lib.hid (HOBK.out _ hI.2)
            have HOB6 := Lib.hid (HOB.out.keepOld hI.2 (fun i hi => by omega))
            have HOE6 := Lib.hid (HOE.out.keepOld hI.2 (fun i hi => by omega))
            clear hI hgo HOBK
            go_wp2_with (at_builtin; go_loud (refine wpList_pushAt rfl _ _ 41 rfl (g + 1) _ i3 _ 8 Tryz.underlying41 hi3 hv0 hv1 hv2 rfl (by decide) intEnc_len (.slice pb k cb) bs rfl HOB6.out nb gh 1 rfl _ HGO.out rfl rfl (by simp [Value.oneCell']) (by omega) (by omega) (by omega) ?_; intro p7 c7 w7 hown7 hk7 hk7' hb7; rw [hlb] at hown7 hb7; have HO7 := Lib.hid hown7; have HK7 := Lib.hid (show Keep (fun k' => (Value.slice pb k cb).ownBlock = some k') w6 w7 from ⟨hk7.os, hk7.tape, hk7.output, hk7.size, fun k hk hs => hk7' k (fun e => hs e.symm) hk⟩); have hx7 := HK7.out.obj HO6.out (fun h => by have := (World.ownsRow.lt HOB6.out _ h).1; omega); have s1 : w7.cell? ⟨g, 1, none⟩ = some (.slice pb k cb) := cell_of_row w7 _ 1 _ _ _ hx7; have s2 : w7.frozen? ⟨g, 1, none⟩ = false := (by unfold World.frozen?; rw [hx7]; rfl); have HX7 := Lib.hid hx7; clear hown7 hk7 hk7' hb7 hx7))
            clear s1 s2
            have hx8 := heap_setCell' (j := 1) (v := .slice p7 (k + 1) c7) HX7.out
            simp only [List.setIfInBounds_toArray, List.set_cons_succ, List.set_cons_zero] at hx8
            have hk8 : Keep (· = g) w7 (w7.setCell ⟨g, 1, none⟩ (.slice p7 (k + 1) c7)) := (Keep.refl (· = g) _).setCell (p := ⟨g, 1, none⟩) (.inl rfl) _
            have hkr : Keep (fun i => g + 1 ≤ i) w6 w7 := HK7.out.weaken (fun i _ hi => (World.ownsRow.lt HOB6.out i hi).1)
            have hoe7 := HOE6.out.keep HK7.out (fun i hi hj => Own.apart HOB6.out HOE6.out (by decide) i hj hi)
            have hob8 := HO7.out.keepOld hk8 (fun i hi => by have h3 : i = g := hi; omega)
            have hoe8 := hoe7.keepOld hk8 (fun i hi => by have h3 : i = g := hi; omega)
            have hc8 := (HC6.out.keep hkr (fun i hi => by omega)).keep hk8 (fun i hi h3 => by have h4 : i = g := h3; omega)
            have hkk8 : Keep (fun i => i = b ∨ i = g) w5 (w7.setCell ⟨g, 1, none⟩ (.slice p7 (k + 1) c7)) :=
              ((HKP.out.trans (HK6.out.weaken (fun i _ h => .inl h))).andThen hkr (fun i h1 h2 => by omega)).trans (hk8.weaken (fun i _ h => .inr h))
            have hz7 := hkr.size
            have hz8 := hk8.size
            generalize w7.setCell ⟨g, 1, none⟩ (.slice p7 (k + 1) c7) = w8 at *
            have HX8 := Lib.hid hx8
            have HOB8 := Lib.hid hob8
            have HOE8 := Lib.hid hoe8
            have HC8 := Lib.hid hc8
            have HK8 := Lib.hid hkk8
            have hb8 := hc8.lt
            clear hx8 hk8 hkr hoe7 hob8 hoe8 hc8 hkk8 HX7 HO7 HK7 HOB6 HOE6 HO6 HGO HC6 HK6
            have HOBK : Hid (∀ w', Keep (· = b) w8 w' → w'.heap[g]? = some (.cells #[.int .i64 ent, .slice p7 (k + 1) c7, .slice pe k ce, .slice none 0 0] 45 (0, 0))) := Lib.hid (fun w' hk' => hk'.obj HX8.out (by omega))
            refine region_kindsG_tail (· = b) [.is (.pointer (some ⟨g, 2, none⟩)), .is (.slice pe k ce), .is (.pointer (some ⟨b, 0, none⟩)), .sat (NumIn 0 5) (numIn_keep _ _ _), .sat (NumIn (-1) 4) (numIn_keep _ _ _), .is (.pointer (some ⟨b, 0, none⟩)), .sat (NumIn 0 5) (numIn_keep _ _ _), .sat (NumIn (-1) 4) (numIn_keep _ _ _), .sat PrVal (prVal_keep _), .sat (PMade w8.heap.size) (pMade_keep b _ hb8.1), .any, .any, .any]
              (fun w' => Cd b bl w' ∧ Keep (· = b) w8 w') 79 10 (by kernel_rfl) (by decide) (by kernel_rfl) (by kernel_rfl) (by kernel_rfl) rfl (by kernel_rfl) ⟨HC8.out.same (Keep.refl _ _).drew, (Keep.refl _ _).drew⟩ ?_ ?_
            · refine ⟨?_, ?_, ?_, ?_, ?_, ?_, ?_, ?_, ?_, ?_, trivial⟩
              · exact st_free rfl (st_ev1 (dep_f (t := 5) rfl rfl) _ (by intro a w' h1 hI; go_simp) rfl)
              · exact st_free rfl (st_ev1 (dep_e 0 rfl rfl rfl) _ (by intro a w' h1 hI; have q0 := cell_of_row _ _ 2 _ _ _ (HOBK.out _ hI.2); go_simp) rfl)
              · exact st_free rfl (st_ev1 (dep_f (t := 0) rfl rfl) _ (by intro a w' h1 hI; go_simp) rfl)
              · exact st_free rfl (st_callD1 (dep_e 2 rfl rfl rfl) 12 #[.pointer (some ⟨b, 0, none⟩), .int .i64 5] (by intro a w' h1; go_simp) (by rintro w' ⟨hcc, hI⟩; refine (Cd.next hcc (by omega) (by omega)).mono ?_; rintro e w'' ⟨mm, rfl, a3, a4, a1, a2⟩; exact ⟨_, rfl, ⟨_, rfl, a3, a4⟩, ⟨a1, hI.trans a2⟩, a2⟩))
              · exact st_free rfl (st_evS (dep_s 3 rfl rfl rfl) (by rintro a w' ⟨mm, h1, h2, h3⟩ hI; have q0 : IntKind.i64.wrap (mm - 1) = mm - 1 := IntWalk.i64_in _ (by omega); exact ⟨.int .i64 (mm - 1), by go_simp, mm - 1, rfl, by omega, by omega⟩))
              · exact st_free rfl (st_ev1 (dep_f (t := 0) rfl rfl) _ (by intro a w' h1 hI; go_simp) rfl)
              · exact st_free rfl (st_callD1 (dep_e 5 rfl rfl rfl) 12 #[.pointer (some ⟨b, 0, none⟩), .int .i64 5] (by intro a w' h1; go_simp) (by rintro w' ⟨hcc, hI⟩; refine (Cd.next hcc (by omega) (by omega)).mono ?_; rintro e w'' ⟨mm, rfl, a3, a4, a1, a2⟩; exact ⟨_, rfl, ⟨_, rfl, a3, a4⟩, ⟨a1, hI.trans a2⟩, a2⟩))
              · exact st_free rfl (st_evS (dep_s 6 rfl rfl rfl) (by rintro a w' ⟨mm, h1, h2, h3⟩ hI; have q0 : IntKind.i64.wrap (mm - 1) = mm - 1 := IntWalk.i64_in _ (by omega); exact ⟨.int .i64 (mm - 1), by go_simp, mm - 1, rfl, by omega, by omega⟩))
              · exact st_free rfl (st_evSS (dep_s 4 rfl rfl rfl) (dep_s 7 rfl rfl rfl) (by rintro a w' ⟨x, h1, h2, h3⟩ ⟨y, h4, h5, h6⟩ hI; exact ⟨.agg #[.int .i64 x, .int .i64 y], by go_simp, x, y, rfl, by omega, by omega, by omega, by omega⟩))
              · refine st_free rfl ?_
                intro a w' K' hI hV hF hK
                obtain ⟨x, y, e0, e1, e2, e3, e4⟩ : PrVal w' (a.eval (.tmp 52)) := tells hV 8 52 rfl rfl
                unfold Oper.wp execOp
                have hb : ∀ v : Value, (Instr.buildSlice 42 1 #[(0, .agg #[.int .i64 x, .int .i64 y])]).run Tryz.prog w' = .ok (.slice (some ⟨w'.heap.size, 0, none⟩) 1 1) (w'.alloc (.cells #[.int .i64 x, .int .i64 y] 97)) := by intro _; go_simp
                simp only [List.map_toArray, List.map_cons, List.map_nil, e0, Sem.run_bind, hb undef, Result.andThen_ok, Sem.run_pure, Oper.upon_value]
                have hal : Keep None w' (w'.alloc (.cells #[.int .i64 x, .int .i64 y] 97)) := (Keep.refl None w').alloc _
                exact hK _ _ ⟨hI.1.same hal, hI.2.alloc _⟩ ((Keep.refl _ _).alloc _) ⟨w'.heap.size, x, y, rfl, hI.2.size, e1, e2, e3, e4, heap_alloc_new _ _⟩
            intro f' w9 hkinds hI
            have k1 : f' 45 = .slice pe k ce := hkinds 1 _ 45 (by omega) rfl rfl
            obtain ⟨gh, xa, xb, k5, hgh, xa0, xa1, xb0, xb1, hgo⟩ : PMade w8.heap.size w9 (f' 53) := hkinds 9 _ 53 (by omega) rfl rfl
            simp only [putsOf, Act.put, List.take_succ_cons, List.take_zero, List.drop_succ_cons, List.drop_zero, List.setIfInBounds_toArray, List.set_cons_zero, List.set_cons_succ, k1, k5]
            clear hkinds k1 k5
            have hz9 := hI.2.size
            have HC9 := Lib.hid hI.1
            have HK9 := Lib.hid hI.2
            have HGO := Lib.hid hgo
            have HO9 := Lib.hid (HOBK.out _ hI.2)
            have HOB9 := Lib.hid (HOB8.out.keepOld hI.2 (fun i hi => by omega))
            have HOE9 := Lib.hid (HOE8.out.keepOld hI.2 (fun i hi => by omega))
            clear hI hgo HOBK
            go_wp2_with (at_builtin; go_loud (refine wpList_pushAt rfl _ _ 42 rfl (g + 1) _ i4 _ 16 Tryz.underlying42 hi4 hu0 hu1 hu2 rfl (by decide) prEnc_len (.slice pe k ce) es rfl HOE9.out (xa, xb) gh 1 rfl _ HGO.out rfl rfl (by simp [Value.oneCell']) (by omega) (by omega) (by omega) ?_; intro p10 c10 w10 hown10 hk10 hk10' hb10; rw [hle] at hown10 hb10; have HO10 := Lib.hid hown10; have HK10 := Lib.hid (show Keep (fun k' => (Value.slice pe k ce).ownBlock = some k') w9 w10 from ⟨hk10.os, hk10.tape, hk10.output, hk10.size, fun k hk hs => hk10' k (fun e => hs e.symm) hk⟩); have hx10 := HK10.out.obj HO9.out (fun h => by have := (World.ownsRow.lt HOE9.out _ h).1; omega); have s1 : w10.cell? ⟨g, 2, none⟩ = some (.slice pe k ce) := cell_of_row w10 _ 2 _ _ _ hx10; have s2 : w10.frozen? ⟨g, 2, none⟩ = false := (by unfold World.frozen?; rw [hx10]; rfl); have HX10 := Lib.hid hx10; clear hown10 hk10 hk10' hb10 hx10))
            clear s1 s2
            have hx11 := heap_setCell' (j := 2) (v := .slice p10 (k + 1) c10) HX10.out
            simp only [List.setIfInBounds_toArray, List.set_cons_succ, List.set_cons_zero] at hx11
            have hk11 : Keep (· = g) w10 (w10.setCell ⟨g, 2, none⟩ (.slice p10 (k + 1) c10)) := (Keep.refl (· = g) _).setCell (p := ⟨g, 2, none⟩) (.inl rfl) _
            have hkr : Keep (fun i => g + 1 ≤ i) w9 w10 := HK10.out.weaken (fun i _ hi => (World.ownsRow.lt HOE9.out i hi).1)
            have hob10 := HOB9.out.keep HK10.out (fun i hi hj => Own.apart HOB9.out HOE9.out (by decide) i hi hj)
            have hob11 := hob10.keepOld hk11 (fun i hi => by have h3 : i = g := hi; omega)
            have hoe11 := HO10.out.keepOld hk11 (fun i hi => by have h3 : i = g := hi; omega)
            have hc11 := (HC9.out.keep hkr (fun i hi => by omega)).keep hk11 (fun i hi h3 => by have h4 : i = g := h3; omega)
            have hkk11 : Keep (fun i => i = b ∨ i = g) w5 (w10.setCell ⟨g, 2, none⟩ (.slice p10 (k + 1) c10)) :=
              ((HK8.out.trans (HK9.out.weaken (fun i _ h => .inl h))).andThen hkr (fun i h1 h2 => by omega)).trans (hk11.weaken (fun i _ h => .inr h))
            refine ⟨⟨k + 1, p7, p10, c7, c10, bs ++ [nb], es ++ [(xa, xb)], by simp, by omega, ⟨hc11, hx11, hob11, hoe11, by simp [hlb], by simp [hle], ?_, ?_, hkk11⟩⟩, by simp [intOf]; omega⟩
            · intro n hn
              rcases List.mem_append.1 hn with hn | hn
              · exact HKB.out n hn
              · rw [List.mem_singleton.1 hn]; unfold knownP; omega
            · intro e he
              rcases List.mem_append.1 he with he | he
              · exact HKE.out e he
              · rw [List.mem_singleton.1 he]; unfold knownP; simp only; omega
          · obtain rfl : k = 2 := by omega
            have hlt2 : decide (((2 : Nat) : Int) < 2) = false := by decide
            go_wp2_with (fail)
            refine (Cd.next HCD.out (by omega) (by omega)).mono ?_
            rintro e w6 ⟨ch, rfl, ch0, ch1, hc6, hk6⟩
            have HC6 := Lib.hid hc6
            have HO6 := Lib.hid (hk6.obj HBX.out (by omega))
            have HOB6 := Lib.hid (HOB.out.keepOld hk6 (fun i hi => by omega))
            have HOE6 := Lib.hid (HOE.out.keepOld hk6 (fun i hi => by omega))
            have HK6 := Lib.hid (HKP.out.trans (hk6.weaken (fun i _ h => .inl h)))
            have hz6 := hk6.size
            clear hc6 hk6 HCD HBX HOB HOE HKP
            go_upto_if 58 with (fail)
            go_cut [] (fun wx => ∃ ps cs st, FD b bl g ent w5 wx pb cb pe ce bs es ps cs st)
            case first =>
              by_cases hch : ch = 0
              · subst hch
                go_wp2_with (fail)
                refine (Cd.next HC6.out (by omega) (by omega)).mono ?_
                rintro e w7 ⟨sb, rfl, sb0, sb1, hc7, hk7⟩
                have HC7 := Lib.hid hc7
                have HK7 := Lib.hid hk7
                clear hc7 hk7
                go_wp2_with (fail)
                refine (Cd.next HC7.out (by omega) (by omega)).mono ?_
                rintro e w8 ⟨si, rfl, si0, si1, hc8, hk8⟩
                have HC8 := Lib.hid hc8
                have HK8 := Lib.hid (HK7.out.trans hk8)
                clear hc8 hk8
                go_wp2_with (fail)
                refine (Cd.next HC8.out (by omega) (by omega)).mono ?_
                rintro e w9 ⟨ct, rfl, ct0, ct1, hc9, hk9⟩
                have HC9 := Lib.hid hc9
                have hk9 := HK8.out.trans hk9
                have HK9 := Lib.hid hk9
                have hx9 := hk9.obj HO6.out (by omega)
                have hz9 := hk9.size
                have s1 : ∀ o o', ((w9.alloc o).alloc o').cell? ⟨g, 3, none⟩ = some (.slice none 0 0) := fun o o' => cell_of_row _ _ 3 _ _ _ ((((Keep.refl None w9).alloc o).alloc o').obj hx9 id)
                have s2 : ∀ o o', ((w9.alloc o).alloc o').frozen? ⟨g, 3, none⟩ = false := fun o o' => by
                  have h := (((Keep.refl None w9).alloc o).alloc o').obj hx9 id
                  unfold World.frozen?
                  rw [h]
                  rfl
                have HX9 := Lib.hid hx9
                clear hc9 hk9 hx9
                go_wp2
                clear s1 s2
                go_meet
                case rel =>
                  refine ⟨some ⟨w9.heap.size + 1, 0, none⟩, 1, [⟨sb, si, some ⟨w9.heap.size, 0, none⟩, 1, [(0, ct)]⟩], ?_⟩
                  generalize hW2 : World.alloc (World.alloc w9 _) _ = W2
                  have hkW : Keep None w9 W2 := by rw [← hW2]; exact ((Keep.refl None w9).alloc _).alloc _
                  have hA : W2.heap[w9.heap.size]? = some (.cells #[.int .i64 0, .int .i64 ct] 48 (0, 0)) := by rw [← hW2]; exact ((Keep.refl None _).alloc _).obj (heap_alloc_new _ _) id
                  have hB : W2.heap[w9.heap.size + 1]? = some (.cells #[.int .i64 sb, .int .i64 si, .slice (some ⟨w9.heap.size, 0, none⟩) 1 1] 51 (0, 0)) := by rw [← hW2]; exact alloc_at (by simp)
                  have hx := heap_setCell' (j := 3) (v := .slice (some ⟨w9.heap.size + 1, 0, none⟩) 1 1) (hkW.obj HX9.out id)
                  simp only [List.setIfInBounds_toArray, List.set_cons_succ, List.set_cons_zero] at hx
                  have hkg : Keep (· = g) W2 (W2.setCell ⟨g, 3, none⟩ (.slice (some ⟨w9.heap.size + 1, 0, none⟩) 1 1)) := (Keep.refl (· = g) _).setCell (p := ⟨g, 3, none⟩) (.inl rfl) _
                  clear hW2
                  generalize W2.setCell ⟨g, 3, none⟩ (.slice (some ⟨w9.heap.size + 1, 0, none⟩) 1 1) = W3 at *
                  have hA3 := hkg.obj hA (by omega)
                  have hB3 := hkg.obj hB (by omega)
                  have hkn : Keep (fun i => i = b ∨ i = g) w6 W3 := (HK9.out.weaken (fun i _ h => .inl h)).trans ((hkW.weaken (fun i _ h => h.elim)).trans (hkg.weaken (fun i _ h => .inr h)))
                  have hbg : b < g := by omega
                  have hzB := heap_lt hB3
                  have hsl : SliceV prEnc 2 W3 (some ⟨w9.heap.size, 0, none⟩) [((0 : Int), ct)] := .inr ⟨_, 0, rfl, Arr.slAt (e := 48) prEnc_len hA3⟩
                  refine ⟨(HC9.out.same hkW).keep hkg (fun i hi h3 => by have h4 : i = g := h3; omega), hx, HOB6.out.keepOld hkn (fun i hi => by omega), HOE6.out.keepOld hkn (fun i hi => by omega), .inr ⟨_, 0, rfl, Arr.slAt (e := 51) SiteM.enc_len hB3⟩, ?_, ?_, ?_, ?_, by simp, HK6.out.trans hkn⟩
                  · intro s hs
                    rw [List.mem_singleton.1 hs]
                    exact ⟨hsl, by simp⟩
                  · intro a ha h; cases ha; simp only at h; omega
                  · intro s hs
                    rw [List.mem_singleton.1 hs]
                    intro a ha h; cases ha; simp only at h; omega
                  · intro fn hfn k s hs
                    rcases k with _ | k
                    · cases hs
                      refine ⟨sb0, sb1, si0, fun h => absurd h (by omega), ?_⟩
                      intro k t ht
                      rcases k with _ | k
                      · cases ht
                        exact ⟨by simp only; omega, by simp only; omega, ct0, by simp only; omega, fun h => absurd h (by omega)⟩
                      · simp at ht
                    · simp at hs
              · have hch' : (ch == 0) = false := by simpa using hch
                go_wp2
                go_meet
                case rel =>
                  exact ⟨none, 0, [], HC6.out, HO6.out, HOB6.out, HOE6.out, .inl rfl, (by simp), (by intro a ha; cases ha), (by simp), (by intro fn _ k s hs; simp at hs), (by simp), HK6.out⟩
            case rest =>
              obtain ⟨ps, cs, st, hfd⟩ := hcut
              obtain ⟨hcd, hbox, hob, hoe, hsl, htg, hfs, hft, hsp, hls, hkp⟩ := hfd
              obtain ⟨-, hcb, hcb2, hslb, hfb⟩ := hob.reads intEnc_len
              obtain ⟨-, hce, hce2, hsle, hfe⟩ := hoe.reads prEnc_len
              have hkt : Keep (· = b) wo wc := HK5.out.andThen hkp (fun i h1 h2 => by omega)
              have hzc := hkt.size
              have hdok : (⟨ent, pb, cb, bs, pe, ce, es, ps, cs, st⟩ : FcM).ok wc := ⟨hslb, hsle, hsl, htg, by simp only; omega, by simp only; omega, by simp only; omega⟩
              have hdoff : (⟨ent, pb, cb, bs, pe, ce, es, ps, cs, st⟩ : FcM).off (fun i => i ≤ g ∨ wc.heap.size ≤ i) := by
                refine ⟨?_, ?_, hfs, hft⟩
                · intro a ha h
                  have h1 := hfb a ha
                  rcases hob.row intEnc_len (by omega) with ⟨g1, hg1, _⟩
                  have h2 := (World.ownsRow.lt hob g1 (by rw [hg1]; rfl)).2
                  rw [hg1] at ha; cases ha; simp only at h h1; omega
                · intro a ha h
                  have h1 := hfe a ha
                  rcases hoe.row prEnc_len (by omega) with ⟨g1, hg1, _⟩
                  have h2 := (World.ownsRow.lt hoe g1 (by rw [hg1]; rfl)).2
                  rw [hg1] at ha; cases ha; simp only at h h1; omega
              have hdp : ∀ fn, 1 ≤ fn → FcP fn ⟨ent, pb, cb, bs, pe, ce, es, ps, cs, st⟩ := fun fn hfn =>
                ⟨⟨by simp only; omega, by simp only; omega, by simp only; omega, by unfold knownP; simp only; omega⟩, fun k n hn => ⟨HKB.out n (List.mem_of_getElem? hn), fun e he => HKE.out e (List.mem_of_getElem? he)⟩, by simp only; rw [hlb]; exact hsp fn hfn⟩
              have hown := HPB.out.own.keepOld hkt (fun i hi => by omega)
              have hbx3 := hkt.obj HPB.out.box (by omega)
              have d4 : wc.cell? ⟨g3, 4, none⟩ = some (.slice p l.length c) := cell_of_row _ _ 4 _ _ _ hbx3
              obtain ⟨d0, d1, d2, d3⟩ : wc.cell? ⟨g, 0, none⟩ = some (.int .i64 ent) ∧ wc.cell? ⟨g, 1, none⟩ = some (.slice pb 2 cb) ∧ wc.cell? ⟨g, 2, none⟩ = some (.slice pe 2 ce) ∧ wc.cell? ⟨g, 3, none⟩ = some (.slice ps st.length cs) :=
                ⟨cell_of_row _ _ 0 _ _ _ hbox, cell_of_row _ _ 1 _ _ _ hbox, cell_of_row _ _ 2 _ _ _ hbox, cell_of_row _ _ 3 _ _ _ hbox⟩
              have HDOK := Lib.hid hdok
              have HDOFF := Lib.hid hdoff
              have HDP := Lib.hid hdp
              have HOWN := Lib.hid hown
              have HBX3 := Lib.hid hbx3
              have HCD := Lib.hid hcd
              have HKT := Lib.hid hkt
              have hlen : l.length ≤ 1 := by omega
              clear hcd hbox hob hoe hsl htg hfs hft hsp hkp hslb hfb hsle hfe hkt hdok hdoff hdp hown hbx3
              go_wp2_with (at_builtin; go_loud (refine wpList_push rfl _ _ 31 rfl (g3 + 1) _ i5 _ 80 Tryz.underlying31 hi5 hz0 hz1 hz2 rfl (by decide) (.slice p l.length c) l rfl HOWN.out ⟨ent, pb, cb, bs, pe, ce, es, ps, cs, st⟩ 1 rfl [.int .i64 ent, .slice pb 2 cb, .slice pe 2 ce, .slice ps st.length cs] (by simp only [FcM.enc]; rw [hlb, hle]) rfl (by simp [Value.oneCell']) (by omega) (by omega) (by omega) ?_; intro v10 w10 hown10 hk10 hob10 hbk10; obtain ⟨p10, c10, rfl, hc10, hm10, hs10, hf10⟩ := hown10.slice FcM.enc_len; rw [show (l ++ [(⟨ent, pb, cb, bs, pe, ce, es, ps, cs, st⟩ : FcM)]).length = l.length + 1 by simp] at *; have HO10 := Lib.hid hown10; have HOB10 := Lib.hid hob10; have HBK10 := Lib.hid hbk10; have HK10 := Lib.hid hk10; have hx10 := hk10.obj HBX3.out (by omega); have s1 : w10.cell? ⟨g3, 4, none⟩ = some (.slice p l.length c) := cell_of_row w10 _ 4 _ _ _ hx10; have s2 : w10.frozen? ⟨g3, 4, none⟩ = false := (by unfold World.frozen?; rw [hx10]; rfl); have HX10 := Lib.hid hx10; clear hown10 hob10 hbk10 hk10 hx10 hs10 hf10))
              clear s1 s2
              have hx11 := heap_setCell' (j := 4) (v := .slice p10 (l.length + 1) c10) HX10.out
              simp only [List.setIfInBounds_toArray, List.set_cons_succ, List.set_cons_zero] at hx11
              have hkg : Keep (· = g3) w10 (w10.setCell ⟨g3, 4, none⟩ (.slice p10 (l.length + 1) c10)) := (Keep.refl (· = g3) _).setCell (p := ⟨g3, 4, none⟩) (.inl rfl) _
              generalize w10.setCell ⟨g3, 4, none⟩ (.slice p10 (l.length + 1) c10) = w11 at *
              have hL : (l ++ [(⟨ent, pb, cb, bs, pe, ce, es, ps, cs, st⟩ : FcM)]).length = l.length + 1 := by simp
              have hks : Keep (fun k => (Value.slice p l.length c).ownBlock = some k) wc w10 := ⟨HK10.out.os, HK10.out.tape, HK10.out.output, HK10.out.size, fun k hk hs => HBK10.out k (fun e => hs e.symm) hk⟩
              have hz10 := hks.size
              have hz11 := hkg.size
              have hnew : ∀ i, (Value.slice p10 (l.length + 1) c10).ownBlock = some i → (Value.slice p l.length c).ownBlock = some i ∨ wc.heap.size ≤ i := fun i hi => by
                rcases HOB10.out with h | h
                · exact .inl (h ▸ hi)
                · rw [h] at hi; cases hi; exact .inr (by omega)
              refine ⟨⟨i - 1, p10, c10, l ++ [(⟨ent, pb, cb, bs, pe, ce, es, ps, cs, st⟩ : FcM)], rfl, by omega, by rw [hL]; omega, by rw [hL]; omega, ⟨?_, by rw [hL]; exact hx11, ?_, ?_, ?_⟩⟩, by simp [intOf]; omega⟩
              · exact (HCD.out.keep HK10.out (fun i hi => by omega)).keep hkg (fun i hi h3 => by have h4 : i = g3 := h3; omega)
              · rw [hL]; exact HO10.out.keepOld hkg (fun i hi => by have h3 : i = g3 := hi; omega)
              · rw [hL]
                intro x hx
                rcases List.mem_append.1 hx with hx | hx
                · obtain ⟨h1, h2, h3⟩ := HPB.out.fc x hx
                  refine ⟨((h1.keepS HKT.out (h3.mono fun i hi => .inr (.inl (by have h4 : i = b := hi; omega)))).keepS hks (h3.mono fun i hi => .inl hi)).keepS hkg (h3.mono fun i hi => .inr (.inl (by have h4 : i = g3 := hi; omega))), h2, h3.mono fun i hi => ?_⟩
                  rcases hi with hi | hi | hi
                  · rcases hnew i hi with h | h
                    · exact .inl h
                    · exact .inr (.inr (by omega))
                  · exact .inr (.inl hi)
                  · exact .inr (.inr (by omega))
                · rw [List.mem_singleton.1 hx]
                  refine ⟨(HDOK.out.keepS hks (HDOFF.out.mono fun i hi => .inl (by have := (World.ownsRow.lt HPB.out.own i hi).2; omega))).keepS hkg (HDOFF.out.mono fun i hi => .inl (by have h4 : i = g3 := hi; omega)), HDP.out, HDOFF.out.mono fun i hi => ?_⟩
                  rcases hi with hi | hi | hi
                  · rcases hnew i hi with h | h
                    · exact .inl (by have := (World.ownsRow.lt HPB.out.own i h).2; omega)
                    · exact .inr h
                  · exact .inl (by omega)
                  · exact .inr (by omega)
              · have hz0 := HPB.out.kp.size
                exact ((HPB.out.kp.trans (HKT.out.weaken (fun i _ h => .inl h))).andThen HK10.out (fun i h1 h2 => by omega)).trans (hkg.weaken (fun i _ h => .inr (by have h4 : i = g3 := h; omega)))
      · obtain rfl : i = 0 := by omega
        have hkp := HPB.out.kp
        have hg3 : g3 < wr.heap.size := heap_lt HPB.out.box
        have hzr := hkp.size
        have hB2r := hkp.obj HB2.out (by omega)
        obtain ⟨-, hcap1, hcap2, hslv, hfrom⟩ := HPB.out.own.reads FcM.enc_len
        have HKP := Lib.hid hkp
        have HB2R := Lib.hid hB2r
        have HSL := Lib.hid hslv
        have HFR := Lib.hid hfrom
        clear hkp hB2r hslv hfrom
        go_wp2_with (first
          | ((with_reducible (show wpList _ _ _ (⟨some 78, .load 35 _, _, _, _, none⟩ :: _) _ _)); refine wpList_loadEl (enc := listEnc) (size := 5) rfl 35 _ rfl _ _ rfl [.int .i64 rr, .int .i64 mm, .int .i64 nn, .int .u64 dd, .slice p l.length c] _ (range_of_obj HPB.out.box) rfl Tryz.underlying35 rfl Tryz.sizePc (.agg #[.int .i64 rr, .int .i64 mm, .int .i64 nn, .int .u64 dd, .slice p l.length c]) rfl ?_)
          | ((with_reducible (show wpList _ _ _ (⟨_, .store 35 (.tmp 2) _, _, _, _, none⟩ :: _) _ _)); (refine wpList_storeObj rfl 35 _ _ rfl H rfl [.int .i64 0, .int .i64 0, .int .i64 0, .int .u64 0, .slice none 0 0] [.int .i64 rr, .int .i64 mm, .int .i64 nn, .int .u64 dd, .slice p l.length c] rfl _ (by simp) HB2R.out 5 Tryz.sizePc rfl (by simp [Value.oneCell']) ?_); intro w9 hres hk9 hs9; have HRES := Lib.hid hres; have HK9 := Lib.hid hk9; clear hres hk9 hs9))
        refine bodyPost_ret (results_obj rfl rfl _ _ (range_of_obj HRES.out) Tryz.underlying35 rfl 5 Tryz.sizePc rfl) rfl ?_
        have hz9 := HK9.out.size
        have hzw := HK.out.size
        refine ⟨⟨rr, mm, nn, dd, p, c, l⟩, rfl, ⟨?_, ?_, ?_, by simp only; omega, by simp only; omega, fun x hx => (HPB.out.fc x hx).2.1 _ (by simp only; omega)⟩, ⟨?_, ?_, by simp only; omega⟩, ?_, ?_, hcap1, hcap2, ?_, ?_⟩
        · unfold numbP; simp only; omega
        · unfold numbP; simp only; omega
        · unfold numbP; simp only; omega
        · exact HSL.out.keep HK9.out (fun z hz hzs => by have := HFR.out z hz; have h3 : z.block = H := hzs; omega)
        · exact fun x hx => (HPB.out.fc x hx).1.keepS HK9.out ((HPB.out.fc x hx).2.2.mono fun i hi => .inr (.inl (by have h3 : i = H := hi; omega)))
        · intro z hz; have := HFR.out z hz; omega
        · exact fun x hx => (HPB.out.fc x hx).2.2.mono fun i hi => by
            rcases hi with hi | hi
            · exact .inr (.inl (by omega))
            · exact .inr (.inr (by omega))
        · exact HPB.out.cd.keep HK9.out (fun i hi h3 => by have h4 : i = H := h3; have := HPB.out.cd.lt; omega)
        · exact HK.out.andThen ((HKP.out.weaken (T := fun i => i = b ∨ H ≤ i) (fun i h1 h2 => by omega)).trans (HK9.out.weaken (T := fun i => i = b ∨ H ≤ i) (fun i h1 h2 => .inr (by have h3 : i = H := h2; omega)))) (fun i h1 h2 => by omega)

end Go.Proofs.YtcdophocpheadaaGreatDoor
