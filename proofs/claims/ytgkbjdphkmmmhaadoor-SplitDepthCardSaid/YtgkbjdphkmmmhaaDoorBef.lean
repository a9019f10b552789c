/-
  Chapter 8: flow.before, walked: a range over slices.Backward.
-/
import Derived.Test.YtgkbjdphkmmmhaaDoorBefDef
import Derived.RangeFuncNested
import Derived.RangeFuncBound
import Derived.RangeFuncCalls
import Derived.RangeFuncLeaves
import Derived.Shelf.Abstract
import Derived.Shelf.RegionOpen
import Derived.WalkKit
import Derived.OwnWalkIn
import Derived.TacticsInMore
import Derived.LoopNIn
import Derived.LoopIn
namespace Go.Proofs.YtgkbjdphkmmmhaaDoor
open Go.RowKit Go.Shelf
attribute [local go_sem] Oper.semAt_some

/-! ### What the rounds keep -/
/-- Cells stay, but those of block g. -/
def KpB (g : Nat) (A B : World) : Prop := ∀ (k : Nat) (o : Obj), A.heap[k]? = some o → o.isCells = true → k ≠ g → B.heap[k]? = some o
theorem KpB.trans {g : Nat} {A B C : World} (h : KpB g A B) (k : KpB g B C) : KpB g A C := fun i o ho hc hn => k i o (h i o ho hc hn) hc hn
theorem KpB.putObj (g : Nat) (W : World) (l : Nat) (o o' : Obj) (hl : W.heap[l]? = some o) (hc : o.isCells = false) : KpB g W (W.putObj l o') := fun k x hk hx _ => by
  have hne : k ≠ l := fun e => by subst e; rw [hl] at hk; cases hk; rw [hc] at hx; cases hx
  exact (World.putObj_heap_other hne).trans hk
theorem KpB.cell {g : Nat} {A B : World} (h : KpB g A B) {a : Addr} {v : Value} (hc : A.cell? a = some v) (hn : a.block ≠ g) : B.cell? a = some v := by
  obtain ⟨o, ho, hx⟩ := cells_of_cell hc
  exact (World.cell?_of_block ((h _ o ho hx hn).trans ho.symm)).trans hc
theorem KpB.ofKeep {g : Nat} {A B : World} (h : Keep (· = g) A B) : KpB g A B := fun k o ho _ hn => h.obj ho hn
theorem Keep.others {S : Nat → Prop} {A B : World} (h : Keep S A B) (hS : ∀ k o, S k → A.heap[k]? = some o → o.isCells = true) : KeepsOthers A B :=
  ⟨h.size, fun k o ho hc => h.obj ho fun hs => by rw [hS k o hs ho] at hc; cases hc⟩
theorem BoolsAt.isCells {w : World} {g o N : Nat} {e : TypeId} {l : List Bool} (h : BoolsAt w g o N e l) (k : Nat) (x : Obj) (hk : k = g) (hx : w.heap[k]? = some x) : x.isCells = true := by
  obtain ⟨C, h1, -⟩ := h
  subst hk
  rw [h1] at hx
  cases hx
  rfl

/-! ### slices.Backward -/
abbrev BI (ys : List Ins) := { x : Nat × Ins // x.2 ∈ ys }
def bEncs {ys : List Ins} (x : BI ys) : Array Value := #[.int .i64 (x.1.1 : Int), x.1.2.val]

theorem SlAt.ins {w : World} {b off : Nat} {xs : List Ins} (h : SlAt Ins.enc 7 w b off xs) {i : Nat} {x : Ins} (hx : xs[i]? = some x) :
    w.cell? ⟨b, off + i * 7, none⟩ = some (.int .i64 x.k) ∧ w.cell? ⟨b, off + i * 7 + 1, none⟩ = some (.int .i64 x.op) ∧ w.cell? ⟨b, off + i * 7 + 2, none⟩ = some (.int .i64 x.d) ∧ w.cell? ⟨b, off + i * 7 + 3, none⟩ = some (.int .i64 x.a) ∧
      w.cell? ⟨b, off + i * 7 + 4, none⟩ = some (.int .i64 x.b) ∧ w.cell? ⟨b, off + i * 7 + 5, none⟩ = some (.int .i64 x.v) ∧ w.cell? ⟨b, off + i * 7 + 6, none⟩ = some (.slice x.p x.args.length x.c) :=
  ⟨by simpa using h i _ hx 0 _ rfl, by simpa using h i _ hx 1 _ rfl, by simpa using h i _ hx 2 _ rfl, by simpa using h i _ hx 3 _ rfl, by simpa using h i _ hx 4 _ rfl, by simpa using h i _ hx 5 _ rfl, by simpa using h i _ hx 6 _ rfl⟩

theorem backward_calls (a : Option Addr) (len cap : Nat) (w : World) :
    Calls Tryd.prog 65 #[.slice a len cap] w fun e w' => e = .returned (.func (.func 80) #[] #[.pointer (some ⟨w.heap.size, 0, none⟩)]) ∧ w' = w.alloc (.cells #[.slice a len cap] 25) := by
  go_enter Tryd.func65, Tryd.ntmps65
  go_wp2
  go_ret
  exact ⟨rfl, rfl⟩

theorem Tryd.sizeIns : (Tryd.prog.info? 32).map (·.size) = some 7 := by kernel_rfl

set_option maxRecDepth 100000 in
set_option maxHeartbeats 4000000 in
theorem back1_in (F : Fence) (n : Nat) (hF : F.fn 80) (hro : F.round = none) (hn : 1 ≤ n) (l Bs g b off cap : Nat) (ys : List Ins) (hlen : ys.length ≤ 1000000) (hbg : b ≠ g) (hBg : Bs ≠ g) (J Jx : List (BI ys) → World → Prop)
    (hY : ∀ pre x W, J pre W → pre.length < ys.length → YieldAt F (n - 1) Tryd.prog l (bEncs x) W fun e W' => (e = .returned (.bool true) ∧ J (pre ++ [x]) W' ∧ KpB g W W') ∨ (e = .returned (.bool false) ∧ Jx (pre ++ [x]) W'))
    (W : World) (hBs : W.cell? ⟨Bs, 0, none⟩ = some (.slice (some ⟨b, off, none⟩) ys.length cap)) (hc : SlAt Ins.enc 7 W b off ys) (h0 : J [] W) :
    CallsIn F n Tryd.prog 80 #[.func (.yield l) #[] #[], .pointer (some ⟨Bs, 0, none⟩)] W fun e W' => (∃ v, e = .returned v) ∧ ((∃ xs : List (BI ys), xs.map (·.1.2) = ys.reverse ∧ J xs W') ∨ (∃ pre, True ∧ Jx pre W')) := by
  refine callsIn_of_wp Tryd.func80 rfl hF ?_ hro
  simp only [Tryd.ntmps80, List.size_toArray, List.length_cons, List.length_nil, Nat.reduceAdd, Nat.reduceSub, Array.replicate_succ, Array.replicate_zero, List.push_toArray, List.append_toArray, List.nil_append, List.cons_append]
  have hw0 : IntKind.i64.wrap ((ys.length : Int) - 1) = (ys.length : Int) - 1 := IntWalk.i64_in _ (by omega)
  gi_wp2
  gi_loopw [3] (fun t wr => ∃ (k : Nat) (i : Int) (pre : List (BI ys)), t = .int .i64 i ∧ i + 1 + k = ys.length ∧ k ≤ ys.length ∧ pre.map (·.1.2) = ys.reverse.take k ∧ pre.length = k ∧ J pre wr ∧ KpB g W wr) (fun t _ => ((intOf t) + 1).toNat)
  case atStart => exact ⟨0, _, [], rfl, by omega, by omega, by simp, rfl, h0, fun _ _ h _ _ => h⟩
  case round =>
    obtain ⟨k, i, pre, rfl, hik, hk, hpre, hpl, hJs, hnx⟩ := hrel
    have hBr := hnx.cell hBs hBg
    by_cases hlt : 0 ≤ i
    · obtain ⟨j, rfl⟩ : ∃ j : Nat, i = j := ⟨i.toNat, by omega⟩
      have hj : j < ys.length := by omega
      obtain ⟨y, hy0⟩ : ∃ y, ys[j]? = some y := ⟨ys[j], List.getElem?_eq_getElem hj⟩
      have hmem : y ∈ ys := List.mem_of_getElem? hy0
      obtain ⟨c0, c1, c2, c3, c4, c5, c6⟩ := hc.ins hy0
      have c0 := hnx.cell c0 hbg
      have c1 := hnx.cell c1 hbg
      have c2 := hnx.cell c2 hbg
      have c3 := hnx.cell c3 hbg
      have c4 := hnx.cell c4 hbg
      have c5 := hnx.cell c5 hbg
      have c6 := hnx.cell c6 hbg
      obtain ⟨fn, tmps, assign, body, hy, hR⟩ := hY pre ⟨(j, y), hmem⟩ wr hJs (by omega)
      have hpre2 : (pre ++ [(⟨(j, y), hmem⟩ : BI ys)]).map (·.1.2) = ys.reverse.take (k + 1) := by
        have hr : ys.reverse[k]? = some y := by
          rw [List.getElem?_reverse (by omega), show ys.length - 1 - k = j from by omega]
          exact hy0
        rw [List.map_append, hpre, List.take_add_one, hr]
        rfl
      have HP2 := Lib.hid hpre2
      clear hpre2 hc
      obtain ⟨yk, yop, yd, ya, yb, yv, yp, yc, yargs⟩ := y
      simp only [bEncs, Ins.val] at hy
      simp only at c0 c1 c2 c3 c4 c5 c6
      have hw1 : IntKind.i64.wrap ((j : Int) - 1) = (j : Int) - 1 := IntWalk.i64_in _ (by omega)
      gi_wp2
      refine hR.mono ?_
      rintro e W3 (⟨rfl, hJ3, hk3⟩ | ⟨rfl, hJx3⟩)
      · gi_wp2
        go_roundw
        case rel => exact ⟨k + 1, _, _, rfl, by omega, by omega, HP2.out, by simp [hpl], hJ3, hnx.trans hk3⟩
        case measure => simp [intOf] <;> omega
      · gi_wp2
        refine bodyPost_ret (results_none rfl _ _ _) rfl ?_
        exact ⟨⟨_, rfl⟩, .inr ⟨_, trivial, hJx3⟩⟩
    · obtain rfl : k = ys.length := by omega
      gi_wp2
      go_end0
      exact ⟨⟨_, rfl⟩, .inl ⟨pre, by rw [hpre, List.take_of_length_le (by simp)], hJs⟩⟩

set_option maxRecDepth 100000 in
set_option maxHeartbeats 1000000 in
theorem back0_in (F : Fence) (n : Nat) (hF : F.fn 80) (hro : F.round = none) (l Bs cap : Nat) (p : Option Addr) (J : List (BI []) → World → Prop) (W : World) (hBs : W.cell? ⟨Bs, 0, none⟩ = some (.slice p 0 cap)) (h0 : J [] W) :
    CallsIn F n Tryd.prog 80 #[.func (.yield l) #[] #[], .pointer (some ⟨Bs, 0, none⟩)] W fun e W' => (∃ v, e = .returned v) ∧ J [] W' := by
  refine callsIn_of_wp Tryd.func80 rfl hF ?_ hro
  simp only [Tryd.ntmps80, List.size_toArray, List.length_cons, List.length_nil, Nat.reduceAdd, Nat.reduceSub, Array.replicate_succ, Array.replicate_zero, List.push_toArray, List.append_toArray, List.nil_append, List.cons_append]
  gi_wp2
  gi_loopw [3] (fun t wr => t = .int .i64 (-1) ∧ J [] wr) (fun _ _ => 0)
  case atStart => exact ⟨rfl, h0⟩
  case round =>
    obtain ⟨rfl, hJs⟩ := hrel
    gi_wp2
    go_end0
    exact ⟨⟨_, rfl⟩, hJs⟩

theorem back_stops (F : Fence) (n : Nat) (hF : F.fn 80) (hro : F.round = none) (hn : 1 ≤ n) (Bs g cap : Nat) (p : Option Addr) (ys : List Ins) (hlen : ys.length ≤ 1000000) (w : World) (hBw : Bs < w.heap.size) (hpw : ∀ a, p = some a → ys ≠ [] → a.block < w.heap.size)
    (hBs : w.cell? ⟨Bs, 0, none⟩ = some (.slice p ys.length cap)) (hBg : Bs ≠ g) (hs : SlOff Ins.enc 7 g w p ys) :
    SeqStopsK F n Tryd.prog 80 #[.pointer (some ⟨Bs, 0, none⟩)] (bEncs (ys := ys)) (KpB g) (fun xs => xs.map (·.1.2) = ys.reverse) (fun _ => True) ys.length w := fun l J Jx W hW _ _ hY h0 => by
  have hB' := (hW.cell (p := ⟨Bs, 0, none⟩) hBw).trans hBs
  rcases hs with rfl | ⟨b, off, rfl, hbg, hsl⟩
  · exact (back0_in F n hF hro l Bs cap p J W hB' h0).mono fun e W' ⟨he, hj⟩ => ⟨he, .inl ⟨[], rfl, hj⟩⟩
  · by_cases hys : ys = []
    · subst hys
      exact (back0_in F n hF hro l Bs cap _ J W hB' h0).mono fun e W' ⟨he, hj⟩ => ⟨he, .inl ⟨[], rfl, hj⟩⟩
    have hb := hpw _ rfl hys
    exact back1_in F n hF hro hn l Bs g b off cap ys hlen hbg hBg J Jx hY W hB' (fun i x hx j u hu => (hW.cell (p := ⟨b, off + i * 7 + j, none⟩) hb).trans (hsl i x hx j u hu)) h0

theorem tuses_calls (tk ta tt te : Int) (w : World) : Calls Tryd.prog 64 #[.agg #[.int .i64 tk, .int .i64 ta, .int .i64 tt, .int .i64 te]] w (IntsOut (tuses tk ta) w) := by
  by_cases h1 : tk = 2
  · subst h1
    rw [show tuses 2 ta = [ta] from by simp [tuses]]
    (go_enter Tryd.func64, Tryd.ntmps64; go_upto_region 1 with (fail); (generalize hw1 : World.alloc _ _ = w1; have hk1 : Keep None w w1 := (by rw [← hw1]; exact (Keep.refl _ _).alloc _); have ho1 : w1.heap[w.heap.size]? = some (.cells #[.int .i64 2, .int .i64 ta, .int .i64 tt, .int .i64 te] 24 (0, 0)) := (by rw [← hw1]; exact heap_alloc_new _ _); have q0 := cell_of_row _ _ 0 _ _ _ ho1; have q1 := cell_of_row _ _ 1 _ _ _ ho1; have HK := Lib.hid hk1; clear hw1 hk1 ho1))
    go_wp2
    go_ret
    exact ⟨some ⟨_, 0, none⟩, 1, rfl, .inr ⟨_, 0, rfl, Arr.slAt (e := 3) intEnc_len (heap_alloc_new _ _)⟩, (by intro ad had; cases had; exact HK.out.size), HK.out.alloc _⟩
  · by_cases h2 : tk = 3
    · subst h2
      rw [show tuses 3 ta = [ta] from by simp [tuses]]
      (go_enter Tryd.func64, Tryd.ntmps64; go_upto_region 1 with (fail); (generalize hw1 : World.alloc _ _ = w1; have hk1 : Keep None w w1 := (by rw [← hw1]; exact (Keep.refl _ _).alloc _); have ho1 : w1.heap[w.heap.size]? = some (.cells #[.int .i64 3, .int .i64 ta, .int .i64 tt, .int .i64 te] 24 (0, 0)) := (by rw [← hw1]; exact heap_alloc_new _ _); have q0 := cell_of_row _ _ 0 _ _ _ ho1; have q1 := cell_of_row _ _ 1 _ _ _ ho1; have HK := Lib.hid hk1; clear hw1 hk1 ho1))
      go_wp2
      go_ret
      exact ⟨some ⟨_, 0, none⟩, 1, rfl, .inr ⟨_, 0, rfl, Arr.slAt (e := 3) intEnc_len (heap_alloc_new _ _)⟩, (by intro ad had; cases had; exact HK.out.size), HK.out.alloc _⟩
    · rw [show tuses tk ta = [] from by simp [tuses, h1, h2]]
      have e2 : (tk == 2) = false := by simpa using h1
      have e3 : (tk == 3) = false := by simpa using h2
      (go_enter Tryd.func64, Tryd.ntmps64; go_upto_region 1 with (fail); (generalize hw1 : World.alloc _ _ = w1; have hk1 : Keep None w w1 := (by rw [← hw1]; exact (Keep.refl _ _).alloc _); have ho1 : w1.heap[w.heap.size]? = some (.cells #[.int .i64 tk, .int .i64 ta, .int .i64 tt, .int .i64 te] 24 (0, 0)) := (by rw [← hw1]; exact heap_alloc_new _ _); have q0 := cell_of_row _ _ 0 _ _ _ ho1; have q1 := cell_of_row _ _ 1 _ _ _ ho1; have HK := Lib.hid hk1; clear hw1 hk1 ho1))
      go_wp2
      go_ret
      exact ⟨none, 0, rfl, .inl rfl, (by intro ad had; cases had), HK.out⟩

set_option maxRecDepth 100000 in
set_option maxHeartbeats 8000000 in
theorem before_calls (ys : List Ins) (pI : Option Addr) (cI : Nat) (tk ta tt te ln of ob : Int) (g o N c : Nat) (live live' : List Bool) (w : World) (hB : BoolsAt w g o N 4 live) (hn : ys.length ≤ 1000000) (hs : SlOff Ins.enc 7 g w pI ys)
    (ha : ∀ y ∈ ys, SlOff intEnc 1 g w y.p y.args ∧ y.args.length ≤ 1000000) (hr : befB tk ta (ys.map Ins.data) live = some live') :
    Calls Tryd.prog 41 #[.agg #[.slice pI ys.length cI, .int .i64 tk, .int .i64 ta, .int .i64 tt, .int .i64 te, .int .i64 ln, .int .i64 of, .int .i64 ob], .slice (some ⟨g, o, none⟩) live.length c] w fun e w' =>
      e = .returned (.slice (some ⟨g, o, none⟩) live.length c) ∧ BoolsAt w' g o N 4 live' ∧ Keep (· = g) w w' := by
  refine (callsIn_wide (n := 6)).1 ?_
  refine callsIn_of_wp_marks Tryd.func41 rfl trivial ?_ rfl
  simp only [Tryd.ntmps41, List.size_toArray, List.length_cons, List.length_nil, Nat.reduceAdd, Nat.reduceSub, Array.replicate_succ, Array.replicate_zero, List.push_toArray, List.append_toArray, List.nil_append, List.cons_append]
  have HBA := Lib.hid hB
  have HS := Lib.hid hs
  have HA := Lib.hid ha
  have HR := Lib.hid hr
  clear hB hs ha hr
  refine wpIn_wide.2 ?_
  have hgw : g < w.heap.size := by obtain ⟨C, h1, -⟩ := HBA.out; exact heap_lt h1
  go_upto_region 1 with (fail)
  generalize hw2 : World.alloc _ _ = w2
  have hk2 : Keep None w w2 := by rw [← hw2]; exact ((Keep.refl _ _).alloc _).alloc _
  have hob : w2.heap[w.heap.size]? = some (.cells #[.slice pI ys.length cI, .int .i64 tk, .int .i64 ta, .int .i64 tt, .int .i64 te, .int .i64 ln, .int .i64 of, .int .i64 ob] 29 (0, 0)) := by rw [← hw2]; exact ((Keep.refl None _).alloc _).obj (heap_alloc_new _ _) id
  have hol : w2.heap[w.heap.size + 1]? = some (.cells #[.slice (some ⟨g, o, none⟩) live.length c] 64 (0, 0)) := by rw [← hw2]; exact alloc_at (by simp)
  have q0 := cell_of_row _ _ 0 _ _ _ hob
  have q1 := cell_of_row _ _ 1 _ _ _ hob
  have q2 := cell_of_row _ _ 2 _ _ _ hob
  have q3 := cell_of_row _ _ 3 _ _ _ hob
  have q4 := cell_of_row _ _ 4 _ _ _ hob
  have HOB := Lib.hid hob
  have HOL := Lib.hid hol
  have HK2 := Lib.hid hk2
  clear hw2 hk2 hob hol
  go_wp2_with (go_at_call 64; refine (tuses_calls _ _ _ _ _).mono ?_; rintro e w3 ⟨pu, cu, rfl, hu, hfu, hk3⟩; have HU := Lib.hid hu; have HFU := Lib.hid hfu; have HK3 := Lib.hid hk3; clear hu hfu hk3)
  clear q0 q1 q2 q3 q4
  obtain ⟨l1, hl1, hl2⟩ := befB_some HR.out
  have HL1 := Lib.hid hl1
  have HL2 := Lib.hid hl2
  have hz2 := HK2.out.size
  have hsz2 : w.heap.size + 1 < w2.heap.size := heap_lt HOL.out
  have hz3 := HK3.out.size
  clear hl1 hl2 HR
  have hoB := HK3.out.obj HOB.out id
  have hoL := HK3.out.obj HOL.out id
  have HOB := Lib.hid hoB
  have HOL := Lib.hid hoL
  have HK := Lib.hid (HK2.out.trans HK3.out)
  clear hoB hoL HK2 HK3
  go_loopw [17] (fun t wr => ∃ (k : Nat) (lv : List Bool), t = .int .i64 k ∧ k ≤ (tuses tk ta).length ∧ setAllB ((tuses tk ta).take k) live = some lv ∧ BoolsAt wr g o N 4 lv ∧ Keep (· = g) w3 wr) (fun t _ => (tuses tk ta).length - (intOf t).toNat)
  case atStart => exact ⟨0, live, rfl, by omega, rfl, HBA.out.same (HK.out.block g hgw id), Keep.refl _ _⟩
  case round =>
    obtain ⟨k, lv, rfl, hk, hlv, hbo, hkr⟩ := hrel
    have hll := setAllB_len _ _ _ hlv
    have HLV := Lib.hid hlv
    have HBO := Lib.hid hbo
    have HKR := Lib.hid hkr
    have r0 := cell_of_row _ _ 0 _ _ _ (hkr.obj HOL.out (show ¬ w.heap.size + 1 = g by omega))
    clear hlv hbo hkr
    by_cases hlt : k < (tuses tk ta).length
    · obtain ⟨r, hrk⟩ : ∃ r, (tuses tk ta)[k]? = some r := ⟨(tuses tk ta)[k], List.getElem?_eq_getElem hlt⟩
      obtain ⟨⟨hr0, hr1⟩, hset⟩ := setAllB_step HL1.out HLV.out hrk
      have HSET := Lib.hid hset
      clear hset
      have hu : SliceV intEnc 1 wr pu (tuses tk ta) := HU.out.keep HKR.out (fun ad had h3 => by have h4 := HFU.out ad had; have h5 : ad.block = g := h3; omega)
      rcases hu with h | ⟨bu, ou, rfl, hu⟩
      · rw [h] at hlt; simp at hlt
      have u0 := hu.int hrk
      obtain ⟨jr, rfl⟩ : ∃ jr : Nat, r = jr := ⟨r.toNat, by omega⟩
      have hjl : jr < lv.length := by omega
      obtain ⟨bb, r1, r2⟩ := HBO.out.cell hjl
      have hjlI : (jr : Int) < (live.length : Int) := by omega
      clear hu hrk
      have htl : (tuses tk ta).length ≤ 1 := by unfold tuses; split <;> simp
      go_wp2_with (fail)
      exact ⟨⟨k + 1, lv.set jr true, by simp, by omega, HSET.out, HBO.out.set hjl true, HKR.out.setCell (p := ⟨g, o + jr, none⟩) (.inl rfl) _⟩, by simp [intOf]; omega⟩
    · obtain rfl : k = (tuses tk ta).length := by omega
      have hlv : setAllB (tuses tk ta) live = some lv := by have := HLV.out; rwa [List.take_length] at this
      rw [hlv] at HL1
      obtain rfl : lv = l1 := Option.some.inj HL1.out
      have q0 := cell_of_row _ _ 0 _ _ _ (HKR.out.obj HOB.out (show ¬ w.heap.size = g by omega))
      clear hlv HL1 HLV HU HFU
      go_wp2_with (go_at_call 65; refine (backward_calls _ _ _ _).mono ?_; rintro e w4 ⟨rfl, hw4⟩; have HW4 := Lib.hid hw4; clear hw4)
      clear q0
      have hzr := HKR.out.size
      have hsl4 : SlOff Ins.enc 7 g w4 pI ys := (((HS.out.keep (HK.out.weaken (T := (· = g)) (fun _ _ q => q.elim))).keep HKR.out).keep (by rw [HW4.out]; exact (Keep.refl _ _).alloc _))
      have hbs4 : w4.cell? ⟨wr.heap.size, 0, none⟩ = some (.slice pI ys.length cI) := by rw [HW4.out]; exact cell_of_row _ _ 0 _ _ _ (heap_alloc_new _ _)
      have hz4 : w4.heap.size = wr.heap.size + 1 := by rw [HW4.out]; simp
      have hk4 : Keep (· = g) wr w4 := by rw [HW4.out]; exact (Keep.refl _ _).alloc _
      have hb4 : BoolsAt w4 g o N 4 lv := HBO.out.same (by rw [HW4.out]; exact ((Keep.refl None wr).alloc _).block g (by omega) id)
      have hl4 : w4.heap[w.heap.size + 1]? = some (.cells #[.slice (some ⟨g, o, none⟩) live.length c] 64 (0, 0)) := hk4.obj (HKR.out.obj HOL.out (show ¬ w.heap.size + 1 = g by omega)) (show ¬ w.heap.size + 1 = g by omega)
      have hpw : ∀ a, pI = some a → ys ≠ [] → a.block < w4.heap.size := by
        intro a ha hne
        rcases hsl4 with h | ⟨b, off, h1, h2, h3⟩
        · exact absurd h hne
        · rw [h1] at ha; cases ha
          obtain ⟨y, hy⟩ : ∃ y, ys[0]? = some y := ⟨ys[0]'(List.length_pos_iff.2 hne), List.getElem?_eq_getElem _⟩
          exact World.block_lt_of_cell? w4 _ (h3.ins hy).1
      clear HW4 HBO
      refine (wpIn_wide (n := 6)).1 ?_
      refine wpIn_rangeFunc_ownH (n := 6) (α := BI ys) rfl (by omega) (gf := 80) (lb := #[.pointer (some ⟨wr.heap.size, 0, none⟩)]) rfl trivial (enters_of Tryd.func80 (by kernel_rfl) rfl)
        (back_stops Fence.wide 5 trivial rfl (by omega) wr.heap.size g cI pI ys hn w4 (by omega) hpw hbs4 (by omega) hsl4)
        KpB.trans (fun W l o o' _ hl hc _ => KpB.putObj g W l o o' hl hc) (Below.refl _ _) (fun _ => rfl)
        (fun pre W => ((∃ l2, insAll (pre.map (fun x => x.1.2.data)) lv = some l2 ∧ BoolsAt W g o N 4 l2) ∧ W.heap[w.heap.size + 1]? = some (.cells #[.slice (some ⟨g, o, none⟩) live.length c] 64 (0, 0))) ∧ Keep (· = g) wr W)
        (fun _ _ _ => False)
        (OwnFrom.and (Own.from (fun s A B row hs hg hr => by
            obtain ⟨⟨l2, e1, C, e2, e3⟩, e4⟩ := hs
            exact ⟨⟨l2, e1, C, (grownBy_keeps_cells hg hr e2 rfl).trans e2, e3⟩, (grownBy_keeps_cells hg hr e4 rfl).trans e4⟩) _)
          (fun s A B row hs hg hr => hs.grown hg (fun k e => .inr (by have := (hr k e).1; omega))))
        (fun _ _ _ _ _ hs _ _ => hs)
        ⟨⟨⟨lv, rfl, hb4⟩, hl4⟩, hk4⟩
        (fun x a' W => ∃ Bx, w.heap.size + 1 < Bx ∧ W.heap[Bx]? = some (.cells #[.int .i64 x.1.2.k, .int .i64 x.1.2.op, .int .i64 x.1.2.d, .int .i64 x.1.2.a, .int .i64 x.1.2.b, .int .i64 x.1.2.v, .slice x.1.2.p x.1.2.args.length x.1.2.c] 32 (0, 0)) ∧ a' = { tmps := #[.agg #[.slice pI ys.length cI, .int .i64 tk, .int .i64 ta, .int .i64 tt, .int .i64 te, .int .i64 ln, .int .i64 of, .int .i64 ob], .slice (some ⟨g, o, none⟩) live.length c, .pointer (some ⟨w.heap.size, 0, none⟩), .pointer (some ⟨w.heap.size + 1, 0, none⟩), .slice none 0 0, undef, u6, undef, .pointer (some ⟨Bx, 0, none⟩), undef, undef, undef, undef, .pointer (some ⟨w.heap.size, 1, none⟩), .agg #[.int .i64 tk, .int .i64 ta, .int .i64 tt, .int .i64 te], .slice pu (tuses tk ta).length cu, .int .i64 ((tuses tk ta).length : Int), .int .i64 ((tuses tk ta).length : Int), .bool false, u19, u20, u21, u22, u23, u24, .pointer (some ⟨w.heap.size, 0, none⟩), .slice pI ys.length cI, .func (.func 80) #[] #[.pointer (some ⟨wr.heap.size, 0, none⟩)], .int .i64 (x.1.1 : Int), x.1.2.val, undef, undef, undef, undef, undef, undef, undef, undef, undef, undef, undef, undef, undef, undef, undef, undef, undef, undef, undef, undef, undef], defers := [] })
        (fun x a' _ X Y row hs hg hr => by
          obtain ⟨Bx, e1, e2, e3⟩ := hs
          exact ⟨Bx, e1, (grownBy_keeps_cells hg (fun r e => (hr r e).2) e2 rfl).trans e2, e3⟩)
        ?assign ?body ?done ?stop
      case assign =>
        rintro l pre x W K ⟨⟨⟨l2, e1, e2⟩, e3⟩, e4⟩ hK
        obtain ⟨⟨j, yk, yop, yd, ya, yb, yv, yp, yc, yargs⟩, hmem⟩ := x
        simp only [Ins.val] at hK
        simp only [bEncs, Ins.val]
        gi_wp2
        have hzW := e4.size
        exact hK _ _ ((KeepsOthers.alloc _ _).from _) (KpB.ofKeep ((Keep.refl _ _).alloc _)) ⟨⟨⟨l2, e1, e2.same (((Keep.refl None W).alloc _).block g (by omega) id)⟩, ((Keep.refl None W).alloc _).obj e3 id⟩, e4.alloc _⟩ ⟨W.heap.size, by omega, heap_alloc_new _ _, rfl⟩
      case body =>
        rintro l pre x a' W hl - ⟨⟨⟨l2, e1, e2⟩, e3⟩, e4⟩ ⟨Bx, hBx, hbx, rfl⟩ hlt
        obtain ⟨wo, rfl⟩ : ∃ wo : World, wo = wr := ⟨_, rfl⟩
        obtain ⟨⟨j, y⟩, hmem⟩ := x
        have hmem' : y ∈ ys := hmem
        have hsy : SlOff intEnc 1 g W y.p y.args := (((HA.out y hmem').1.keep (HK.out.weaken (T := (· = g)) (fun _ _ q => q.elim))).keep HKR.out).keep e4
        have hay := (HA.out y hmem').2
        have hok := insAll_okD _ _ _ HL2.out y.data (List.mem_reverse.2 (List.mem_map.2 ⟨y, hmem', rfl⟩))
        have hl2 := insAll_len _ _ _ e1
        rw [← hl2] at hok
        obtain ⟨l3, hl3⟩ := insB_ok hok
        have hins := insAll_snoc e1 hl3
        have HINS : Hid (insAll ((pre ++ [(⟨(j, y), hmem⟩ : BI ys)]).map (fun x => x.1.2.data)) lv = some l3) := Lib.hid (by rw [List.map_append]; exact hins)
        obtain ⟨yk, yop, yd, ya, yb, yv, yp, yc, yargs⟩ := y
        simp only [Ins.data] at hok hl3
        simp only at hbx hsy hay
        have c0 := cell_of_row _ _ 0 _ _ _ hbx
        have c1 := cell_of_row _ _ 1 _ _ _ hbx
        have c2 := cell_of_row _ _ 2 _ _ _ hbx
        have c3 := cell_of_row _ _ 3 _ _ _ hbx
        have c4 := cell_of_row _ _ 4 _ _ _ hbx
        have c5 := cell_of_row _ _ 5 _ _ _ hbx
        have c6 := cell_of_row _ _ 6 _ _ _ hbx
        have hdc : ∀ W0, Calls Tryd.prog 66 #[.agg #[.int .i64 yk, .int .i64 yop, .int .i64 yd, .int .i64 ya, .int .i64 yb, .int .i64 yv, .slice yp yargs.length yc]] W0 fun e w' => e = .returned (tupleOf (defOf yk yd)) ∧ Keep None W0 w' := fun W0 => def_calls ⟨yk, yop, yd, ya, yb, yv, yp, yc, yargs⟩ W0
        have huc : ∀ W0, SliceV intEnc 1 W0 yp yargs → Calls Tryd.prog 67 #[.agg #[.int .i64 yk, .int .i64 yop, .int .i64 yd, .int .i64 ya, .int .i64 yb, .int .i64 yv, .slice yp yargs.length yc]] W0 (IntsOut (usesOf yk ya yb yargs) W0) := fun W0 h => uses_calls ⟨yk, yop, yd, ya, yb, yv, yp, yc, yargs⟩ W0 h hay
        have hul : (usesOf yk ya yb yargs).length ≤ 1000001 := by
          unfold usesOf
          repeat' split
          all_goals first | (simp; done) | (simp; omega) | omega
        unfold insB at hl3
        simp only at hl3
        have hzW := e4.size
        have r0 := cell_of_row _ _ 0 _ _ _ e3
        have HDC := Lib.hid hdc
        have HUC := Lib.hid huc
        have HE2 := Lib.hid e2
        have HE3 := Lib.hid e3
        have HE4 := Lib.hid e4
        have HSY := Lib.hid hsy
        have HBX := Lib.hid hbx
        have HRG := Lib.hid hok.2
        have HDG := Lib.hid hok.1
        clear hdc huc e2 e3 e4 e1 hsy hbx hok hins
        generalize hus : usesOf yk ya yb yargs = us at *
        cases hd : defOf yk yd with
        | none =>
          simp only [hd] at hl3
          have HDC : Hid (∀ W0, Calls Tryd.prog 66 #[.agg #[.int .i64 yk, .int .i64 yop, .int .i64 yd, .int .i64 ya, .int .i64 yb, .int .i64 yv, .slice yp yargs.length yc]] W0 fun e w' => e = .returned (.tuple #[.int .i64 0, .bool false]) ∧ Keep None W0 w') := Lib.hid (fun W0 => by have := HDC.out W0; rw [hd] at this; exact this)
          gi_wp2_with (refine ⟨trivial, ?_⟩; gi_at_call 66; refine (CallsIn.inRound l (callsIn_wide.2 (HDC.out _))).mono ?_; rintro e W5 ⟨rfl, hk5⟩; have HK5 := Lib.hid hk5; have c0 := hk5.cell c0 id; have c1 := hk5.cell c1 id; have c2 := hk5.cell c2 id; have c3 := hk5.cell c3 id; have c4 := hk5.cell c4 id; have c5 := hk5.cell c5 id; have c6 := hk5.cell c6 id; have r0 := hk5.cell r0 id; clear hk5)
          have HLA : Hid (BoolsAt W5 g o N 4 l2) := Lib.hid (HE2.out.same (HK5.out.block g (by omega) id))
          gi_wp2_with (refine ⟨trivial, ?_⟩; gi_at_call 67; refine (CallsIn.inRound l (callsIn_wide.2 (HUC.out _ (((HSY.out.keep (HK5.out.weaken (T := (· = g)) (fun _ _ q => q.elim))).slice))))).mono ?_; rintro e W6 ⟨pa, ca, rfl, hua, hfa, hk6⟩; have HUA := Lib.hid hua; have HFA := Lib.hid hfa; have HK6 := Lib.hid hk6; clear hua hfa hk6)
          have hz6 := HK6.out.size
          have hza := (HK5.out.weaken (T := (· = g)) (fun _ _ q => q.elim)).size
          have hkA : Keep (· = g) W W6 := (HK5.out.weaken (T := (· = g)) (fun _ _ q => q.elim)).trans (HK6.out.weaken (T := (· = g)) (fun _ _ q => q.elim))
          have HKA := Lib.hid hkA
          have hbA : BoolsAt W6 g o N 4 l2 := HLA.out.same (HK6.out.block g (by omega) id)
          have HBA6 := Lib.hid hbA
          clear c0 c1 c2 c3 c4 c5 c6 r0 hkA hbA
          gi_loopw [42] (fun t wq => ∃ (k : Nat) (lk : List Bool), t = .int .i64 k ∧ k ≤ us.length ∧ setAllB (us.take k) l2 = some lk ∧ BoolsAt wq g o N 4 lk ∧ Keep (· = g) W6 wq) (fun t _ => us.length - (intOf t).toNat)
          case atStart => exact ⟨0, l2, rfl, by omega, rfl, HBA6.out, Keep.refl _ _⟩
          case round =>
            obtain ⟨k, lk, rfl, hkk, hlk, hbq, hkq⟩ := hrel
            have hlkl := setAllB_len _ _ _ hlk
            have HLK := Lib.hid hlk
            have HBQ := Lib.hid hbq
            have HKQ := Lib.hid hkq
            have r0 := cell_of_row _ _ 0 _ _ _ ((HKA.out.trans hkq).obj HE3.out (show ¬ w.heap.size + 1 = g by omega))
            clear hlk hbq hkq
            by_cases hlt : k < us.length
            · obtain ⟨r, hrk⟩ : ∃ r, us[k]? = some r := ⟨us[k], List.getElem?_eq_getElem hlt⟩
              obtain ⟨⟨hr0, hr1⟩, hset⟩ := setAllB_step hl3 HLK.out hrk
              have HSET := Lib.hid hset
              clear hset
              have hu : SliceV intEnc 1 wr pa us := HUA.out.keep HKQ.out (fun ad had h3 => by have h4 := HFA.out ad had; have h5 : ad.block = g := h3; omega)
              rcases hu with h | ⟨bu, ou, rfl, hu⟩
              · rw [h] at hlt; simp at hlt
              have u0 := hu.int hrk
              obtain ⟨jr, rfl⟩ : ∃ jr : Nat, r = jr := ⟨r.toNat, by omega⟩
              have hjl : jr < lk.length := by omega
              obtain ⟨bb, r1, r2⟩ := HBQ.out.cell hjl
              have hjlI : (jr : Int) < (live.length : Int) := by omega
              clear hu hrk
              gi_wp2
              go_roundw
              case rel => exact ⟨k + 1, lk.set jr true, by simp, by omega, HSET.out, HBQ.out.set hjl true, HKQ.out.setCell (p := ⟨g, o + jr, none⟩) (.inl rfl) _⟩
              case measure => simp [intOf] <;> omega
            · obtain rfl : k = us.length := by omega
              have hlk : setAllB us l2 = some lk := by have := HLK.out; rwa [List.take_length] at this
              rw [hlk] at hl3
              obtain rfl : lk = l3 := Option.some.inj hl3
              gi_wp2
              have hke : Keep (· = g) W wr := HKA.out.trans HKQ.out
              exact ⟨(Keep.others hke HE2.out.isCells).from _, KpB.ofKeep hke, ⟨⟨lk, HINS.out, HBQ.out⟩, hke.obj HE3.out (show ¬ w.heap.size + 1 = g by omega)⟩, HE4.out.trans hke⟩
        | some d =>
          simp only [hd] at hl3
          have hdr := HDG.out d hd
          obtain ⟨hd0, hd1⟩ := hdr
          obtain ⟨jd, rfl⟩ : ∃ jd : Nat, d = jd := ⟨d.toNat, by omega⟩
          have hjd : jd < l2.length := by omega
          have hjdI : (jd : Int) < (live.length : Int) := by omega
          have hset0 : (l2.set jd false).length = l2.length := List.length_set
          rw [setAtB_ok (show okR l2.length (jd : Int) from ⟨hd0, hd1⟩)] at hl3
          simp only [Int.toNat_natCast] at hl3
          have HDC : Hid (∀ W0, Calls Tryd.prog 66 #[.agg #[.int .i64 yk, .int .i64 yop, .int .i64 yd, .int .i64 ya, .int .i64 yb, .int .i64 yv, .slice yp yargs.length yc]] W0 fun e w' => e = .returned (.tuple #[.int .i64 (jd : Int), .bool true]) ∧ Keep None W0 w') := Lib.hid (fun W0 => by have := HDC.out W0; rw [hd] at this; exact this)
          gi_wp2_with (refine ⟨trivial, ?_⟩; gi_at_call 66; refine (CallsIn.inRound l (callsIn_wide.2 (HDC.out _))).mono ?_; rintro e W5 ⟨rfl, hk5⟩; have hb5 : BoolsAt W5 g o N 4 l2 := HE2.out.same (hk5.block g (by omega) id); obtain ⟨bb, r1, r2⟩ := hb5.cell hjd; have HLA : Hid (BoolsAt (W5.setCell ⟨g, o + jd, none⟩ (.bool false)) g o N 4 (l2.set jd false)) := Lib.hid (hb5.set hjd false); have hbx5 := hk5.obj HBX.out id; have HKD : Hid (Keep (· = g) W (W5.setCell ⟨g, o + jd, none⟩ (.bool false))) := Lib.hid ((hk5.weaken (T := (· = g)) (fun _ _ q => q.elim)).setCell (p := ⟨g, o + jd, none⟩) (.inl rfl) _); have hbD := HKD.out.obj HBX.out (show ¬ Bx = g by omega); clear c0 c1 c2 c3 c4 c5 c6; have c0 := cell_of_row _ _ 0 _ _ _ hbD; have c1 := cell_of_row _ _ 1 _ _ _ hbD; have c2 := cell_of_row _ _ 2 _ _ _ hbD; have c3 := cell_of_row _ _ 3 _ _ _ hbD; have c4 := cell_of_row _ _ 4 _ _ _ hbD; have c5 := cell_of_row _ _ 5 _ _ _ hbD; have c6 := cell_of_row _ _ 6 _ _ _ hbD; have r0 := hk5.cell r0 id; clear hk5 hb5 hbx5 hbD)
          gi_wp2_with (refine ⟨trivial, ?_⟩; gi_at_call 67; refine (CallsIn.inRound l (callsIn_wide.2 (HUC.out _ (((HSY.out.keep HKD.out).slice))))).mono ?_; rintro e W6 ⟨pa, ca, rfl, hua, hfa, hk6⟩; have HUA := Lib.hid hua; have HFA := Lib.hid hfa; have HK6 := Lib.hid hk6; clear hua hfa hk6)
          have hz6 := HK6.out.size
          have hza := HKD.out.size
          have hkA : Keep (· = g) W W6 := HKD.out.trans (HK6.out.weaken (T := (· = g)) (fun _ _ q => q.elim))
          have HKA := Lib.hid hkA
          have hbA : BoolsAt W6 g o N 4 (l2.set jd false) := HLA.out.same (HK6.out.block g (by omega) id)
          have HBA6 := Lib.hid hbA
          clear c0 c1 c2 c3 c4 c5 c6 r0 hkA hbA
          gi_loopw [42] (fun t wq => ∃ (k : Nat) (lk : List Bool), t = .int .i64 k ∧ k ≤ us.length ∧ setAllB (us.take k) (l2.set jd false) = some lk ∧ BoolsAt wq g o N 4 lk ∧ Keep (· = g) W6 wq) (fun t _ => us.length - (intOf t).toNat)
          case atStart => exact ⟨0, (l2.set jd false), rfl, by omega, rfl, HBA6.out, Keep.refl _ _⟩
          case round =>
            obtain ⟨k, lk, rfl, hkk, hlk, hbq, hkq⟩ := hrel
            have hlkl := setAllB_len _ _ _ hlk
            have HLK := Lib.hid hlk
            have HBQ := Lib.hid hbq
            have HKQ := Lib.hid hkq
            have r0 := cell_of_row _ _ 0 _ _ _ ((HKA.out.trans hkq).obj HE3.out (show ¬ w.heap.size + 1 = g by omega))
            clear hlk hbq hkq
            by_cases hlt : k < us.length
            · obtain ⟨r, hrk⟩ : ∃ r, us[k]? = some r := ⟨us[k], List.getElem?_eq_getElem hlt⟩
              obtain ⟨⟨hr0, hr1⟩, hset⟩ := setAllB_step hl3 HLK.out hrk
              have HSET := Lib.hid hset
              clear hset
              have hu : SliceV intEnc 1 wr pa us := HUA.out.keep HKQ.out (fun ad had h3 => by have h4 := HFA.out ad had; have h5 : ad.block = g := h3; omega)
              rcases hu with h | ⟨bu, ou, rfl, hu⟩
              · rw [h] at hlt; simp at hlt
              have u0 := hu.int hrk
              obtain ⟨jr, rfl⟩ : ∃ jr : Nat, r = jr := ⟨r.toNat, by omega⟩
              have hjl : jr < lk.length := by omega
              obtain ⟨bb, r1, r2⟩ := HBQ.out.cell hjl
              have hjlI : (jr : Int) < (live.length : Int) := by omega
              clear hu hrk
              gi_wp2
              go_roundw
              case rel => exact ⟨k + 1, lk.set jr true, by simp, by omega, HSET.out, HBQ.out.set hjl true, HKQ.out.setCell (p := ⟨g, o + jr, none⟩) (.inl rfl) _⟩
              case measure => simp [intOf] <;> omega
            · obtain rfl : k = us.length := by omega
              have hlk : setAllB us (l2.set jd false) = some lk := by have := HLK.out; rwa [List.take_length] at this
              rw [hlk] at hl3
              obtain rfl : lk = l3 := Option.some.inj hl3
              gi_wp2
              have hke : Keep (· = g) W wr := HKA.out.trans HKQ.out
              exact ⟨(Keep.others hke HE2.out.isCells).from _, KpB.ofKeep hke, ⟨⟨lk, HINS.out, HBQ.out⟩, hke.obj HE3.out (show ¬ w.heap.size + 1 = g by omega)⟩, HE4.out.trans hke⟩
      case done =>
        rintro D xs W hD hxs ⟨⟨⟨l2, e1, e2⟩, e3⟩, e4⟩ hKD
        have hfin : l2 = live' := by
          have h1 := HL2.out
          rw [← List.map_reverse, ← hxs, List.map_map] at h1
          have h2 : insAll (xs.map (fun x => x.1.2.data)) lv = some live' := h1
          rw [h2] at e1
          exact (Option.some.inj e1).symm
        subst hfin
        have r0 := cell_of_row _ _ 0 _ _ _ e3
        have HE2 := Lib.hid e2
        have HE4 := Lib.hid e4
        have HKD := Lib.hid hKD
        clear e2 e4 e1 hKD
        go_wp2
        refine ⟨by simp, .inl ⟨_, _, rfl, run_takeDeferred HKD.out, ?_⟩⟩
        have hgc : g ≠ D := by omega
        refine ⟨_, results_tmp rfl _ _ _, rfl, HE2.out.same (World.putObj_heap_other hgc), ?_⟩
        exact ((HK.out.weaken (T := (· = g)) (fun _ _ q => q.elim)).trans (HKR.out.trans HE4.out)).grown (grownBy_putObj' _ D _) (fun k e => by cases e; exact .inr (by omega))
      case stop =>
        rintro D c pre W _ _ h _
        exact h.elim

end Go.Proofs.YtgkbjdphkmmmhaaDoor
