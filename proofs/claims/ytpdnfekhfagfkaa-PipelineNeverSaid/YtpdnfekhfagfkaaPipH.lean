/-
  Chapter 19: paging.touches, an iterator: its contract.
-/
import Derived.Test.YtpdnfekhfagfkaaPipG
import Derived.WalkSpells
import Derived.Deep.Cut
import Derived.RangeFuncNested
import Derived.RangeFuncBound
import Derived.RangeFuncCalls
import Derived.RangeFuncLeaves
import Derived.Shelf.Abstract
import Derived.Shelf.RegionOpen
import Derived.WalkKit
import Derived.OwnWalkIn
import Derived.TacticsInMore
import Derived.LoopNIn
import Derived.LoopIn
namespace Go.Proofs.Ytpdnfekhfagfkaa
open Go.RowKit Go.Shelf PI
attribute [local go_sem] Oper.semAt_some

/-! ### What the rounds keep -/
/-- Cells of numbers, or of slices of numbers. -/
def IntLike (o : Obj) : Prop := ∃ C fr, o = .cells C 3 fr ∨ o = .cells C 40 fr
/-- Cells stay, but those of numbers in blocks of S. -/
def KpT (S : Nat → Prop) (A B : World) : Prop := ∀ (k : Nat) (o : Obj), A.heap[k]? = some o → o.isCells = true → ¬ (S k ∧ IntLike o) → B.heap[k]? = some o
theorem KpT.refl (S : Nat → Prop) (A : World) : KpT S A A := fun _ _ h _ _ => h
theorem KpT.trans {S : Nat → Prop} {A B C : World} (h : KpT S A B) (k : KpT S B C) : KpT S A C := fun i o ho hc hn => k i o (h i o ho hc hn) hc hn
theorem KpT.putObj (S : Nat → Prop) (W : World) (l : Nat) (o o' : Obj) (hl : W.heap[l]? = some o) (hc : o.isCells = false) : KpT S W (W.putObj l o') := fun k x hk hx _ => by
  have hne : k ≠ l := fun e => by subst e; rw [hl] at hk; cases hk; rw [hc] at hx; cases hx
  exact (World.putObj_heap_other hne).trans hk
theorem KpT.cell {S : Nat → Prop} {A B : World} (h : KpT S A B) {a : Addr} {v : Value} (hc : A.cell? a = some v) (hn : ¬ S a.block) : B.cell? a = some v := by
  obtain ⟨o, ho, hx⟩ := cells_of_cell hc
  exact (World.cell?_of_block ((h _ o ho hx fun hs => hn hs.1).trans ho.symm)).trans hc
theorem KpT.obj {S : Nat → Prop} {A B : World} (h : KpT S A B) {k : Nat} {C : Array Value} {e : TypeId} {fr : Nat × Nat} (ho : A.heap[k]? = some (.cells C e fr)) (he : e ≠ 3) (he' : e ≠ 40) : B.heap[k]? = some (.cells C e fr) :=
  h k _ ho rfl fun hs => by
    obtain ⟨C', fr', h1 | h1⟩ := hs.2
    · cases h1; exact he rfl
    · cases h1; exact he' rfl
theorem KpT.ofKeep {S T : Nat → Prop} {A B : World} (h : Keep T A B) (hT : ∀ k o, T k → A.heap[k]? = some o → S k ∧ IntLike o) : KpT S A B := fun k o ho _ hn => h.obj ho fun ht => hn (hT k o ht ho)
theorem SliceV.kpt {α : Type} {enc : α → List Value} {size : Nat} {S : Nat → Prop} {A B : World} {p : Option Addr} {xs : List α} (h : SliceV enc size A p xs) (k : KpT S A B) (hp : OffS S p) : SliceV enc size B p xs := by
  rcases h with h | ⟨b, o, rfl, h⟩
  · exact .inl h
  · exact .inr ⟨b, o, rfl, fun i x hx j u hu => k.cell (h i x hx j u hu) (by have := hp _ rfl; simpa using this)⟩
theorem Keep.toGrown {w w' : World} (h : Keep None w w') : w.grownBy w' none where
  os := h.os
  tape := h.tape
  output := h.output
  size := h.size
  block := fun k hk _ => h.block k hk id
theorem Keep.others {S : Nat → Prop} {A B : World} (h : Keep S A B) (hS : ∀ k o, S k → A.heap[k]? = some o → o.isCells = true) : KeepsOthers A B :=
  ⟨h.size, fun k o ho hc => h.obj ho fun hs => by rw [hS k o hs ho] at hc; cases hc⟩

/-! ### The plain law of what is touched -/
theorem touches_out {size : Int} (h : ¬ (1 ≤ size ∧ size ≤ 65536)) : ∀ (l : List Fe) (i : Nat), touches size i l = []
  | [], _ => rfl
  | f :: l, i => by
    rw [touches, touches_out h l, touched_no (fun h' => h ⟨h'.1, h'.2.1⟩)]; rfl
theorem touches_app (size : Int) : ∀ (l r : List Fe) (i : Nat), touches size i (l ++ r) = touches size i l ++ touches size (i + l.length) r
  | [], r, i => by simp [touches]
  | f :: l, r, i => by
    rw [List.cons_append, touches, touches_app size l r, touches, List.append_assoc]
    simp only [List.length_cons]
    rw [show i + (l.length + 1) = i + 1 + l.length from by omega]
theorem touches_snoc {size : Int} {l : List Fe} {k : Nat} {f : Fe} (h : l[k]? = some f) : touches size 0 (l.take (k + 1)) = touches size 0 (l.take k) ++ (touched 65536 size f).map (fun p => (k, p)) := by
  have hk : (l.take k).length = k := by have := (List.getElem?_eq_some_iff.1 h).1; rw [List.length_take]; omega
  rw [take_snoc h, touches_app, hk]
  simp [touches]
theorem touches_pre (size : Int) (l : List Fe) (k : Nat) : (touches size 0 (l.take k)).length ≤ (touches size 0 l).length := by
  have h := congrArg (touches size 0) (List.take_append_drop k l)
  rw [touches_app] at h
  rw [← h, List.length_append]
  omega

/-- A touch: the index of the fetch, and the page. -/
abbrev TI (n : Nat) := { x : Nat × Int // x.1 < n }
def tEncs {n : Nat} (x : TI n) : Array Value := #[.int .i64 (x.1.1 : Int), .int .i64 x.1.2]

theorem touches_calls (size : Int) (p : Option Addr) (n c : Nat) (w : World) : Calls Try.prog 19 #[.int .i64 size, .slice p n c] w fun e w' =>
    e = .returned (.func (.func 28) #[] #[.pointer (some ⟨w.heap.size, 0, none⟩), .pointer (some ⟨w.heap.size + 1, 0, none⟩)]) ∧ w' = (w.alloc (.cells #[.int .i64 size] 3)).alloc (.cells #[.slice p n c] 29) := by
  go_enter Try.func19, Try.ntmps19
  go_wp2
  go_ret
  exact ⟨rfl, rfl⟩

set_option maxRecDepth 100000 in
set_option maxHeartbeats 4000000 in
theorem touches1_in (F : Fence) (n : Nat) (hF : F.fn 28) (hro : F.round = none) (hn : 1 ≤ n) (l b0 b1 cap : Nat) (size : Int) (p : Option Addr) (fs : List Fe) (S : Nat → Prop) (hl : fs.length ≤ 1000) (hok : ∀ f ∈ fs, FeOk f) (hS0 : ¬ S b0) (hp : fs ≠ [] → OffS S p) (J Jx : List (TI fs.length) → World → Prop)
    (hY : ∀ pre x W, J pre W → pre.length < (touches size 0 fs).length → YieldAt F (n - 1) Try.prog l (tEncs x) W fun e W' => (e = .returned (.bool true) ∧ J (pre ++ [x]) W' ∧ KpT S W W') ∨ (e = .returned (.bool false) ∧ Jx (pre ++ [x]) W'))
    (W : World) (hJ : ∀ pre A B, J pre A → Keep None A B → J pre B) (hb0 : W.cell? ⟨b0, 0, none⟩ = some (.int .i64 size)) (hb1 : W.heap[b1]? = some (.cells #[.slice p fs.length cap] 29 (0, 0))) (hc : SliceV feEnc 3 W p fs) (h0 : J [] W) :
    CallsIn F n Try.prog 28 #[.func (.yield l) #[] #[], .pointer (some ⟨b0, 0, none⟩), .pointer (some ⟨b1, 0, none⟩)] W fun e W' => (∃ v, e = .returned v) ∧ ((∃ xs : List (TI fs.length), xs.map (·.1) = touches size 0 fs ∧ J xs W') ∨ (∃ pre, True ∧ Jx pre W')) := by
  refine callsIn_of_wp Try.func28 rfl hF ?_ hro
  simp only [Try.ntmps28, List.size_toArray, List.length_cons, List.length_nil, Nat.reduceAdd, Nat.reduceSub, Array.replicate_succ, Array.replicate_zero, List.push_toArray, List.append_toArray, List.nil_append, List.cons_append]
  by_cases g1 : size < 1
  · have HE := Lib.hid (touches_out (size := size) (by omega) fs 0)
    gi_wp2
    refine bodyPost_ret (results_none rfl _ _ _) rfl ?_
    exact ⟨⟨_, rfl⟩, .inl ⟨[], HE.out.symm, h0⟩⟩
  by_cases g2 : 65536 < size
  · have HE := Lib.hid (touches_out (size := size) (by omega) fs 0)
    have HH0 := Lib.hid h0
    clear h0
    gi_wp2
    refine bodyPost_ret (results_none rfl _ _ _) rfl ?_
    first | exact ⟨⟨_, rfl⟩, .inl ⟨[], HE.out.symm, HH0.out⟩⟩ | exact ⟨⟨_, rfl⟩, .inl (by rw [HE.out]; exact HH0.out)⟩
  have q1 := cell_of_row _ _ 0 _ _ _ hb1
  have HB1 := Lib.hid hb1
  have HC := Lib.hid hc
  clear hb1 hc
  have HOK := Lib.hid hok
  clear hok
  have hd0 : (size == 0) = false := by rw [beq_eq_false_iff_ne]; omega
  gi_wp2
  gi_loopw [15] (fun t wr => ∃ (k : Nat) (pre : List (TI fs.length)), t = .int .i64 k ∧ k ≤ fs.length ∧ pre.map (·.1) = touches size 0 (fs.take k) ∧ J pre wr ∧ KpT S W wr) (fun t _ => fs.length - (intOf t).toNat)
  case atStart => exact ⟨0, [], rfl, by omega, rfl, h0, KpT.refl _ _⟩
  case round =>
    obtain ⟨k, pre, rfl, hk, hpre, hJs, hkp⟩ := hrel
    have HPRE := Lib.hid hpre
    have HJS := Lib.hid hJs
    have HKP := Lib.hid hkp
    clear hJs hkp hpre
    by_cases hlt : k < fs.length
    · obtain ⟨f, hf⟩ : ∃ f, fs[k]? = some f := ⟨fs[k], List.getElem?_eq_getElem hlt⟩
      have hfo := HOK.out f (List.mem_of_getElem? hf)
      rcases HC.out.kpt HKP.out (hp (by intro he; rw [he] at hlt; simp at hlt)) with hsl | ⟨pb, po, rfl, hsl⟩
      · rw [hsl] at hlt; simp at hlt
      have HSN := Lib.hid (touches_snoc (size := size) hf)
      have HPL := Lib.hid (touches_pre size fs (k + 1))
      have hrg := hsl.range hf
      obtain ⟨fa, fz, fk⟩ := f
      obtain ⟨hf0, hf1, hf2, hf3⟩ := hfo
      simp only at hf0 hf1 hf2 hf3
      have c0 : wr.cell? ⟨pb, po + k * 3, none⟩ = some (.int .i64 fa) := by simpa using hrg 0 _ rfl
      have c1 : wr.cell? ⟨pb, po + k * 3 + 1, none⟩ = some (.int .i64 fz) := by simpa using hrg 1 _ rfl
      have c2 : wr.cell? ⟨pb, po + k * 3 + 2, none⟩ = some (.int .i64 fk) := by simpa using hrg 2 _ rfl
      have r0 := HKP.out.cell hb0 hS0
      clear hrg hsl hf
      have g4 : ¬ 1048576 < fz := by omega
      have g5 : ¬ fa < 0 := by omega
      have g6 : ¬ 1048576 < fa := by omega
      have r1 : (wr.alloc (.cells #[.int .i64 fa, .int .i64 fz, .int .i64 fk] 37)).cell? ⟨b0, 0, none⟩ = some (.int .i64 size) := ((Keep.refl None wr).alloc _).cell r0 id
      clear r0
      by_cases g3 : fz < 1
      · have HE := Lib.hid (touched_no (most := 65536) (size := size) (f := ⟨fa, fz, fk⟩) (by simp only; omega))
        gi_wp2
        go_roundw
        case rel =>
          refine ⟨k + 1, pre, rfl, by omega, ?_, hJ _ _ _ HJS.out ((Keep.refl None wr).alloc _), HKP.out.trans (KpT.ofKeep ((Keep.refl None wr).alloc _) (fun _ _ h _ => h.elim))⟩
          rw [HSN.out, HE.out]
          simpa using HPRE.out
        case measure => simp [intOf] <;> omega
      · have hall : 1 ≤ size ∧ size ≤ 65536 ∧ 1 ≤ fz ∧ fz ≤ 1048576 ∧ 0 ≤ fa ∧ fa ≤ 1048576 := ⟨by omega, by omega, by omega, by omega, by omega, by omega⟩
        have HALL : Hid (1 ≤ size ∧ size ≤ 65536 ∧ 1 ≤ (⟨fa, fz, fk⟩ : Fe).size ∧ (⟨fa, fz, fk⟩ : Fe).size ≤ 1048576 ∧ 0 ≤ (⟨fa, fz, fk⟩ : Fe).addr ∧ (⟨fa, fz, fk⟩ : Fe).addr ≤ 1048576) := Lib.hid hall
        clear hall
        have hq0 : 0 ≤ fa / size := Int.ediv_nonneg hf0 (by omega)
        have hq1 : fa / size ≤ fa := Int.ediv_le_self _ hf0
        have e1 : 0 ≤ (fa + fz - 1) / size := Int.ediv_nonneg (by omega) (by omega)
        have e2 : (fa + fz - 1) / size ≤ fa + fz - 1 := Int.ediv_le_self _ (by omega)
        have HJ2 := Lib.hid (hJ _ _ _ HJS.out ((Keep.refl None wr).alloc (.cells #[.int .i64 fa, .int .i64 fz, .int .i64 fk] 37)))
        have HK2 : Hid (KpT S W (wr.alloc (.cells #[.int .i64 fa, .int .i64 fz, .int .i64 fk] 37))) := Lib.hid (HKP.out.trans (KpT.ofKeep ((Keep.refl None wr).alloc _) (fun _ _ h _ => h.elim)))
        have HO2 := Lib.hid (heap_alloc_new wr (.cells #[.int .i64 fa, .int .i64 fz, .int .i64 fk] 37))
        gi_wp2
        generalize hw2 : World.alloc _ _ = w2 at *
        generalize wr.heap.size = b2 at *
        clear hw2 HJS HKP c0 c1 c2
        gi_loopw [6] (fun t wi => ∃ (j : Nat) (pr2 : List (TI fs.length)), t = .int .i64 (fa / size + j) ∧ j ≤ (touched 65536 size ⟨fa, fz, fk⟩).length ∧ pr2.map (·.1) = touches size 0 (fs.take k) ++ ((touched 65536 size ⟨fa, fz, fk⟩).take j).map (fun p => (k, p)) ∧ J pr2 wi ∧ KpT S w2 wi) (fun t _ => (touched 65536 size ⟨fa, fz, fk⟩).length + (fa / size).toNat + 1 - (intOf t).toNat)
        case atStart => exact ⟨0, pre, by simp, by omega, by simpa using HPRE.out, HJ2.out, KpT.refl _ _⟩
        case round =>
          obtain ⟨j, pr2, rfl, hj, hpr2, hJj, hkj⟩ := hrel
          have HPR2 := Lib.hid hpr2
          have HJJ := Lib.hid hJj
          have HKJ := Lib.hid hkj
          have hob := hkj.obj HO2.out (by decide) (by decide)
          have p0 : wr.cell? ⟨b2, 0, none⟩ = some (.int .i64 fa) := cell_of_row _ _ 0 _ _ _ hob
          have p1 : wr.cell? ⟨b2, 1, none⟩ = some (.int .i64 fz) := cell_of_row _ _ 1 _ _ _ hob
          have r0 := hkj.cell r1 hS0
          have hmore := touched_more (f := ⟨fa, fz, fk⟩) HALL.out j
          have htl := touched_len 65536 size ⟨fa, fz, fk⟩
          simp only at hmore htl
          clear hJj hkj hob r1 hpr2
          by_cases hlt2 : j < (touched 65536 size ⟨fa, fz, fk⟩).length
          · have hlti : fa / size + (j : Int) ≤ (fa + fz - 1) / size := hmore.2 hlt2
            have HAT := Lib.hid (touched_at (f := ⟨fa, fz, fk⟩) HALL.out hlt2)
            have hpl : pr2.length < (touches size 0 fs).length := by
              have := HPL.out
              have hp2 := congrArg List.length HPR2.out
              rw [HSN.out] at this
              rw [List.length_map] at hp2
              rw [hp2]
              simp only [List.length_append, List.length_map, List.length_take] at this ⊢
              omega
            obtain ⟨fn, tmps, assign, body, hy, hR⟩ := hY pr2 ⟨(k, fa / size + j), hlt⟩ wr HJJ.out hpl
            have HR := Lib.hid hR
            simp only [tEncs] at hy
            clear hmore hpl hR
            gi_wp2
            refine HR.out.mono ?_
            rintro e W3 (⟨rfl, hJ3, hk3⟩ | ⟨rfl, hJx3⟩)
            · have HJ3 := Lib.hid hJ3
              have HK3 := Lib.hid hk3
              clear hJ3 hk3
              gi_wp2
              go_roundw
              case rel =>
                refine ⟨j + 1, _, by go_num, by omega, ?_, HJ3.out, HKJ.out.trans HK3.out⟩
                rw [List.map_append, HPR2.out, take_snoc HAT.out, List.map_append, List.append_assoc]
                rfl
              case measure => simp [intOf] <;> omega
            · have HJ3 := Lib.hid hJx3
              clear hJx3
              gi_wp2
              refine bodyPost_ret (results_none rfl _ _ _) rfl ?_
              exact ⟨⟨_, rfl⟩, .inr ⟨_, trivial, HJ3.out⟩⟩
          · have hlti : ¬ fa / size + (j : Int) ≤ (fa + fz - 1) / size := fun h => hlt2 (hmore.1 h)
            have hjj : j = (touched 65536 size ⟨fa, fz, fk⟩).length := by omega
            have hp4 := HPR2.out
            rw [hjj, List.take_length, ← HSN.out] at hp4
            have HP4 := Lib.hid hp4
            clear hmore hp4
            gi_wp2
            go_roundw
            case rel => exact ⟨k + 1, pr2, rfl, by omega, HP4.out, HJJ.out, HK2.out.trans HKJ.out⟩
            case measure => simp [intOf] <;> omega
    · obtain rfl : k = fs.length := by omega
      gi_wp2
      go_end0
      exact ⟨⟨_, rfl⟩, .inl ⟨pre, by rw [HPRE.out, List.take_length], HJS.out⟩⟩

end Go.Proofs.Ytpdnfekhfagfkaa
