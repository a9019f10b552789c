/-
  DecideBudgets: what it calls beside decide.Best: the sums of chosen decisions, the sanity check.
-/
import Derived.Test.YtiojoheenjkphaaBest2
namespace Go.Proofs.Ytiojoheenjkphaa
open Go.RowKit

def small (l : List Dec) : Prop := ∀ d ∈ l, -2 ≤ d.benefit ∧ d.benefit ≤ 22 ∧ 0 ≤ d.size ∧ d.size ≤ 12

def benOf (l : List Dec) (i : Int) : Int := match l[i.toNat]? with | some d => d.benefit | none => 0
def sizOf (l : List Dec) (i : Int) : Int := match l[i.toNat]? with | some d => d.size | none => 0
def sums (l : List Dec) (x : List Int) : Int × Int := ((x.map (benOf l)).sum, (x.map (sizOf l)).sum)

theorem sums_snoc (l : List Dec) (x : List Int) (i : Int) : sums l (x ++ [i]) = ((sums l x).1 + benOf l i, (sums l x).2 + sizOf l i) := by simp [sums]

theorem benOf_bd {l : List Dec} (h : small l) (i : Int) : -2 ≤ benOf l i ∧ benOf l i ≤ 22 ∧ 0 ≤ sizOf l i ∧ sizOf l i ≤ 12 := by
  unfold benOf sizOf
  cases hd : l[i.toNat]? with
  | none => simp
  | some d => exact h d (List.mem_of_getElem? hd)

theorem sums_bd {l : List Dec} (h : small l) : ∀ x : List Int, -(2 * (x.length : Int)) ≤ (sums l x).1 ∧ (sums l x).1 ≤ 22 * (x.length : Int) ∧ 0 ≤ (sums l x).2 ∧ (sums l x).2 ≤ 12 * (x.length : Int)
  | [] => by simp [sums]
  | i :: x => by
    have h1 := sums_bd h x
    have h2 := benOf_bd h i
    simp only [sums, List.map_cons, List.sum_cons, List.length_cons] at *
    omega

def SumInv (l : List Dec) (x : List Int) (a b i : Value) (_ : World) : Prop :=
  ∃ k : Nat, k ≤ x.length ∧ i = .int .i64 k ∧ a = .int .i64 (sums l (x.take k)).1 ∧ b = .int .i64 (sums l (x.take k)).2

def Gives2 (S : Nat → Prop) (u v : Value) (w : World) (e : Ending) (w' : World) : Prop := e = .returned (.tuple #[u, v]) ∧ Keep S w w'

set_option maxHeartbeats 1000000 in
theorem sum_calls (p q : Option Addr) (l : List Dec) (cap : Nat) (x : List Int) (xc c : Nat) (w : World) (h : SliceV Dec.enc 7 w p l) (hx : SliceV intEnc 1 w q x) (hs : small l) (hl : l.length ≤ 100) (hxl : x.length ≤ 100)
    (hin : ∀ i ∈ x, (0 : Int) ≤ i ∧ i < l.length) (hc : w.cell? ⟨c, 0, none⟩ = some (.slice p l.length cap)) :
    Calls Try.prog 16 #[.slice q x.length xc, .pointer (some ⟨c, 0, none⟩)] w (Gives2 None (.int .i64 (sums l x).1) (.int .i64 (sums l x).2) w) := by
  go_enter Try.func16, Try.ntmps16
  go_wp2
  go_loopw [5, 6, 11] (fun a b i wr => SumInv l x a b i wr ∧ Keep None w wr) (fun _ _ i _ => x.length - (intOf i).toNat)
  case atStart => exact ⟨⟨0, by omega, rfl, rfl, rfl⟩, Keep.refl _ _⟩
  case round =>
    obtain ⟨⟨k, hk, rfl, rfl, rfl⟩, hkp⟩ := hrel
    by_cases hlt : k < x.length
    · rcases hx with hx | ⟨bx, ox, rfl, hx⟩
      · subst hx; simp at hlt
      obtain ⟨i, hi⟩ : ∃ i, x[k]? = some i := ⟨x[k], by simp [hlt]⟩
      have hir := hin i (List.mem_of_getElem? hi)
      obtain ⟨j, rfl⟩ : ∃ j : Nat, i = j := ⟨i.toNat, by omega⟩
      have hjl : j < l.length := by omega
      rcases h with h | ⟨bd, od, rfl, h⟩
      · subst h; simp at hjl
      obtain ⟨d, hd⟩ : ∃ d, l[j]? = some d := ⟨l[j], by simp [hjl]⟩
      have e1 : wr.cell? ⟨bx, ox + k, none⟩ = some (.int .i64 (j : Int)) := by have := hkp.cell (hx k _ hi 0 _ rfl) id; simpa using this
      have e5 : wr.cell? ⟨bd, od + j * 7 + 5, none⟩ = some (.int .i64 d.benefit) := hkp.cell (h j d hd 5 _ rfl) id
      have e6 : wr.cell? ⟨bd, od + j * 7 + 6, none⟩ = some (.int .i64 d.size) := hkp.cell (h j d hd 6 _ rfl) id
      have ec := hkp.cell hc id
      have hd2 := hs d (List.mem_of_getElem? hd)
      have hb := sums_bd hs (x.take k)
      have hbl : (x.take k).length ≤ 100 := by simp; omega
      have hsn : sums l (x.take (k + 1)) = ((sums l (x.take k)).1 + d.benefit, (sums l (x.take k)).2 + d.size) := by
        rw [List.take_add_one, hi]
        simp only [Option.toList_some]
        rw [sums_snoc]; simp [benOf, sizOf, hd]
      have HSN : Hid _ := Lib.hid hsn
      have h0 : decide ((j : Int) < 0) = false := by simp
      have h1 : decide (l.length ≤ j) = false := by simp; omega
      clear hsn hi hd hin h hx hc hir
      generalize sums l (x.take k) = s at *
      obtain ⟨s1, s2⟩ := s
      simp only at *
      have i1 : IntKind.i64.wrap (s1 + d.benefit) = s1 + d.benefit := IntWalk.i64_in _ (by omega)
      have i2 : IntKind.i64.wrap (s2 + d.size) = s2 + d.size := IntWalk.i64_in _ (by omega)
      go_wp2
      go_quiet (fail)
      go_wp2
      go_roundw
      case rel =>
        refine ⟨⟨k + 1, by omega, by go_num, by rw [HSN.out], by rw [HSN.out]⟩, hkp.drewN _⟩
      case measure => simp [intOf]; omega
    · have hke : k = x.length := by omega
      subst hke
      rw [List.take_of_length_le (Nat.le_refl _)]
      clear h hx hin
      generalize sums l x = s at *
      obtain ⟨s1, s2⟩ := s
      go_wp2
      go_ret2
      exact ⟨rfl, hkp⟩

def exampleDecs : List Dec := [⟨0, 0, 0, 0, 0, 60, 10⟩, ⟨0, 0, 0, 0, 0, 100, 20⟩, ⟨0, 0, 0, 0, 0, 120, 30⟩]
theorem example_best : best exampleDecs 50 = ([1, 2], 0) := by decide

set_option maxHeartbeats 1000000 in
theorem awake_calls (w : World) : Calls Try.prog 6 #[] w (Gives None (.bool true) w) := by
  go_enter Try.func6, Try.ntmps6
  go_wp2_with (fail)
  have hA : Arr Dec.enc 30 (w.alloc (.cells (exampleDecs.flatMap Dec.enc).toArray 30)) w.heap.size exampleDecs := heap_alloc_new _ _
  have hB := best_calls (some ⟨w.heap.size, 0, none⟩) exampleDecs 3 50 (w.alloc (.cells (exampleDecs.flatMap Dec.enc).toArray 30)) (.inr ⟨_, 0, rfl, hA.slAt Dec.enc_len⟩) (by decide)
  rw [example_best] at hB
  refine Calls.mono hB ?_
  rintro e w1 ⟨p, cap, rfl, h1, h2, h3, h4, hk⟩
  have HK : Hid _ := Lib.hid (((Keep.refl None w).alloc (.cells (exampleDecs.flatMap Dec.enc).toArray 30)).trans hk)
  rcases h3 with h3 | ⟨b, off, rfl, h3⟩
  · cases h3
  have c0 : w1.cell? ⟨b, off, none⟩ = some (.int .i64 1) := by simpa using h3 0 1 rfl 0 _ rfl
  have c1 : w1.cell? ⟨b, off + 1, none⟩ = some (.int .i64 2) := by simpa using h3 1 2 rfl 0 _ rfl
  simp only [List.length_cons, List.length_nil, Nat.zero_add, Nat.reduceAdd]
  clear hA hB hk h3 h4
  go_wp2
  go_ret
  exact ⟨rfl, HK.out⟩

end Go.Proofs.Ytiojoheenjkphaa
