/-
  Chapter 23: slices.Grow from nothing, slices.Concat of two lists of links.
-/
import Derived.Test.YtlhmajjmhkjcoaaClone
import Derived.Test.YtlhmajjmhkjcoaaGrowNil
namespace Go.Proofs.Ytlhmajjmhkjcoaa
open Go.RowKit

set_option maxRecDepth 100000 in
set_option maxHeartbeats 2000000 in
theorem grow_calls (n : Nat) (w : World) (hn : n ≤ 1000) :
    Calls Try.prog 45 #[.slice none 0 0, .int .i64 (n : Int)] w (OwnPost Lk.enc 4 72 [] w) := by
  obtain ⟨i3, hi3, hx0, hx1, hx2⟩ := info_parts Try.infoLk
  by_cases h0 : n = 0
  · subst h0
    go_enter Try.func45, Try.ntmps45
    go_wp2
    go_ret
    exact ⟨none, 0, rfl, Own.nil _ _ _ _ _, Keep.refl _ _⟩
  · have hpos : 0 < n := by omega
    have hpos' : (0 : Int) < (n : Int) := by omega
    clear h0
    go_enter Try.func45, Try.ntmps45
    go_wp2_with (at_builtin; go_loud (refine wpList_growNil rfl _ _ 38 3 72 rfl .i64 i3 _ 4 Try.underlying38 Try.underlying3 hi3 hx0 hx1 rfl rfl n _ rfl (by omega) hpos (by omega) (by omega) (by omega) ?_; intro c1 w1 hown1 hc1 hk1 hsz1; have HO1 := Lib.hid hown1; have HK1 := Lib.hid hk1; clear hown1 hk1))
    go_ret
    exact ⟨_, _, rfl, HO1.out, HK1.out⟩

theorem SliceV.still' {α : Type} {enc : α → List Value} {size : Nat} {w w' : World} {p : Option Addr} {xs : List α} (h : SliceV enc size w p xs) (k : Keep None w w') : SliceV enc size w' p xs := h.keep k (fun _ _ => id)
theorem Lk.one : ∀ x : Lk, ∀ u ∈ x.enc, u.oneCell' = true := by intro x; simp [Lk.enc, Value.oneCell']

def ListsInv1 (a b : List Lk) (w0 : World) (s i : Value) (w : World) : Prop :=
  ∃ k : Nat, i = .int .i64 k ∧ k ≤ 2 ∧ s = .int .i64 (if k = 0 then 0 else if k = 1 then (a.length : Int) else (a.length : Int) + b.length) ∧ Keep None w0 w

def ListsInv2 (base : Nat) (a b : List Lk) (w0 : World) (s i : Value) (w : World) : Prop :=
  ∃ (k : Nat) (p : Option Addr) (c : Nat) (l : List Lk), i = .int .i64 k ∧ k ≤ 2 ∧ s = .slice p l.length c ∧ Own Lk.enc 4 72 base w (.slice p l.length c) l ∧ l = (if k = 0 then [] else if k = 1 then a else a ++ b) ∧ Keep (base ≤ ·) w0 w

set_option maxRecDepth 100000 in
set_option maxHeartbeats 4000000 in
theorem concat_calls (g : Nat) (p q : Option Addr) (c d : Nat) (a b : List Lk) (w : World) (hg : w.heap[g]? = some (.cells #[.slice p a.length c, .slice q b.length d] 38 (0, 0)))
    (ha : SliceV Lk.enc 4 w p a) (hb : SliceV Lk.enc 4 w q b) (la : a.length ≤ 100) (lb : b.length ≤ 100) :
    Calls Try.prog 31 #[.slice (some ⟨g, 0, none⟩) 2 2] w (OwnPost Lk.enc 4 72 (a ++ b) w) := by
  obtain ⟨i3, hi3, hx0, hx1, hx2⟩ := info_parts Try.infoLk
  have HG := Lib.hid hg
  have HA := Lib.hid ha
  have HB := Lib.hid hb
  clear hg ha hb
  go_enter Try.func31, Try.ntmps31
  go_wp2_with (fail)
  go_loopw [3, 11] (ListsInv1 a b w) (fun _ i _ => 2 - (intOf i).toNat)
  case atStart => exact ⟨0, rfl, by omega, rfl, Keep.refl _ _⟩
  case round =>
    obtain ⟨k, rfl, hk, rfl, hkp⟩ := hrel
    have HKP := Lib.hid hkp
    have hgr := hkp.obj HG.out id
    have c0 : wr.cell? ⟨g, 0, none⟩ = some (.slice p a.length c) := by simp [World.cell?, hgr]
    have c1 : wr.cell? ⟨g, 1, none⟩ = some (.slice q b.length d) := by simp [World.cell?, hgr]
    clear hkp hgr
    match k, hk with
    | 0, _ =>
      go_wp2_with (fail)
      go_roundw
      case rel => exact ⟨1, rfl, by omega, by simp, HKP.out⟩
      case measure => simp [intOf]
    | 1, _ =>
      go_wp2_with (fail)
      go_roundw
      case rel => exact ⟨2, rfl, by omega, by simp, HKP.out⟩
      case measure => simp [intOf]
    | 2, _ =>
      clear c0 c1
      rw [show (if (2 : Nat) = 0 then (0 : Int) else if (2 : Nat) = 1 then (a.length : Int) else (a.length : Int) + b.length) = ((a.length + b.length : Nat) : Int) from by simp]
      go_wp2_with (go_at_call 45; refine (grow_calls (a.length + b.length) _ (by omega)).mono ?_; rintro e w1 ⟨p1, c1, rfl, hown1, hk1⟩; have HO1 := Lib.hid hown1; have HK1 := Lib.hid (HKP.out.trans hk1); have hsz1 : w.heap.size ≤ w1.heap.size := (HKP.out.trans hk1).size; clear hown1 hk1)
      go_loopw [6, 27] (ListsInv2 w.heap.size a b w1) (fun _ i _ => 2 - (intOf i).toNat)
      case atStart => exact ⟨0, p1, c1, [], rfl, by omega, rfl, HO1.out.lower HKP.out.size, by simp, Keep.refl _ _⟩
      case round =>
        obtain ⟨k, p2, c2, l, rfl, hk, rfl, hown, hl, hkp⟩ := hrel
        have HO2 := Lib.hid hown
        have HKQ := Lib.hid hkp
        have HKW : Hid (Keep None w wr) := Lib.hid (HK1.out.andThen hkp (fun k h1 h2 => by have : w.heap.size ≤ k := h2; omega))
        have hgr := HKW.out.obj HG.out id
        have c0 : wr.cell? ⟨g, 0, none⟩ = some (.slice p a.length c) := by simp [World.cell?, hgr]
        have c1 : wr.cell? ⟨g, 1, none⟩ = some (.slice q b.length d) := by simp [World.cell?, hgr]
        clear hkp hgr hown
        match k, hk with
        | 0, _ =>
          have hl0 : l = [] := by simpa using hl
          clear hl
          subst hl0
          go_wp2_with (at_builtin; go_loud (refine wpList_appendAll (enc := Lk.enc) rfl _ _ 38 rfl w.heap.size _ i3 _ 32 Try.underlying38 hi3 hx0 hx1 hx2 rfl (by decide) Lk.enc_len (.slice p2 ([] : List Lk).length c2) ([] : List Lk) rfl HO2.out p a c rfl (HA.out.still' HKW.out) Lk.one (by first | omega | (simp; omega)) (by first | omega | (simp; omega)) HKW.out.size ?_; intro p3 c3 w3 hown3 hk3 hd3; have HO3 := Lib.hid hown3; have HK3 := Lib.hid hk3; have HB3 := Lib.hid (own_block HO2.out (T := fun k => k < w.heap.size) (fun k h1 h2 => by have : k < w.heap.size := h2; omega)); clear hown3 hk3 hd3))
          go_roundw
          case rel => exact ⟨1, p3, c3, a, by go_num, by omega, by simp, by simpa using HO3.out, by simp, HKQ.out.trans (HK3.out.weaken (fun k _ hs => by have := HB3.out k hs; show w.heap.size ≤ k; omega))⟩
          case measure => simp [intOf]
        | 1, _ =>
          have hl0 : l = a := by simpa using hl
          clear hl
          subst hl0
          go_wp2_with (at_builtin; go_loud (refine wpList_appendAll (enc := Lk.enc) rfl _ _ 38 rfl w.heap.size _ i3 _ 32 Try.underlying38 hi3 hx0 hx1 hx2 rfl (by decide) Lk.enc_len (.slice p2 l.length c2) l rfl HO2.out q b d rfl (HB.out.still' HKW.out) Lk.one (by first | omega | (simp; omega)) (by first | omega | (simp; omega)) HKW.out.size ?_; intro p3 c3 w3 hown3 hk3 hd3; have HO3 := Lib.hid hown3; have HK3 := Lib.hid hk3; have HB3 := Lib.hid (own_block HO2.out (T := fun k => k < w.heap.size) (fun k h1 h2 => by have : k < w.heap.size := h2; omega)); clear hown3 hk3 hd3))
          go_roundw
          case rel => exact ⟨2, p3, c3, l ++ b, by go_num, by omega, by simp, by simpa using HO3.out, by simp, HKQ.out.trans (HK3.out.weaken (fun k _ hs => by have := HB3.out k hs; show w.heap.size ≤ k; omega))⟩
          case measure => simp [intOf]
        | 2, _ =>
          have hl0 : l = a ++ b := by simpa using hl
          clear c0 c1 hl
          subst hl0
          go_wp2_with (fail)
          go_ret
          exact ⟨p2, c2, rfl, HO2.out, HKW.out⟩

end Go.Proofs.Ytlhmajjmhkjcoaa
