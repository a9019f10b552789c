/-
  (*Codes).Int: some number.
-/
import Derived.Test.YtcdophocpheadaaGreatDoorDraw
namespace Go.Proofs.YtcdophocpheadaaGreatDoor
open Go.RowKit

def CodeIntPost (b bl : Nat) (w : World) (e : Ending) (w' : World) : Prop :=
  ∃ (n : Int) (r : List Int), e = .returned (.int .i64 n) ∧ CodesAt w' b bl r ∧ Keep (· = b) w w'

/-- .. with its bounds. -/
def CodeIntB (b bl : Nat) (w : World) (e : Ending) (w' : World) : Prop :=
  ∃ (n : Int) (r : List Int), e = .returned (.int .i64 n) ∧ CodesAt w' b bl r ∧ Keep (· = b) w w' ∧ i64 n

def tab16 : List Int := [9223372036854775807, -9223372036854775808, 1048576, 1048577, 65535, 65536, 255, 256, 250, 249, 1099511627776, 1099511627777, 4294967296, 1073741824, 128, 127]

theorem tab16_bd : ∀ x ∈ tab16, i64 x := by unfold i64; decide

/-- A number is asked just behind an allocation. -/
def NextedA (b bl : Nat) (n : Int) (r : List Int) (w : World) (o : Obj) (e : Ending) (w' : World) : Prop :=
  e = .returned (.int .i64 (next n r).1) ∧ CodesAt w' b bl (next n r).2 ∧ Keep (· = b) w w' ∧ (0 ≤ (next n r).1 ∧ (next n r).1 < n) ∧ w'.heap[w.heap.size]? = some o

theorem next_behind (b bl : Nat) (n : Int) (r : List Int) (w : World) (o : Obj) (h : CodesAt w b bl r) (hn : n ≤ 100000) (h1 : 1 ≤ n) :
    Calls Tryz.prog 12 #[.pointer (some ⟨b, 0, none⟩), .int .i64 n] (w.alloc o) (NextedA b bl n r w o) := by
  have hk : Keep None w (w.alloc o) := (Keep.refl _ _).alloc _
  have hlt := h.lt.1
  refine (next_in b bl n r _ (h.keep hk id id) hn h1).mono ?_
  rintro e w' ⟨rfl, hc, hk2, h0, h1⟩
  exact ⟨rfl, hc, (hk.weaken (by simp)).trans hk2, ⟨h0, h1⟩, hk2.obj (heap_alloc_new _ _) (by omega)⟩

theorem row_get {w : World} {g : Nat} {e : TypeId} {fr : Nat × Nat} {xs : List Int} (h : w.heap[g]? = some (.cells (xs.map (Value.int .i64)).toArray e fr)) {i : Nat} (hi : i < xs.length) : ∃ n, w.cell? ⟨g, i, none⟩ = some (.int .i64 n) ∧ n ∈ xs :=
  ⟨xs[i], by simp [World.cell?, h, hi], List.getElem_mem _⟩

set_option maxHeartbeats 1000000 in
theorem int_in (b bl : Nat) (r : List Int) (w : World) (h : CodesAt w b bl r) :
    Calls Tryz.prog 13 #[.pointer (some ⟨b, 0, none⟩)] w (CodeIntB b bl w) := by
  go_enter Tryz.func13, Tryz.ntmps13
  go_wp2_with (fail)
  refine (next_in b bl _ r _ h (by omega) (by omega)).mono ?_
  rintro e w1 ⟨rfl, hc, hk, hb0, hb1⟩
  have HC := Lib.hid hc
  have HK := Lib.hid hk
  clear hc hk h
  generalize next 10 r = q at *
  by_cases h0 : q.1 = 0
  · have e0 : (q.1 == 0) = true := by simp [h0]
    go_wp2_with (fail)
    refine (next_in b bl _ q.2 _ HC.out (by omega) (by omega)).mono ?_
    rintro e w2 ⟨rfl, hc2, hk2, hc0, hc1⟩
    have HC2 := Lib.hid hc2
    have HK2 := Lib.hid (HK.out.trans hk2)
    clear hc2 hk2
    generalize next 3 q.2 = s at *
    go_wp2
    go_ret
    exact ⟨_, _, rfl, HC2.out, HK2.out, by unfold i64; omega⟩
  · have e0 : (q.1 == 0) = false := by simp [h0]
    by_cases h1 : q.1 = 1
    · have e1 : (q.1 == 1) = true := by simp [h1]
      go_wp2_with (fail)
      refine (next_behind b bl _ q.2 _ _ HC.out (by omega) (by omega)).mono ?_
      rintro e w2 ⟨rfl, hc2, hk2, ⟨hc0, hc1⟩, htab⟩
      have HC2 := Lib.hid hc2
      have HK2 := Lib.hid (HK.out.trans hk2)
      clear hc2 hk2
      generalize next 16 q.2 = s at *
      have hsn : s.1.toNat < 16 := by omega
      obtain ⟨x, hx, hxm⟩ := row_get (xs := tab16) htab hsn
      have HXB := Lib.hid (tab16_bd x hxm)
      clear hxm
      clear htab
      go_wp2
      go_ret
      exact ⟨_, _, rfl, HC2.out, HK2.out, HXB.out⟩
    · have e1 : (q.1 == 1) = false := by simp [h1]
      by_cases h2 : q.1 = 2
      · have e2 : (q.1 == 2) = true := by simp [h2]
        go_wp2_with (fail)
        refine (next_in b bl _ q.2 _ HC.out (by omega) (by omega)).mono ?_
        rintro e w2 ⟨rfl, hc2, hk2, hc0, hc1⟩
        have HC2 := Lib.hid hc2
        have HK2 := Lib.hid (HK.out.trans hk2)
        clear hc2 hk2
        generalize next 256 q.2 = s at *
        go_wp2_with (fail)
        refine (next_in b bl _ s.2 _ HC2.out (by omega) (by omega)).mono ?_
        rintro e w3 ⟨rfl, hc3, hk3, hd0, hd1⟩
        have HC3 := Lib.hid hc3
        have HK3 := Lib.hid (HK2.out.trans hk3)
        clear hc3 hk3
        generalize next 256 s.2 = t at *
        go_wp2
        go_ret
        exact ⟨_, _, rfl, HC3.out, HK3.out, by unfold i64; omega⟩
      · have e2 : (q.1 == 2) = false := by simp [h2]
        go_wp2_with (fail)
        refine (next_in b bl _ q.2 _ HC.out (by omega) (by omega)).mono ?_
        rintro e w2 ⟨rfl, hc2, hk2, hc0, hc1⟩
        have HC2 := Lib.hid hc2
        have HK2 := Lib.hid (HK.out.trans hk2)
        clear hc2 hk2
        generalize next 40 q.2 = s at *
        go_wp2
        go_ret
        exact ⟨_, _, rfl, HC2.out, HK2.out, by unfold i64; omega⟩

theorem int_any (b bl : Nat) (r : List Int) (w : World) (h : CodesAt w b bl r) :
    Calls Tryz.prog 13 #[.pointer (some ⟨b, 0, none⟩)] w (CodeIntPost b bl w) :=
  (int_in b bl r w h).mono fun _ _ ⟨n, r, h1, h2, h3, _⟩ => ⟨n, r, h1, h2, h3⟩

end Go.Proofs.YtcdophocpheadaaGreatDoor
