/-
  The choices: warmpathdraw.Codes, by the list of the codes that are left.
-/
import Derived.Test.YtpdnfekhfagfkaaRows
import Derived.Test.YtpdnfekhfagfkaaBase
import Derived.BigQuiet
import Derived.Deep.QuietTactic
import Derived.Lib.Hide
import Derived.OpenShut
namespace Go.Proofs.Ytpdnfekhfagfkaa
open Go.RowKit

/-- The choices at block b, whose codes lie in block bl: r is left. -/
def CodesAt (w : World) (b bl : Nat) (r : List Int) : Prop :=
  ∃ p len cap at_, w.heap[b]? = some (.cells #[.slice p len cap, .int .i64 ((at_ : Nat) : Int)] 39 (0, 0)) ∧ at_ + r.length = len ∧ len ≤ 1000 ∧ bl ≤ b ∧ (∀ x ∈ r, (0 : Int) ≤ x ∧ x ≤ 255) ∧
    (r = [] ∨ ∃ off, bl ≠ b ∧ p = some ⟨bl, off, none⟩ ∧ ∀ j, j < r.length → w.cell? ⟨bl, off + (at_ + j), none⟩ = some (.int .u8 (r[j]?.getD 0)))

def next (n : Int) : List Int → Int × List Int
  | [] => (0, [])
  | x :: t => if n < 1 then (0, x :: t) else if n ≤ 256 then (x % n, t) else
    match t with
    | [] => ((256 * x) % n, [])
    | y :: u => ((256 * x + y) % n, u)

theorem CodesAt.keep {w w' : World} {S : Nat → Prop} {b bl : Nat} {r : List Int} (h : CodesAt w b bl r) (k : Keep S w w') (hb : ¬ S b) (hl : ¬ S bl) : CodesAt w' b bl r := by
  obtain ⟨p, len, cap, at_, h0, h1, h2, h3, h4, h5⟩ := h
  refine ⟨p, len, cap, at_, k.obj h0 hb, h1, h2, h3, h4, ?_⟩
  rcases h5 with h5 | ⟨off, hne, rfl, h5⟩
  · exact .inl h5
  · exact .inr ⟨off, hne, rfl, fun j hj => k.cell (h5 j hj) hl⟩

def Next (b bl : Nat) (n : Int) (r : List Int) (w : World) (e : Ending) (w' : World) : Prop :=
  e = .returned (.int .i64 (next n r).1) ∧ CodesAt w' b bl (next n r).2 ∧ Keep (· = b) w w'

theorem next_none (b bl : Nat) (n : Int) (w : World) (h : CodesAt w b bl []) :
    Calls Try.prog 8 #[.pointer (some ⟨b, 0, none⟩), .int .i64 n] w (Next b bl n [] w) := by
  have hh := h
  obtain ⟨p, len, cap, at_, h0, h1, h2, -, -, -⟩ := h
  have c0 : w.cell? ⟨b, 0, none⟩ = some (.slice p len cap) := by simp [World.cell?, h0]
  have c1 : w.cell? ⟨b, 1, none⟩ = some (.int .i64 at_) := by simp [World.cell?, h0]
  have hd : decide (len ≤ at_) = true := by simp at h1 ⊢; omega
  have H : Hid _ := Lib.hid hh
  clear h0 hh h1
  go_enter Try.func8, Try.ntmps8
  go_wp2
  go_quiet (fail)
  go_wp2
  go_ret
  exact ⟨rfl, H.out.keep ((Keep.refl None w).drewN _) id id, (Keep.refl _ w).drewN _⟩

theorem next_zero (b bl : Nat) (n : Int) (x : Int) (t : List Int) (w : World) (h : CodesAt w b bl (x :: t)) (hn : n < 1) :
    Calls Try.prog 8 #[.pointer (some ⟨b, 0, none⟩), .int .i64 n] w (Next b bl n (x :: t) w) := by
  have hh := h
  obtain ⟨p, len, cap, at_, h0, h1, h2, -, -, -⟩ := h
  have c0 : w.cell? ⟨b, 0, none⟩ = some (.slice p len cap) := by simp [World.cell?, h0]
  have c1 : w.cell? ⟨b, 1, none⟩ = some (.int .i64 at_) := by simp [World.cell?, h0]
  have hd : decide (len ≤ at_) = false := by simp at h1 ⊢; omega
  have hd2 : decide (n < 1) = true := by simpa using hn
  have hf : next n (x :: t) = (0, x :: t) := by simp [next, hn]
  have H : Hid _ := Lib.hid hh
  have HF : Hid _ := Lib.hid hf
  clear h0 hh h1 hf
  go_enter Try.func8, Try.ntmps8
  go_wp2
  go_quiet (fail)
  go_wp2
  go_ret
  unfold Next
  rw [HF.out]
  exact ⟨rfl, H.out.keep ((Keep.refl None w).drewN _) id id, (Keep.refl _ w).drewN _⟩

/-- One code is taken: the world behind it. -/
theorem taken {w : World} {b bl off len cap at_ : Nat} {x : Int} {t : List Int} (k : Nat) (h0 : w.heap[b]? = some (.cells #[.slice (some ⟨bl, off, none⟩) len cap, .int .i64 ((at_ : Nat) : Int)] 39 (0, 0)))
    (h1 : at_ + (x :: t).length = len) (h2 : len ≤ 1000) (hne : bl ≠ b) (h3 : bl ≤ b) (h4 : ∀ y ∈ x :: t, (0 : Int) ≤ y ∧ y ≤ 255)
    (h5 : ∀ j, j < (x :: t).length → w.cell? ⟨bl, off + (at_ + j), none⟩ = some (.int .u8 ((x :: t)[j]?.getD 0))) :
    CodesAt ((w.drewN k).setCell ⟨b, 1, none⟩ (.int .i64 ((at_ : Int) + 1))) b bl t ∧ Keep (· = b) w ((w.drewN k).setCell ⟨b, 1, none⟩ (.int .i64 ((at_ : Int) + 1))) := by
  constructor
  · refine ⟨some ⟨bl, off, none⟩, len, cap, at_ + 1, ?_, by simp at h1; omega, h2, h3, fun y hy => h4 y (by simp [hy]), .inr ⟨off, hne, rfl, fun j hj => ?_⟩⟩
    · simp [World.drewN, World.setCell, Array.getElem?_modify, h0]
    · have := h5 (j + 1) (by simpa using hj)
      simp only [List.getElem?_cons_succ] at this
      rw [← this]
      rw [show off + (at_ + 1 + j) = off + (at_ + (j + 1)) from by omega]
      exact World.cell?_of_block (w := w) (Below.heap_setCell (w.drewN k) _ _ _ (by simpa using hne))
  · exact ((Keep.refl (· = b) w).drewN k).setCell (p := ⟨b, 1, none⟩) (.inl rfl) _

theorem next_small (b bl : Nat) (n : Int) (x : Int) (t : List Int) (w : World) (h : CodesAt w b bl (x :: t)) (hn : 1 ≤ n) (hn2 : n ≤ 256) :
    Calls Try.prog 8 #[.pointer (some ⟨b, 0, none⟩), .int .i64 n] w (Next b bl n (x :: t) w) := by
  obtain ⟨p, len, cap, at_, h0, h1, h2, h3, h4, h5⟩ := h
  rcases h5 with h5 | ⟨off, hne, rfl, h5⟩
  · cases h5
  have c0 : w.cell? ⟨b, 0, none⟩ = some (.slice (some ⟨bl, off, none⟩) len cap) := by simp [World.cell?, h0]
  have c1 : w.cell? ⟨b, 1, none⟩ = some (.int .i64 at_) := by simp [World.cell?, h0]
  have cf : w.frozen? ⟨b, 1, none⟩ = false := by simp [World.frozen?, h0]
  have hx : w.cell? ⟨bl, off + at_, none⟩ = some (.int .u8 x) := by have := h5 0 (by simp); simpa using this
  have hlt : at_ < len := by simp at h1; omega
  have hb : at_ ≤ 1000 := by omega
  have hd : decide (len ≤ at_) = false := by simp; omega
  have hd2 : decide (n < 1) = false := by simp; omega
  have hx0 := (h4 x (by simp)).1
  have hx1 := (h4 x (by simp)).2
  have hf : next n (x :: t) = (x % n, t) := by simp [next, hn2, show ¬ n < 1 by omega]
  have HT := fun k => Lib.hid (taken k h0 h1 h2 hne h3 h4 h5)
  have HF : Hid _ := Lib.hid hf
  clear h0 h1 h2 hf hne h3 h4 h5
  go_enter Try.func8, Try.ntmps8
  go_wp2
  go_quiet (fail)
  go_wp2
  go_quiet (fail)
  go_wp2
  go_ret
  unfold Next
  rw [HF.out]
  exact ⟨rfl, (HT _).out⟩

theorem next_big (b bl : Nat) (n : Int) (x : Int) (t : List Int) (w : World) (h : CodesAt w b bl (x :: t)) (hn : 256 < n) (hn2 : n ≤ 100000) :
    Calls Try.prog 8 #[.pointer (some ⟨b, 0, none⟩), .int .i64 n] w (Next b bl n (x :: t) w) := by
  obtain ⟨p, len, cap, at_, h0, h1, h2, h3, h4, h5⟩ := h
  rcases h5 with h5 | ⟨off, hne, rfl, h5⟩
  · cases h5
  have c0 : w.cell? ⟨b, 0, none⟩ = some (.slice (some ⟨bl, off, none⟩) len cap) := by simp [World.cell?, h0]
  have c1 : w.cell? ⟨b, 1, none⟩ = some (.int .i64 at_) := by simp [World.cell?, h0]
  have cf : w.frozen? ⟨b, 1, none⟩ = false := by simp [World.frozen?, h0]
  have hx : w.cell? ⟨bl, off + at_, none⟩ = some (.int .u8 x) := by have := h5 0 (by simp); simpa using this
  have hlt : at_ < len := by simp at h1; omega
  have hb : at_ ≤ 1000 := by omega
  have hd : decide (len ≤ at_) = false := by simp; omega
  have hd2 : decide (n < 1) = false := by simp; omega
  have hd3 : decide (256 < n) = true := by simpa using hn
  have hx0 := (h4 x (by simp)).1
  have hx1 := (h4 x (by simp)).2
  have HT := fun k => Lib.hid (taken k h0 h1 h2 hne h3 h4 h5)
  have HN : ∀ w', CodesAt w' b bl t → Hid (Calls Try.prog 8 #[.pointer (some ⟨b, 0, none⟩), .int .i64 256] w' (Next b bl 256 t w')) := by
    intro w' hw
    cases t with
    | nil => exact next_none b bl 256 w' hw
    | cons y u => exact next_small b bl 256 y u w' hw (by omega) (by omega)
  have HS : Hid (next n (x :: t) = ((256 * x + (next 256 t).1) % n, (next 256 t).2) ∧ 0 ≤ (next 256 t).1 ∧ (next 256 t).1 ≤ 255) := by
    have e : next n (x :: t) = ((256 * x + (next 256 t).1) % n, (next 256 t).2) := by
      cases t with
      | nil => simp [next, show ¬ n < 1 by omega, show ¬ n ≤ 256 by omega]
      | cons y u => have := h4 y (by simp); simp [next, show ¬ n < 1 by omega, show ¬ n ≤ 256 by omega, Int.emod_eq_of_lt this.1 (by omega : y < 256)]
    refine ⟨e, ?_⟩
    cases t with
    | nil => simp [next]
    | cons y u => have := h4 y (by simp); simp [next, Int.emod_eq_of_lt this.1 (by omega : y < 256)]; omega
  clear h0 h1 h2 hne h3 h4 h5
  go_enter Try.func8, Try.ntmps8
  go_wp2
  go_quiet (fail)
  go_wp2
  go_quiet (fail)
  go_wp2_with (fail)
  refine ((HN _ (HT _).out.1).out).mono ?_
  intro e w' he
  obtain ⟨rfl, hc, hk⟩ := he
  have HK : Hid _ := Lib.hid (And.intro hc (((HT _).out.2).trans hk))
  clear hc hk
  have hy0 := HS.out.2.1
  have hy1 := HS.out.2.2
  have HE : Hid _ := Lib.hid HS.out.1
  clear HS
  generalize next 256 t = q at *
  go_wp2
  go_ret
  unfold Next
  rw [HE.out]
  exact ⟨rfl, HK.out⟩

theorem next_any (b bl : Nat) (n : Int) (r : List Int) (w : World) (h : CodesAt w b bl r) (hn : n ≤ 100000) :
    Calls Try.prog 8 #[.pointer (some ⟨b, 0, none⟩), .int .i64 n] w (Next b bl n r w) := by
  cases r with
  | nil => exact next_none b bl n w h
  | cons x t =>
    by_cases h1 : n < 1
    · exact next_zero b bl n x t w h h1
    · by_cases h2 : n ≤ 256
      · exact next_small b bl n x t w h (by omega) h2
      · exact next_big b bl n x t w h (by omega) hn

theorem next_bd {n : Int} (hn : 1 ≤ n) : ∀ {r : List Int}, (∀ x ∈ r, (0 : Int) ≤ x ∧ x ≤ 255) → 0 ≤ (next n r).1 ∧ (next n r).1 < n
  | [], _ => by simp [next]; omega
  | x :: t, h => by
    have e1 : ¬ n < 1 := by omega
    by_cases h2 : n ≤ 256
    · simp only [next, e1, h2, if_true, if_false]
      exact ⟨Int.emod_nonneg _ (by omega), Int.emod_lt_of_pos _ (by omega)⟩
    · cases t <;> (simp only [next, e1, h2, if_false]; exact ⟨Int.emod_nonneg _ (by omega), Int.emod_lt_of_pos _ (by omega)⟩)

theorem CodesAt.lt {w : World} {b bl : Nat} {r : List Int} (h : CodesAt w b bl r) : b < w.heap.size ∧ bl ≤ b := by
  obtain ⟨p, len, cap, at_, h0, h1, h2, h3, h4, h5⟩ := h
  exact ⟨heap_lt h0, h3⟩

theorem CodesAt.bd {w : World} {b bl : Nat} {r : List Int} (h : CodesAt w b bl r) {n : Int} (hn : 1 ≤ n) : 0 ≤ (next n r).1 ∧ (next n r).1 < n := by
  obtain ⟨p, len, cap, at_, h0, h1, h2, h3, h4, h5⟩ := h
  exact next_bd hn h4

/-- A drawn number is asked: the contract as the walk takes it, the bounds with it. -/
def Nexted (b bl : Nat) (n : Int) (r : List Int) (w : World) (e : Ending) (w' : World) : Prop :=
  e = .returned (.int .i64 (next n r).1) ∧ CodesAt w' b bl (next n r).2 ∧ Keep (· = b) w w' ∧ 0 ≤ (next n r).1 ∧ (next n r).1 < n

theorem next_in (b bl : Nat) (n : Int) (r : List Int) (w : World) (h : CodesAt w b bl r) (hn : n ≤ 100000) (h1 : 1 ≤ n) :
    Calls Try.prog 8 #[.pointer (some ⟨b, 0, none⟩), .int .i64 n] w (Nexted b bl n r w) :=
  (next_any b bl n r w h hn).mono fun _ _ ⟨h2, h3, h4⟩ => ⟨h2, h3, h4, h.bd h1⟩

def byteEnc (n : Int) : List Value := [.int .u8 n]
theorem byteEnc_len (n : Int) : (byteEnc n).length = 1 := rfl

/-- New choices at a new block. -/
def NewPost (bs : List Int) (w : World) (e : Ending) (w' : World) : Prop :=
  ∃ b bl, e = .returned (.pointer (some ⟨b, 0, none⟩)) ∧ w.heap.size ≤ b ∧ CodesAt w' b bl bs ∧ Keep None w w' ∧ (bs = [] ∨ bl < w.heap.size)

theorem codes_made (p : Option Addr) (bs : List Int) (cap : Nat) (w : World) (h : SliceV byteEnc 1 w p bs) (hb : ∀ x ∈ bs, (0 : Int) ≤ x ∧ x ≤ 255) (hl : bs.length ≤ 1000) (v : Value) (hv : v = .slice p bs.length cap) :
    NewPost bs w (.returned (.pointer (some ⟨w.heap.size, 0, none⟩))) (w.alloc (.cells #[v, .int .i64 0] 39)) := by
  subst hv
  have hk : Keep None w (w.alloc (.cells #[.slice p bs.length cap, .int .i64 0] 39)) := (Keep.refl _ _).alloc _
  rcases h with h | ⟨bl, off, rfl, h⟩
  · subst h
    exact ⟨w.heap.size, w.heap.size, rfl, Nat.le_refl _, ⟨p, 0, cap, 0, heap_alloc_new _ _, rfl, by omega, Nat.le_refl _, by simp, .inl rfl⟩, hk, .inl rfl⟩
  · by_cases he : bs = []
    · subst he
      exact ⟨w.heap.size, w.heap.size, rfl, Nat.le_refl _, ⟨_, 0, cap, 0, heap_alloc_new _ _, rfl, by omega, Nat.le_refl _, by simp, .inl rfl⟩, hk, .inl rfl⟩
    · obtain ⟨x, t, rfl⟩ := List.exists_cons_of_ne_nil he
      have hlt : bl < w.heap.size := by have := h 0 x rfl 0 _ rfl; exact World.block_lt_of_cell? w _ this
      refine ⟨w.heap.size, bl, rfl, Nat.le_refl _, ⟨_, (x :: t).length, cap, 0, heap_alloc_new _ _, by simp, hl, Nat.le_of_lt hlt, hb, .inr ⟨off, by omega, rfl, fun j hj => ?_⟩⟩, hk, .inr hlt⟩
      have e := h j ((x :: t)[j]'hj) (List.getElem?_eq_getElem hj) 0 _ rfl
      rw [List.getElem?_eq_getElem hj]
      simp only [Option.getD_some]
      have := hk.cell e id
      rw [show off + (0 + j) = off + j * 1 + 0 from by omega]
      exact this

theorem SliceV.take {α : Type} {enc : α → List Value} {size : Nat} {w : World} {p : Option Addr} {xs : List α} (h : SliceV enc size w p xs) (n : Nat) : SliceV enc size w p (xs.take n) := by
  rcases h with h | ⟨b, off, rfl, h⟩
  · subst h; exact .inl (by simp)
  · refine .inr ⟨b, off, rfl, fun i x hx => h i x ?_⟩
    rw [List.getElem?_take] at hx
    split at hx
    · exact hx
    · cases hx

theorem new_calls (p : Option Addr) (bs : List Int) (cap most : Nat) (w : World) (h : SliceV byteEnc 1 w p bs) (hb : ∀ x ∈ bs, (0 : Int) ≤ x ∧ x ≤ 255) (hm : most ≤ 1000) (hc : bs.length ≤ cap) :
    Calls Try.prog 5 #[.slice p bs.length cap, .int .i64 (most : Int)] w (NewPost (bs.take most) w) := by
  by_cases hlt : most < bs.length
  · have H := fun v hv => Lib.hid (codes_made p (bs.take most) cap w (h.take most) (fun x hx => hb x (List.mem_of_mem_take hx)) (by simp; omega) v hv)
    go_enter Try.func5, Try.ntmps5
    go_wp2
    go_ret
    exact (H _ (by rw [List.length_take, Nat.min_eq_left (by omega)])).out
  · have e : bs.take most = bs := List.take_of_length_le (by omega)
    rw [e]
    have H := fun v hv => Lib.hid (codes_made p bs cap w h hb (by omega) v hv)
    clear e
    go_enter Try.func5, Try.ntmps5
    go_wp2
    go_ret
    exact (H _ rfl).out

/-- What came in as a row of bytes reads as a slice of codes. -/
theorem bytes_in {w : World} {a : Option Addr} {len cap : Nat} {zs : List Int}
    (h : (a = none ∧ len = 0 ∧ cap = 0 ∧ zs = []) ∨ ∃ x, a = some x ∧ len ≤ cap ∧ cap ≤ maxLen ∧ zs.length = cap ∧ (∀ i, i < zs.length → w.cell? (x.add i) = some (.int .u8 (zs.getD i 0))) ∧ ∀ n ∈ zs, (Lit.int .u8 n).wf = true) :
    ∃ bs : List Int, bs.length = len ∧ SliceV byteEnc 1 w a bs ∧ len ≤ cap ∧ ∀ x ∈ bs, (0 : Int) ≤ x ∧ x ≤ 255 := by
  rcases h with ⟨rfl, rfl, rfl, rfl⟩ | ⟨x, rfl, h1, h2, h3, h4, h5⟩
  · exact ⟨[], rfl, .inl rfl, Nat.le_refl _, by simp⟩
  · refine ⟨zs.take len, by simp; omega, ?_, h1, fun y hy => ?_⟩
    · by_cases hz : len = 0
      · subst hz; exact .inl (by simp)
      · obtain ⟨b, off, rfl, h6⟩ := ints_at h4 (by omega)
        refine .inr ⟨b, off, rfl, fun i y hy j u hu => ?_⟩
        have hi : i < (zs.take len).length := (List.getElem?_eq_some_iff.1 hy).1
        have hi2 : i < zs.length := by simp at hi; omega
        have := h6 i hi2
        rw [List.getElem?_take, if_pos (by simp at hi; omega)] at hy
        have hg : zs.getD i 0 = y := by rw [List.getD_eq_getElem?_getD, hy]; rfl
        rw [hg] at this
        match j, hu with
        | 0, hu =>
          simp [byteEnc] at hu; subst hu
          simpa using this
    · have := h5 y (List.mem_of_mem_take hy)
      have := bounds_u8 this
      omega

/-- Fits an int. -/
def i64 (n : Int) : Prop := -9223372036854775808 ≤ n ∧ n ≤ 9223372036854775807

end Go.Proofs.Ytpdnfekhfagfkaa
