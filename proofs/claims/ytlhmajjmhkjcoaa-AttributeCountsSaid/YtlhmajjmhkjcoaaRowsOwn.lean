/-
  Chapter 23: rows of numbers that the call owns.
-/
import Derived.Test.YtlhmajjmhkjcoaaHitShape
import Derived.Test.YtlhmajjmhkjcoaaAwake23
namespace Go.Proofs.Ytlhmajjmhkjcoaa
open Go.RowKit

def RowIn (base : Nat) (w : World) (v : Value) (q : Option Addr) (row : List Int) : Prop :=
  row = [] ∨ ∃ b o, q = some ⟨b, o, none⟩ ∧ base ≤ b ∧ b < w.heap.size ∧ v.ownBlock ≠ some b ∧ SlAt intEnc 1 w b o row

def OwnRows (base : Nat) (w : World) (v : Value) (rows : List (List Int)) : Prop :=
  ∃ vals : List Value, Own valEnc 1 25 base w v vals ∧ vals.length = rows.length ∧ ∀ (i : Nat) (row : List Int), rows[i]? = some row → ∃ q c, vals[i]? = some (Value.slice q row.length c) ∧ RowIn base w v q row

theorem RowIn.keep {base : Nat} {w w' : World} {v : Value} {q : Option Addr} {row : List Int} {S : Nat → Prop} (h : RowIn base w v q row) (k : Keep S w w') (hs : ∀ b, base ≤ b → v.ownBlock ≠ some b → ¬ S b) : RowIn base w' v q row := by
  rcases h with h | ⟨b, o, h1, h2, h3, h4, h5⟩
  · exact .inl h
  · exact .inr ⟨b, o, h1, h2, Nat.lt_of_lt_of_le h3 k.size, h4, h5.keep k (hs b h2 h4)⟩

theorem OwnRows.nil (base : Nat) (w : World) : OwnRows base w (.slice none 0 0) [] :=
  ⟨[], Own.nil _ _ _ _ _, rfl, fun i row h => by simp at h⟩

theorem OwnRows.keep {base : Nat} {w w' : World} {v : Value} {rows : List (List Int)} {S : Nat → Prop} (h : OwnRows base w v rows) (k : Keep S w w') (hs : ∀ b, base ≤ b → ¬ S b) : OwnRows base w' v rows := by
  obtain ⟨vals, h1, h2, h3⟩ := h
  refine ⟨vals, h1.keep k (fun g hg => hs g (World.ownsRow.lt h1 g hg).1), h2, fun i row hr => ?_⟩
  obtain ⟨q, c, e, hi⟩ := h3 i row hr
  exact ⟨q, c, e, hi.keep k (fun b hb _ => hs b hb)⟩

theorem OwnRows.lower {base base' : Nat} {w : World} {v : Value} {rows : List (List Int)} (h : OwnRows base w v rows) (hb : base' ≤ base) : OwnRows base' w v rows := by
  obtain ⟨vals, h1, h2, h3⟩ := h
  refine ⟨vals, ⟨h1.1, ?_⟩, h2, fun i row hr => ?_⟩
  · rcases h1.2 with hn | ⟨g, cap, cur, rfl, hbg, rest⟩
    · exact .inl hn
    · exact .inr ⟨g, cap, cur, rfl, by omega, rest⟩
  · obtain ⟨q, c, e, hi⟩ := h3 i row hr
    exact ⟨q, c, e, hi.imp id fun ⟨b, o, a1, a2, a3⟩ => ⟨b, o, a1, by omega, a3⟩⟩

/-- One row more. -/
theorem OwnRows.push {base : Nat} {w w' : World} {v v' : Value} {rows : List (List Int)} {vals : List Value} {q : Option Addr} {row : List Int} {c W : Nat}
    (h2 : vals.length = rows.length) (h3 : ∀ (i : Nat) (row : List Int), rows[i]? = some row → ∃ q c, vals[i]? = some (Value.slice q row.length c) ∧ RowIn base w v q row)
    (hn : RowIn base w v q row) (hk : Keep (fun k => v.ownBlock = some k) w w') (hown : Own valEnc 1 25 base w' v' (vals ++ [Value.slice q row.length c]))
    (hob : v'.ownBlock = v.ownBlock ∨ v'.ownBlock = some W) (hW : w.heap.size ≤ W) : OwnRows base w' v' (rows ++ [row]) := by
  have key : ∀ {q : Option Addr} {row : List Int}, RowIn base w v q row → RowIn base w' v' q row := by
    intro q row h
    rcases h with h | ⟨b, o, a1, a2, a3, a4, a5⟩
    · exact .inl h
    · refine .inr ⟨b, o, a1, a2, Nat.lt_of_lt_of_le a3 hk.size, ?_, a5.keep hk a4⟩
      rcases hob with e | e
      · rw [e]; exact a4
      · rw [e]; intro he; cases he; omega
  refine ⟨vals ++ [Value.slice q row.length c], hown, by simp [h2], fun i r hr => ?_⟩
  by_cases hi : i < rows.length
  · rw [List.getElem?_append_left hi] at hr
    obtain ⟨q', c', e, hh⟩ := h3 i r hr
    exact ⟨q', c', by rw [List.getElem?_append_left (by omega)]; exact e, key hh⟩
  · have hie : i = rows.length := by
      have := (List.getElem?_eq_some_iff.1 hr).1
      simp at this; omega
    subst hie
    have : r = row := by simpa using hr.symm
    subst this
    exact ⟨q, c, by rw [← h2]; simp, key hn⟩

theorem OwnRows.rowsV {base : Nat} {w : World} {p : Option Addr} {n c : Nat} {rows : List (List Int)} (h : OwnRows base w (.slice p n c) rows) : RowsV (base ≤ ·) w p rows := by
  obtain ⟨vals, h1, h2, h3⟩ := h
  obtain ⟨p', c', he, _, _, hsl, hfr⟩ := h1.slice valEnc_len
  cases he
  rcases hsl with h | ⟨b, off, rfl, h⟩
  · subst h; exact .inl (List.eq_nil_of_length_eq_zero (by simpa using h2.symm))
  · refine .inr ⟨b, off, rfl, hfr _ rfl, fun i row hr => ?_⟩
    obtain ⟨q, c', e, hh⟩ := h3 i row hr
    refine ⟨q, c', ?_, ?_, ?_⟩
    · have := h i _ e 0 _ rfl
      simpa using this
    · rcases hh with hh | ⟨b', o', a1, a2, a3, a4, a5⟩
      · exact .inl hh
      · exact .inr ⟨b', o', a1, a5⟩
    · rcases hh with hh | ⟨b', o', a1, a2, a3, a4, a5⟩
      · exact .inl hh
      · exact .inr fun a ha => by rw [a1] at ha; cases ha; exact a2

theorem OwnRows.rowsV2 {base : Nat} {w : World} {p : Option Addr} {n c : Nat} {rows : List (List Int)} (h : OwnRows base w (.slice p n c) rows) : RowsV (fun b => base ≤ b ∧ b < w.heap.size) w p rows := by
  obtain ⟨vals, h1, h2, h3⟩ := h
  have hlt := fun g hg => (World.ownsRow.lt h1 g hg).2
  obtain ⟨p', c', he, _, _, hsl, hfr⟩ := h1.slice valEnc_len
  cases he
  rcases hsl with h | ⟨b, off, rfl, h⟩
  · subst h; exact .inl (List.eq_nil_of_length_eq_zero (by simpa using h2.symm))
  · refine .inr ⟨b, off, rfl, ⟨hfr _ rfl, hlt b rfl⟩, fun i row hr => ?_⟩
    obtain ⟨q, c', e, hh⟩ := h3 i row hr
    refine ⟨q, c', ?_, ?_, ?_⟩
    · have := h i _ e 0 _ rfl
      simpa using this
    · rcases hh with hh | ⟨b', o', a1, a2, a3, a4, a5⟩
      · exact .inl hh
      · exact .inr ⟨b', o', a1, a5⟩
    · rcases hh with hh | ⟨b', o', a1, a2, a3, a4, a5⟩
      · exact .inl hh
      · exact .inr fun a ha => by rw [a1] at ha; cases ha; exact ⟨a2, a3⟩

theorem OwnRows.len {base : Nat} {w : World} {p : Option Addr} {n c : Nat} {rows : List (List Int)} (h : OwnRows base w (.slice p n c) rows) : n = rows.length := by
  obtain ⟨vals, h1, h2, h3⟩ := h
  obtain ⟨p', c', he, _⟩ := h1.slice valEnc_len
  cases he
  exact h2

/-- A row that the call owns is one of the rows to be. -/
theorem RowIn.ofOwn {base : Nat} {w : World} {v : Value} {q : Option Addr} {n c : Nat} {row : List Int} {B : Nat} (h : Own intEnc 1 3 B w (.slice q n c) row) (hB : base ≤ B) (hv : ∀ b, v.ownBlock = some b → b < B) : RowIn base w v q row := by
  obtain ⟨p', c', he, _, _, hsl, hfr⟩ := h.slice intEnc_len
  cases he
  rcases hsl with hsl | ⟨b, off, rfl, hsl⟩
  · exact .inl hsl
  · cases row with
    | nil => exact .inl rfl
    | cons x r =>
      have hb : B ≤ b := hfr _ rfl
      exact .inr ⟨b, off, rfl, by omega, World.block_lt_of_cell? w _ (hsl 0 x rfl 0 _ rfl), fun e => by have := hv b e; omega, hsl⟩

end Go.Proofs.Ytlhmajjmhkjcoaa
