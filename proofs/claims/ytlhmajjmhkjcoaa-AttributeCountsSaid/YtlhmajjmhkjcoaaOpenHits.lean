/-
  Chapter 23: hits that came in, read as lists.
-/
import Derived.Test.YtlhmajjmhkjcoaaHits
import Derived.Test.YtlhmajjmhkjcoaaOpenDecG
import Derived.Deep.Matrix
import Derived.Lib.SmallJoins
import Derived.SizedLaws
namespace Go.Proofs.Ytlhmajjmhkjcoaa
open Go.RowKit Go.ChangeShapes Go.WideShapes Go.Deep

section
variable {H : Type} {enc : TypeId × Value → H} {w : World} {base : Nat} {held : Bool}

def lkOf (r : List Int) : Lk := ⟨r.getD 0 0, r.getD 1 0, r.getD 2 0, r.getD 3 0⟩
theorem lkOf_enc {r : List Int} (h : r.length = 4) : (lkOf r).enc = r.map (Value.int .i64) := by
  match r, h with
  | [a, b, c, d], _ => rfl

theorem links_in {spare : Nat → Bool} {fuel : Nat} {cs : List Value} {x : DataW H × List MemPlace}
    (h : DataW.trod enc Try.prog w base spare held fuel 38 cs = some x) :
    ∃ (p : Option Addr) (l : List Lk) (cap : Nat), cs = [.slice p l.length cap] ∧ l.length ≤ cap ∧ cap ≤ maxLen ∧ SliceV Lk.enc 4 w p l := by
  rcases number_structs Try.underlying38 Try.underlying72 (by kernel_rfl) (by kernel_rfl) (by kernel_rfl) h with h0 | ⟨a, len, cap, h1, h2, h3, h4⟩
  · exact ⟨none, [], 0, by simpa using h0, by simp, by simp [maxLen], .inl rfl⟩
  · obtain ⟨rows, hl, hr⟩ := list_of_all len h4
    refine ⟨some a, rows.map lkOf, cap, by rw [List.length_map, hl]; exact h1, by rw [List.length_map, hl]; exact h2, h3, ?_⟩
    cases hrows : rows with
    | nil => exact .inl rfl
    | cons r0 rr =>
      right
      obtain ⟨b, off, spot⟩ := a
      have h00 := hr 0 r0 (by rw [hrows]; rfl)
      obtain ⟨n0, hn0⟩ : ∃ n, r0[0]? = some n := ⟨r0[0]'(by rw [h00.1]; decide), List.getElem?_eq_getElem _⟩
      have hsp : spot = none := by simpa [Addr.add] using World.cell?_spot (h00.2 0 n0 hn0)
      subst hsp
      refine ⟨b, off, rfl, fun i x hx j u hu => ?_⟩
      rw [← hrows, List.getElem?_map] at hx
      obtain ⟨row, hrow, rfl⟩ := Option.map_eq_some_iff.1 hx
      obtain ⟨q1, q2⟩ := hr i row hrow
      rw [lkOf_enc q1, List.getElem?_map] at hu
      obtain ⟨n, hn, rfl⟩ := Option.map_eq_some_iff.1 hu
      have := q2 j n hn
      rw [Go.WideShapes.add_plain] at this
      rw [Nat.add_assoc]
      exact this

theorem weightsAll_mem {P : Program} {e : TypeId} {n : Nat} {d : DataW H} : ∀ {l : List (DataW H)}, d ∈ l → n ∈ d.weights P e → n ∈ DataW.weightsAll P e l
  | x :: r, h, hn => by
    simp only [DataW.weightsAll, List.mem_append]
    rcases List.mem_cons.1 h with rfl | h
    · exact .inl hn
    · exact .inr (weightsAll_mem h hn)

theorem Try.cellsRow : Try.prog.cellsOf 25 = 1 := by kernel_rfl
theorem Try.cellsInt : Try.prog.cellsOf 3 = 1 := by kernel_rfl
theorem Try.bytesInt : Try.prog.bytesOf 3 = 8 := by kernel_rfl
theorem Try.cellsHits : Try.prog.cellsOf 40 = 4 := by kernel_rfl

theorem rows_in {fuel : Nat} {cs : List Value} {x : DataW H × List MemPlace} (h : DataW.trod enc Try.prog w base (fun _ => true) held fuel 37 cs = some x) (hw : ∀ n ∈ x.1.weights Try.prog 37, n ≤ reachBytes) :
    ∃ (p : Option Addr) (rows : List (List Int)) (cap : Nat), cs = [.slice p rows.length cap] ∧ rows.length ≤ maxLen ∧ RowsV (fun _ => True) w p rows ∧ ∀ row ∈ rows, row.length ≤ 17592186044416 := by
  rcases open_int_rows Try.underlying37 Try.underlying25 Try.underlying3 Try.cellsRow Try.cellsInt h with ⟨h0, -⟩ | ⟨a, len, cap, A, L, C, Z, rfl, -, h1, h2, rfl, h3⟩
  · exact ⟨none, [], 0, by simpa using h0, by simp [maxLen], .inl rfl, by simp⟩
  · refine ⟨some a, (List.range len).map (fun r => (Z r).take (L r)), cap, by simp, by simp; omega, ?_, ?_⟩
    · by_cases hl : len = 0
      · subst hl; exact .inl rfl
      · obtain ⟨b, off, spot⟩ := a
        have hsp : spot = none := by simpa [Addr.add] using World.cell?_spot (h3 0 (by omega)).1
        subst hsp
        refine .inr ⟨b, off, rfl, trivial, fun i row hr => ?_⟩
        simp only [List.getElem?_map, Option.map_eq_some_iff] at hr
        obtain ⟨i', hi', rfl⟩ := hr
        have hi : i < len := by have := (List.getElem?_eq_some_iff.1 hi').1; simpa using this
        have : i' = i := by rw [List.getElem?_range hi] at hi'; exact (Option.some.inj hi').symm
        subst this
        obtain ⟨g1, g2, g3, g4, g5, g6, g7⟩ := h3 i' (by omega)
        have hlen : ((Z i').take (L i')).length = L i' := by rw [List.length_take]; omega
        rw [Go.WideShapes.add_plain] at g1
        refine ⟨A i', C i', by rw [hlen]; exact g1, ?_, .inr fun _ _ => trivial⟩
        by_cases h0 : L i' = 0
        · exact .inl (by rw [h0]; rfl)
        · cases hA : A i' with
          | none => have := g6 hA; omega
          | some a' =>
            obtain ⟨-, hc⟩ := g7 a' hA
            obtain ⟨b', off', spot'⟩ := a'
            have hsp : spot' = none := by simpa [Addr.add] using World.cell?_spot (hc 0 (by omega))
            subst hsp
            refine .inr ⟨b', off', rfl, fun j y hy k u hu => ?_⟩
            have hj : j < L i' := by have := (List.getElem?_eq_some_iff.1 hy).1; omega
            have hyz : (Z i')[j]? = some y := by rw [List.getElem?_take, if_pos hj] at hy; exact hy
            have hcj := hc j (by omega)
            rw [Go.WideShapes.add_plain] at hcj
            have hk : k = 0 := by
              have := (List.getElem?_eq_some_iff.1 hu).1
              simp [intEnc] at this; exact this
            subst hk
            simp [intEnc] at hu
            subst hu
            have : (Z i').getD j 0 = y := by simp [List.getD, hyz]
            rw [this] at hcj
            simpa using hcj
    · intro row hr
      obtain ⟨i, hi, rfl⟩ := List.mem_map.1 hr
      have hi' : i < len := by simpa using hi
      obtain ⟨g1, g2, g3, g4, g5, g6, g7⟩ := h3 i (by omega)
      have hlen : ((Z i).take (L i)).length = L i := by rw [List.length_take]; omega
      rw [hlen]
      cases hA : A i with
      | none => have := g6 hA; omega
      | some a' =>
        have hm : ((lits (H := H) .i64 ((Z i).take (L i))).length + (lits (H := H) .i64 ((Z i).drop (L i))).length) * Try.prog.bytesOf 3 ∈ DataW.weights Try.prog 25 (intRow (H := H) .i64 (A i) (L i) (Z i)) := by
          simp only [intRow, hA, DataW.weights, Try.underlying25]
          exact List.mem_cons_self
        have := hw _ (by
          simp only [DataW.weights, Try.underlying37]
          exact List.mem_cons_of_mem _ (List.mem_append.2 (.inl (weightsAll_mem (List.mem_map.2 ⟨i, by simpa using hi', rfl⟩) hm))))
        rw [Try.bytesInt] at this
        simp only [lits, List.length_map, List.length_take, List.length_drop, reachBytes] at this
        omega

set_option maxRecDepth 100000 in
theorem hits_in {r : Reach} {b0 : Nat} {v : Value} {d : DataW H} {p : List MemPlace} (hv : Value.okWide Try.prog w r b0 40 v) (h : DataW.Trod enc Try.prog w base (fun _ => true) held 40 v d p) (hw : ∀ n ∈ d.weights Try.prog 40, n ≤ reachBytes) :
    ∃ (p : Option Addr) (c : Nat) (q : Option Addr) (e : Nat) (hh : Hits), v = hitsVal p c q e hh ∧ RowsV (fun _ => True) w p hh.blocks ∧ SliceV Lk.enc 4 w q hh.links ∧ hh.blocks.length ≤ maxLen ∧ hh.links.length ≤ maxLen ∧ ∀ row ∈ hh.blocks, row.length ≤ 17592186044416 := by
  obtain ⟨v0, v1, v2, v3, y0, y1, y2, y3, n, rfl, rfl, rfl, h0, h1, h2, h3⟩ := Go.Joins.open_agg4 Try.underlying40 (by kernel_rfl) Try.cellsHits hv h
  obtain ⟨pp, rows, cc, e0, a1, a2, a3⟩ := rows_in h0 (fun m hm => hw m (by
    simp only [DataW.weights, Try.underlying40]
    simp only [List.map_cons, DataW.weightsEach, List.mem_append]
    exact .inl hm))
  obtain ⟨qq, lk, ce, e1, b1, b2, b3⟩ := links_in h1
  obtain ⟨u, e2, -, -⟩ := DataW.trod_int Try.underlying3 h2
  obtain ⟨o, e3, -, -⟩ := DataW.trod_int Try.underlying3 h3
  obtain rfl : v0 = _ := (List.cons.inj e0).1
  obtain rfl : v1 = _ := (List.cons.inj e1).1
  obtain rfl : v2 = _ := (List.cons.inj e2).1
  obtain rfl : v3 = _ := (List.cons.inj e3).1
  exact ⟨pp, cc, qq, ce, ⟨rows, lk, u, o⟩, rfl, a2, b3, a1, by show lk.length ≤ maxLen; omega, a3⟩
end

end Go.Proofs.Ytlhmajjmhkjcoaa
