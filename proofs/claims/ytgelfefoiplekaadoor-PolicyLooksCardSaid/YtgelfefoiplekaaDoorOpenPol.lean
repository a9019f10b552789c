/-
  Chapter 44: a policy, and pairs, that came in, read as lists.
-/
import Derived.Test.YtgelfefoiplekaaDoorPolLk
import Derived.Test.YtgelfefoiplekaaDoorOpenDecG
namespace Go.Proofs.YtgelfefoiplekaaDoor
open Go.RowKit Go.ChangeShapes Go.WideShapes Go.Deep PN

section
variable {H : Type} {enc : TypeId × Value → H} {w : World} {base : Nat} {held : Bool}

def twoOf (r : List Int) : Int × Int := (r.getD 0 0, r.getD 1 0)
theorem twoOf_enc {r : List Int} (h : r.length = 2) : [Value.int .i64 (twoOf r).1, Value.int .i64 (twoOf r).2] = r.map (Value.int .i64) := by
  match r, h with
  | [a, b], _ => rfl

/-- A slice of structs of two numbers. -/
theorem twos_in {e t : TypeId} {fs : Array Field} {spare : Nat → Bool} {fuel : Nat} {cs : List Value} {x : DataW H × List MemPlace} (ht : Tryd.prog.underlying t = some (.slice e)) (he : Tryd.prog.underlying e = some (.struct fs)) (hone : oneCellFields Tryd.prog fs = true) (hC : Tryd.prog.cellsOf e = fs.size) (hint : intFields Tryd.prog fs = true) (h2 : fs.size = 2)
    (h : DataW.trod enc Tryd.prog w base spare held fuel t cs = some x) :
    ∃ (p : Option Addr) (l : List (Int × Int)) (cap : Nat), cs = [.slice p l.length cap] ∧ l.length ≤ cap ∧ cap ≤ maxLen ∧ SliceV (fun s => [Value.int .i64 s.1, Value.int .i64 s.2]) 2 w p l := by
  rcases number_structs ht he hone hC hint h with h0 | ⟨a, len, cap, h1, h3, h4, h5⟩
  · exact ⟨none, [], 0, by simpa using h0, by simp, by simp [maxLen], .inl rfl⟩
  · rw [h2] at h5
    obtain ⟨rows, hl, hr⟩ := list_of_all len h5
    refine ⟨some a, rows.map twoOf, cap, by rw [List.length_map, hl]; exact h1, by rw [List.length_map, hl]; exact h3, h4, ?_⟩
    cases hrows : rows with
    | nil => exact .inl rfl
    | cons r0 rr =>
      right
      obtain ⟨b, off, spot⟩ := a
      have h00 := hr 0 r0 (by rw [hrows]; rfl)
      obtain ⟨n0, hn0⟩ : ∃ n, r0[0]? = some n := ⟨r0[0]'(by rw [h00.1]; decide), List.getElem?_eq_getElem _⟩
      have hsp : spot = none := by simpa [Addr.add] using World.cell?_spot (h00.2 0 n0 hn0)
      subst hsp
      refine ⟨b, off, rfl, fun i x hx j u hu => ?_⟩
      rw [← hrows, List.getElem?_map] at hx
      obtain ⟨row, hrow, rfl⟩ := Option.map_eq_some_iff.1 hx
      obtain ⟨q1, q2⟩ := hr i row hrow
      change [Value.int .i64 (twoOf row).1, Value.int .i64 (twoOf row).2][j]? = some u at hu
      rw [twoOf_enc q1, List.getElem?_map] at hu
      obtain ⟨n, hn, rfl⟩ := Option.map_eq_some_iff.1 hu
      have := q2 j n hn
      rw [Go.WideShapes.add_plain] at this
      rw [Nat.add_assoc]
      exact this

theorem pairs_in {spare : Nat → Bool} {fuel : Nat} {cs : List Value} {x : DataW H × List MemPlace} (h : DataW.trod enc Tryd.prog w base spare held fuel 47 cs = some x) :
    ∃ (p : Option Addr) (l : List Pr) (cap : Nat), cs = [.slice p l.length cap] ∧ l.length ≤ cap ∧ cap ≤ maxLen ∧ SliceV prEnc 2 w p l :=
  twos_in Tryd.underlying47 Tryd.underlying53 (by kernel_rfl) (by kernel_rfl) (by kernel_rfl) rfl h
theorem stages_in {spare : Nat → Bool} {fuel : Nat} {cs : List Value} {x : DataW H × List MemPlace} (h : DataW.trod enc Tryd.prog w base spare held fuel 26 cs = some x) :
    ∃ (p : Option Addr) (l : List (Int × Int)) (cap : Nat), cs = [.slice p l.length cap] ∧ l.length ≤ cap ∧ cap ≤ maxLen ∧ SliceV stEnc 2 w p l :=
  twos_in Tryd.underlying26 Tryd.underlying45 (by kernel_rfl) (by kernel_rfl) (by kernel_rfl) rfl h

theorem Tryd.cellsPolicy : Tryd.prog.cellsOf 30 = 4 := by kernel_rfl
theorem Tryd.cellsLevel : Tryd.prog.cellsOf 28 = 2 := by kernel_rfl
theorem Tryd.cellsStages : Tryd.prog.cellsOf 26 = 1 := by kernel_rfl
theorem Tryd.cellsInt : Tryd.prog.cellsOf 3 = 1 := by kernel_rfl

theorem four_of {cs : Array Value} (h : cs.size = 4) : ∃ a b c d, cs = #[a, b, c, d] := by
  match cs, h with
  | ⟨[a, b, c, d]⟩, _ => exact ⟨a, b, c, d, rfl⟩

set_option maxRecDepth 100000 in
theorem policy_in {r : Reach} {b0 : Nat} {spare : Nat → Bool} {v : Value} {d : DataW H} {p : List MemPlace} (hv : Value.okWide Tryd.prog w r b0 30 v) (h : DataW.Trod enc Tryd.prog w base spare held 30 v d p) :
    ∃ (a : Option Addr) (c : Nat) (q : Pol), v = polVal a c q ∧ SliceV stEnc 2 w a q.st := by
  obtain ⟨cs, rfl, hsz⟩ := okWide_struct Tryd.underlying30 hv
  obtain ⟨c0, c1, c2, c3, rfl⟩ := four_of (hsz.trans Tryd.cellsPolicy)
  obtain ⟨fuel, hf⟩ := h
  obtain ⟨xs, n, _, _, hl, hlen, hfs⟩ := DataW.trod_struct Tryd.underlying30 hf
  match xs, hlen with
  | [y0, y1, y2], _ =>
  have e0 : List.take (Tryd.prog.cellsOf 26) (List.drop 0 [c0, c1, c2, c3]) = [c0] := by rw [Tryd.cellsStages]; rfl
  have e1 : List.take (Tryd.prog.cellsOf 28) (List.drop 1 [c0, c1, c2, c3]) = [c1, c2] := by rw [Tryd.cellsLevel]; rfl
  have e2 : List.take (Tryd.prog.cellsOf 3) (List.drop 3 [c0, c1, c2, c3]) = [c3] := by rw [Tryd.cellsInt]; rfl
  have g0 : DataW.trod enc Tryd.prog w base spare held n 26 (List.take (Tryd.prog.cellsOf 26) (List.drop 0 [c0, c1, c2, c3])) = some y0 := hfs 0 _ rfl
  have g1 : DataW.trod enc Tryd.prog w base spare held n 28 (List.take (Tryd.prog.cellsOf 28) (List.drop 1 [c0, c1, c2, c3])) = some y1 := hfs 1 _ rfl
  have g2 : DataW.trod enc Tryd.prog w base spare held n 3 (List.take (Tryd.prog.cellsOf 3) (List.drop 3 [c0, c1, c2, c3])) = some y2 := hfs 2 _ rfl
  rw [e0] at g0
  rw [e1] at g1
  rw [e2] at g2
  obtain ⟨zs, n', _, _, hl', hlen', hfs'⟩ := DataW.trod_struct Tryd.underlying28 g1
  match zs, hlen' with
  | [z0, z1], _ =>
  have d0 : List.take (Tryd.prog.cellsOf 3) (List.drop 0 [c1, c2]) = [c1] := by rw [Tryd.cellsInt]; rfl
  have d1 : List.take (Tryd.prog.cellsOf 3) (List.drop 1 [c1, c2]) = [c2] := by rw [Tryd.cellsInt]; rfl
  have k0 : DataW.trod enc Tryd.prog w base spare held n' 3 (List.take (Tryd.prog.cellsOf 3) (List.drop 0 [c1, c2])) = some z0 := hfs' 0 _ rfl
  have k1 : DataW.trod enc Tryd.prog w base spare held n' 3 (List.take (Tryd.prog.cellsOf 3) (List.drop 1 [c1, c2])) = some z1 := hfs' 1 _ rfl
  rw [d0] at k0
  rw [d1] at k1
  obtain ⟨a, st, cap, q0, -, -, hs⟩ := stages_in g0
  obtain ⟨num, q1, -, -⟩ := DataW.trod_int Tryd.underlying3 k0
  obtain ⟨den, q2, -, -⟩ := DataW.trod_int Tryd.underlying3 k1
  obtain ⟨mg, q3, -, -⟩ := DataW.trod_int Tryd.underlying3 g2
  obtain rfl : c0 = _ := (List.cons.inj q0).1
  obtain rfl : c1 = _ := (List.cons.inj q1).1
  obtain rfl : c2 = _ := (List.cons.inj q2).1
  obtain rfl : c3 = _ := (List.cons.inj q3).1
  exact ⟨a, cap, ⟨num, den, mg, st⟩, rfl, hs⟩
end

end Go.Proofs.YtgelfefoiplekaaDoor
