/-
  Chapter 30: an identity that came in.
-/
import Derived.Test.YtcdophocpheadaaGreatDoorSdOrd
import Derived.Test.YtcdophocpheadaaGreatDoorChecked
import Derived.ProofKit
import Derived.WideShapes
import Derived.ChangeArms
namespace Go.Proofs.YtcdophocpheadaaGreatDoor
open Go.RowKit Go.ChangeShapes Go.WideShapes

section
variable {H : Type} {enc : TypeId × Value → H} {w : World} {base : Nat} {held : Bool}
theorem Tryz.cellsId : Tryz.prog.cellsOf 23 = 3 := by kernel_rfl
theorem Tryz.cellsInt1 : Tryz.prog.cellsOf 3 = 1 := by kernel_rfl
theorem three_of {cs : Array Value} (h : cs.size = 3) : ∃ a b c, cs = #[a, b, c] := by
  match cs, h with
  | ⟨[a, b, c]⟩, _ => exact ⟨a, b, c, rfl⟩

set_option maxRecDepth 100000 in
theorem id_in {r : Reach} {b0 : Nat} {spare : Nat → Bool} {v : Value} {d : DataW H} {p : List MemPlace} (hv : Value.okWide Tryz.prog w r b0 23 v) (h : DataW.Trod enc Tryz.prog w base spare held 23 v d p) :
    ∃ x : Idn, v = idVal x := by
  obtain ⟨cs, rfl, hsz⟩ := okWide_struct Tryz.underlying23 hv
  obtain ⟨c0, c1, c2, rfl⟩ := three_of (hsz.trans Tryz.cellsId)
  obtain ⟨fuel, hf⟩ := h
  obtain ⟨xs, n, _, _, hl, hlen, hfs⟩ := DataW.trod_struct Tryz.underlying23 hf
  match xs, hlen with
  | [y0, y1, y2], _ =>
  have e0 : List.take (Tryz.prog.cellsOf 3) (List.drop 0 [c0, c1, c2]) = [c0] := by rw [Tryz.cellsInt1]; rfl
  have e1 : List.take (Tryz.prog.cellsOf 3) (List.drop 1 [c0, c1, c2]) = [c1] := by rw [Tryz.cellsInt1]; rfl
  have e2 : List.take (Tryz.prog.cellsOf 3) (List.drop 2 [c0, c1, c2]) = [c2] := by rw [Tryz.cellsInt1]; rfl
  have g0 : DataW.trod enc Tryz.prog w base spare held n 3 (List.take (Tryz.prog.cellsOf 3) (List.drop 0 [c0, c1, c2])) = some y0 := hfs 0 _ rfl
  have g1 : DataW.trod enc Tryz.prog w base spare held n 3 (List.take (Tryz.prog.cellsOf 3) (List.drop 1 [c0, c1, c2])) = some y1 := hfs 1 _ rfl
  have g2 : DataW.trod enc Tryz.prog w base spare held n 3 (List.take (Tryz.prog.cellsOf 3) (List.drop 2 [c0, c1, c2])) = some y2 := hfs 2 _ rfl
  rw [e0] at g0
  rw [e1] at g1
  rw [e2] at g2
  obtain ⟨n0, h0, _, _⟩ := DataW.trod_int Tryz.underlying3 g0
  obtain ⟨n1, h1, _, _⟩ := DataW.trod_int Tryz.underlying3 g1
  obtain ⟨n2, h2, _, _⟩ := DataW.trod_int Tryz.underlying3 g2
  cases h0; cases h1; cases h2
  exact ⟨⟨n0, n1, n2⟩, rfl⟩
end
end Go.Proofs.YtcdophocpheadaaGreatDoor
