/-
  append of one element in a region that draws its order: what the worlds in between keep.
-/
import Derived.Test.YtgelfefoiplekaaDoorPush3
namespace Go.Proofs.YtgelfefoiplekaaDoor
open Go.RowKit

variable {α : Type} {enc : α → List Value} {size : Nat} {e : TypeId}

/-- All but S is as it was; what reads as the new row still does. -/
def R1 (enc : α → List Value) (size : Nat) (e : TypeId) (S : Nat → Prop) (lo : Nat) (xs : List α) (w w' : World) : Prop :=
  Keep S w w' ∧ ∀ v, Own enc size e lo w v xs → Own enc size e lo w' v xs
theorem R1.still {S : Nat → Prop} {lo : Nat} {xs : List α} {w w' : World} (h : Keep None w w') : R1 enc size e S lo xs w w' :=
  ⟨h.weaken (fun _ _ q => q.elim), fun _ a => a.keep h (fun _ _ => id)⟩
theorem R1.refl (S : Nat → Prop) (lo : Nat) (xs : List α) (w : World) : R1 enc size e S lo xs w w := R1.still (Keep.refl _ _)
theorem made1_keep {S : Nat → Prop} {lo : Nat} {xs : List α} (e' : TypeId) (m : Nat) (cells : List Value) (hS : ∀ g, m ≤ g → ¬ S g) : ∀ w w' v, R1 enc size e S lo xs w w' → Made e' m cells w v → Made e' m cells w' v :=
  fun _ _ _ h ⟨g, c, h1, h2, h3, h4⟩ => ⟨g, c, h1, h2, Nat.lt_of_lt_of_le h3 h.1.size, h.1.obj h4 (hS g h2)⟩
/-- A row that is owned, as a value. -/
def App1 (enc : α → List Value) (size : Nat) (e : TypeId) (lo n : Nat) (xs : List α) (w : World) (v : Value) : Prop := ∃ p c, v = .slice p n c ∧ Own enc size e lo w v xs
theorem app1_keep {S : Nat → Prop} {lo n : Nat} {xs : List α} : ∀ w w' v, R1 enc size e S lo xs w w' → App1 enc size e lo n xs w v → App1 enc size e lo n xs w' v := fun _ _ _ h ⟨p, c, h1, h2⟩ => ⟨p, c, h1, h.2 _ h2⟩

end Go.Proofs.YtgelfefoiplekaaDoor
