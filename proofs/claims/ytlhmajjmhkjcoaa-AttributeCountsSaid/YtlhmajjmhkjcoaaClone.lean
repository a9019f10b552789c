/-
  Chapter 23: slices.Clone, Grow, Concat.
-/
import Derived.Test.YtlhmajjmhkjcoaaAppendAll
import Derived.Test.YtlhmajjmhkjcoaaWith
import Derived.WalkSpells
namespace Go.Proofs.Ytlhmajjmhkjcoaa
open Go.RowKit

def OwnPost {α : Type} (enc : α → List Value) (size : Nat) (e : TypeId) (xs : List α) (w : World) (en : Ending) (w' : World) : Prop :=
  ∃ p' c', en = .returned (.slice p' xs.length c') ∧ Own enc size e w.heap.size w' (.slice p' xs.length c') xs ∧ Keep None w w'

theorem own_block {α : Type} {enc : α → List Value} {size : Nat} {e : TypeId} {base : Nat} {w : World} {v : Value} {xs : List α} (h : Own enc size e base w v xs) {T : Nat → Prop} (hT : ∀ k, base ≤ k → ¬ T k) : ∀ k, v.ownBlock = some k → ¬ T k :=
  fun k hk => hT k (World.ownsRow.lt h k hk).1

set_option maxRecDepth 100000 in
set_option maxHeartbeats 2000000 in
theorem clone_calls (p : Option Addr) (xs : List Int) (c : Nat) (w : World) (h : SliceV intEnc 1 w p xs) (hl : xs.length ≤ 17592186044416) :
    Calls Try.prog 30 #[.slice p xs.length c] w (OwnPost intEnc 1 3 xs w) := by
  obtain ⟨i2, hi2, hv0, hv1, hv2⟩ := info_parts Try.infoInt
  have hnil : ∀ (wx : World) (a : Option Addr) (n c' : Nat), (binOp .eql 25 (.slice a n c') (.slice none 0 0)).run Try.prog wx = .ok (.bool a.isNone) wx := fun wx a n c' => Lib.run_eql_slice_nil wx _ _ a n c' 0 0 Try.underlying25
  cases p with
  | none =>
    have hx : xs = [] := by
      rcases h with h | ⟨_, _, he, _⟩
      · exact h
      · cases he
    subst hx
    go_enter Try.func30, Try.ntmps30
    go_wp2
    go_ret
    exact ⟨none, 0, rfl, Own.nil _ _ _ _ _, Keep.refl _ _⟩
  | some ad =>
    have HS := Lib.hid h
    clear h
    go_enter Try.func30, Try.ntmps30
    go_wp2_with (at_builtin; go_loud (refine wpList_appendAll (enc := intEnc) rfl _ _ 25 rfl w.heap.size _ i2 _ 8 Try.underlying25 hi2 hv0 hv1 hv2 rfl (by decide) intEnc_len (.slice (some ⟨w.heap.size, 0, none⟩) 0 0) [] rfl (Own.ofArr (enc := intEnc) intEnc_len (xs := []) (g := w.heap.size) (show Arr intEnc 3 _ w.heap.size [] from heap_alloc_new _ _) (Nat.le_refl _) (by simp)) (some ad) xs c rfl (HS.out.keep (S := None) ((Keep.refl _ _).alloc _) (fun _ _ => id)) (by intro x u hu; simp [intEnc] at hu; subst hu; rfl) (by simp; omega) (by simp; omega) ((Keep.refl None w).alloc _).size ?_; intro p' c' w6 hown6 hk6 hd6; have HO6 := Lib.hid hown6; have HK6 := Lib.hid hk6; clear hown6 hk6 hd6))
    go_ret
    refine ⟨p', c', by simp, by simpa using HO6.out, ((Keep.refl _ _).alloc _).andThen HK6.out (by intro k hk hq; simp [Value.ownBlock] at hq; omega)⟩

end Go.Proofs.Ytlhmajjmhkjcoaa
