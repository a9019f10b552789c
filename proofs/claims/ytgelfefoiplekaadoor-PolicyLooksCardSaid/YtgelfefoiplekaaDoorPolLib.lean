/-
  Chapter 44: the library's cut and split at one byte, in the plain law's words.
-/
import Derived.Test.YtgelfefoiplekaaDoorPolNum
import Derived.Test.YtgelfefoiplekaaDoorPolFrame
import Derived.Lib.SplitLaws
import Derived.Lib.CutLaws
namespace Go.Proofs.YtgelfefoiplekaaDoor
open Go.RowKit PN

theorem index_miss1 (c : UInt8) : ∀ s : List UInt8, (∀ x ∈ s, x ≠ c) → Lib.index s [c] = -1
  | [], _ => rfl
  | x :: s, h => by
    have hx : ([c].isPrefixOf (x :: s)) = false := by
      have : (c == x) = false := by simpa using fun e => h x (by simp) e.symm
      simp [List.isPrefixOf, this]
    rw [Lib.index, if_neg (by rw [hx]; simp), if_pos (by rw [index_miss1 c s (fun y hy => h y (by simp [hy]))]; rfl)]
theorem index_hit1 (c : UInt8) (r : List UInt8) : ∀ a : List UInt8, (∀ x ∈ a, x ≠ c) → Lib.index (a ++ c :: r) [c] = a.length
  | [], _ => by simp [Lib.index, List.isPrefixOf]
  | x :: a, h => by
    have hx : ([c].isPrefixOf (x :: (a ++ c :: r))) = false := by
      have : (c == x) = false := by simpa using fun e => h x (by simp) e.symm
      simp [List.isPrefixOf, this]
    have ih := index_hit1 c r a (fun y hy => h y (by simp [hy]))
    rw [List.cons_append, Lib.index, if_neg (by rw [hx]; simp), ih, if_neg (by simp)]
    simp
theorem cut_ct (c : UInt8) (s : List UInt8) : (Lib.cut s [c]).1 = (ct c s).1 ∧ (Lib.cut s [c]).2.1 = (ct c s).2 := by
  rcases ct_or c s with ⟨a, r, rfl, ha, hc⟩ | ⟨ha, hc⟩
  · unfold Lib.cut
    rw [index_hit1 c r a ha, if_pos (by omega), hc]
    simp
  · unfold Lib.cut
    rw [index_miss1 c s ha, if_neg (by omega), hc]
    simp
theorem split_sp (c : UInt8) (s : List UInt8) : Lib.splitK [c] 0 (Lib.count s [c]) s = sp c s := by
  induction hl : s.length using Nat.strongRecOn generalizing s with
  | _ n ih =>
    rcases ct_or c s with ⟨a, r, rfl, ha, hc⟩ | ⟨ha, hc⟩
    · rw [Lib.count_hit (by simp) (index_hit1 c r a ha), sp_more _ _ _ ha]
      have hd : (a ++ c :: r).drop (a.length + [c].length) = r := by simp
      rw [hd, Nat.add_comm 1, Lib.splitK, index_hit1 c r a ha, if_neg (by simp)]
      have h2 : (a ++ c :: r).drop (((a.length : Int)).toNat + [c].length) = r := by simp
      rw [h2, ih r.length (by simp at hl; omega) r rfl]
      simp
    · rw [Lib.count_miss (index_miss1 c s ha), sp_one _ _ ha]; rfl

theorem mk_bl (l : List UInt8) : bl ⟨l.toArray⟩ = l := by simp [bl]

/-- The pieces of a line. -/
theorem split_calls (line : ByteArray) (w : World) (hE : Env w) (hl : line.size < 4294967281) :
    Calls Tryd.prog 54 #[.string line, .string ⟨#[32]⟩] w (fun e w' => ∃ Ps : List ByteArray, Ps.map bl = sp 32 (bl line) ∧ e = .returned (.slice (some ⟨w.heap.size, 0, none⟩) Ps.length Ps.length) ∧ w' = w.alloc (.cells (Ps.map Value.string).toArray 9)) := by
  obtain ⟨⟨m, hm⟩, -⟩ := hE
  refine (Tryd.strings_Split line ⟨#[32]⟩ m w hl hm (by decide)).mono ?_
  rintro e w' ⟨rfl, rfl⟩
  have hlen := Lib.splitB_all ⟨#[32]⟩ (by decide) 0 _ line rfl
  refine ⟨Lib.splitB ⟨#[32]⟩ 0 (Lib.countB line ⟨#[32]⟩) line, ?_, by rw [hlen], rfl⟩
  rw [show (Lib.splitB ⟨#[32]⟩ 0 (Lib.countB line ⟨#[32]⟩) line).map bl = Lib.splitK [32] 0 (Lib.countB line ⟨#[32]⟩) (bl line) from Lib.splitB_data _ _ _ _]
  exact split_sp 32 (bl line)

/-- A line, and what is behind it. -/
theorem cut_calls (s : ByteArray) (c : UInt8) (w : World) (hE : Env w) (hl : s.size < 4294967281) :
    Calls Tryd.prog 31 #[.string s, .string ⟨#[c]⟩] w (fun e w' => ∃ (a r : ByteArray) (f : Bool) (n : Nat), bl a = (ct c (bl s)).1 ∧ bl r = (ct c (bl s)).2 ∧ e = .returned (.tuple #[.string a, .string r, .bool f]) ∧ w' = w.drewN n) := by
  obtain ⟨⟨m, hm⟩, -⟩ := hE
  refine (Tryd.strings_Cut s ⟨#[c]⟩ m w hl hm).mono ?_
  rintro e w' ⟨rfl, n, rfl⟩
  obtain ⟨h1, h2⟩ := cut_ct c (bl s)
  exact ⟨_, _, _, n, (mk_bl _).trans h1, (mk_bl _).trans h2, rfl, rfl⟩

theorem sp_size (c : UInt8) {line : ByteArray} {Ps : List ByteArray} (h : Ps.map bl = sp c (bl line)) : ∀ P ∈ Ps, P.size ≤ line.size := by
  have key : ∀ (s : List UInt8), ∀ x ∈ sp c s, x.length ≤ s.length := by
    intro s
    induction s with
    | nil => intro x hx; simp [sp] at hx; subst hx; simp
    | cons y r ih =>
      intro x hx
      unfold sp at hx
      by_cases hy : y = c
      · rw [if_pos hy] at hx
        rcases List.mem_cons.1 hx with rfl | hx
        · simp
        · have := ih x hx; simp; omega
      · rw [if_neg hy] at hx
        have hne := sp_ne c r
        cases hs : sp c r with
        | nil => exact absurd hs hne
        | cons l ls =>
          rw [hs] at hx
          simp only [List.headD_cons, List.tail_cons] at hx
          rcases List.mem_cons.1 hx with rfl | hx
          · have := ih l (by rw [hs]; simp); simp; omega
          · have := ih x (by rw [hs]; simp [hx]); simp; omega
  intro P hP
  have := key (bl line) (bl P) (by rw [← h]; exact List.mem_map.2 ⟨P, hP, rfl⟩)
  rwa [bl_len, bl_len] at this

end Go.Proofs.YtgelfefoiplekaaDoor
