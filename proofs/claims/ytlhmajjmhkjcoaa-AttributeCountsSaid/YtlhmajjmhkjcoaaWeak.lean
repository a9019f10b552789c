/-
  Chapter 23: what is kept of hits that are drawn: their shape; blocks told apart by the types of their cells.
-/
import Derived.Test.YtlhmajjmhkjcoaaRowsOwn
import Derived.Test.YtlhmajjmhkjcoaaWith
import Derived.Test.YtlhmajjmhkjcoaaShape
namespace Go.Proofs.Ytlhmajjmhkjcoaa
open Go.RowKit

/-- Block b is a row of cells of type e. -/
def Typed (w : World) (e : TypeId) (b : Nat) : Prop := ∃ C fr, w.heap[b]? = some (.cells C e fr)

theorem Typed.ne {w : World} {e e' : TypeId} {b b' : Nat} (h : Typed w e b) (h' : Typed w e' b') (he : e ≠ e') : b ≠ b' := by
  rintro rfl
  obtain ⟨C, fr, h⟩ := h
  obtain ⟨C', fr', h'⟩ := h'
  rw [h] at h'
  cases h'
  exact he rfl

theorem Typed.lt {w : World} {e : TypeId} {b : Nat} (h : Typed w e b) : b < w.heap.size := by
  obtain ⟨_, _, h⟩ := h
  exact heap_lt h

theorem Own.typed {α : Type} {enc : α → List Value} {size : Nat} {e : TypeId} {base : Nat} {w : World} {v : Value} {xs : List α} (h : Own enc size e base w v xs) {g : Nat} (hg : v.ownBlock = some g) : Typed w e g := by
  rcases h.2 with ⟨rfl, _⟩ | ⟨g', c, cur, rfl, hb, hh, _⟩
  · simp [Value.ownBlock] at hg
  · simp [Value.ownBlock] at hg
    subst hg
    exact ⟨_, _, hh⟩

theorem Arr.typed {α : Type} {enc : α → List Value} {e : TypeId} {w : World} {g : Nat} {xs : List α} (h : Arr enc e w g xs) : Typed w e g := ⟨_, _, h⟩

theorem SlAt.keepNew {α : Type} {enc : α → List Value} {size : Nat} {w w' : World} {b off : Nat} {xs : List α} (h : SlAt enc size w b off xs) (k : Keep (w.heap.size ≤ ·) w w') : SlAt enc size w' b off xs := fun i x hx j u hu =>
  k.cell (h i x hx j u hu) (by have := World.block_lt_of_cell? w _ (h i x hx j u hu); simp at this ⊢; exact this)

theorem SliceV.keepNew {α : Type} {enc : α → List Value} {size : Nat} {w w' : World} {p : Option Addr} {xs : List α} (h : SliceV enc size w p xs) (k : Keep (w.heap.size ≤ ·) w w') : SliceV enc size w' p xs := by
  rcases h with h | ⟨b, off, rfl, h⟩
  · exact .inl h
  · exact .inr ⟨b, off, rfl, h.keepNew k⟩

theorem ImgV.keepNew {w w' : World} {v : Value} {n : Nat} {ps : List Pl} (h : ImgV w v n ps) (k : Keep (w.heap.size ≤ ·) w w') : ImgV w' v n ps := by
  obtain ⟨⟨p0, n0, c0, p1, c1, p2, n2, c2, p3, n3, c3, k4, k5, p6, n6, c6, p7, c7, rfl, hs⟩, ln, lp, hok⟩ := h
  exact ⟨⟨p0, n0, c0, p1, c1, p2, n2, c2, p3, n3, c3, k4, k5, p6, n6, c6, p7, c7, rfl, hs.keepNew k⟩, ln, lp, hok⟩

/-- Samples. -/
structure Smp where
  clock : Int
  addr : Int
  q : Option Addr
  c : Nat
  ch : List Int
  lost : Int

def Smp.enc (s : Smp) : List Value := [.int .i64 s.clock, .int .i64 s.addr, .slice s.q s.ch.length s.c, .int .i64 s.lost]
theorem Smp.enc_len (s : Smp) : s.enc.length = 4 := rfl

/-- Small samples. -/
def Smp.ok (w : World) (s : Smp) : Prop := SliceV intEnc 1 w s.q s.ch ∧ s.ch.length ≤ 3 ∧ -100 ≤ s.addr ∧ s.addr ≤ 100 ∧ -100 ≤ s.lost ∧ s.lost ≤ 100 ∧ ∀ x ∈ s.ch, -100 ≤ x ∧ x ≤ 100

structure SmpsV (w : World) (p : Option Addr) (l : List Smp) : Prop where
  sl : SliceV Smp.enc 4 w p l
  ok : ∀ s ∈ l, s.ok w
  len : l.length ≤ 9

theorem Smp.ok.keepNew {w w' : World} {s : Smp} (h : s.ok w) (k : Keep (w.heap.size ≤ ·) w w') : s.ok w' := ⟨h.1.keepNew k, h.2⟩
theorem SmpsV.keepNew {w w' : World} {p : Option Addr} {l : List Smp} (h : SmpsV w p l) (k : Keep (w.heap.size ≤ ·) w w') : SmpsV w' p l := ⟨h.sl.keepNew k, fun s hs => (h.ok s hs).keepNew k, h.len⟩

/-- Rows of numbers, of given lengths, that the call owns: what their numbers are is left open. -/
def WRows (lo : Nat) (w : World) (v : Value) (lns : List Int) : Prop :=
  ∃ vals : List Value, Own valEnc 1 25 lo w v vals ∧ vals.length = lns.length ∧ ∀ (i : Nat) (u : Value), vals[i]? = some u → ∃ b r, u = .slice (some ⟨b, 0, none⟩) r.length r.length ∧ lo ≤ b ∧ Arr intEnc 3 w b r ∧ lns[i]? = some (r.length : Int) ∧ r.length ≤ 1000

theorem WRows.nil (lo : Nat) (w : World) : WRows lo w (.slice none 0 0) [] := ⟨[], Own.nil _ _ _ _ _, rfl, fun i u h => by simp at h⟩

theorem WRows.keep {lo : Nat} {w w' : World} {v : Value} {lns : List Int} {S : Nat → Prop} (h : WRows lo w v lns) (k : Keep S w w') (hs : ∀ b, lo ≤ b → S b → ¬ Typed w 25 b ∧ ¬ Typed w 3 b) : WRows lo w' v lns := by
  obtain ⟨vals, h1, h2, h3⟩ := h
  refine ⟨vals, h1.keep k (fun g hg hsg => (hs g (World.ownsRow.lt h1 g hg).1 hsg).1 (h1.typed hg)), h2, fun i u hu => ?_⟩
  obtain ⟨b, r, a1, a2, a3, a4⟩ := h3 i u hu
  exact ⟨b, r, a1, a2, a3.keep k (fun hsb => (hs b a2 hsb).2 a3.typed), a4⟩

theorem WRows.still {lo : Nat} {w w' : World} {v : Value} {lns : List Int} (h : WRows lo w v lns) (k : Keep None w w') : WRows lo w' v lns := h.keep k (fun _ _ q => q.elim)

theorem WRows.lower {lo lo' : Nat} {w : World} {v : Value} {lns : List Int} (h : WRows lo w v lns) (hl : lo' ≤ lo) : WRows lo' w v lns := by
  obtain ⟨vals, h1, h2, h3⟩ := h
  exact ⟨vals, h1.lower hl, h2, fun i u hu => by obtain ⟨b, r, a1, a2, a3⟩ := h3 i u hu; exact ⟨b, r, a1, by omega, a3⟩⟩

theorem heap_setCell' {w : World} {g j : Nat} {C : Array Value} {e : TypeId} {fr : Nat × Nat} {v : Value} (h : w.heap[g]? = some (.cells C e fr)) : (w.setCell ⟨g, j, none⟩ v).heap[g]? = some (.cells (C.setIfInBounds j v) e fr) := by
  simp [World.setCell, Array.getElem?_modify, h]

/-- One row more. -/
theorem WRows.push {lo : Nat} {w w' : World} {v' : Value} {lns : List Int} {vals : List Value} {b : Nat} {r : List Int} {S : Nat → Prop}
    (h2 : vals.length = lns.length) (h3 : ∀ (i : Nat) (u : Value), vals[i]? = some u → ∃ b r, u = .slice (some ⟨b, 0, none⟩) r.length r.length ∧ lo ≤ b ∧ Arr intEnc 3 w b r ∧ lns[i]? = some (r.length : Int) ∧ r.length ≤ 1000)
    (hb : lo ≤ b) (ha : Arr intEnc 3 w b r) (hr : r.length ≤ 1000) (hk : Keep S w w') (hs : ∀ b, S b → b < w.heap.size → Typed w 25 b) (hown : Own valEnc 1 25 lo w' v' (vals ++ [Value.slice (some ⟨b, 0, none⟩) r.length r.length])) : WRows lo w' v' (lns ++ [(r.length : Int)]) := by
  have key : ∀ {b : Nat} {r : List Int}, Arr intEnc 3 w b r → Arr intEnc 3 w' b r := fun {b r} h => h.keep hk (fun hsb => (hs b hsb h.lt).ne h.typed (by decide) rfl)
  refine ⟨_, hown, by simp [h2], fun i u hu => ?_⟩
  by_cases hi : i < vals.length
  · rw [List.getElem?_append_left hi] at hu
    obtain ⟨b', r', a1, a2, a3, a4, a5⟩ := h3 i u hu
    exact ⟨b', r', a1, a2, key a3, by rw [List.getElem?_append_left (by omega)]; exact a4, a5⟩
  · have hie : i = vals.length := by
      have := (List.getElem?_eq_some_iff.1 hu).1
      simp at this; omega
    subst hie
    have : u = Value.slice (some ⟨b, 0, none⟩) r.length r.length := by simpa using hu.symm
    subst this
    exact ⟨b, r, rfl, hb, key ha, by rw [h2]; simp, hr⟩

/-- Reading a row's header. -/
theorem WRows.get {lo : Nat} {w : World} {p : Option Addr} {n c : Nat} {lns : List Int} (h : WRows lo w (.slice p n c) lns) {i : Nat} (hi : i < lns.length) :
    n = lns.length ∧ ∃ g b r, p = some ⟨g, 0, none⟩ ∧ w.cell? ⟨g, i, none⟩ = some (.slice (some ⟨b, 0, none⟩) r.length r.length) ∧ lo ≤ b ∧ Arr intEnc 3 w b r ∧ lns[i]? = some (r.length : Int) ∧ r.length ≤ 1000 := by
  obtain ⟨vals, h1, h2, h3⟩ := h
  obtain ⟨hn, -, -, hsl, -⟩ := h1.reads valEnc_len
  refine ⟨by omega, ?_⟩
  obtain ⟨u, hu⟩ : ∃ u, vals[i]? = some u := ⟨vals[i]'(by omega), List.getElem?_eq_getElem _⟩
  obtain ⟨b, r, rfl, a⟩ := h3 i u hu
  obtain ⟨g, rfl, hg⟩ := h1.row valEnc_len (by omega)
  rcases hsl with hsl | ⟨_, _, he, hsl⟩
  · subst hsl; simp at hu
  · cases he
    have := hsl i _ hu 0 _ rfl
    simp at this
    exact ⟨g, b, r, rfl, this, a⟩

theorem WRows.get2 {lo : Nat} {w : World} {p : Option Addr} {n c : Nat} {lns : List Int} (h : WRows lo w (.slice p n c) lns) {i : Nat} (hi : i < lns.length) :
    ∃ g b r, p = some ⟨g, 0, none⟩ ∧ lo ≤ g ∧ w.cell? ⟨g, i, none⟩ = some (.slice (some ⟨b, 0, none⟩) r.length r.length) ∧ lo ≤ b ∧ Arr intEnc 3 w b r ∧ r.length ≤ 1000 := by
  obtain ⟨-, g, b, r, rfl, h1, h2, h3, -, h4⟩ := h.get hi
  obtain ⟨vals, a1, a2, a3⟩ := h
  exact ⟨g, b, r, rfl, (World.ownsRow.lt a1 g rfl).1, h1, h2, h3, h4⟩

theorem WRows.len {lo : Nat} {w : World} {p : Option Addr} {n c : Nat} {lns : List Int} (h : WRows lo w (.slice p n c) lns) : n = lns.length := by
  obtain ⟨vals, h1, h2, h3⟩ := h
  obtain ⟨hn, -⟩ := h1.reads valEnc_len
  omega

/-- A number is stored in a row. -/
theorem WRows.set {lo : Nat} {w : World} {v : Value} {lns : List Int} (h : WRows lo w v lns) {b j : Nat} {r : List Int} (hb : Arr intEnc 3 w b r) (hj : j < r.length) (x : Int) : WRows lo (w.setCell ⟨b, j, none⟩ (.int .i64 x)) v lns := by
  obtain ⟨vals, h1, h2, h3⟩ := h
  have hk : Keep (· = b) w (w.setCell ⟨b, j, none⟩ (.int .i64 x)) := (Keep.refl (· = b) w).setCell (p := ⟨b, j, none⟩) (.inl rfl) _
  refine ⟨vals, h1.keep hk (fun g hg hgb => (h1.typed hg).ne hb.typed (by decide) hgb), h2, fun i u hu => ?_⟩
  obtain ⟨b', r', a1, a2, a3, a4, a5⟩ := h3 i u hu
  by_cases hbb : b' = b
  · subst hbb
    have hrr : r'.length = r.length := by
      have h1 : w.heap[b']? = some _ := a3
      have h2 : w.heap[b']? = some _ := hb
      rw [h1] at h2
      simp at h2
      have := congrArg List.length h2
      rw [flat_len intEnc_len, flat_len intEnc_len] at this
      omega
    have hset := a3.setField (size := 1) intEnc_len (x := r'[j]'(by omega)) (List.getElem?_eq_getElem _) (j := 0) (by omega) (v := .int .i64 x) (c := x) rfl
    simp only [Nat.mul_one, Nat.add_zero] at hset
    exact ⟨b', r'.set j x, by simpa using a1, a2, hset, by simpa using a4, by simpa using a5⟩
  · exact ⟨b', r', a1, a2, a3.keep hk hbb, a4, a5⟩

/-- Block x is no box of hits. -/
def NB (w : World) (x : Nat) : Prop := ∃ e, Typed w e x ∧ e ≠ 40

theorem NB.ne {w : World} {x g : Nat} (h : NB w x) (hg : Typed w 40 g) : x ≠ g := by
  obtain ⟨e, h1, h2⟩ := h
  exact h1.ne hg h2

theorem NB.keep {w w' : World} {x : Nat} {S : Nat → Prop} (h : NB w x) (k : Keep S w w') (hs : ¬ S x) : NB w' x := by
  obtain ⟨e, ⟨C, fr, h1⟩, h2⟩ := h
  exact ⟨e, ⟨C, fr, k.obj h1 hs⟩, h2⟩

theorem NB.lt {w : World} {x : Nat} (h : NB w x) : x < w.heap.size := by
  obtain ⟨e, h1, h2⟩ := h
  exact h1.lt

theorem WRows.rows {lo : Nat} {w : World} {p : Option Addr} {n c : Nat} {lns : List Int} (h : WRows lo w (.slice p n c) lns) : ∃ rows : List (List Int), rows.length = n ∧ RowsV (fun x => lo ≤ x ∧ NB w x) w p rows ∧ ∀ r ∈ rows, r.length ≤ 1000 := by
  have hn := h.len
  obtain ⟨vals, h1, h2, h3⟩ := h
  have : ∀ i : Nat, ∃ r : List Int, ∀ u, vals[i]? = some u → ∃ b : Nat, u = Value.slice (some ⟨b, 0, none⟩) r.length r.length ∧ lo ≤ b ∧ Arr intEnc 3 w b r ∧ r.length ≤ 1000 := by
    intro i
    cases hv : vals[i]? with
    | none => exact ⟨[], fun u hu => by cases hu⟩
    | some u =>
      obtain ⟨b, r, a1, a2, a3, a4, a5⟩ := h3 i u hv
      exact ⟨r, fun u' hu' => by cases hu'; exact ⟨b, a1, a2, a3, a5⟩⟩
  obtain ⟨f, hf⟩ := Classical.axiomOfChoice this
  refine ⟨(List.range n).map f, by simp, ?_, ?_⟩
  · obtain ⟨_, _, _, hsl, hfr⟩ := h1.reads valEnc_len
    by_cases h0 : n = 0
    · subst h0; exact .inl rfl
    · obtain ⟨g, rfl, hg⟩ := h1.row valEnc_len (by omega)
      rcases hsl with hsl | ⟨_, _, he, hsl⟩
      · subst hsl; simp at h2; omega
      · cases he
        refine .inr ⟨g, 0, rfl, ⟨hg, _, h1.typed rfl, by decide⟩, ?_⟩
        intro i row hr
        simp only [List.getElem?_map, Option.map_eq_some_iff] at hr
        obtain ⟨i', hi', rfl⟩ := hr
        have hi : i < n := by have := (List.getElem?_eq_some_iff.1 hi').1; simpa using this
        have : i' = i := by rw [List.getElem?_range hi] at hi'; exact (Option.some.inj hi').symm
        subst this
        obtain ⟨u, hu⟩ : ∃ u, vals[i']? = some u := ⟨vals[i']'(by omega), List.getElem?_eq_getElem _⟩
        obtain ⟨b, rfl, a2, a3, a4⟩ := hf i' u hu
        have hcell := hsl i' _ hu 0 _ rfl
        simp at hcell
        exact ⟨some ⟨b, 0, none⟩, (f i').length, by simpa using hcell, .inr ⟨b, 0, rfl, a3.slAt intEnc_len⟩, .inr fun a ha => by cases ha; exact ⟨a2, _, a3.typed, by decide⟩⟩
  · intro r hr
    obtain ⟨i, hi, rfl⟩ := List.mem_map.1 hr
    have hi' : i < n := by simpa using hi
    obtain ⟨b, _, _, _, h5⟩ := hf i _ (List.getElem?_eq_getElem (show i < vals.length by omega))
    exact h5

/-- What is found lies within the shape. -/
theorem shapeStep_le {n : Nat} {out : List Int} {p : Pl} {f : Nat} {x : Int} (h : out[f]? = some x) : ∃ y, (shapeStep n out p)[f]? = some y ∧ x ≤ y := by
  unfold shapeStep
  split
  · by_cases hf : p.func.toNat = f
    · subst hf
      have hl := (List.getElem?_eq_some_iff.1 h).1
      rw [h]
      simp only [Option.getD_some]
      split
      · rename_i hlt
        exact ⟨p.block + 1, by simp [hl], by omega⟩
      · exact ⟨x, by simp [hl], by omega⟩
    · exact ⟨x, by rw [List.getElem?_set_ne hf]; exact h, by omega⟩
  · exact ⟨x, h, by omega⟩

theorem shapeFold_le {n : Nat} : ∀ (ps : List Pl) {out : List Int} {f : Nat} {x : Int}, out[f]? = some x → ∃ y, (ps.foldl (shapeStep n) out)[f]? = some y ∧ x ≤ y
  | [], out, f, x, h => ⟨x, h, by omega⟩
  | p :: r, out, f, x, h => by
    obtain ⟨y, h1, h2⟩ := shapeStep_le (n := n) (p := p) h
    obtain ⟨z, h3, h4⟩ := shapeFold_le r h1
    exact ⟨z, h3, by omega⟩

theorem locate_in {n : Nat} {a : Int} : ∀ (ps : List Pl) (out : List Int), out.length = n → ∀ f b, locate n a ps = (f, b, true) → 0 ≤ f ∧ f < n ∧ 0 ≤ b ∧ b < 256 ∧ ∃ y, (ps.foldl (shapeStep n) out)[f.toNat]? = some y ∧ b < y
  | [], out, hl, f, b, h => by simp [locate] at h
  | p :: r, out, hl, f, b, h => by
    unfold locate at h
    split at h
    · rename_i hk
      simp only [Bool.and_eq_true] at hk
      obtain ⟨pf, pb, pa, pz⟩ := p
      have hkb := known_bd hk.1
      cases h
      refine ⟨hkb.1, hkb.2.1, hkb.2.2.1, hkb.2.2.2, ?_⟩
      have hlt : pf.toNat < out.length := by omega
      have : ∃ y, (shapeStep n out ⟨pf, pb, pa, pz⟩)[pf.toNat]? = some y ∧ pb < y := by
        unfold shapeStep
        rw [hk.1]
        simp only [if_true]
        rw [List.getElem?_eq_getElem hlt]
        simp only [Option.getD_some]
        split
        · exact ⟨pb + 1, by simp [hlt], by omega⟩
        · exact ⟨out[pf.toNat], by simp [hlt], by omega⟩
      obtain ⟨y, h1, h2⟩ := this
      obtain ⟨z, h3, h4⟩ := shapeFold_le (n := n) r h1
      exact ⟨z, h3, by show pb < z; omega⟩
    · exact locate_in r _ (by rw [shapeStep_len]; exact hl) f b h

theorem locate_shape {n : Nat} {a : Int} {ps : List Pl} {f b : Int} (h : locate n a ps = (f, b, true)) : 0 ≤ f ∧ f < n ∧ 0 ≤ b ∧ b < 256 ∧ ∃ y, (shapeL n ps)[f.toNat]? = some y ∧ b < y :=
  locate_in ps _ (by simp) f b h

theorem shape_small {n : Nat} {ps : List Pl} : ∀ x ∈ shapeL n ps, 0 ≤ x ∧ x ≤ 256 := by
  have : ∀ (ps : List Pl) (out : List Int), (∀ x ∈ out, 0 ≤ x ∧ x ≤ 256) → ∀ x ∈ ps.foldl (shapeStep n) out, 0 ≤ x ∧ x ≤ 256 := by
    intro ps
    induction ps with
    | nil => exact fun out h => h
    | cons p r ih =>
      intro out h
      refine ih _ ?_
      unfold shapeStep
      split
      · rename_i hk
        obtain ⟨pf, pb, pa, pz⟩ := p
        have hkb := known_bd hk
        intro x hx
        rcases List.mem_or_eq_of_mem_set hx with hx | rfl
        · exact h x hx
        · simp only
          split
          · omega
          · cases ho : out[pf.toNat]? with
            | none => simp
            | some y => simpa using h y (List.mem_of_getElem? ho)
      · exact h
  exact this ps _ (by intro x hx; rw [List.mem_replicate] at hx; omega)

theorem with_small {l : List Lk} {x : Lk} (hx : 0 ≤ x.count ∧ x.count ≤ 1099511627777) : (∀ y ∈ l, 0 ≤ y.count ∧ y.count ≤ 1099511627777) → ∀ y ∈ withL l x, 0 ≤ y.count ∧ y.count ≤ 1099511627777 := by
  induction l with
  | nil => intro _ y hy; simp [withL] at hy; subst hy; exact hx
  | cons z r ih =>
    intro h y hy
    have hz := h z (by simp)
    have hr := ih (fun y hy => h y (by simp [hy]))
    unfold withL at hy
    split at hy
    · rcases List.mem_cons.1 hy with rfl | hy
      · exact hz
      · exact hr y hy
    · split at hy
      · rcases List.mem_cons.1 hy with rfl | hy
        · exact hx
        · exact h y hy
      · rcases List.mem_cons.1 hy with rfl | hy
        · simp only; omega
        · exact h y (by simp [hy])

theorem with_len : ∀ (l : List Lk) (x : Lk), (withL l x).length ≤ l.length + 1
  | [], x => by simp [withL]
  | z :: r, x => by
    have := with_len r x
    unfold withL
    split
    · simp; omega
    · split <;> simp

end Go.Proofs.Ytlhmajjmhkjcoaa
