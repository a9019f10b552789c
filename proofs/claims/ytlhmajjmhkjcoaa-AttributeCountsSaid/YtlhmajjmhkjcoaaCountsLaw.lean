/-
  Chapter 23: the counts that hits mean: the plain law, and what they look like in memory.
-/
import Derived.Test.YtlhmajjmhkjcoaaRefFits
import Derived.Test.YtlhmajjmhkjcoaaWeak
import Derived.Test.YtlhmajjmhkjcoaaRegR
namespace Go.Proofs.Ytlhmajjmhkjcoaa
open Go.RowKit

/-- The counts of a function. -/
structure FC where
  e : Int
  bl : List Int

def calls (l : List Lk) (f : Nat) : Int := (l.map fun x => if x.callee = (f : Int) then x.count else 0).sum
def callOf (l : List Lk) (p : Int) (f : Nat) : Int := if calls l f * p = 0 then -1 else calls l f * p
def blockOf (p x : Int) : Int := if x = 0 then -1 else x * p
def fcOf (l : List Lk) (p : Int) (f : Nat) (row : List Int) : FC := ⟨callOf l p f, row.map (blockOf p)⟩
def fcsFrom (l : List Lk) (p : Int) : Nat → List (List Int) → List FC
  | _, [] => []
  | f, r :: rs => fcOf l p f r :: fcsFrom l p (f + 1) rs
def overL (l : List Lk) (p : Int) (n : Nat) : Prop := ∃ f, f < n ∧ 1099511627776 < calls l f * p
def overR (rows : List (List Int)) (p : Int) : Prop := ∃ row ∈ rows, ∃ x ∈ row, 1099511627776 < x * p

open Classical in
/-- What both functions answer. -/
noncomputable def countsR (sh : List Int) (h : Hits) (p : Int) : List FC × Int :=
  if p < 1 ∨ 1099511627776 < p then ([], 1) else if fitsB sh h = false then ([], 21) else if allB nonnegB h = false then ([], 5)
  else if overL h.links p h.blocks.length ∨ overR h.blocks p then ([], 5) else (fcsFrom h.links p 0 h.blocks, 0)

theorem calls_nil (f : Nat) : calls [] f = 0 := rfl
theorem calls_snoc (l : List Lk) (x : Lk) (f : Nat) : calls (l ++ [x]) f = calls l f + if x.callee = (f : Int) then x.count else 0 := by
  simp [calls, List.sum_append]
theorem calls_cons (l : List Lk) (x : Lk) (f : Nat) : calls (x :: l) f = (if x.callee = (f : Int) then x.count else 0) + calls l f := by
  simp [calls]
theorem calls_append (l m : List Lk) (f : Nat) : calls (l ++ m) f = calls l f + calls m f := by
  simp [calls, List.sum_append]

theorem calls_nonneg : ∀ {l : List Lk} (f : Nat), (∀ x ∈ l, 0 ≤ x.count) → 0 ≤ calls l f
  | [], f, _ => by simp [calls]
  | x :: r, f, h => by
    rw [calls_cons]
    have h1 := h x (by simp)
    have h2 := calls_nonneg (l := r) f (fun y hy => h y (by simp [hy]))
    split <;> omega

theorem calls_take_le {l : List Lk} (k f : Nat) (h : ∀ x ∈ l, 0 ≤ x.count) : calls (l.take k) f ≤ calls l f := by
  have h1 := calls_append (l.take k) (l.drop k) f
  rw [List.take_append_drop] at h1
  have h2 := calls_nonneg (l := l.drop k) f (fun x hx => h x (List.mem_of_mem_drop hx))
  omega

theorem calls_take_snoc {l : List Lk} {k : Nat} {x : Lk} (hx : l[k]? = some x) (f : Nat) : calls (l.take (k + 1)) f = calls (l.take k) f + if x.callee = (f : Int) then x.count else 0 := by
  rw [List.take_add_one, hx]
  simp only [Option.toList_some]
  exact calls_snoc _ _ _

theorem fcsFrom_len (l : List Lk) (p : Int) : ∀ (f : Nat) (rows : List (List Int)), (fcsFrom l p f rows).length = rows.length
  | _, [] => rfl
  | f, r :: rs => by simp [fcsFrom, fcsFrom_len l p (f + 1) rs]

theorem fcsFrom_get (l : List Lk) (p : Int) : ∀ (f : Nat) (rows : List (List Int)) (k : Nat), (fcsFrom l p f rows)[k]? = (rows[k]?).map (fcOf l p (f + k))
  | f, [], k => by simp [fcsFrom]
  | f, r :: rs, 0 => by simp [fcsFrom]
  | f, r :: rs, k + 1 => by
    simp only [fcsFrom, List.getElem?_cons_succ]
    rw [fcsFrom_get l p (f + 1) rs k]
    congr 2
    omega

theorem fcs_take {l : List Lk} {p : Int} {rows : List (List Int)} {k : Nat} {row : List Int} (hr : rows[k]? = some row) : (fcsFrom l p 0 rows).take (k + 1) = (fcsFrom l p 0 rows).take k ++ [fcOf l p k row] := by
  rw [List.take_add_one, fcsFrom_get, hr]
  simp

theorem err1 {sh : List Int} {h : Hits} {p : Int} (hp : p < 1 ∨ 1099511627776 < p) : countsR sh h p = ([], 1) := by
  simp [countsR, hp]
theorem err2 {sh : List Int} {h : Hits} {p : Int} (hp : 1 ≤ p ∧ p ≤ 1099511627776) (hf : fitsB sh h = false) : countsR sh h p = ([], 21) := by
  have : ¬ (p < 1 ∨ 1099511627776 < p) := by omega
  unfold countsR
  rw [if_neg this, if_pos hf]
theorem err3 {sh : List Int} {h : Hits} {p : Int} (hp : 1 ≤ p ∧ p ≤ 1099511627776) (hf : fitsB sh h = true) (hn : allB nonnegB h = false) : countsR sh h p = ([], 5) := by
  have : ¬ (p < 1 ∨ 1099511627776 < p) := by omega
  unfold countsR
  rw [if_neg this, if_neg (by simp [hf]), if_pos hn]
theorem err4 {sh : List Int} {h : Hits} {p : Int} (hp : 1 ≤ p ∧ p ≤ 1099511627776) (hf : fitsB sh h = true) (hn : allB nonnegB h = true) (ho : overL h.links p h.blocks.length ∨ overR h.blocks p) : countsR sh h p = ([], 5) := by
  have : ¬ (p < 1 ∨ 1099511627776 < p) := by omega
  unfold countsR
  rw [if_neg this, if_neg (by simp [hf]), if_neg (by simp [hn]), if_pos ho]
theorem fine4 {sh : List Int} {h : Hits} {p : Int} (hp : 1 ≤ p ∧ p ≤ 1099511627776) (hf : fitsB sh h = true) (hn : allB nonnegB h = true) (ho : ¬ overL h.links p h.blocks.length) (hr : ¬ overR h.blocks p) : countsR sh h p = (fcsFrom h.links p 0 h.blocks, 0) := by
  have : ¬ (p < 1 ∨ 1099511627776 < p) := by omega
  unfold countsR
  rw [if_neg this, if_neg (by simp [hf]), if_neg (by simp [hn]), if_neg (by intro h; rcases h with h | h; exact ho h; exact hr h)]

/-- What fits: the links' callees, the rows' lengths. -/
theorem fits_links {sh : List Int} {h : Hits} (hf : fitsB sh h = true) : lensI h.blocks = sh ∧ ∀ x ∈ h.links, 0 ≤ x.callee ∧ x.callee < sh.length := by
  simp only [fitsB, Bool.and_eq_true, decide_eq_true_eq] at hf
  refine ⟨hf.1, fun x hx => ?_⟩
  have := linkIn_iff.1 (List.all_eq_true.1 hf.2 x hx)
  omega

theorem nonneg_parts {h : Hits} (hn : allB nonnegB h = true) : (∀ row ∈ h.blocks, ∀ x ∈ row, 0 ≤ x) ∧ (∀ x ∈ h.links, 0 ≤ x.count) := by
  simp only [allB, Bool.and_eq_true] at hn
  refine ⟨fun row hr x hx => ?_, fun x hx => ?_⟩
  · have := List.all_eq_true.1 (List.all_eq_true.1 hn.1.1.1 row hr) x hx
    simpa [nonnegB] using this
  · have := List.all_eq_true.1 hn.1.1.2 x hx
    simpa [nonnegB] using this

/-! ### In memory -/

def edgeEnc (_ : Unit) : List Value := [.int .i64 (-1), .int .i64 (-1)]
theorem edgeEnc_len (u : Unit) : (edgeEnc u).length = 2 := rfl
def ones (n : Nat) : List Unit := List.replicate n ()
theorem ones_len (n : Nat) : (ones n).length = n := by simp [ones]
theorem ones_snoc (n : Nat) : ones n ++ [()] = ones (n + 1) := by simp [ones, List.replicate_succ']

structure FCv where
  e : Int
  bl : List Int
  pb : Option Addr
  cb : Nat
  pe : Option Addr
  ce : Nat
def FCv.fc (f : FCv) : FC := ⟨f.e, f.bl⟩
def FCv.enc (f : FCv) : List Value := [.int .i64 f.e, .slice f.pb f.bl.length f.cb, .slice f.pe f.bl.length f.ce, .slice none 0 0]
theorem FCv.enc_len (f : FCv) : f.enc.length = 4 := rfl

structure CV (w : World) (p : Option Addr) (vals : List FCv) : Prop where
  sl : SliceV FCv.enc 4 w p vals
  bl : ∀ f ∈ vals, SliceV intEnc 1 w f.pb f.bl
  ed : ∀ f ∈ vals, SliceV edgeEnc 2 w f.pe (ones f.bl.length)

theorem CV.still {w w' : World} {p : Option Addr} {vals : List FCv} (h : CV w p vals) (k : Keep None w w') : CV w' p vals :=
  ⟨h.sl.keep k (fun _ _ => id), fun f hf => (h.bl f hf).keep k (fun _ _ => id), fun f hf => (h.ed f hf).keep k (fun _ _ => id)⟩

def CountsPost (R : List FC × Int) (w : World) (e : Ending) (w' : World) : Prop :=
  ∃ (p : Option Addr) (c : Nat) (vals : List FCv), e = .returned (.tuple #[.agg #[.slice p vals.length c], .int .i64 R.2]) ∧ vals.map FCv.fc = R.1 ∧ CV w' p vals ∧ vals.length ≤ 100 ∧ Keep None w w'

/-- Counts of functions that are being made: their parts lie in rows of numbers and of pairs. -/
def FcOk (lo : Nat) (w : World) (f : FCv) : Prop :=
  (f.bl = [] ∨ ∃ b, f.pb = some ⟨b, 0, none⟩ ∧ lo ≤ b ∧ Typed w 3 b ∧ SlAt intEnc 1 w b 0 f.bl) ∧ (f.bl = [] ∨ ∃ b, f.pe = some ⟨b, 0, none⟩ ∧ lo ≤ b ∧ Typed w 89 b ∧ SlAt edgeEnc 2 w b 0 (ones f.bl.length))

theorem typed_keep {w w' : World} {e : TypeId} {b : Nat} {S : Nat → Prop} (h : Typed w e b) (k : Keep S w w') (hb : ¬ S b) : Typed w' e b := by
  obtain ⟨C, fr, h⟩ := h
  exact ⟨C, fr, k.obj h hb⟩

theorem FcOk.keep {lo : Nat} {w w' : World} {f : FCv} {S : Nat → Prop} (h : FcOk lo w f) (k : Keep S w w') (hs : ∀ g, lo ≤ g → g < w.heap.size → Typed w 3 g ∨ Typed w 89 g → ¬ S g) : FcOk lo w' f := by
  obtain ⟨h1, h2⟩ := h
  refine ⟨?_, ?_⟩
  · rcases h1 with h | ⟨b, a1, a2, a3, a4⟩
    · exact .inl h
    · exact .inr ⟨b, a1, a2, typed_keep a3 k (hs b a2 a3.lt (.inl a3)), a4.keep k (hs b a2 a3.lt (.inl a3))⟩
  · rcases h2 with h | ⟨b, a1, a2, a3, a4⟩
    · exact .inl h
    · exact .inr ⟨b, a1, a2, typed_keep a3 k (hs b a2 a3.lt (.inr a3)), a4.keep k (hs b a2 a3.lt (.inr a3))⟩

theorem FcOk.bl {lo : Nat} {w : World} {f : FCv} (h : FcOk lo w f) : SliceV intEnc 1 w f.pb f.bl := by
  rcases h.1 with h | ⟨b, a1, a2, a3, a4⟩
  · exact .inl h
  · exact .inr ⟨b, 0, a1, a4⟩
theorem FcOk.ed {lo : Nat} {w : World} {f : FCv} (h : FcOk lo w f) : SliceV edgeEnc 2 w f.pe (ones f.bl.length) := by
  rcases h.2 with h | ⟨b, a1, a2, a3, a4⟩
  · exact .inl (by rw [h]; rfl)
  · exact .inr ⟨b, 0, a1, a4⟩

theorem FcOk.mk' {lo lo' : Nat} {w : World} {e : Int} {bl : List Int} {pb : Option Addr} {cb : Nat} {pe : Option Addr} {ce : Nat} (hb : Own intEnc 1 3 lo w (.slice pb bl.length cb) bl) (he : Own edgeEnc 2 89 lo w (.slice pe bl.length ce) (ones bl.length)) (hl : lo' ≤ lo) : FcOk lo' w ⟨e, bl, pb, cb, pe, ce⟩ := by
  by_cases h0 : bl = []
  · exact ⟨.inl h0, .inl h0⟩
  · have hpos : 0 < bl.length := by cases bl; exact absurd rfl h0; simp
    refine ⟨?_, ?_⟩
    · obtain ⟨g, rfl, hg⟩ := hb.row intEnc_len hpos
      obtain ⟨_, _, _, hsl, _⟩ := hb.reads intEnc_len
      refine .inr ⟨g, rfl, by omega, hb.typed rfl, ?_⟩
      rcases hsl with h | ⟨_, _, hh, h⟩
      · exact absurd h h0
      · cases hh; exact h
    · obtain ⟨g, rfl, hg⟩ := he.row edgeEnc_len (by rw [ones_len]; exact hpos)
      have hne : ones bl.length ≠ [] := by intro h; have := congrArg List.length h; rw [ones_len] at this; simp at this; exact h0 this
      have he' := he
      rw [show (Value.slice (some ⟨g, 0, none⟩) bl.length ce) = .slice (some ⟨g, 0, none⟩) (ones bl.length).length ce from by rw [ones_len]] at he'
      obtain ⟨_, _, _, hsl, _⟩ := he'.reads edgeEnc_len
      refine .inr ⟨g, rfl, by omega, he.typed rfl, ?_⟩
      rcases hsl with h | ⟨_, _, hh, h⟩
      · exact absurd h hne
      · cases hh; exact h

end Go.Proofs.Ytlhmajjmhkjcoaa
