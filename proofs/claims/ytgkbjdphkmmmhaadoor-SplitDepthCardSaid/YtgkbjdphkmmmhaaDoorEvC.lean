/-
  Runs that the kernel carries out: the operations. No program in sight.
-/
import Derived.Test.YtgkbjdphkmmmhaaDoorEvB
import GoSem.Dispatch
import Derived.Laws.Sem
import Derived.IntWalk
namespace Go.Proofs.YtgkbjdphkmmmhaaDoor.Ev
open Go
noncomputable section

structure PGood (P : Program) : Prop where
  zero : ∀ t i v, P.info? t = some i → i.zero = some v → ∀ m : BMap, VRel m v v

abbrev SV (P : Program) (m : BMap) (s s' : Sem Value) : Prop := SemRel P VRel m s s'

section
variable {P : Program} {m : BMap}

theorem still_typeInfo (t : TypeId) : Still P (fun i => P.info? t = some i) (typeInfo t) := by
  refine .program ?_
  show Still P _ (match P.info? t with | some i => (.pure i : Sem TypeInfo) | .none => .halt (.stuck "no such type"))
  split
  · exact .pure (by assumption)
  · exact .halt _
theorem still_underlying (t : TypeId) : Still P (fun d => P.underlying t = some d) (underlying t) := by
  refine .program ?_
  show Still P _ (match P.underlying t with | some i => (.pure i : Sem TypeDesc) | .none => .halt (.stuck "no such type"))
  split
  · exact .pure (by assumption)
  · exact .halt _
theorem still_sizeOf (t : TypeId) : Still P (fun _ => True) (sizeOf t) := (still_typeInfo t).bind fun _ _ => .pure trivial
theorem still_isAgg (t : TypeId) : Still P (fun _ => True) (isAgg t) := (still_underlying t).bind fun d _ => by
  cases d <;> exact .pure trivial
theorem still_zeroValue (hP : PGood P) (t : TypeId) : Still P (fun v => ∀ m : BMap, VRel m v v) (zeroValue t) := (still_typeInfo t).bind fun i hi => by
  show Still P _ (match i.zero with | some v => (.pure v : Sem Value) | .none => .halt _)
  split
  · rename_i v hv
    exact .pure (hP.zero t i v hi hv)
  · exact .halt _

/-! ### Memory -/
theorem ARel.add {a a' : Addr} (h : ARel m a a') (n : Nat) : ARel m (a.add n) (a'.add n) := by
  obtain ⟨d, h1, hb, h2, h3, h4⟩ := h
  unfold Addr.add
  split
  · exact ⟨d, h1, hb, h2, h3, h4⟩
  · exact ⟨d, h1, hb, by simp only; omega, rfl, rfl⟩
theorem sr_load {a a' : Addr} (h : ARel m a a') : SV P m (load a) (load a') := .load h fun _ _ hv => .pure hv
theorem sr_store {a a' : Addr} {v v' : Value} (h : ARel m a a') (hv : VRel m v v') : SemRel P (fun _ _ _ => True) m (store a v) (store a' v') := .store h hv (.pure trivial)

theorem sr_loadCellsFrom {a a' : Addr} (h : ARel m a a') : ∀ (n i : Nat) {acc acc' : Array Value}, VRels m acc.toList acc'.toList →
    SemRel P (fun m x x' => VRels m x.toList x'.toList) m (loadCellsFrom a i n acc) (loadCellsFrom a' i n acc')
  | 0, i, acc, acc', hc => .pure hc
  | n + 1, i, acc, acc', hc => .load (h.add i) fun v v' hv => sr_loadCellsFrom h n (i + 1) (by
      rw [Array.toList_push, Array.toList_push]
      exact hc.append (.cons hv .nil))
theorem sr_loadCells {a a' : Addr} (h : ARel m a a') (n : Nat) : SemRel P (fun m x x' => VRels m x.toList x'.toList) m (loadCells a n) (loadCells a' n) := sr_loadCellsFrom h n 0 .nil
theorem sr_storeCells {a a' : Addr} (h : ARel m a a') : ∀ {vs vs' : List Value}, VRels m vs vs' → ∀ (i : Nat), SemRel P (fun _ _ _ => True) m (storeCells a vs i) (storeCells a' vs' i)
  | _, _, .nil, i => .pure trivial
  | _, _, .cons hv hs, i => .store (h.add i) hv (sr_storeCells h hs (i + 1))
theorem sr_loadVar (t : TypeId) {a a' : Addr} (h : ARel m a a') : SV P m (loadVar t a) (loadVar t a') := by
  refine (still_isAgg t).next fun b _ => ?_
  cases b with
  | true =>
    refine (still_sizeOf t).next fun n _ => ?_
    exact (sr_loadCells h n).bind fun m' x x' _ hx => .pure (.agg hx)
  | false => exact sr_load h
theorem VRel.cells {v v' : Value} (h : VRel m v v') : VRels m v.cells.toList v'.cells.toList := by
  cases h with
  | agg h => exact h
  | opq h => exact .cons (.opq h) .nil
  | itv h => exact .cons (.itv h) .nil
  | _ => exact .cons (by constructor <;> assumption) .nil
theorem VRel.size {v v' : Value} (h : VRel m v v') : v.cells.size = v'.cells.size := h.cells.length
theorem sr_storeVar (t : TypeId) {a a' : Addr} (h : ARel m a a') {v v' : Value} (hv : VRel m v v') : SemRel P (fun _ _ _ => True) m (storeVar t a v) (storeVar t a' v') := by
  refine (still_sizeOf t).next fun n _ => ?_
  rw [hv.size]
  by_cases hn : v'.cells.size ≠ n
  · rw [if_pos hn, if_pos hn]; exact .halt
  · rw [if_neg hn, if_neg hn]; exact sr_storeCells h hv.cells 0
theorem sr_newRow (e : TypeId) {c c' : List Value} (h : VRels m c c') : SemRel P ARel m (newRow e ⟨c⟩) (newRow e ⟨c'⟩) :=
  .cells (fun _ _ hi => h.get hi) fun m' r r' he hm => .pure ⟨_, hm, rfl, rfl, rfl, rfl⟩
/-- A row of which only the beginning is known. -/
theorem sr_newRowPre (e : TypeId) {c : List Value} {c' : Array Value} (h : ∀ (i : Nat) (v : Value), c[i]? = some v → ∃ v', c'.toList[i]? = some v' ∧ VRel m v v') : SemRel P (fun m a a' => ARel m a a' ∧ a.off = 0 ∧ a.spot = .none) m (newRow e ⟨c⟩) (newRow e c') :=
  .cells h fun m' r r' he hm => .pure ⟨⟨_, hm, rfl, rfl, rfl, rfl⟩, rfl, rfl⟩
theorem sr_newRow' (e : TypeId) {c c' : Array Value} (h : VRels m c.toList c'.toList) : SemRel P ARel m (newRow e c) (newRow e c') := sr_newRow e h
theorem sr_newVar (t : TypeId) {v v' : Value} (h : VRel m v v') : SemRel P ARel m (newVar t v) (newVar t v') := sr_newRow' t h.cells
theorem sr_sureAddr {v v' : Value} (h : VRel m v v') : SemRel P ARel m (Instr.sureAddr v) (Instr.sureAddr v') := by
  cases h with
  | ptr h => exact .pure h
  | _ => exact .halt

theorem sr_loadAt (t : TypeId) {v v' : Value} (h : VRel m v v') : SV P m (Instr.loadAt t v) (Instr.loadAt t v') :=
  (sr_sureAddr h).bind fun m' a a' _ ha => sr_loadVar t ha
theorem sr_storeAt (t : TypeId) {v v' x x' : Value} (h : VRel m v v') (hx : VRel m x x') : SemRel P (fun _ _ _ => True) m (Instr.storeAt t v x) (Instr.storeAt t v' x') :=
  (sr_sureAddr h).bind fun m' a a' he ha => sr_storeVar t ha (hx.mono he)
theorem sr_box (t : TypeId) {v v' : Value} (h : VRel m v v') : SV P m (Instr.box t v) (Instr.box t v') :=
  (sr_newVar t h).bind fun m' a a' _ ha => .pure (.ptr ha)
theorem sr_alloc (hP : PGood P) (t : TypeId) : SV P m (Instr.alloc t true (.tuple #[])) (Instr.alloc t true (.tuple #[])) := by
  refine (still_zeroValue hP t).next fun z hz => ?_
  exact (sr_newVar t (hz m)).bind fun m' a a' _ ha => .pure (.ptr ha)

/-! ### Parts -/
theorem extract_rels : ∀ {cs cs' : List Value}, VRels m cs cs' → ∀ (a b : Nat), VRels m ((⟨cs⟩ : Array Value).extract a b).toList ((⟨cs'⟩ : Array Value).extract a b).toList := by
  intro cs cs' h a b
  refine VRels.of_get ?_ ?_
  · have := h.length; simp [this]
  · intro i v v' h1 h2
    simp only [Array.toList_extract, List.extract_eq_take_drop] at h1 h2
    rw [List.getElem?_take] at h1 h2
    split at h1
    · rw [if_pos (by assumption)] at h2
      rw [List.getElem?_drop] at h1 h2
      obtain ⟨u, h3, h4⟩ := h.get h1
      rw [h2] at h3
      cases h3
      exact h4
    · cases h1
theorem sr_part (t : TypeId) {cs cs' : List Value} (h : VRels m cs cs') (o : Nat) : SV P m (part t ⟨cs⟩ o) (part t ⟨cs'⟩ o) := by
  refine (still_isAgg t).next fun b _ => ?_
  cases b with
  | true => exact (still_sizeOf t).next fun n _ => .pure (.agg (extract_rels h o (o + n)))
  | false =>
    show SV P m (match (⟨cs⟩ : Array Value)[o]? with | some v => (.pure v : Sem Value) | .none => .halt (.stuck "part: no such cell")) (match (⟨cs'⟩ : Array Value)[o]? with | some v => (.pure v : Sem Value) | .none => .halt (.stuck "part: no such cell"))
    cases hc : (⟨cs⟩ : Array Value)[o]? with
    | none => exact .halt
    | some v =>
      obtain ⟨v', h1, h2⟩ := h.get (i := o) (v := v) (by simpa using hc)
      have : (⟨cs'⟩ : Array Value)[o]? = some v' := by simpa using h1
      rw [this]
      exact .pure h2
theorem sr_asAgg {v v' : Value} (h : VRel m v v') : SemRel P (fun m x x' => VRels m x.toList x'.toList) m (asAgg v) (asAgg v') := by
  cases h with
  | agg h => exact .pure h
  | _ => exact .halt
theorem sr_field (t : TypeId) {v v' : Value} (h : VRel m v v') (f : Nat) : SV P m (Instr.field t v f) (Instr.field t v' f) := by
  refine (still_underlying t).next fun d _ => ?_
  cases d with
  | struct fields =>
    show SV P m (match fields[f]? with | some f => (asAgg v).bind fun c => part f.type c f.offset | .none => .halt (.stuck "Field: no such field")) (match fields[f]? with | some f => (asAgg v').bind fun c => part f.type c f.offset | .none => .halt (.stuck "Field: no such field"))
    cases fields[f]? with
    | none => exact .halt
    | some f => exact (sr_asAgg h).bind fun m' x x' _ hx => sr_part f.type hx f.offset
  | _ => exact .halt
theorem sr_extract {v v' : Value} (h : VRel m v v') (i : Nat) : SV P m (Instr.extract v i) (Instr.extract v' i) := by
  cases h with
  | @tuple cs cs' h =>
    show SV P m (match (⟨cs⟩ : Array Value)[i]? with | some v => (.pure v : Sem Value) | .none => .halt (.stuck "Extract: no such component")) (match (⟨cs'⟩ : Array Value)[i]? with | some v => (.pure v : Sem Value) | .none => .halt (.stuck "Extract: no such component"))
    cases hc : (⟨cs⟩ : Array Value)[i]? with
    | none => exact .halt
    | some v =>
      obtain ⟨v', h1, h2⟩ := h.get (i := i) (v := v) (by simpa using hc)
      have : (⟨cs'⟩ : Array Value)[i]? = some v' := by simpa using h1
      rw [this]
      exact .pure h2
  | _ => exact .halt

/-! ### Addresses -/
theorem sr_fieldPlace {a a' : Addr} (h : ARel m a a') (f : Field) : SemRel P ARel m (fieldPlace a f) (fieldPlace a' f) := by
  refine (still_sizeOf f.type).next fun n _ => ?_
  by_cases hn : n = 0
  · rw [if_pos hn]
    refine .stuck fun S => ?_
    obtain ⟨d, h1, hb, h2, h3, h4⟩ := h
    obtain ⟨b, o, sp⟩ := a
    simp only at h3
    subst h3
    rfl
  · rw [if_neg hn, if_neg hn]; exact .pure (h.add _)
theorem sr_fieldAt (s : TypeId) {v v' : Value} (h : VRel m v v') (f : Nat) : SV P m (Instr.fieldAt s v f) (Instr.fieldAt s v' f) := by
  refine (still_underlying s).next fun d _ => ?_
  cases d with
  | struct fields =>
    dsimp only
    generalize fields[f]? = y
    cases y with
    | none => exact .halt
    | some f => exact (sr_sureAddr h).bind fun m' a a' _ ha => (sr_fieldPlace ha f).bind fun m'' b b' _ hb => .pure (.ptr hb)
  | _ => exact .halt

theorem stuck_bounds {α : Type} (k : IntKind) (x y : Int) (code : BoundsCode) (S : St) : arun P (boundsPanic k x y code : Sem α) S = .none := by
  unfold boundsPanic
  split <;> rfl
def tinyOf (d : TypeDesc) : Bool := match d with | .array .. => true | _ => false
def idxTail (t : TypeId) (k : IntKind) (i : Int) (x : Option Addr × Nat × TypeId) : Sem Value :=
  (underlying t).bind fun d =>
    match x.1 with
    | some a =>
      if 0 ≤ i ∧ i < (x.2.1 : Int) then (sizeOf x.2.2).bind fun n => .pure (.pointer (some (a.add (i.toNat * n))))
      else if (decide (x.2.1 ≤ 1) && tinyOf d) = true then unsupported (.noEntry "op/indexAddr.an index out of range at an array of length 0 or 1 (ledger 616)")
      else boundsPanic k i x.2.1 .index
    | .none => boundsPanic k i 0 .index
theorem sr_idxTail (t : TypeId) (k : IntKind) (i : Int) {a a' : Option Addr} {len : Nat} {e : TypeId}
    (h : (a = .none ∧ a' = .none) ∨ ∃ b b', a = some b ∧ a' = some b' ∧ (ARel m b b' ∨ len = 0)) : SV P m (idxTail t k i (a, len, e)) (idxTail t k i (a', len, e)) := by
  refine (still_underlying t).next fun d _ => ?_
  rcases h with ⟨rfl, rfl⟩ | ⟨b, b', rfl, rfl, h⟩
  · exact .stuck fun S => stuck_bounds _ _ _ _ S
  · dsimp only
    by_cases hi : 0 ≤ i ∧ i < (len : Int)
    · rw [if_pos hi, if_pos hi]
      refine (still_sizeOf e).next fun n _ => .pure (.ptr ((h.resolve_right ?_).add _))
      omega
    · rw [if_neg hi, if_neg hi]
      generalize (decide (len ≤ 1) && tinyOf d) = tiny
      cases tiny with
      | true => exact .halt
      | false => exact .stuck fun S => stuck_bounds _ _ _ _ S
theorem sr_indexAt (t : TypeId) {v v' : Value} (h : VRel m v v') (k : IntKind) (i : Int) : SV P m (Instr.indexAt t v (.int k i)) (Instr.indexAt t v' (.int k i)) := by
  refine (still_underlying t).next fun d _ => ?_
  cases d with
  | array len elem =>
    exact (sr_sureAddr h).bind fun m' a a' _ ha => sr_idxTail t k i (.inr ⟨a, a', rfl, rfl, .inl ha⟩)
  | slice elem =>
    cases h with
    | snil => exact sr_idxTail (len := 0) (e := elem) t k i (.inl ⟨rfl, rfl⟩)
    | slice hc ha hf => exact sr_idxTail t k i (.inr ⟨_, _, rfl, rfl, ha.imp id And.left⟩)
    | _ => exact .halt
  | _ => exact .halt

/-! ### An element of an array, or of a string -/
theorem sr_index (t : TypeId) {v v' : Value} (h : VRel m v v') (k : IntKind) (i : Int) : SV P m (Instr.index t v (.int k i)) (Instr.index t v' (.int k i)) := by
  refine (still_underlying t).next fun d _ => ?_
  cases d with
  | array len elem =>
    cases h with
    | agg h =>
      dsimp only
      by_cases hi : 0 ≤ i ∧ i < (len : Int)
      · rw [if_pos hi, if_pos hi]
        exact (still_sizeOf elem).next fun n _ => sr_part elem h _
      · rw [if_neg hi, if_neg hi]
        exact .stuck fun S => stuck_bounds _ _ _ _ S
    | _ => exact .halt
  | string =>
    cases h with
    | string s =>
      dsimp only
      split
      · exact .pure (.int _ _)
      · exact .stuck fun S => stuck_bounds _ _ _ _ S
    | _ => exact .halt
  | _ => exact .halt

/-! ### Building -/
inductive PRels (m : BMap) : List (Nat × Value) → List (Nat × Value) → Prop
  | nil : PRels m [] []
  | cons {n : Nat} {v v' : Value} {ps ps' : List (Nat × Value)} (h : VRel m v v') (hs : PRels m ps ps') : PRels m ((n, v) :: ps) ((n, v') :: ps')
theorem set_rels {cs cs' : List Value} (h : VRels m cs cs') {v v' : Value} (hv : VRel m v v') (i : Nat) : VRels m (cs.set i v) (cs'.set i v') := by
  refine VRels.of_get (by simp [h.length]) fun j x x' h1 h2 => ?_
  rw [List.getElem?_set] at h1 h2
  have hl := h.length
  split at h1
  · rw [if_pos (by assumption)] at h2
    split at h1
    · rw [if_pos (by omega)] at h2
      cases h1; cases h2
      exact hv
    · cases h1
  · rw [if_neg (by assumption)] at h2
    obtain ⟨u, h3, h4⟩ := h.get h1
    rw [h2] at h3
    cases h3
    exact h4
theorem paste_rels (off : Nat) : ∀ {vs vs' : List Value}, VRels m vs vs' → ∀ (k : Nat) {cs cs' : List Value}, VRels m cs cs' →
    VRels m ((vs.zipIdx k).foldl (fun cs (x : Value × Nat) => cs.set (off + x.2) x.1) cs) ((vs'.zipIdx k).foldl (fun cs (x : Value × Nat) => cs.set (off + x.2) x.1) cs')
  | _, _, .nil, k, cs, cs', h => h
  | _, _, .cons a b, k, cs, cs', h => paste_rels off b (k + 1) (set_rels h a _)

/-- A list of values laid over a part of another. -/
def pasteL : Nat → List Value → List Value → List Value
  | _, _, [] => []
  | 0, [], cs => cs
  | 0, v :: vs, _ :: cs => v :: pasteL 0 vs cs
  | n + 1, vs, c :: cs => c :: pasteL n vs cs
theorem pasteL_nil : ∀ (n : Nat) (cs : List Value), pasteL n [] cs = cs
  | 0, [] => rfl
  | 0, _ :: _ => rfl
  | n + 1, [] => rfl
  | n + 1, c :: cs => by rw [pasteL, pasteL_nil n]
theorem pasteL_cons (v : Value) (vs : List Value) : ∀ (n : Nat) (cs : List Value), pasteL n (v :: vs) cs = pasteL (n + 1) vs (cs.set n v)
  | 0, [] => rfl
  | 0, c :: cs => by
    show v :: pasteL 0 vs cs = _
    rfl
  | n + 1, [] => rfl
  | n + 1, c :: cs => by
    show c :: pasteL n (v :: vs) cs = c :: pasteL (n + 1) vs (cs.set n v)
    rw [pasteL_cons]
theorem pasteL_eq (off : Nat) : ∀ (vs : List Value) (k : Nat) (cs : List Value), (vs.zipIdx k).foldl (fun cs (x : Value × Nat) => cs.set (off + x.2) x.1) cs = pasteL (off + k) vs cs
  | [], k, cs => (pasteL_nil _ _).symm
  | v :: vs, k, cs => by
    rw [List.zipIdx_cons, List.foldl_cons, pasteL_eq off vs (k + 1), pasteL_cons]
    rfl
noncomputable def lenL (vs : List Value) : Nat := List.rec 0 (fun _ _ ih => forceN ih fun n => n + 1) vs
theorem lenL_eq : ∀ (vs : List Value), lenL vs = vs.length
  | [] => rfl
  | _ :: vs => by
    show forceN (lenL vs) (fun n => n + 1) = _
    rw [forceN_eq, lenL_eq vs, List.length_cons]
def fillL (place : Nat → Option (Nat × Nat)) (cs : List Value) : List (Nat × Value) → Option (List Value)
  | [] => some cs
  | (i, v) :: rest =>
    match place i with
    | .none => .none
    | some (off, size) =>
      match Nat.beq (lenL v.cells.toList) size with
      | false => .none
      | true => match Nat.ble (off + size) (lenL cs) with
        | false => .none
        | true => fillL place (pasteL off v.cells.toList cs) rest
theorem fill_rels (place : Nat → Option (Nat × Nat)) : ∀ {ps ps' : List (Nat × Value)}, PRels m ps ps' → ∀ {cs : List Value} {cs' : Array Value} {x : List Value}, VRels m cs cs'.toList →
    fillL place cs ps = some x → ∃ x', Instr.fill place cs' ps' = some x' ∧ VRels m x x'.toList
  | _, _, .nil, cs, cs', x, h, he => by cases he; exact ⟨cs', rfl, h⟩
  | _, _, .cons (n := n) (v := v) (v' := v') hv hs, cs, cs', x, h, he => by
    unfold fillL at he
    unfold Instr.fill
    cases hp : place n with
    | none => rw [hp] at he; cases he
    | some p =>
      obtain ⟨off, size⟩ := p
      rw [hp] at he
      dsimp only at he ⊢
      split at he
      · cases he
      · rename_i h3
        split at he
        · cases he
        · rename_i h4
          have h1 := hv.size
          have h2 : cs.length = cs'.size := h.length
          have h3 := Nat.eq_of_beq_eq_true h3
          have h4 := Nat.le_of_ble_eq_true h4
          rw [lenL_eq] at h3 h4
          have h5 : v'.cells.size = size := by rw [← h1]; exact h3
          rw [if_neg (by simp; omega)]
          refine fill_rels place hs ?_ he
          rw [← Array.foldl_toList, Array.toList_zipIdx]
          have key := paste_rels off hv.cells 0 h
          rw [pasteL_eq off v.cells.toList] at key
          have gen : ∀ (l : List (Value × Nat)) (c : Array Value), (l.foldl (fun cs (x : Value × Nat) => cs.setIfInBounds (off + x.2) x.1) c).toList = l.foldl (fun cs (x : Value × Nat) => cs.set (off + x.2) x.1) c.toList := by
            intro l
            induction l with
            | nil => intro c; rfl
            | cons y l ih => intro c; rw [List.foldl_cons, List.foldl_cons, ih, Array.toList_setIfInBounds]
          rw [gen]
          exact key

def mapL {α β : Type} (f : α → Sem β) : List α → Sem (List β)
  | [] => .pure []
  | x :: xs => (f x).bind fun y => (mapL f xs).bind fun ys => .pure (y :: ys)
theorem mapM_mapL {α β : Type} (f : α → Sem β) (xs : Array α) : xs.mapM f = (mapL f xs.toList).bind fun ys => .pure ys.toArray := by
  have h : ∀ l : List α, l.mapM f = mapL f l := by
    intro l
    induction l with
    | nil => rfl
    | cons x l ih => rw [List.mapM_cons, ih]; rfl
  obtain ⟨l⟩ := xs
  rw [List.mapM_toArray, h, map_eq_pure_bind]
  rfl
def placeL : List (Nat × Nat) → Nat → Option (Nat × Nat)
  | [], _ => .none
  | x :: xs, n => match Nat.beq n 0 with
    | true => some x
    | false => forceN (n - 1) fun n => placeL xs n
theorem placeL_eq : ∀ (xs : List (Nat × Nat)) (n : Nat), placeL xs n = xs[n]?
  | [], _ => rfl
  | x :: xs, n => by
    unfold placeL
    simp only [forceN_eq]
    cases n with
    | zero => rfl
    | succ n => exact placeL_eq xs n
def filled (o : Option (List Value)) (f : List Value → Sem Value) : Sem Value :=
  match o with
  | some x => f x
  | .none => .halt (.stuck "")
def aBuild (t : TypeId) (ps : List (Nat × Value)) : Sem Value :=
  (zeroValue t).bind fun z => (underlying t).bind fun
    | .struct fields => (mapL (fun f : Field => (sizeOf f.type).bind fun n => .pure (f.offset, n)) fields.toList).bind fun places => filled (fillL (placeL places) z.cells.toList ps) fun x => .pure (.agg ⟨x⟩)
    | .array _ elem => (sizeOf elem).bind fun n => filled (fillL (fun i => some (i * n, n)) z.cells.toList ps) fun x => .pure (.agg ⟨x⟩)
    | _ => .halt (.stuck "")
theorem still_mapL {α β : Type} (f : α → Sem β) (hf : ∀ a, Still P (fun _ => True) (f a)) : ∀ (xs : List α), Still P (fun _ => True) (mapL f xs)
  | [] => .pure trivial
  | x :: xs => (hf x).bind fun _ _ => (still_mapL f hf xs).bind fun _ _ => .pure trivial
theorem sr_build (hP : PGood P) (t : TypeId) {ps : List (Nat × Value)} {ps' : Array (Nat × Value)} (hp : PRels m ps ps'.toList) : SV P m (aBuild t ps) (Instr.build t ps') := by
  refine (still_zeroValue hP t).next fun z hz => ?_
  refine (still_underlying t).next fun d _ => ?_
  have hzc := (hz m).cells
  cases d with
  | struct fields =>
    have e : (fields.mapM (fun f : Field => do pure (f.offset, ← sizeOf f.type)) : Sem (Array (Nat × Nat))) = (mapL (fun f : Field => (sizeOf f.type).bind fun n => .pure (f.offset, n)) fields.toList).bind fun ys => .pure ys.toArray := mapM_mapL _ _
    dsimp only
    rw [e]
    show SV P m _ (((mapL (fun f : Field => (sizeOf f.type).bind fun n => .pure (f.offset, n)) fields.toList).bind fun ys => .pure ys.toArray).bind _)
    rw [Sem.bind_assoc']
    refine (still_mapL _ (fun f : Field => (still_sizeOf f.type).bind fun _ _ => .pure trivial) _).next fun places _ => ?_
    cases he : fillL (placeL places) z.cells.toList ps with
    | none => exact .halt
    | some x =>
      obtain ⟨x', h1, h2⟩ := fill_rels (placeL places) hp hzc he
      have e2 : (fun x => places.toArray[x]? : Nat → Option (Nat × Nat)) = placeL places := by
        funext n; rw [placeL_eq]; simp
      show SV P m _ (match Instr.fill (fun x => places.toArray[x]?) z.cells ps'.toList with | some cells => _ | _ => _)
      rw [e2, h1]
      exact .pure (.agg h2)
  | array len elem =>
    refine (still_sizeOf elem).next fun n _ => ?_
    cases he : fillL (fun i => some (i * n, n)) z.cells.toList ps with
    | none => exact .halt
    | some x =>
      obtain ⟨x', h1, h2⟩ := fill_rels _ hp hzc he
      rw [h1]
      exact .pure (.agg h2)
  | _ => exact .halt

/-! ### Rows of zeros -/
def repL : Nat → List Value → List Value
  | 0, _ => []
  | n + 1, z => z ++ repL n z
theorem repL_length (z : List Value) : ∀ (n : Nat), (repL n z).length = n * z.length
  | 0 => by simp [repL]
  | n + 1 => by rw [repL, List.length_append, repL_length z n, Nat.add_mul]; omega
theorem repL_get (z : List Value) : ∀ (n i : Nat), i < n * z.length → (repL n z)[i]? = z[i % z.length]?
  | 0, i, h => by simp at h
  | n + 1, i, h => by
    rw [repL]
    rw [Nat.add_mul] at h
    by_cases hi : i < z.length
    · rw [List.getElem?_append_left hi, Nat.mod_eq_of_lt hi]
    · rw [List.getElem?_append_right (by omega), repL_get z n (i - z.length) (by omega), ← Nat.mod_eq_sub_mod (by omega)]
theorem zeros_eq (z : Array Value) (n : Nat) : ((Array.range (n * z.size)).map (z[· % z.size]!)).toList = repL n z.toList := by
  apply List.ext_getElem?
  intro i
  rw [Array.toList_map, Array.toList_range, List.getElem?_map]
  have hl : z.toList.length = z.size := by simp
  by_cases hi : i < n * z.size
  · rw [List.getElem?_range hi, repL_get _ _ _ (by rw [hl]; exact hi), hl]
    have hz : 0 < z.size := by
      rcases Nat.eq_zero_or_pos z.size with h | h
      · rw [h] at hi; simp at hi
      · exact h
    have := Nat.mod_lt i hz
    rw [Option.map_some, getElem!_pos z (i % z.size) this]
    simp [this]
  · rw [List.getElem?_eq_none (by simp; omega), List.getElem?_eq_none (by rw [repL_length, hl]; omega)]
    rfl
theorem repL_flat {z : List Value} (h : z.all flat1 = true) : ∀ n, (repL n z).all flat1 = true
  | 0 => rfl
  | n + 1 => by rw [repL, List.all_append, h, repL_flat h n]; rfl
theorem still_zero (hP : PGood P) (t : TypeId) : Still P (fun v => (∀ m : BMap, VRel m v v) ∧ ∃ i, P.info? t = some i ∧ i.zero = some v) (zeroValue t) := (still_typeInfo t).bind fun i hi => by
  show Still P _ (match i.zero with | some v => (.pure v : Sem Value) | .none => .halt _)
  split
  · rename_i v hv
    exact .pure ⟨hP.zero t i v hi hv, i, hi, hv⟩
  · exact .halt _
theorem zero_right {α α' : Type} {R : BMap → α → α' → Prop} {t : TypeId} {i : TypeInfo} {z : Value} (hi : P.info? t = some i) (hz : i.zero = some z) {s : Sem α} {f' : Value → Sem α'} (h : SemRel P R m s (f' z)) :
    SemRel P R m s ((zeroValue t).bind f') := by
  refine .programR ?_
  show SemRel P R m s (((match P.info? t with | some i => (.pure i : Sem TypeInfo) | .none => .halt (.stuck "no such type")).bind fun i => match i.zero with | some v => (.pure v : Sem Value) | .none => .halt _).bind f')
  rw [hi]
  show SemRel P R m s ((match i.zero with | some v => (.pure v : Sem Value) | .none => .halt _).bind f')
  rw [hz]
  exact h

theorem capRel.refl (n : Nat) : capRel n n := by
  unfold capRel
  by_cases h : n < big
  · exact .inl ⟨h, rfl⟩
  · exact .inr ⟨by omega, by omega⟩
def aBuildSlice (t : TypeId) (len : Nat) (ps : List (Nat × Value)) : Sem Value :=
  (underlying t).bind fun
    | .slice elem => (sizeOf elem).bind fun size => (zeroValue elem).bind fun z =>
      match Nat.ble (len * size) 16777216, Nat.beq z.cells.size size, z.cells.toList.all flat1, Nat.ble len 4294967296 with
      | true, true, true, true => filled (fillL (fun i => some (i * size, size)) (repL len z.cells.toList) ps) fun x => (newRow elem ⟨x⟩).bind fun a => .pure (.slice (some a) len len)
      | _, _, _, _ => .halt (.stuck "")
    | _ => .halt (.stuck "")
theorem sr_buildSlice (hP : PGood P) (t : TypeId) (len : Nat) {ps : List (Nat × Value)} {ps' : Array (Nat × Value)} (hp : PRels m ps ps'.toList) : SV P m (aBuildSlice t len ps) (Instr.buildSlice t len ps') := by
  refine (still_underlying t).next fun d _ => ?_
  cases d with
  | slice elem =>
    refine (still_sizeOf elem).next fun size _ => ?_
    dsimp only
    refine (still_zero hP elem).left fun z hz => ?_
    obtain ⟨hz, i, hi, hzv⟩ := hz
    split
    · rename_i h1 h2 h3 h4
      have h1 := Nat.le_of_ble_eq_true h1
      have h2 := Nat.eq_of_beq_eq_true h2
      have h4 := Nat.le_of_ble_eq_true h4
      rw [if_neg (by omega)]
      cases he : fillL (fun i => some (i * size, size)) (repL len z.cells.toList) ps with
      | none => exact .halt
      | some x =>
        have fin : ∀ (zc : Array Value), ((Array.range (len * size)).map (zc[· % zc.size]!)).toList = repL len z.cells.toList →
            SV P m (filled (some x) fun x => (newRow elem ⟨x⟩).bind fun a => .pure (.slice (some a) len len))
              (match Instr.fill (fun i => some (i * size, size)) ((Array.range (len * size)).map (zc[· % zc.size]!)) ps'.toList with
                | some cells => (do pure (.slice (some (← newRow elem cells)) len len) : Sem Value)
                | _ => stuck "buildSlice: a part of the wrong size") := by
          intro zc hzc
          obtain ⟨x', g1, g2⟩ := fill_rels _ hp (by rw [hzc]; exact flats_rel (m := m) (repL_flat h3 len)) he
          rw [g1]
          exact (sr_newRow' elem g2).bind fun m' a a' _ ha => .pure (.slice (capRel.refl _) (.inl ha) fun hb => absurd hb (by unfold big; omega))
        by_cases h0 : len * size = 0
        · rw [if_pos h0]
          refine fin #[] ?_
          rw [h0]
          have : (repL len z.cells.toList).length = 0 := by rw [repL_length, Array.length_toList, h2]; exact h0
          rw [List.length_eq_zero_iff.1 this, Array.toList_map]
          simp
        · rw [if_neg h0]
          show SV P m _ ((zeroValue elem).bind _)
          refine zero_right hi hzv ?_
          refine fin z.cells ?_
          rw [← h2]
          exact zeros_eq _ _
    · exact .halt
  | _ => exact .halt

/-! ### make of a slice -/
def aMakeSlice (t : TypeId) (l c : Int) : Sem Value :=
  (underlying t).bind fun
    | .slice elem => (typeInfo elem).bind fun info => (sizeOf elem).bind fun size => (zeroValue elem).bind fun z =>
      match decide (0 ≤ l) && decide (l ≤ c) && decide (c ≤ 4294967296) && decide (info.bytes * c ≤ 2 ^ 48), Nat.beq z.cells.size size, z.cells.toList.all flat1 with
      | true, true, true => (newRow elem ⟨repL c.toNat z.cells.toList⟩).bind fun a => .pure (.slice (some a) l.toNat c.toNat)
      | _, _, _ => .halt (.stuck "")
    | _ => .halt (.stuck "")
theorem wrap64_small {n : Int} (h0 : 0 ≤ n) (h1 : n ≤ 4294967296) : IntKind.i64.wrap n = n := IntWalk.i64_in _ (by omega)
theorem still_size (t : TypeId) : Still P (fun n => ∃ i, P.info? t = some i ∧ n = i.size) (sizeOf t) := (still_typeInfo t).bind fun i hi => .pure ⟨i, hi, rfl⟩
theorem size_right {α α' : Type} {R : BMap → α → α' → Prop} {t : TypeId} {i : TypeInfo} (hi : P.info? t = some i) {s : Sem α} {f' : Nat → Sem α'} (h : SemRel P R m s (f' i.size)) :
    SemRel P R m s ((sizeOf t).bind f') := by
  refine .programR ?_
  show SemRel P R m s (((match P.info? t with | some i => (.pure i : Sem TypeInfo) | .none => .halt (.stuck "no such type")).bind fun i => (.pure i.size : Sem Nat)).bind f')
  rw [hi]
  exact h
theorem askRoom_right {α α' : Type} {R : BMap → α → α' → Prop} {n : Nat} {s : Sem α} {f' : Unit → Sem α'} (h : SemRel P R m s (f' ())) : SemRel P R m s ((askRoom n).bind f') := by
  unfold askRoom
  split
  · exact .markR h
  · exact h
theorem sr_makeSlice (hP : PGood P) (t : TypeId) (k k' : IntKind) (l c : Int) : SV P m (aMakeSlice t l c) (Instr.makeSlice t (.int k l) (.int k' c)) := by
  refine (still_underlying t).next fun d _ => ?_
  cases d with
  | slice elem =>
    refine (still_typeInfo elem).next fun info hinfo => ?_
    refine (still_size elem).left fun size hs => ?_
    refine (still_zero hP elem).left fun z hz => ?_
    obtain ⟨hz, i, hi, hzv⟩ := hz
    obtain ⟨i', hi', rfl⟩ := hs
    rw [hinfo] at hi hi'
    cases hi; cases hi'
    split
    · rename_i h1 h2 h3
      simp only [Bool.and_eq_true, decide_eq_true_eq] at h1
      obtain ⟨⟨⟨h1, h4⟩, h5⟩, h6⟩ := h1
      have h2 := Nat.eq_of_beq_eq_true h2
      have wl := wrap64_small h1 (by omega : l ≤ 4294967296)
      have wc := wrap64_small (by omega : 0 ≤ c) h5
      dsimp only
      rw [wl, wc]
      have e1 : (((decide (c < 0) || decide ((info.bytes : Int) * c > 2 ^ 48)) || decide (l < 0)) || decide (l > c)) = false := by
        simp only [Bool.or_eq_false_iff, decide_eq_false_iff_not]
        exact ⟨⟨⟨by omega, by omega⟩, by omega⟩, by omega⟩
      rw [if_neg (by rw [e1]; simp)]
      refine askRoom_right ?_
      refine size_right hinfo ?_
      have fin : ∀ (zc : Array Value), ((Array.range (c.toNat * info.size)).map (zc[· % zc.size]!)).toList = repL c.toNat z.cells.toList →
          SV P m ((newRow elem ⟨repL c.toNat z.cells.toList⟩).bind fun a => .pure (.slice (some a) l.toNat c.toNat)) (do
            let a ← newRow elem ((Array.range (c.toNat * info.size)).map (zc[· % zc.size]!))
            pure (.slice (some a) l.toNat c.toNat)) := by
        intro zc hzc
        refine (sr_newRow' elem ?_).bind fun m' a a' _ ha => .pure (.slice (capRel.refl _) (.inl ha) fun hb => absurd hb (by unfold big; omega))
        rw [hzc]
        exact flats_rel (repL_flat h3 _)
      by_cases h0 : c.toNat * info.size = 0
      · rw [if_pos h0]
        refine fin #[] ?_
        rw [h0]
        have : (repL c.toNat z.cells.toList).length = 0 := by rw [repL_length, Array.length_toList, h2]; exact h0
        rw [List.length_eq_zero_iff.1 this, Array.toList_map]
        simp
      · rw [if_neg h0]
        show SV P m _ ((zeroValue elem).bind _)
        refine zero_right hinfo hzv ?_
        refine fin z.cells ?_
        rw [← h2]
        exact zeros_eq _ _
    · exact .halt
  | _ => exact .halt

/-! ### make of a slice whose length is known by bounds; an element of such a slice -/
def aMakeLoose (t : TypeId) (n : Nat) : Sem Value :=
  (underlying t).bind fun
    | .slice elem => (typeInfo elem).bind fun info => (sizeOf elem).bind fun size => (zeroValue elem).bind fun z =>
      match decide (info.bytes * itvHi n ≤ 2 ^ 48) && Nat.beq (Nat.div n 4294967296) 0, Nat.beq z.cells.size size, z.cells.toList.all flat1 with
      | true, true, true => (newRow elem ⟨repL (itvLo n) z.cells.toList⟩).bind fun a => forceN (a.block + 8192 * itvLo n) fun q => match Nat.blt a.block 8192 with
        | true => .pure (.complex .f32 q 0)
        | false => .halt (.stuck "")
      | _, _, _ => .halt (.stuck "")
    | _ => .halt (.stuck "")
theorem repL_pre (z : List Value) : ∀ {a b : Nat}, a ≤ b → ∀ (i : Nat) (v : Value), (repL a z)[i]? = some v → (repL b z)[i]? = some v
  | 0, b, _, i, v, h => by simp [repL] at h
  | a + 1, 0, hab, i, v, h => by omega
  | a + 1, b + 1, hab, i, v, h => by
    unfold repL at h ⊢
    by_cases hi : i < z.length
    · rw [List.getElem?_append_left hi] at h ⊢
      exact h
    · rw [List.getElem?_append_right (by omega)] at h ⊢
      exact repL_pre z (by omega) _ v h
theorem sr_makeLoose (hP : PGood P) (t : TypeId) {n : Nat} {z : Int} (hz : ItvIs n z) : SV P m (aMakeLoose t n) (Instr.makeSlice t (.int (itvKind n) z) (.int (itvKind n) z)) := by
  refine (still_underlying t).next fun d _ => ?_
  cases d with
  | slice elem =>
    refine (still_typeInfo elem).next fun info hinfo => ?_
    refine (still_size elem).left fun size hs => ?_
    refine (still_zero hP elem).left fun zz hzz => ?_
    obtain ⟨hzz, i, hi, hzv⟩ := hzz
    obtain ⟨i', hi', rfl⟩ := hs
    rw [hinfo] at hi hi'
    cases hi; cases hi'
    split
    · rename_i h1 h2 h3
      simp only [Bool.and_eq_true, decide_eq_true_eq] at h1
      obtain ⟨h1, h4⟩ := h1
      obtain ⟨z1, z2⟩ := hz
      have hlo : itvLo n < 65536 := Nat.mod_lt _ (by decide)
      have hhi : itvHi n < 65536 := Nat.mod_lt _ (by decide)
      have h2 := Nat.eq_of_beq_eq_true h2
      have wz := wrap64_small (by omega : 0 ≤ z) (by omega : z ≤ 4294967296)
      have hbz : (info.bytes : Int) * z ≤ 2 ^ 48 := Int.le_trans (Int.mul_le_mul_of_nonneg_left z2 (by omega)) (by exact_mod_cast h1)
      dsimp only
      rw [wz]
      have e1 : (((decide (z < 0) || decide ((info.bytes : Int) * z > 2 ^ 48)) || decide (z < 0)) || decide (z > z)) = false := by
        simp only [Bool.or_eq_false_iff, decide_eq_false_iff_not]
        exact ⟨⟨⟨by omega, by omega⟩, by omega⟩, by omega⟩
      rw [if_neg (by rw [e1]; simp)]
      refine askRoom_right ?_
      refine size_right hinfo ?_
      have hle : itvLo n ≤ z.toNat := by omega
      have fin : ∀ (zc : Array Value), ((Array.range (z.toNat * info.size)).map (zc[· % zc.size]!)).toList = repL z.toNat zz.cells.toList →
          SV P m ((newRow elem ⟨repL (itvLo n) zz.cells.toList⟩).bind fun a => forceN (a.block + 8192 * itvLo n) fun q => match Nat.blt a.block 8192 with
            | true => .pure (.complex .f32 q 0)
            | false => .halt (.stuck "")) (do
            let a ← newRow elem ((Array.range (z.toNat * info.size)).map (zc[· % zc.size]!))
            pure (.slice (some a) z.toNat z.toNat)) := by
        intro zc hzc
        refine (sr_newRowPre elem ?_).bind fun m' a a' _ ha => ?_
        · intro j v hv
          refine ⟨v, ?_, flat1_rel ?_⟩
          · rw [hzc]
            exact repL_pre _ hle j v hv
          · exact List.all_eq_true.1 (repL_flat h3 (itvLo n)) v (List.mem_of_getElem? hv)
        · rw [forceN_eq]
          split
          · rename_i hb
            have hb := blt_true hb
            obtain ⟨ha, ha1, ha2⟩ := ha
            refine .pure (.loose ⟨?_, ?_⟩)
            · have e : Nat.mod (a.block + 8192 * itvLo n) 8192 = a.block := by
                show (a.block + 8192 * itvLo n) % 8192 = _
                omega
              rw [e]
              obtain ⟨p, p1, p2, p3, p4, p5⟩ := ha
              exact ⟨p, p1, p2, by rw [p3, ha1], rfl, p5⟩
            · show (a.block + 8192 * itvLo n) / 8192 ≤ _
              omega
          · exact .halt
      by_cases h0 : z.toNat * info.size = 0
      · rw [if_pos h0]
        refine fin #[] ?_
        rw [h0]
        have : (repL z.toNat zz.cells.toList).length = 0 := by rw [repL_length, Array.length_toList, h2]; exact h0
        rw [List.length_eq_zero_iff.1 this, Array.toList_map]
        simp
      · rw [if_neg h0]
        show SV P m _ ((zeroValue elem).bind _)
        refine zero_right hinfo hzv ?_
        refine fin zz.cells ?_
        rw [← h2]
        exact zeros_eq _ _
    · exact .halt
  | _ => exact .halt
theorem srun_underlying {t : TypeId} {d : TypeDesc} (h : P.underlying t = some d) : srun P (underlying t) = some d := by
  show srun P (match P.underlying t with | some i => (.pure i : Sem TypeDesc) | .none => .halt _) = _
  rw [h]; rfl
def aIdxLoose (t : TypeId) (n : Nat) (i : Int) : Sem Value :=
  (underlying t).bind fun
    | .slice elem => match decide (0 ≤ i) && decide (i < ((Nat.div n 8192 : Nat) : Int)) with
      | true => (sizeOf elem).bind fun size => forceN (i.toNat * size) fun o => forceN (Nat.mod n 8192) fun b => .pure (.pointer (some ⟨b, o, .none⟩))
      | false => .halt (.stuck "")
    | _ => .halt (.stuck "")
theorem sr_idxLoose (t : TypeId) {n : Nat} {a' : Addr} {n' c' : Nat} (h : LooseIs m n a' n') (k : IntKind) (i : Int) : SV P m (aIdxLoose t n i) (Instr.indexAt t (.slice (some a') n' c') (.int k i)) := by
  refine (still_underlying t).next fun d hd => ?_
  cases d with
  | slice elem =>
    dsimp only
    split
    · rename_i hc
      simp only [Bool.and_eq_true, decide_eq_true_eq] at hc
      obtain ⟨⟨p, p1, p2, p3, p4, p5⟩, h2⟩ := h
      show SV P m _ (idxTail t k i (some a', n', elem))
      refine srun_right (srun_underlying hd) ?_
      dsimp only
      rw [if_pos (by omega)]
      refine (still_sizeOf elem).next fun sz _ => ?_
      rw [forceN_eq, forceN_eq]
      refine .pure (.ptr ?_)
      have h0 : ARel m ⟨Nat.mod n 8192, 0, .none⟩ a' := ⟨p, p1, p2, p3, p4, p5⟩
      have h1 := h0.add (i.toNat * sz)
      have e : (⟨Nat.mod n 8192, 0, .none⟩ : Addr).add (i.toNat * sz) = ⟨Nat.mod n 8192, i.toNat * sz, .none⟩ := by
        unfold Addr.add
        split
        · rename_i h; rw [h]
        · simp
      rw [e] at h1
      exact h1
    · exact .halt
  | _ => exact .halt
end

end
end Go.Proofs.YtgkbjdphkmmmhaaDoor.Ev
