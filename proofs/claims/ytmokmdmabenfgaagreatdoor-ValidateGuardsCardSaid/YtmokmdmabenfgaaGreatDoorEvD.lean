/-
  Runs that the kernel carries out: maps, copies, lengths, slices. No program in sight.
-/
import Derived.Test.YtmokmdmabenfgaaGreatDoorEvC
namespace Go.Proofs.YtmokmdmabenfgaaGreatDoor.Ev
open Go

section
variable {P : Program} {m : BMap}

/-! ### len, copy -/
theorem sr_len (t ty : TypeId) (ts : List TypeId) {v v' : Value} (h : VRel m v v') : SV P m (Builtin.len_ ⟨t :: ts⟩ ty #[v]) (Builtin.len_ ⟨t :: ts⟩ ty #[v']) := by
  refine (still_underlying t).next fun d _ => ?_
  cases d with
  | string => cases h with
    | string s => exact .pure (.int _ _)
    | _ => exact .halt
  | array n e => exact .pure (.int _ _)
  | pointer a =>
    refine (still_underlying a).next fun d' _ => ?_
    cases d' with
    | array n e => exact .pure (.int _ _)
    | _ => exact .halt
  | slice e => cases h with
    | snil => exact .pure (.int _ _)
    | slice hc ha hf => exact .pure (.int _ _)
    | _ => exact .halt
  | map a b => cases h with
    | mnil => exact .pure (.int _ _)
    | map hr hp =>
      refine .getMap hr hp fun es es' cl cl' hE => ?_
      have hl : es.length = es'.length := by
        clear hr hp
        induction hE with
        | nil => rfl
        | cons _ _ _ ih => simp [ih]
      show SV P m (.pure (.int .i64 es.length)) (.pure (.int .i64 es'.length))
      rw [hl]
      exact .pure (.int _ _)
    | _ => exact .halt
  | chan a b => cases h with
    | cnil => exact .pure (.int _ _)
    | _ => exact .halt
  | _ => exact .halt

theorem sr_lenOf {v v' : Value} (h : VRel m v v') : SemRel P (fun _ a b => a = b ∧ (∀ a k c, v = .slice a k c → b = k)) m (Builtin.lenOf v) (Builtin.lenOf v') := by
  cases h with
  | snil => exact .pure ⟨rfl, fun a k c h => by cases h; rfl⟩
  | slice hc ha hf => exact .pure ⟨rfl, fun a k c h => by cases h; rfl⟩
  | string s => exact .pure ⟨rfl, fun a k c h => by cases h⟩
  | _ => exact .halt
theorem sr_firstCells (size n : Nat) {v v' : Value} (h : VRel m v v') (hn : ∀ a k c, v = .slice a k c → n ≤ k) : SemRel P (fun m x x' => VRels m x.toList x'.toList) m (Builtin.firstCells size n v) (Builtin.firstCells size n v') := by
  cases h with
  | snil => exact .pure .nil
  | slice hc ha hf =>
    rcases ha with ha | ⟨h0, _⟩
    · exact sr_loadCells ha _
    · have := hn _ _ _ rfl
      have e : n * size = 0 := by rw [show n = 0 by omega]; simp
      show SemRel P _ m (loadCells _ (n * size)) (loadCells _ (n * size))
      rw [e]
      exact .pure .nil
  | string s =>
    refine .pure ?_
    refine flats_rel ?_
    rw [Array.toList_map, List.all_map, List.all_eq_true]
    intro b _
    rfl
  | _ => exact .halt
theorem sr_copy (t ty : TypeId) (ts : List TypeId) {d d' s s' : Value} (hd : VRel m d d') (hs : VRel m s s') : SV P m (Builtin.copy_ ⟨t :: ts⟩ ty #[d, s]) (Builtin.copy_ ⟨t :: ts⟩ ty #[d', s']) := by
  refine (still_underlying t).next fun u _ => ?_
  cases u with
  | slice elem =>
    have main : ∀ (base base' : Option Addr) (dLen : Nat), ((base = .none ∧ base' = .none) ∨ ∃ b b', base = some b ∧ base' = some b' ∧ (ARel m b b' ∨ dLen = 0)) →
        SV P m (do let n := Nat.min (← Builtin.lenOf s) dLen
                   let cells ← Builtin.firstCells (← sizeOf elem) n s
                   if let some a := base then storeCells a cells.toList
                   pure (goInt n)) (do
                   let n := Nat.min (← Builtin.lenOf s') dLen
                   let cells ← Builtin.firstCells (← sizeOf elem) n s'
                   if let some a := base' then storeCells a cells.toList
                   pure (goInt n)) := by
      intro base base' dLen hb
      refine (sr_lenOf hs).bind ?_
      rintro m1 k _ he1 ⟨rfl, hk⟩
      refine (still_sizeOf elem).next fun size _ => ?_
      refine SemRel.bind (R := fun m x x' => VRels m x.toList x'.toList ∧ (dLen = 0 → x.toList = [] ∧ x'.toList = [])) ?_ ?_
      · by_cases h0 : dLen = 0
        · subst h0
          have hz : Nat.min k 0 = 0 := Nat.min_zero _
          rw [hz]
          cases hs with
          | snil => exact .pure ⟨.nil, fun _ => ⟨rfl, rfl⟩⟩
          | slice => 
            show SemRel P _ m1 (loadCells _ (0 * size)) (loadCells _ (0 * size))
            rw [Nat.zero_mul]
            exact .pure ⟨.nil, fun _ => ⟨rfl, rfl⟩⟩
          | string str =>
            have e : (str.extract 0 0).data.map (fun b => Value.int .u8 b.toNat) = #[] := by
              apply Array.eq_empty_of_size_eq_zero
              rw [Array.size_map]
              show (str.extract 0 0).size = 0
              simp
            show SemRel P _ m1 (.pure _) (.pure _)
            rw [e]
            exact .pure ⟨.nil, fun _ => ⟨rfl, rfl⟩⟩
          | _ => exact .halt
        · exact (sr_firstCells size _ (hs.mono he1) (fun a k' c h => by have := hk a k' c h; subst this; exact Nat.min_le_left _ _)).mono fun m' a a' _ h => ⟨h, fun h => absurd h h0⟩
      · rintro m2 x x' he2 ⟨hx, hx0⟩
        rcases hb with ⟨rfl, rfl⟩ | ⟨b, b', rfl, rfl, hb⟩
        · exact .pure (.int _ _)
        · rcases hb with hb | h0
          · exact (sr_storeCells ((hb.mono he1).mono he2) hx 0).bind fun _ _ _ _ _ => .pure (.int _ _)
          · obtain ⟨e1, e2⟩ := hx0 h0
            dsimp only
            rw [e1, e2]
            exact .pure (.int _ _)
    cases hd with
    | snil => exact main .none .none 0 (.inl ⟨rfl, rfl⟩)
    | slice hc ha hf => exact main _ _ _ (.inr ⟨_, _, rfl, rfl, ha.imp id And.left⟩)
    | _ => exact .halt
  | _ => exact .halt

/-! ### Maps -/
def strip (es : List MapEntry) : List MapEntry := es.map fun e => ⟨e.key, .bool false, 0⟩

/-- 'clear' of a slice. -/
def aClear (t : TypeId) (a : Option Addr) (n : Nat) : Sem Value :=
  (underlying t).bind fun d => match a, n with
    | .none, _ => .pure (.tuple ⟨[]⟩)
    | some _, 0 => .pure (.tuple ⟨[]⟩)
    | some a, Nat.succ n => match d with
      | .slice elem => (zeroValue elem).bind fun z => match z.cells.toList.all flat1 with
        | true => (storeCells a (repL (Nat.succ n) z.cells.toList)).bind fun _ => .pure (.tuple ⟨[]⟩)
        | false => .halt (.stuck "")
      | _ => .halt (.stuck "")
theorem sr_clear (hP : PGood P) (t ty : TypeId) {a : Option Addr} {n c : Nat} {x' : Value} (h : VRel m (.slice a n c) x') : SV P m (aClear t a n) (Builtin.clear_ ⟨[t]⟩ ty #[x']) := by
  refine (still_underlying t).next fun d _ => ?_
  have fin : ∀ m, VRel m (.tuple ⟨[]⟩) (.tuple ⟨[]⟩) := fun m => .tuple .nil
  cases h with
  | snil =>
    cases d <;> exact .pure (fin _)
  | slice hc ha hf =>
    cases n with
    | zero => cases d <;> exact .pure (fin _)
    | succ n =>
      have ha := ha.resolve_right fun h => by omega
      cases d with
      | slice elem =>
        refine (still_zeroValue hP elem).next fun z hz => ?_
        split
        · rename_i hfl
          show SV P m _ ((storeCells _ (Builtin.zeroCells z.cells (n + 1)).toList).bind _)
          rw [show (Builtin.zeroCells z.cells (n + 1)).toList = repL (n + 1) z.cells.toList from zeros_eq _ _]
          exact (sr_storeCells ha (flats_rel (repL_flat hfl _)) 0).bind fun _ _ _ _ _ => .pure (fin _)
        · exact .halt
      | _ => exact .halt

theorem strip_rel {es es' : List MapEntry} (h : ERels m es es') : strip es' = strip es := by
  induction h with
  | nil => rfl
  | cons hk _ _ ih => unfold strip at *; rw [List.map_cons, List.map_cons, ih, hk]
theorem ERels.get {es es' : List MapEntry} (h : ERels m es es') : ∀ {i : Nat} {e : MapEntry}, es[i]? = some e → ∃ e', es'[i]? = some e' ∧ e'.key = e.key ∧ VRel m e.val e'.val := by
  induction h with
  | nil => intro i e h; simp at h
  | @cons e0 e0' es es' hk hv hs ih =>
    intro i e h
    cases i with
    | zero => simp at h; subst h; exact ⟨e0', rfl, hk, hv⟩
    | succ i => simp at h; exact ih h
theorem ERels.length {es es' : List MapEntry} (h : ERels m es es') : es.length = es'.length := by
  induction h with
  | nil => rfl
  | cons _ _ _ ih => simp [ih]

def valAt (es : List MapEntry) (i : Nat) : Value := ((es[i]?).map (·.val)).getD undef
theorem valAt_succ (e : MapEntry) (es : List MapEntry) {i j : Nat} (h : i + 1 ≤ j) : valAt (e :: es) (j - i) = valAt es (j - (i + 1)) := by
  unfold valAt
  rw [show j - i = (j - (i + 1)) + 1 by omega]
  rfl
theorem findNow_strip (d : TypeDesc) (k : Value) : ∀ (es : List MapEntry) (i : Nat) {r : Option (Nat × Value)}, Instr.findNow d k (strip es) i = some r →
    Instr.findNow d k es i = some (r.map fun p => (p.1, valAt es (p.1 - i))) ∧ ∀ p, r = some p → i ≤ p.1
  | [], i, r, h => by
    simp only [strip, List.map_nil, Instr.findNow] at h ⊢
    cases h
    exact ⟨rfl, fun p h => by cases h⟩
  | e :: es, i, r, h => by
    simp only [strip, List.map_cons, Instr.findNow] at h ⊢
    split at h
    · rename_i hs
      cases h
      exact ⟨by simp [valAt], fun p h => by cases h; exact Nat.le_refl _⟩
    · rename_i hs
      obtain ⟨h1, h2⟩ := findNow_strip d k es (i + 1) h
      refine ⟨?_, fun p hp => by have := h2 p hp; omega⟩
      rw [h1]
      cases r with
      | none => rfl
      | some p => simp only [Option.map_some]; rw [valAt_succ e es (h2 p rfl)]
    · cases h
theorem findNow_none (d : TypeDesc) (k : Value) : ∀ (es : List MapEntry) (i : Nat), Instr.findNow d k (strip es) i = .none → Instr.findNow d k es i = .none
  | [], i, h => h
  | e :: es, i, h => by
    simp only [strip, List.map_cons, Instr.findNow] at h ⊢
    split at h
    · cases h
    · exact findNow_none d k es (i + 1) h
    · rfl
theorem findAsking_strip (kt : TypeId) (k : Value) : ∀ (es : List MapEntry) (i : Nat) {r : Option (Nat × Value)}, srun P (Instr.findAsking kt k (strip es) i) = some r →
    srun P (Instr.findAsking kt k es i) = some (r.map fun p => (p.1, valAt es (p.1 - i))) ∧ ∀ p, r = some p → i ≤ p.1
  | [], i, r, h => by
    simp only [strip, List.map_nil, Instr.findAsking] at h ⊢
    cases h
    exact ⟨rfl, fun p h => by cases h⟩
  | e :: es, i, r, h => by
    simp only [strip, List.map_cons, Instr.findAsking] at h ⊢
    have b1 : ∀ (f : Bool → Sem (Option (Nat × Value))), srun P ((Op.equal kt k e.key) >>= f) = (srun P (Op.equal kt k e.key)).bind fun a => srun P (f a) := fun f => srun_bind f _
    rw [b1] at h ⊢
    cases he : srun P (Op.equal kt k e.key) with
    | none => rw [he] at h; cases h
    | some b =>
      rw [he] at h
      simp only [Option.bind_some] at h ⊢
      cases b with
      | true =>
        simp only [if_true] at h ⊢
        have : some (some (i, Value.bool false)) = some r := h
        cases this
        exact ⟨by show some _ = _; simp [valAt], fun p h => by cases h; exact Nat.le_refl _⟩
      | false =>
        simp only [Bool.false_eq_true, if_false] at h ⊢
        obtain ⟨h1, h2⟩ := findAsking_strip kt k es (i + 1) h
        refine ⟨?_, fun p hp => by have := h2 p hp; omega⟩
        rw [h1]
        cases r with
        | none => rfl
        | some p => simp only [Option.map_some]; rw [valAt_succ e es (h2 p rfl)]

/-- Where a key lies, by the keys alone. -/
theorem find_strip (kt : TypeId) (k : Value) (es : List MapEntry) {r : Option (Nat × Value)} (h : srun P (Instr.findKey kt k (strip es)) = some r) :
    srun P (Instr.findKey kt k es) = some (r.map fun p => (p.1, valAt es p.1)) := by
  unfold Instr.findKey at h ⊢
  have b1 : ∀ (f : TypeDesc → Sem (Option (Nat × Value))), srun P (underlying kt >>= f) = (srun P (underlying kt)).bind fun a => srun P (f a) := fun f => srun_bind f _
  rw [b1] at h ⊢
  cases hu : srun P (underlying kt) with
  | none => rw [hu] at h; cases h
  | some d =>
    rw [hu] at h
    simp only [Option.bind_some] at h ⊢
    cases hn : Instr.findNow d k (strip es) 0 with
    | none =>
      rw [hn] at h
      rw [findNow_none d k es 0 hn]
      exact (findAsking_strip kt k es 0 h).1
    | some q =>
      rw [hn] at h
      have : some q = some r := h
      cases this
      rw [(findNow_strip d k es 0 hn).1]
      rfl

def aLookup (P : Program) (t : TypeId) (x ix : Value) (ok : Bool) : Sem Value :=
  (underlying t).bind fun
    | .map key elem =>
      let go (es : List MapEntry) : Sem Value :=
        match srun P (Instr.checkKey es.isEmpty 10000 key ix), srun P (Instr.findKey key ix (strip es)) with
        | some _, some (some p) => .pure (if ok then .tuple #[valAt es p.1, .bool true] else valAt es p.1)
        | some _, some .none => (zeroValue elem).bind fun z => .pure (if ok then .tuple #[z, .bool false] else z)
        | _, _ => .halt (.stuck "")
      match x with
      | .map .none => go []
      | .map (some r) => .getObj r fun o => match o with | .map ⟨es⟩ _ => go es | _ => .halt (.stuck "")
      | _ => .halt (.stuck "")
    | _ => .halt (.stuck "")
theorem sr_lookup (hP : PGood P) (t : TypeId) {x x' : Value} (h : VRel m x x') (ix : Value) (ok : Bool) : SV P m (aLookup P t x ix ok) (Instr.lookup t x' ix ok) := by
  refine (still_underlying t).next fun d _ => ?_
  cases d with
  | map key elem =>
    have main : ∀ (es : List MapEntry) (es' : Array MapEntry), ERels m es es'.toList → SV P m
        (match srun P (Instr.checkKey es.isEmpty 10000 key ix), srun P (Instr.findKey key ix (strip es)) with
        | some _, some (some p) => .pure (if ok then .tuple #[valAt es p.1, .bool true] else valAt es p.1)
        | some _, some .none => (zeroValue elem).bind fun z => .pure (if ok then .tuple #[z, .bool false] else z)
        | _, _ => .halt (.stuck ""))
        (do
          Instr.checkKey es'.isEmpty 10000 key ix
          let (v, ok') ← match ← Instr.findKey key ix es'.toList with
            | some (_, v) => pure (v, true)
            | none => pure (← zeroValue elem, false)
          pure (if ok then .tuple #[v, .bool ok'] else v)) := by
      intro es es' hE
      have hemp : es'.isEmpty = es.isEmpty := by
        have := hE.length
        obtain ⟨es'⟩ := es'
        cases es with
        | nil => cases es' with
          | nil => rfl
          | cons _ _ => simp at this
        | cons e es => cases es' with
          | nil => simp at this
          | cons _ _ => rfl
      split
      · rename_i u p hc hf
        rw [← hemp] at hc
        rw [← strip_rel hE] at hf
        refine srun_right hc ?_
        refine srun_right (find_strip key ix _ hf) ?_
        have hv : VRel m (valAt es p.1) (valAt es'.toList p.1) := by
          unfold valAt
          cases he : es[p.1]? with
          | none =>
            have : es'.toList[p.1]? = .none := by
              rw [List.getElem?_eq_none_iff] at he ⊢
              rw [← hE.length]; exact he
            rw [this]
            exact .tuple .nil
          | some e =>
            obtain ⟨e', h1, _, h3⟩ := hE.get he
            rw [h1]
            exact h3
        cases ok with
        | true => exact .pure (.tuple (.cons hv (.cons (.bool _) .nil)))
        | false => exact .pure hv
      · rename_i u hc hf
        rw [← hemp] at hc
        rw [← strip_rel hE] at hf
        refine srun_right hc ?_
        refine srun_right (find_strip key ix _ hf) ?_
        refine (still_zero hP elem).left fun z hz => ?_
        obtain ⟨hz, i, hi, hzv⟩ := hz
        show SV P m _ ((zeroValue elem).bind _)
        refine zero_right hi hzv ?_
        cases ok with
        | true => exact .pure (.tuple (.cons (hz _) (.cons (.bool _) .nil)))
        | false => exact .pure (hz _)
      · exact .halt
    cases h with
    | mnil => exact main [] #[] .nil
    | map hr hp => exact .getMap hr hp fun es es' cl cl' hE => main es ⟨es'⟩ hE
    | _ => exact .halt
  | _ => exact .halt

def aUpdate (P : Program) (t : TypeId) (x ix v : Value) : Sem Unit :=
  (underlying t).bind fun
    | .map key _ =>
      match x with
      | .map (some r) => .getObj r fun o => match o with
        | .map ⟨es⟩ _ =>
          match srun P (Instr.checkKey false 10000 key ix), srun P (Instr.findKey key ix (strip es)) with
          | some _, some (some p) => match srun P (Instr.keyThatStays (((es[p.1]?).map (·.key)).getD ix) ix) with
            | some k => .setObj r (.map ⟨es.modify p.1 fun e => { e with key := k, val := v }⟩ 0) (.pure ())
            | .none => .halt (.stuck "")
          | some _, some .none => .setObj r (.map ⟨es ++ [⟨ix, v, 0⟩]⟩ 0) (.pure ())
          | _, _ => .halt (.stuck "")
        | _ => .halt (.stuck "")
      | _ => .halt (.stuck "")
    | _ => .halt (.stuck "")
theorem ERels.modify {es es' : List MapEntry} (h : ERels m es es') {v v' : Value} (hv : VRel m v v') (k : Value) : ∀ (i : Nat), ERels m (es.modify i fun e => { e with key := k, val := v }) (es'.modify i fun e => { e with key := k, val := v' }) := by
  induction h with
  | nil => intro i; cases i <;> exact .nil
  | cons hk hw hs ih =>
    intro i
    cases i with
    | zero => exact .cons rfl hv hs
    | succ i => exact .cons hk hw (ih i)
theorem ERels.snoc {es es' : List MapEntry} (h : ERels m es es') {e e' : MapEntry} (hk : e'.key = e.key) (hv : VRel m e.val e'.val) : ERels m (es ++ [e]) (es' ++ [e']) := by
  induction h with
  | nil => exact .cons hk hv .nil
  | cons a b c ih => exact .cons a b ih
theorem sr_update (t : TypeId) {x x' v v' : Value} (h : VRel m x x') (ix : Value) (hv : VRel m v v') : SemRel P (fun _ _ _ => True) m (aUpdate P t x ix v) (Instr.mapUpdate t x' ix v') := by
  refine (still_underlying t).next fun d _ => ?_
  cases d with
  | map key elem =>
    cases h with
    | map hr hp =>
      refine .getMap hr hp fun es es' cl cl' hE => ?_
      dsimp only
      split
      · rename_i u p hc hf
        rw [← strip_rel hE] at hf
        split
        · rename_i k hks
          show SemRel P _ m _ ((Instr.checkKey false 10000 key ix).bind _)
          refine srun_right hc ?_
          refine srun_right (find_strip key ix _ hf) ?_
          have hkey : (((es'[p.1]?).map (·.key)).getD ix) = (((es[p.1]?).map (·.key)).getD ix) := by
            cases he : es[p.1]? with
            | none =>
              have : es'[p.1]? = .none := by
                rw [List.getElem?_eq_none_iff] at he ⊢
                rw [← hE.length]; exact he
              rw [this]
            | some e =>
              obtain ⟨e', h1, h2, _⟩ := hE.get he
              rw [h1]
              simp [h2]
          dsimp only [Option.map_some]
          refine srun_right (a := k) ?_ ?_
          · rw [← hks, ← hkey]; simp
          · have : (Array.modify ⟨es'⟩ p.1 fun e => { e with key := k, val := v' }) = ⟨es'.modify p.1 fun e => { e with key := k, val := v' }⟩ := by
              simp
            rw [this]
            exact .setMap hr hp (hE.modify hv k p.1) (.pure trivial)
        · exact .halt
      · rename_i u hc hf
        rw [← strip_rel hE] at hf
        show SemRel P _ m _ ((Instr.checkKey false 10000 key ix).bind _)
        refine srun_right hc ?_
        refine srun_right (find_strip key ix _ hf) ?_
        have e : (Array.push ⟨es'⟩ ⟨ix, v', cl'⟩ : Array MapEntry) = ⟨es' ++ [⟨ix, v', cl'⟩]⟩ := by simp
        dsimp only [Option.map_none]
        rw [e]
        exact .setMap hr hp (hE.snoc (e := ⟨ix, v, 0⟩) (e' := ⟨ix, v', cl'⟩) rfl hv) (.pure trivial)
      · exact .halt
    | _ => exact .halt
  | _ => exact .halt
theorem sr_makeMap (t : TypeId) : SV P m (Instr.makeMap t .none) (Instr.makeMap t .none) :=
  .newMap .nil fun m' r r' p he hm hp => .pure (.map hm hp)

/-! ### Slices of slices -/
theorem arun_none {α : Type} (w : String) (S : St) : arun P (.halt (.stuck w) : Sem α) S = .none := rfl
def low (c : Nat) : Nat := match Nat.blt c big with | true => c | false => c - big
theorem low_le {c c' : Nat} (h : capRel c c') : low c ≤ c' := by
  unfold low
  rcases h with ⟨h1, h2⟩ | ⟨h1, h2⟩
  · rw [show Nat.blt c big = true from Nat.ble_eq_true_of_le h1]; exact Nat.le_of_eq h2.symm
  · have : Nat.blt c big = false := by
      cases hc : Nat.blt c big
      · rfl
      · have := Nat.le_of_ble_eq_true hc; omega
    rw [this]; dsimp only; omega
theorem big_le {c : Nat} (h : Nat.blt c big = false) : big ≤ c := by
  rcases Nat.lt_or_ge c big with hl | hl
  · rw [show Nat.blt c big = true from Nat.ble_eq_true_of_le hl] at h; cases h
  · exact hl
/-- x[l:h]; a capacity from 'big' on is at least what stands over it. -/
def aSlice (P : Program) (elem : TypeId) (size : Nat) (a : Option Addr) (c l h : Nat) (S : St) : Option (Value × St) :=
  match Nat.ble l h && Nat.ble h (low c) with
  | false => .none
  | true =>
    match Nat.blt c big with
    | true => some (.slice (match Nat.beq c l with | true => a | false => a.map (·.add (l * size))) (h - l) (c - l), S)
    | false =>
      match a with
      | .none => .none
      | some a => match Nat.beq l 0 with
        | true => some (.slice (some a) h (big + h), S)
        | false => match S.heap.get a.block with
          | some (.cells _ e) => match Nat.beq e elem with
            | true => S.rd a.block fun S => some (.slice (some (a.add (l * size))) (h - l) (big + (h - l)), S)
            | false => .none
          | _ => .none

inductive OptInt : Option Value → Nat → Nat → Prop
  | none (d : Nat) : OptInt .none d d
  | some (k : IntKind) (n d : Nat) : OptInt (.some (.int k n)) d n

theorem srun_underlying {t : TypeId} {d : TypeDesc} (h : P.underlying t = some d) : srun P (underlying t) = some d := by
  show srun P (match P.underlying t with | some i => (.pure i : Sem TypeDesc) | .none => .halt _) = _
  rw [h]; rfl
theorem srun_sizeOf {t : TypeId} {i : TypeInfo} (h : P.info? t = some i) : srun P (sizeOf t) = some i.size := by
  show srun P ((match P.info? t with | some i => (.pure i : Sem TypeInfo) | .none => .halt _).bind fun i => .pure i.size) = _
  rw [h]; rfl
theorem srun_bound {k : IntKind} {x y : Nat} (h : x ≤ y) (code : BoundsCode) : srun P (Instr.sliceBound (.int k x) y code) = some x := by
  show srun P (if 0 ≤ (x : Int) ∧ (x : Int) ≤ y then (.pure (x : Int).toNat : Sem Nat) else _) = _
  rw [if_pos ⟨by omega, by omega⟩]
  rfl
theorem srun_bounds {isS : Bool} {lo hi : Option Value} {n c l h : Nat} (hl : OptInt lo 0 l) (hh : OptInt hi n h) (h1 : l ≤ h) (h2 : h ≤ c) : srun P (Instr.sliceBounds isS n c lo hi .none) = some (l, h, c) := by
  have b1 : ∀ {α β : Type} (s : Sem α) (f : α → Sem β), srun P (s >>= f) = (srun P s).bind fun a => srun P (f a) := fun s f => srun_bind f s
  unfold Instr.sliceBounds
  cases hh with
  | none =>
    cases hl with
    | none => rfl
    | some k =>
      dsimp only
      rw [b1, show srun P (pure c : Sem Nat) = some c from rfl, Option.bind_some]
      rw [b1, show srun P (pure n : Sem Nat) = some n from rfl, Option.bind_some, b1, srun_bound h1]
      rfl
  | some k' =>
    dsimp only
    rw [b1, show srun P (pure c : Sem Nat) = some c from rfl, Option.bind_some]
    rw [b1, srun_bound h2, Option.bind_some]
    cases hl with
    | none => rfl
    | some k =>
      dsimp only
      rw [b1, srun_bound h1]
      rfl
theorem srun_slice {t elem : TypeId} {info : TypeInfo} (ht : P.underlying t = some (.slice elem)) (hi : P.info? elem = some info) {lo hi' : Option Value} {a : Option Addr} {n c l h : Nat} (hl : OptInt lo 0 l) (hh : OptInt hi' n h) (h1 : l ≤ h) (h2 : h ≤ c) :
    srun P (Instr.sliceAt t (.slice a n c) lo hi' .none) = some (.slice (if c = l then a else a.map (·.add (l * info.size))) (h - l) (c - l)) := by
  have b1 : ∀ {α β : Type} (s : Sem α) (f : α → Sem β), srun P (s >>= f) = (srun P s).bind fun a => srun P (f a) := fun s f => srun_bind f s
  unfold Instr.sliceAt
  rw [b1, srun_underlying ht, Option.bind_some]
  show srun P (Instr.slice t (.slice a n c) lo hi' .none) = _
  unfold Instr.slice
  rw [b1, srun_underlying ht, Option.bind_some]
  dsimp only
  rw [b1, srun_bounds hl hh h1 h2, Option.bind_some]
  dsimp only
  rw [b1, srun_sizeOf hi]
  rfl

/-- A part of a string. -/
def subStr (s : ByteArray) (l h : Nat) : ByteArray := ⟨⟨(s.data.toList.drop l).take (Nat.sub h l)⟩⟩
theorem subStr_eq (s : ByteArray) (l h : Nat) : s.extract l h = subStr s l h := by
  apply ByteArray.ext
  unfold subStr
  apply Array.ext'
  simp
theorem srun_strSlice {t : TypeId} (ht : P.underlying t = some .string) {lo hi' : Option Value} {s : ByteArray} {l h : Nat} (hl : OptInt lo 0 l) (hh : OptInt hi' s.size h) (h1 : l ≤ h) (h2 : h ≤ s.size) :
    srun P (Instr.sliceAt t (.string s) lo hi' .none) = some (.string (subStr s l h)) := by
  have b1 : ∀ {α β : Type} (s : Sem α) (f : α → Sem β), srun P (s >>= f) = (srun P s).bind fun a => srun P (f a) := fun s f => srun_bind f s
  unfold Instr.sliceAt
  rw [b1, srun_underlying ht, Option.bind_some]
  show srun P (Instr.slice t (.string s) lo hi' .none) = _
  unfold Instr.slice
  rw [b1, srun_underlying ht, Option.bind_some]
  dsimp only
  show srun P ((Instr.sliceBounds false s.size s.size lo hi' .none) >>= _) = _
  rw [b1, srun_bounds hl hh h1 h2, Option.bind_some, ← subStr_eq]
  rfl

theorem slice_sim {V : Nat → Prop} {S S' : St} {w : World} {t elem : TypeId} {info : TypeInfo} (ht : P.underlying t = some (.slice elem)) (hi : P.info? elem = some info) {lo hi' : Option Value} {a : Option Addr} {n c l h : Nat} {x' r : Value}
    (hl : OptInt lo 0 l) (hh : OptInt hi' n h) (hx : VRel m (.slice a n c) x') (he : aSlice P elem info.size a c l h S = some (r, S')) (hr : Rel P V m S w) (ha : ∀ X, X < S.next → S'.acc.testBit X = true → V X) :
    ∃ r', (Instr.sliceAt t x' lo hi' .none).run P w = .ok r' w ∧ VRel m r r' ∧ Out P V m S w m S' w := by
  unfold aSlice at he
  split at he
  · cases he
  · rename_i hb
    simp only [Bool.and_eq_true] at hb
    have h1 := Nat.le_of_ble_eq_true hb.1
    have h2 := Nat.le_of_ble_eq_true hb.2
    cases hx with
    | snil =>
      have hlow : low 0 = 0 := rfl
      rw [hlow] at h2
      have : h = 0 := by omega
      subst this
      have : l = 0 := by omega
      subst this
      have hz : Nat.blt 0 big = true := rfl
      rw [hz] at he
      cases he
      exact ⟨_, srun_run (srun_slice ht hi hl hh h1 (Nat.le_refl _)) w, .snil, Out.refl hr⟩
    | @slice a a' _ _ c' hc haa hf =>
      have h3 := low_le hc
      refine ⟨_, srun_run (srun_slice ht hi hl hh h1 (by omega)) w, ?_⟩
      split at he
      · rename_i hcb
        have hcl : c < big := Nat.le_of_ble_eq_true hcb
        have hcc : c' = c := by
          rcases hc with ⟨_, h⟩ | ⟨h, _⟩
          · exact h
          · omega
        subst hcc
        cases he
        refine ⟨?_, Out.refl hr⟩
        by_cases hcz : c' = l
        · subst hcz
          rw [if_pos rfl, show Nat.beq c' c' = true from Nat.beq_refl c']
          refine .slice (.inl ⟨by omega, rfl⟩) ?_ (fun hb => by omega)
          rcases haa with haa | haa
          · exact .inl haa
          · exact .inr ⟨by omega, by omega⟩
        · have hne : Nat.beq c' l = false := by
            cases hc : Nat.beq c' l
            · rfl
            · exact absurd (Nat.eq_of_beq_eq_true hc) hcz
          rw [if_neg hcz, hne]
          refine .slice (.inl ⟨by omega, rfl⟩) ?_ (fun hb => by omega)
          rcases haa with haa | haa
          · exact .inl (haa.add _)
          · exact .inr ⟨by omega, by omega⟩
      · rename_i hcb
        have hcl := big_le hcb
        have hf := hf hcl
        dsimp only at he
        split at he
        · rename_i hlz
          have : l = 0 := Nat.eq_of_beq_eq_true hlz
          subst this
          cases he
          refine ⟨?_, Out.refl hr⟩
          have ea : (if c' = 0 then some a' else (some a').map (·.add (0 * info.size))) = some a' := by
            split
            · rfl
            · simp [Addr.add]
          rw [ea]
          refine .slice (.inr ⟨by omega, by omega⟩) ?_ (fun _ => ?_)
          · rcases haa with haa | haa
            · exact .inl haa
            · exact .inr ⟨by omega, by omega⟩
          · rcases hf with hf | ⟨p, hp1, hp2⟩
            · exact .inl ⟨by omega, by omega⟩
            · exact .inr ⟨p, hp1, by simpa using hp2⟩
        · split at he
          · rename_i cs e hget
            split at he
            · rename_i hee
              have : e = elem := Nat.eq_of_beq_eq_true hee
              subst this
              rw [St.rd_eq] at he
              cases he
              have hVb : V a.block := ha a.block (hr.lt hget) (by simp [bit_eq])
              obtain ⟨p, cc, q1, q2, q3, q4, q5⟩ := hr.blk _ hVb _ hget
              have hes : p.es = info.size := by rw [q4]; unfold szOf; rw [hi]; rfl
              refine ⟨?_, hr.rd _⟩
              by_cases hcz : c' = l
              · rw [if_pos hcz]
                exact .slice (.inr ⟨by omega, by omega⟩) (.inr ⟨by omega, by omega⟩) (fun _ => .inl ⟨by omega, by omega⟩)
              · rw [if_neg hcz]
                rcases haa with haa | haa
                · refine .slice (.inr ⟨by omega, by omega⟩) (.inl (haa.add _)) (fun _ => ?_)
                  rcases hf with hf | ⟨p', hp1, hp2⟩
                  · exact absurd hf.2 (by omega)
                  · rw [q1] at hp1
                    cases hp1
                    obtain ⟨p2, g1, g2, g3, g4, g5⟩ := haa.add (l * info.size)
                    refine .inr ⟨p, ?_, ?_⟩
                    · unfold Addr.add; split <;> exact q1
                    · have e1 : (a'.add (l * info.size)).off = a'.off + l * info.size := by
                        unfold Addr.add; split <;> simp_all
                      rw [e1, hes]
                      rw [hes] at hp2
                      have : (c' - l) * info.size + l * info.size = c' * info.size := by rw [← Nat.add_mul]; congr 1; omega
                      omega
                · exact absurd haa.2 (by omega)
            · cases he
          · cases he

end

end Go.Proofs.YtmokmdmabenfgaaGreatDoor.Ev
