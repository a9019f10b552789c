/-
  Runs that the kernel carries out: maps, copies, lengths, slices. No program in sight.
-/
import Derived.Test.YtgkbjdphkmmmhaaDoorEvC
import Derived.Laws.StructEq
namespace Go.Proofs.YtgkbjdphkmmmhaaDoor.Ev
open Go
noncomputable section

section
variable {P : Program} {m : BMap}

/-! ### len, copy -/
theorem sr_len (t ty : TypeId) (ts : List TypeId) {v v' : Value} (h : VRel m v v') : SV P m (Builtin.len_ ⟨t :: ts⟩ ty #[v]) (Builtin.len_ ⟨t :: ts⟩ ty #[v']) := by
  refine (still_underlying t).next fun d _ => ?_
  cases d with
  | string => cases h with
    | string s => exact .pure (.int _ _)
    | _ => exact .halt
  | array n e => exact .pure (.int _ _)
  | pointer a =>
    refine (still_underlying a).next fun d' _ => ?_
    cases d' with
    | array n e => exact .pure (.int _ _)
    | _ => exact .halt
  | slice e => cases h with
    | snil => exact .pure (.int _ _)
    | slice hc ha hf => exact .pure (.int _ _)
    | _ => exact .halt
  | map a b => cases h with
    | mnil => exact .pure (.int _ _)
    | map hr hp =>
      refine .getMap hr hp fun es es' cl cl' hE => ?_
      have hl : es.length = es'.length := by
        clear hr hp
        induction hE with
        | nil => rfl
        | cons _ _ _ ih => simp [ih]
      show SV P m (.pure (.int .i64 es.length)) (.pure (.int .i64 es'.length))
      rw [hl]
      exact .pure (.int _ _)
    | _ => exact .halt
  | chan a b => cases h with
    | cnil => exact .pure (.int _ _)
    | opq h =>
      refine .stuck fun S => ?_
      change arun P (.getObj _ _) S = .none
      simp only [arun]
      split
      · rw [St.rd_eq]; rfl
      · rfl
    | _ => exact .halt
  | _ => exact .halt

theorem sr_lenOf {v v' : Value} (h : VRel m v v') : SemRel P (fun _ a b => a = b ∧ (∀ a k c, v = .slice a k c → b = k)) m (Builtin.lenOf v) (Builtin.lenOf v') := by
  cases h with
  | snil => exact .pure ⟨rfl, fun a k c h => by cases h; rfl⟩
  | slice hc ha hf => exact .pure ⟨rfl, fun a k c h => by cases h; rfl⟩
  | string s => exact .pure ⟨rfl, fun a k c h => by cases h⟩
  | _ => exact .halt
theorem sr_firstCells (size n : Nat) {v v' : Value} (h : VRel m v v') (hn : ∀ a k c, v = .slice a k c → n ≤ k) : SemRel P (fun m x x' => VRels m x.toList x'.toList) m (Builtin.firstCells size n v) (Builtin.firstCells size n v') := by
  cases h with
  | snil => exact .pure .nil
  | slice hc ha hf =>
    rcases ha with ha | ⟨h0, _⟩
    · exact sr_loadCells ha _
    · have := hn _ _ _ rfl
      have e : n * size = 0 := by rw [show n = 0 by omega]; simp
      show SemRel P _ m (loadCells _ (n * size)) (loadCells _ (n * size))
      rw [e]
      exact .pure .nil
  | string s =>
    refine .pure ?_
    refine flats_rel ?_
    rw [Array.toList_map, List.all_map, List.all_eq_true]
    intro b _
    rfl
  | _ => exact .halt
theorem sr_copy (t ty : TypeId) (ts : List TypeId) {d d' s s' : Value} (hd : VRel m d d') (hs : VRel m s s') : SV P m (Builtin.copy_ ⟨t :: ts⟩ ty #[d, s]) (Builtin.copy_ ⟨t :: ts⟩ ty #[d', s']) := by
  refine (still_underlying t).next fun u _ => ?_
  cases u with
  | slice elem =>
    have main : ∀ (base base' : Option Addr) (dLen : Nat), ((base = .none ∧ base' = .none) ∨ ∃ b b', base = some b ∧ base' = some b' ∧ (ARel m b b' ∨ dLen = 0)) →
        SV P m (do let n := Nat.min (← Builtin.lenOf s) dLen
                   let cells ← Builtin.firstCells (← sizeOf elem) n s
                   if let some a := base then storeCells a cells.toList
                   pure (goInt n)) (do
                   let n := Nat.min (← Builtin.lenOf s') dLen
                   let cells ← Builtin.firstCells (← sizeOf elem) n s'
                   if let some a := base' then storeCells a cells.toList
                   pure (goInt n)) := by
      intro base base' dLen hb
      refine (sr_lenOf hs).bind ?_
      rintro m1 k _ he1 ⟨rfl, hk⟩
      refine (still_sizeOf elem).next fun size _ => ?_
      refine SemRel.bind (R := fun m x x' => VRels m x.toList x'.toList ∧ (dLen = 0 → x.toList = [] ∧ x'.toList = [])) ?_ ?_
      · by_cases h0 : dLen = 0
        · subst h0
          have hz : Nat.min k 0 = 0 := Nat.min_zero _
          rw [hz]
          cases hs with
          | snil => exact .pure ⟨.nil, fun _ => ⟨rfl, rfl⟩⟩
          | slice => 
            show SemRel P _ m1 (loadCells _ (0 * size)) (loadCells _ (0 * size))
            rw [Nat.zero_mul]
            exact .pure ⟨.nil, fun _ => ⟨rfl, rfl⟩⟩
          | string str =>
            have e : (str.extract 0 0).data.map (fun b => Value.int .u8 b.toNat) = #[] := by
              apply Array.eq_empty_of_size_eq_zero
              rw [Array.size_map]
              show (str.extract 0 0).size = 0
              simp
            show SemRel P _ m1 (.pure _) (.pure _)
            rw [e]
            exact .pure ⟨.nil, fun _ => ⟨rfl, rfl⟩⟩
          | _ => exact .halt
        · exact (sr_firstCells size _ (hs.mono he1) (fun a k' c h => by have := hk a k' c h; subst this; exact Nat.min_le_left _ _)).mono fun m' a a' _ h => ⟨h, fun h => absurd h h0⟩
      · rintro m2 x x' he2 ⟨hx, hx0⟩
        rcases hb with ⟨rfl, rfl⟩ | ⟨b, b', rfl, rfl, hb⟩
        · exact .pure (.int _ _)
        · rcases hb with hb | h0
          · exact (sr_storeCells ((hb.mono he1).mono he2) hx 0).bind fun _ _ _ _ _ => .pure (.int _ _)
          · obtain ⟨e1, e2⟩ := hx0 h0
            dsimp only
            rw [e1, e2]
            exact .pure (.int _ _)
    cases hd with
    | snil => exact main .none .none 0 (.inl ⟨rfl, rfl⟩)
    | slice hc ha hf => exact main _ _ _ (.inr ⟨_, _, rfl, rfl, ha.imp id And.left⟩)
    | _ => exact .halt
  | _ => exact .halt

/-! ### Maps -/
def strip (es : List MapEntry) : List MapEntry := es.map fun e => ⟨e.key, .bool false, 0⟩

/-- 'clear' of a slice. -/
def aClear (t : TypeId) (a : Option Addr) (n : Nat) : Sem Value :=
  (underlying t).bind fun d => match a, n with
    | .none, _ => .pure (.tuple ⟨[]⟩)
    | some _, 0 => .pure (.tuple ⟨[]⟩)
    | some a, Nat.succ n => match d with
      | .slice elem => (zeroValue elem).bind fun z => match z.cells.toList.all flat1 with
        | true => (storeCells a (repL (Nat.succ n) z.cells.toList)).bind fun _ => .pure (.tuple ⟨[]⟩)
        | false => .halt (.stuck "")
      | _ => .halt (.stuck "")
theorem sr_clear (hP : PGood P) (t ty : TypeId) {a : Option Addr} {n c : Nat} {x' : Value} (h : VRel m (.slice a n c) x') : SV P m (aClear t a n) (Builtin.clear_ ⟨[t]⟩ ty #[x']) := by
  refine (still_underlying t).next fun d _ => ?_
  have fin : ∀ m, VRel m (.tuple ⟨[]⟩) (.tuple ⟨[]⟩) := fun m => .tuple .nil
  cases h with
  | snil =>
    cases d <;> exact .pure (fin _)
  | slice hc ha hf =>
    cases n with
    | zero => cases d <;> exact .pure (fin _)
    | succ n =>
      have ha := ha.resolve_right fun h => by omega
      cases d with
      | slice elem =>
        refine (still_zeroValue hP elem).next fun z hz => ?_
        split
        · rename_i hfl
          show SV P m _ ((storeCells _ (Builtin.zeroCells z.cells (n + 1)).toList).bind _)
          rw [show (Builtin.zeroCells z.cells (n + 1)).toList = repL (n + 1) z.cells.toList from zeros_eq _ _]
          exact (sr_storeCells ha (flats_rel (repL_flat hfl _)) 0).bind fun _ _ _ _ _ => .pure (fin _)
        · exact .halt
      | _ => exact .halt

def flatKeys (es : List MapEntry) : Bool := es.all fun e => flat e.key
theorem strip_rel {es es' : List MapEntry} (h : ERels m es es') (hf : flatKeys es = true) : strip es' = strip es := by
  induction h with
  | nil => rfl
  | cons hk _ _ ih =>
    unfold flatKeys at hf ih
    rw [List.all_cons, Bool.and_eq_true] at hf
    have := ih hf.2
    unfold strip at *
    rw [List.map_cons, List.map_cons, this, flat_eq hf.1 hk]
theorem ERels.get {es es' : List MapEntry} (h : ERels m es es') : ∀ {i : Nat} {e : MapEntry}, es[i]? = some e → ∃ e', es'[i]? = some e' ∧ VRel m e.key e'.key ∧ VRel m e.val e'.val := by
  induction h with
  | nil => intro i e h; simp at h
  | @cons e0 e0' es es' hk hv hs ih =>
    intro i e h
    cases i with
    | zero => simp at h; subst h; exact ⟨e0', rfl, hk, hv⟩
    | succ i => simp at h; exact ih h
theorem ERels.length {es es' : List MapEntry} (h : ERels m es es') : es.length = es'.length := by
  induction h with
  | nil => rfl
  | cons _ _ _ ih => simp [ih]

def valAt (es : List MapEntry) (i : Nat) : Value := ((es[i]?).map (·.val)).getD undef
theorem valAt_succ (e : MapEntry) (es : List MapEntry) {i j : Nat} (h : i + 1 ≤ j) : valAt (e :: es) (j - i) = valAt es (j - (i + 1)) := by
  unfold valAt
  rw [show j - i = (j - (i + 1)) + 1 by omega]
  rfl
theorem findNow_strip (d : TypeDesc) (k : Value) : ∀ (es : List MapEntry) (i : Nat) {r : Option (Nat × Value)}, Instr.findNow d k (strip es) i = some r →
    Instr.findNow d k es i = some (r.map fun p => (p.1, valAt es (p.1 - i))) ∧ ∀ p, r = some p → i ≤ p.1
  | [], i, r, h => by
    simp only [strip, List.map_nil, Instr.findNow] at h ⊢
    cases h
    exact ⟨rfl, fun p h => by cases h⟩
  | e :: es, i, r, h => by
    simp only [strip, List.map_cons, Instr.findNow] at h ⊢
    split at h
    · rename_i hs
      cases h
      exact ⟨by simp [valAt], fun p h => by cases h; exact Nat.le_refl _⟩
    · rename_i hs
      obtain ⟨h1, h2⟩ := findNow_strip d k es (i + 1) h
      refine ⟨?_, fun p hp => by have := h2 p hp; omega⟩
      rw [h1]
      cases r with
      | none => rfl
      | some p => simp only [Option.map_some]; rw [valAt_succ e es (h2 p rfl)]
    · cases h
theorem findNow_none (d : TypeDesc) (k : Value) : ∀ (es : List MapEntry) (i : Nat), Instr.findNow d k (strip es) i = .none → Instr.findNow d k es i = .none
  | [], i, h => h
  | e :: es, i, h => by
    simp only [strip, List.map_cons, Instr.findNow] at h ⊢
    split at h
    · cases h
    · exact findNow_none d k es (i + 1) h
    · rfl
theorem findAsking_strip (kt : TypeId) (k : Value) : ∀ (es : List MapEntry) (i : Nat) {r : Option (Nat × Value)}, srun P (Instr.findAsking kt k (strip es) i) = some r →
    srun P (Instr.findAsking kt k es i) = some (r.map fun p => (p.1, valAt es (p.1 - i))) ∧ ∀ p, r = some p → i ≤ p.1
  | [], i, r, h => by
    simp only [strip, List.map_nil, Instr.findAsking] at h ⊢
    cases h
    exact ⟨rfl, fun p h => by cases h⟩
  | e :: es, i, r, h => by
    simp only [strip, List.map_cons, Instr.findAsking] at h ⊢
    have b1 : ∀ (f : Bool → Sem (Option (Nat × Value))), srun P ((Op.equal kt k e.key) >>= f) = (srun P (Op.equal kt k e.key)).bind fun a => srun P (f a) := fun f => srun_bind f _
    rw [b1] at h ⊢
    cases he : srun P (Op.equal kt k e.key) with
    | none => rw [he] at h; cases h
    | some b =>
      rw [he] at h
      simp only [Option.bind_some] at h ⊢
      cases b with
      | true =>
        simp only [if_true] at h ⊢
        have : some (some (i, Value.bool false)) = some r := h
        cases this
        exact ⟨by show some _ = _; simp [valAt], fun p h => by cases h; exact Nat.le_refl _⟩
      | false =>
        simp only [Bool.false_eq_true, if_false] at h ⊢
        obtain ⟨h1, h2⟩ := findAsking_strip kt k es (i + 1) h
        refine ⟨?_, fun p hp => by have := h2 p hp; omega⟩
        rw [h1]
        cases r with
        | none => rfl
        | some p => simp only [Option.map_some]; rw [valAt_succ e es (h2 p rfl)]

/-- Where a key lies, by the keys alone. -/
theorem find_strip (kt : TypeId) (k : Value) (es : List MapEntry) {r : Option (Nat × Value)} (h : srun P (Instr.findKey kt k (strip es)) = some r) :
    srun P (Instr.findKey kt k es) = some (r.map fun p => (p.1, valAt es p.1)) := by
  unfold Instr.findKey at h ⊢
  have b1 : ∀ (f : TypeDesc → Sem (Option (Nat × Value))), srun P (underlying kt >>= f) = (srun P (underlying kt)).bind fun a => srun P (f a) := fun f => srun_bind f _
  rw [b1] at h ⊢
  cases hu : srun P (underlying kt) with
  | none => rw [hu] at h; cases h
  | some d =>
    rw [hu] at h
    simp only [Option.bind_some] at h ⊢
    cases hn : Instr.findNow d k (strip es) 0 with
    | none =>
      rw [hn] at h
      rw [findNow_none d k es 0 hn]
      exact (findAsking_strip kt k es 0 h).1
    | some q =>
      rw [hn] at h
      have : some q = some r := h
      cases this
      rw [(findNow_strip d k es 0 hn).1]
      rfl

/-! ### Keys that are structs of numbers, some of them opaque -/
theorem nbeq_dec (a b : Nat) : Nat.beq a b = decide (a = b) := by
  cases h : Nat.beq a b with
  | true => simp [Nat.eq_of_beq_eq_true h]
  | false => simp [Nat.ne_of_beq_eq_false h]
def ieq (a b : Int) : Bool :=
  match a, b with
  | .ofNat x, .ofNat y => Nat.beq x y
  | .negSucc x, .negSucc y => Nat.beq x y
  | _, _ => false
theorem ieq_eq (a b : Int) : ieq a b = decide (a = b) := by
  cases a <;> cases b <;> simp [ieq, nbeq_dec] <;> omega
/-- Whether two numbers are equal, where it is known. -/
def eqO (a b : Value) : Option Bool :=
  match a, b with
  | .int .i64 x, .int .i64 y => some (ieq x y)
  | .chan (some n), .chan (some n') => match Nat.beq (Nat.mod n 16) (Nat.mod n' 16) with
    | true => some true
    | false => match Nat.blt (Nat.mod n' 16) 12 && bitO n (Nat.mod n' 16) with
      | true => some false
      | false => .none
  | .chan (some n), .int .i64 (.ofNat 0) => match bitO n 15 with
    | true => some false
    | false => .none
  | .int .i64 (.ofNat 0), .chan (some n) => match bitO n 15 with
    | true => some false
    | false => .none
  | _, _ => .none
theorem eqO_sound {a b : Value} {r : Bool} (h : eqO a b = some r) {a' b' : Value} (ha : VRel m a a') (hb : VRel m b b') : ∃ x y, a' = .int .i64 x ∧ b' = .int .i64 y ∧ r = decide (x = y) := by
  unfold eqO at h
  split at h
  · cases ha; cases hb; cases h
    exact ⟨_, _, rfl, rfl, ieq_eq _ _⟩
  · cases ha with | opq ha =>
    cases hb with | opq hb =>
    refine ⟨_, _, rfl, rfl, ?_⟩
    obtain ⟨p, p1, p2⟩ := ha.at'
    obtain ⟨q, q1, q2⟩ := hb.at'
    split at h
    · rename_i he
      cases h
      have he := Nat.eq_of_beq_eq_true he
      rw [he, q1] at p1
      cases p1
      rw [p2, q2]; simp
    · split at h
      · rename_i hc
        cases h
        simp only [Bool.and_eq_true] at hc
        obtain ⟨q', h1, h2⟩ := ha.ne _ (blt_true hc.1) hc.2
        rw [q1] at h1
        cases h1
        rw [← q2] at h2
        symm
        exact decide_eq_false fun h => h2 h.symm
      · cases h
  · cases ha with | opq ha =>
    cases hb
    refine ⟨_, _, rfl, rfl, ?_⟩
    split at h
    · rename_i hc
      cases h
      symm
      exact decide_eq_false (ha.nz hc)
    · cases h
  · cases ha
    cases hb with | opq hb =>
    refine ⟨_, _, rfl, rfl, ?_⟩
    split at h
    · rename_i hc
      cases h
      symm
      exact decide_eq_false fun h => hb.nz hc h.symm
    · cases h
  · cases h
def okI (v : Value) : Bool :=
  match v with
  | .int .i64 _ => true
  | .chan (some _) => true
  | _ => false
theorem okI_rel {v v' : Value} (h : okI v = true) (hr : VRel m v v') : ∃ x, v' = .int .i64 x := by
  unfold okI at h
  split at h
  · cases hr; exact ⟨_, rfl⟩
  · cases hr; exact ⟨_, rfl⟩
  · cases h
def aggI (xs : List Int) : Value := .agg ⟨xs.map (Value.int .i64)⟩
def okK (n : Nat) (v : Value) : Bool :=
  match v with
  | .agg ⟨cs⟩ => Nat.beq cs.length n && cs.all okI
  | _ => false
theorem okIs_rel : ∀ {cs cs' : List Value}, cs.all okI = true → VRels m cs cs' → ∃ xs : List Int, cs' = xs.map (Value.int .i64) ∧ xs.length = cs.length
  | _, _, _, .nil => ⟨[], rfl, rfl⟩
  | _, _, h, .cons a b => by
    simp only [List.all_cons, Bool.and_eq_true] at h
    obtain ⟨x, rfl⟩ := okI_rel h.1 a
    obtain ⟨xs, rfl, hl⟩ := okIs_rel h.2 b
    exact ⟨x :: xs, rfl, by simp [hl]⟩
theorem okK_rel {n : Nat} {v v' : Value} (h : okK n v = true) (hr : VRel m v v') : ∃ xs, v' = aggI xs ∧ xs.length = n := by
  unfold okK at h
  split at h
  · cases hr with | agg hs =>
    rw [Bool.and_eq_true] at h
    obtain ⟨xs, rfl, hl⟩ := okIs_rel h.2 hs
    exact ⟨xs, rfl, by rw [hl]; exact Nat.eq_of_beq_eq_true h.1⟩
  · cases h
def eqLs : List Value → List Value → Option Bool
  | [], [] => some true
  | a :: as', b :: bs => match eqO a b, eqLs as' bs with
    | some false, _ => some false
    | _, some false => some false
    | some true, some true => some true
    | _, _ => .none
  | _, _ => .none
theorem eqLs_sound : ∀ {as' bs : List Value} {r : Bool} {xs ys : List Int}, eqLs as' bs = some r → VRels m as' (xs.map (Value.int .i64)) → VRels m bs (ys.map (Value.int .i64)) → r = decide (xs = ys)
  | [], [], r, xs, ys, h, ha, hb => by
    cases h
    cases xs with
    | nil => cases ys with
      | nil => rfl
      | cons _ _ => cases hb
    | cons _ _ => cases ha
  | a :: as', b :: bs, r, xs, ys, h, ha, hb => by
    cases xs with
    | nil => cases ha
    | cons x xs =>
    cases ys with
    | nil => cases hb
    | cons y ys =>
    cases ha with | cons ha hs =>
    cases hb with | cons hb ht =>
    unfold eqLs at h
    have e1 : ∀ r, eqO a b = some r → r = decide (x = y) := fun r h => by
      obtain ⟨x', y', h1, h2, h3⟩ := eqO_sound h ha hb
      cases h1; cases h2; exact h3
    have e2 : ∀ r, eqLs as' bs = some r → r = decide (xs = ys) := fun r h => eqLs_sound h hs ht
    split at h
    · rename_i h1
      cases h
      have := e1 _ h1
      symm
      exact decide_eq_false fun h => by cases h; simp at this
    · rename_i h1 _
      cases h
      have := e2 _ h1
      symm
      exact decide_eq_false fun h => by cases h; simp at this
    · rename_i h1 h2
      cases h
      have g1 := e1 _ h1
      have g2 := e2 _ h2
      symm
      exact decide_eq_true (by rw [of_decide_eq_true g1.symm, of_decide_eq_true g2.symm])
    · cases h
  | [], _ :: _, _, _, _, h, _, _ => by cases h
  | _ :: _, [], _, _, _, h, _, _ => by cases h
def eqK (a b : Value) : Option Bool :=
  match a, b with
  | .agg ⟨as'⟩, .agg ⟨bs⟩ => eqLs as' bs
  | _, _ => .none
theorem eqK_sound {a b : Value} {r : Bool} {xs ys : List Int} (h : eqK a b = some r) (ha : VRel m a (aggI xs)) (hb : VRel m b (aggI ys)) : r = decide (xs = ys) := by
  unfold eqK at h
  split at h
  · unfold aggI at ha hb
    cases ha with | agg ha =>
    cases hb with | agg hb =>
    exact eqLs_sound h ha hb
  · cases h
/-- The place of a key. -/
def findL (k : Value) : List MapEntry → Nat → Option (Option Nat)
  | [], _ => some .none
  | e :: es, i => match eqK k e.key with
    | some true => some (some i)
    | some false => findL k es (Nat.succ i)
    | .none => .none
def fieldsOk (P : Program) : List Field → Nat → Bool
  | [], _ => true
  | f :: fs, i => (f.name != "_") && Nat.beq f.offset i && (match P.underlying f.type with | some (.int .i64) => true | _ => false) && fieldsOk P fs (Nat.succ i)
/-- How many numbers a key is made of. -/
def intKey (P : Program) (t : TypeId) : Option Nat :=
  match P.underlying t with
  | some (.struct ⟨fs⟩) => match !P.stoodInHeld t && fieldsOk P fs 0 with
    | true => some fs.length
    | false => .none
  | _ => .none

theorem srun_bd {α β : Type} (s : Sem α) (f : α → Sem β) : srun P (s >>= f) = (srun P s).bind fun a => srun P (f a) := srun_bind f s
theorem srun_und {t : TypeId} {d : TypeDesc} (h : P.underlying t = some d) : srun P (underlying t) = some d := by
  unfold underlying
  rw [srun_bd]
  show srun P (match P.underlying t with | some d => _ | none => _) = _
  rw [h]
  rfl
theorem srun_part {t : TypeId} {k : IntKind} (h : P.underlying t = some (.int k)) (cs : Array Value) (off : Nat) {v : Value} (hv : cs[off]? = some v) : srun P (part t cs off) = some v := by
  unfold part
  rw [srun_bd]
  have : srun P (isAgg t) = some false := by
    unfold isAgg
    rw [srun_bd, srun_und h]
    rfl
  rw [this]
  simp only [Option.bind_some, Bool.false_eq_true, if_false]
  rw [hv]
  rfl
theorem srun_equalIn_struct (d : Nat) (t : TypeId) (fs : List Field) (xs ys : Array Value) (ht : P.underlying t = some (.struct ⟨fs⟩)) (hp : P.stoodInHeld t = false) :
    srun P (Op.equalIn (d + 1) t (.agg xs) (.agg ys)) = srun P (Op.eqFields d xs ys fs) := by
  have hprog : srun P program = some P := rfl
  simp only [Op.equalIn, srun_bd, srun_und ht, Option.bind_some, hprog, hp, Bool.false_eq_true, if_false]
  rw [← Array.forIn_toList]
  clear ht
  show (srun P (forIn fs _ _)).bind _ = _
  induction fs with
  | nil => rfl
  | cons f fs ih =>
    simp only [List.forIn_cons, Op.eqFields, srun_bd]
    split
    · simp only [srun_bd]
      cases srun P (part f.type xs f.offset) with
      | none => rfl
      | some a =>
        simp only [Option.bind_some]
        cases srun P (part f.type ys f.offset) with
        | none => rfl
        | some b =>
          simp only [Option.bind_some]
          cases srun P (Op.equalIn d f.type a b) with
          | none => rfl
          | some r =>
            cases r
            · rfl
            · exact ih
    · exact ih
theorem srun_equalIn_i64 (d : Nat) {t : TypeId} {k : IntKind} (h : P.underlying t = some (.int k)) (x y : Int) : srun P (Op.equalIn (d + 1) t (.int .i64 x) (.int .i64 y)) = some (x == y) := by
  rw [Op.equalIn, srun_bd, srun_und h]
  rfl
theorem fieldsOk_cons {f : Field} {fs : List Field} {i : Nat} (h : fieldsOk P (f :: fs) i = true) : f.name ≠ "_" ∧ f.offset = i ∧ P.underlying f.type = some (.int .i64) ∧ fieldsOk P fs (i + 1) = true := by
  unfold fieldsOk at h
  simp only [Bool.and_eq_true] at h
  obtain ⟨⟨⟨h1, h2⟩, h3⟩, h4⟩ := h
  refine ⟨by simpa using h1, Nat.eq_of_beq_eq_true h2, ?_, h4⟩
  split at h3
  · assumption
  · cases h3
theorem arr_at {xs : List Int} {i : Nat} (h : i < xs.length) : (⟨xs.map (Value.int .i64)⟩ : Array Value)[i]? = some (.int .i64 xs[i]) := by simp [h]
theorem srun_eqFields (d : Nat) : ∀ (fs : List Field) (i : Nat) (xs ys : List Int), fieldsOk P fs i = true → xs.length = i + fs.length → ys.length = i + fs.length →
    srun P (Op.eqFields (d + 1) ⟨xs.map (Value.int .i64)⟩ ⟨ys.map (Value.int .i64)⟩ fs) = some (decide (xs.drop i = ys.drop i))
  | [], i, xs, ys, _, hx, hy => by
    rw [List.drop_of_length_le (by simp at hx; omega), List.drop_of_length_le (by simp at hy; omega)]
    rfl
  | f :: fs, i, xs, ys, hf, hx, hy => by
    obtain ⟨h1, h2, h3, h4⟩ := fieldsOk_cons hf
    rw [List.length_cons] at hx hy
    have hi : i < xs.length := by omega
    have hj : i < ys.length := by omega
    have ih := srun_eqFields d fs (i + 1) xs ys h4 (by omega) (by omega)
    rw [List.drop_eq_getElem_cons hi, List.drop_eq_getElem_cons hj]
    unfold Op.eqFields
    rw [if_pos h1, srun_bd, srun_part h3 _ _ (by rw [h2]; exact arr_at hi), Option.bind_some, srun_bd, srun_part h3 _ _ (by rw [h2]; exact arr_at hj), Option.bind_some, srun_bd, srun_equalIn_i64 d h3, Option.bind_some]
    by_cases he : xs[i] = ys[i]
    · have e1 : (xs[i] == ys[i]) = true := by simpa using he
      rw [e1]
      simp only [Bool.not_true, Bool.false_eq_true, if_false]
      rw [ih, he]
      refine congrArg some ?_
      rw [decide_eq_decide]
      exact ⟨fun h => by rw [h], fun h => (List.cons.inj h).2⟩
    · have e1 : (xs[i] == ys[i]) = false := by simpa using he
      rw [e1]
      simp only [Bool.not_false, if_true]
      show some false = _
      rw [decide_eq_false]
      exact fun h => he (List.cons.inj h).1
theorem intKey_some {t : TypeId} {n : Nat} (h : intKey P t = some n) : ∃ fs : List Field, P.underlying t = some (.struct ⟨fs⟩) ∧ P.stoodInHeld t = false ∧ fieldsOk P fs 0 = true ∧ fs.length = n := by
  unfold intKey at h
  split at h
  · rename_i fs hu
    split at h
    · rename_i hc
      cases h
      simp only [Bool.and_eq_true, Bool.not_eq_true'] at hc
      exact ⟨fs, hu, hc.1, hc.2, rfl⟩
    · cases h
  · cases h
theorem srun_equal_ints {t : TypeId} {n : Nat} (h : intKey P t = some n) {xs ys : List Int} (hx : xs.length = n) (hy : ys.length = n) : srun P (Op.equal t (aggI xs) (aggI ys)) = some (decide (xs = ys)) := by
  obtain ⟨fs, h1, h2, h3, h4⟩ := intKey_some h
  unfold Op.equal aggI
  rw [show Op.maxDepth = 9998 + 1 + 1 from rfl, srun_equalIn_struct _ t fs _ _ h1 h2, srun_eqFields _ fs 0 xs ys h3 (by omega) (by omega)]
  rfl
theorem srun_checkKey_ints {t : TypeId} {n : Nat} (h : intKey P t = some n) {xs : List Int} (hx : xs.length = n) (e : Bool) : srun P (Instr.checkKey e 10000 t (aggI xs)) = some () := by
  obtain ⟨fs, h1, h2, h3, h4⟩ := intKey_some h
  unfold aggI
  rw [show (10000 : Nat) = 9998 + 1 + 1 from rfl, Instr.checkKey, srun_bd, srun_und h1, Option.bind_some]
  dsimp only
  rw [← Array.forIn_toList]
  have key : ∀ (fs : List Field) (i : Nat), fieldsOk P fs i = true → xs.length = i + fs.length → srun P (forIn fs PUnit.unit fun f _ => do
      if f.name ≠ "_" then do
        Instr.checkKey e (9998 + 1) f.type (← part f.type ⟨xs.map (Value.int .i64)⟩ f.offset)
        pure (.yield PUnit.unit)
      else pure (.yield PUnit.unit)) = some () := by
    intro fs
    induction fs with
    | nil => intro i _ _; rfl
    | cons f fs ih =>
      intro i hf hx
      obtain ⟨h1, h2, h3, h4⟩ := fieldsOk_cons hf
      rw [List.length_cons] at hx
      rw [List.forIn_cons, srun_bd, if_pos h1, srun_bd, srun_part h3 _ _ (by rw [h2]; exact arr_at (by omega)), Option.bind_some, srun_bd]
      rw [Instr.checkKey, srun_bd, srun_und h3]
      exact ih (i + 1) h4 (by omega)
  rw [srun_bd, key fs 0 h3 (by omega)]
  rfl
theorem findL_sound {t : TypeId} {n : Nat} (h : intKey P t = some n) {k : Value} {ks : List Int} (hk : VRel m k (aggI ks)) (hl : ks.length = n) : ∀ {es es' : List MapEntry} (_ : ERels m es es') (i : Nat) {r : Option Nat}, (es.all fun e => okK n e.key) = true → findL k es i = some r →
    srun P (Instr.findAsking t (aggI ks) es' i) = some (r.map fun j => (j, valAt es' (j - i))) ∧ ∀ j, r = some j → i ≤ j := by
  intro es es' hE
  induction hE with
  | nil =>
    intro i r _ hf
    cases hf
    exact ⟨rfl, fun j h => by cases h⟩
  | @cons e e' es es' hke hv hs ih =>
    intro i r ho hf
    rw [List.all_cons, Bool.and_eq_true] at ho
    obtain ⟨ys, hy, hly⟩ := okK_rel ho.1 hke
    have he := srun_equal_ints h hl hly
    rw [Instr.findAsking, srun_bd, hy, he, Option.bind_some]
    rw [hy] at hke
    unfold findL at hf
    split at hf
    · rename_i hq
      cases hf
      have := eqK_sound hq hk hke
      rw [← this]
      simp only [if_true]
      exact ⟨by show some _ = _; simp [valAt], fun j h => by cases h; exact Nat.le_refl _⟩
    · rename_i hq
      have := eqK_sound hq hk hke
      rw [← this]
      simp only [Bool.false_eq_true, if_false]
      obtain ⟨h1, h2⟩ := ih (i + 1) ho.2 hf
      refine ⟨?_, fun j hj => by have := h2 j hj; omega⟩
      rw [h1]
      cases r with
      | none => rfl
      | some j => simp only [Option.map_some]; rw [valAt_succ e' es' (h2 j rfl)]
    · cases hf
theorem findKey_ints {t : TypeId} {n : Nat} (h : intKey P t = some n) {k : Value} {ks : List Int} (hk : VRel m k (aggI ks)) (hl : ks.length = n) {es es' : List MapEntry} (hE : ERels m es es') {r : Option Nat} (ho : (es.all fun e => okK n e.key) = true) (hf : findL k es 0 = some r) :
    srun P (Instr.findKey t (aggI ks) es') = some (r.map fun j => (j, valAt es' j)) := by
  obtain ⟨fs, h1, -, -, -⟩ := intKey_some h
  have hs := (findL_sound h hk hl hE 0 ho hf).1
  unfold Instr.findKey
  rw [srun_bd, srun_und h1, Option.bind_some]
  cases hE with
  | nil =>
    cases hf
    rfl
  | cons a b c => exact hs

def aLookup (P : Program) (t : TypeId) (x ix : Value) (ok : Bool) : Sem Value :=
  (underlying t).bind fun
    | .map key elem =>
      let go (es : List MapEntry) : Sem Value :=
        match flatKeys es && flat ix with
        | true => match srun P (Instr.checkKey es.isEmpty 10000 key ix), srun P (Instr.findKey key ix (strip es)) with
          | some _, some (some p) => .pure (if ok then .tuple #[valAt es p.1, .bool true] else valAt es p.1)
          | some _, some .none => (zeroValue elem).bind fun z => .pure (if ok then .tuple #[z, .bool false] else z)
          | _, _ => .halt (.stuck "")
        | false => match intKey P key with
          | some n => match okK n ix && (es.all fun e => okK n e.key), findL ix es 0 with
            | true, some (some p) => .pure (if ok then .tuple #[valAt es p, .bool true] else valAt es p)
            | true, some .none => (zeroValue elem).bind fun z => .pure (if ok then .tuple #[z, .bool false] else z)
            | _, _ => .halt (.stuck "")
          | .none => .halt (.stuck "")
      match x with
      | .map .none => go []
      | .map (some r) => .getObj r fun o => match o with | .map ⟨es⟩ _ => go es | _ => .halt (.stuck "")
      | _ => .halt (.stuck "")
    | _ => .halt (.stuck "")
theorem valAt_rel {es es' : List MapEntry} (hE : ERels m es es') (p : Nat) : VRel m (valAt es p) (valAt es' p) := by
  unfold valAt
  cases he : es[p]? with
  | none =>
    have : es'[p]? = .none := by
      rw [List.getElem?_eq_none_iff] at he ⊢
      rw [← hE.length]; exact he
    rw [this]
    exact .tuple .nil
  | some e =>
    obtain ⟨e', h1, _, h3⟩ := hE.get he
    rw [h1]
    exact h3
theorem sr_lookup (hP : PGood P) (t : TypeId) {x x' : Value} (h : VRel m x x') {ix ix' : Value} (hi : VRel m ix ix') (ok : Bool) : SV P m (aLookup P t x ix ok) (Instr.lookup t x' ix' ok) := by
  refine (still_underlying t).next fun d _ => ?_
  cases d with
  | map key elem =>
    have main : ∀ (es : List MapEntry) (es' : Array MapEntry), ERels m es es'.toList → SV P m
        (match flatKeys es && flat ix with
        | true => match srun P (Instr.checkKey es.isEmpty 10000 key ix), srun P (Instr.findKey key ix (strip es)) with
          | some _, some (some p) => .pure (if ok then .tuple #[valAt es p.1, .bool true] else valAt es p.1)
          | some _, some .none => (zeroValue elem).bind fun z => .pure (if ok then .tuple #[z, .bool false] else z)
          | _, _ => .halt (.stuck "")
        | false => match intKey P key with
          | some n => match okK n ix && (es.all fun e => okK n e.key), findL ix es 0 with
            | true, some (some p) => .pure (if ok then .tuple #[valAt es p, .bool true] else valAt es p)
            | true, some .none => (zeroValue elem).bind fun z => .pure (if ok then .tuple #[z, .bool false] else z)
            | _, _ => .halt (.stuck "")
          | .none => .halt (.stuck ""))
        (do
          Instr.checkKey es'.isEmpty 10000 key ix'
          let (v, ok') ← match ← Instr.findKey key ix' es'.toList with
            | some (_, v) => pure (v, true)
            | none => pure (← zeroValue elem, false)
          pure (if ok then .tuple #[v, .bool ok'] else v)) := by
      intro es es' hE
      have hemp : es'.isEmpty = es.isEmpty := by
        have := hE.length
        obtain ⟨es'⟩ := es'
        cases es with
        | nil => cases es' with
          | nil => rfl
          | cons _ _ => simp at this
        | cons e es => cases es' with
          | nil => simp at this
          | cons _ _ => rfl
      split
      · rename_i hfl
        simp only [Bool.and_eq_true] at hfl
        have hix := flat_eq hfl.2 hi
        subst hix
        split
        · rename_i u p hc hf
          rw [← hemp] at hc
          rw [← strip_rel hE hfl.1] at hf
          refine srun_right hc ?_
          refine srun_right (find_strip key ix' _ hf) ?_
          have hv := valAt_rel hE p.1
          cases ok with
          | true => exact .pure (.tuple (.cons hv (.cons (.bool _) .nil)))
          | false => exact .pure hv
        · rename_i u hc hf
          rw [← hemp] at hc
          rw [← strip_rel hE hfl.1] at hf
          refine srun_right hc ?_
          refine srun_right (find_strip key ix' _ hf) ?_
          refine (still_zero hP elem).left fun z hz => ?_
          obtain ⟨hz, i, hi, hzv⟩ := hz
          show SV P m _ ((zeroValue elem).bind _)
          refine zero_right hi hzv ?_
          cases ok with
          | true => exact .pure (.tuple (.cons (hz _) (.cons (.bool _) .nil)))
          | false => exact .pure (hz _)
        · exact .halt
      · split
        · rename_i n hn
          split
          · rename_i p ho hf
            simp only [Bool.and_eq_true] at ho
            obtain ⟨ks, rfl, hl⟩ := okK_rel ho.1 hi
            refine srun_right (srun_checkKey_ints hn hl _) ?_
            refine srun_right (findKey_ints hn hi hl hE ho.2 hf) ?_
            have hv := valAt_rel hE p
            cases ok with
            | true => exact .pure (.tuple (.cons hv (.cons (.bool _) .nil)))
            | false => exact .pure hv
          · rename_i ho hf
            simp only [Bool.and_eq_true] at ho
            obtain ⟨ks, rfl, hl⟩ := okK_rel ho.1 hi
            refine srun_right (srun_checkKey_ints hn hl _) ?_
            refine srun_right (findKey_ints hn hi hl hE ho.2 hf) ?_
            refine (still_zero hP elem).left fun z hz => ?_
            obtain ⟨hz, i, hi, hzv⟩ := hz
            show SV P m _ ((zeroValue elem).bind _)
            refine zero_right hi hzv ?_
            cases ok with
            | true => exact .pure (.tuple (.cons (hz _) (.cons (.bool _) .nil)))
            | false => exact .pure (hz _)
          · exact .halt
        · exact .halt
    cases h with
    | mnil => exact main [] #[] .nil
    | map hr hp => exact .getMap hr hp fun es es' cl cl' hE => main es ⟨es'⟩ hE
    | _ => exact .halt
  | _ => exact .halt

def aUpdate (P : Program) (t : TypeId) (x ix v : Value) : Sem Unit :=
  (underlying t).bind fun
    | .map key _ =>
      match x with
      | .map (some r) => .getObj r fun o => match o with
        | .map ⟨es⟩ _ =>
          match flatKeys es && flat ix with
          | true => match srun P (Instr.checkKey false 10000 key ix), srun P (Instr.findKey key ix (strip es)) with
            | some _, some (some p) => match srun P (Instr.keyThatStays (((es[p.1]?).map (·.key)).getD ix) ix) with
              | some k => match flat k with
                | true => .setObj r (.map ⟨es.modify p.1 fun e => { e with key := k, val := v }⟩ 0) (.pure ())
                | false => .halt (.stuck "")
              | .none => .halt (.stuck "")
            | some _, some .none => .setObj r (.map ⟨es ++ [⟨ix, v, 0⟩]⟩ 0) (.pure ())
            | _, _ => .halt (.stuck "")
          | false => match intKey P key with
            | some n => match okK n ix && (es.all fun e => okK n e.key), findL ix es 0 with
              | true, some .none => .setObj r (.map ⟨es ++ [⟨ix, v, 0⟩]⟩ 0) (.pure ())
              | _, _ => .halt (.stuck "")
            | .none => .halt (.stuck "")
        | _ => .halt (.stuck "")
      | _ => .halt (.stuck "")
    | _ => .halt (.stuck "")
theorem ERels.modify {es es' : List MapEntry} (h : ERels m es es') {v v' : Value} (hv : VRel m v v') {k : Value} (hk : VRel m k k) : ∀ (i : Nat), ERels m (es.modify i fun e => { e with key := k, val := v }) (es'.modify i fun e => { e with key := k, val := v' }) := by
  induction h with
  | nil => intro i; cases i <;> exact .nil
  | cons hk' hw hs ih =>
    intro i
    cases i with
    | zero => exact .cons hk hv hs
    | succ i => exact .cons hk' hw (ih i)
theorem ERels.snoc {es es' : List MapEntry} (h : ERels m es es') {e e' : MapEntry} (hk : VRel m e.key e'.key) (hv : VRel m e.val e'.val) : ERels m (es ++ [e]) (es' ++ [e']) := by
  induction h with
  | nil => exact .cons hk hv .nil
  | cons a b c ih => exact .cons a b ih
theorem sr_update (t : TypeId) {x x' v v' : Value} (h : VRel m x x') {ix ix' : Value} (hi : VRel m ix ix') (hv : VRel m v v') : SemRel P (fun _ _ _ => True) m (aUpdate P t x ix v) (Instr.mapUpdate t x' ix' v') := by
  refine (still_underlying t).next fun d _ => ?_
  cases d with
  | map key elem =>
    cases h with
    | map hr hp =>
      refine .getMap hr hp fun es es' cl cl' hE => ?_
      dsimp only
      split
      · rename_i hfl
        simp only [Bool.and_eq_true] at hfl
        have hix := flat_eq hfl.2 hi
        subst hix
        split
        · rename_i u p hc hf
          rw [← strip_rel hE hfl.1] at hf
          split
          · rename_i k hks
            split
            · rename_i hkf
              show SemRel P _ m _ ((Instr.checkKey false 10000 key ix').bind _)
              refine srun_right hc ?_
              refine srun_right (find_strip key ix' _ hf) ?_
              have hkey : (((es'[p.1]?).map (·.key)).getD ix') = (((es[p.1]?).map (·.key)).getD ix') := by
                cases he : es[p.1]? with
                | none =>
                  have : es'[p.1]? = .none := by
                    rw [List.getElem?_eq_none_iff] at he ⊢
                    rw [← hE.length]; exact he
                  rw [this]
                | some e =>
                  obtain ⟨e', h1, h2, _⟩ := hE.get he
                  have hef : flat e.key = true := List.all_eq_true.1 hfl.1 e (List.mem_of_getElem? he)
                  rw [h1]
                  simp [flat_eq hef h2]
              dsimp only [Option.map_some]
              refine srun_right (a := k) ?_ ?_
              · rw [← hks, ← hkey]; simp
              · have : (Array.modify ⟨es'⟩ p.1 fun e => { e with key := k, val := v' }) = ⟨es'.modify p.1 fun e => { e with key := k, val := v' }⟩ := by
                  simp
                rw [this]
                exact .setMap hr hp (hE.modify hv (flat_rel hkf) p.1) (.pure trivial)
            · exact .halt
          · exact .halt
        · rename_i u hc hf
          rw [← strip_rel hE hfl.1] at hf
          show SemRel P _ m _ ((Instr.checkKey false 10000 key ix').bind _)
          refine srun_right hc ?_
          refine srun_right (find_strip key ix' _ hf) ?_
          have e : (Array.push ⟨es'⟩ ⟨ix', v', cl'⟩ : Array MapEntry) = ⟨es' ++ [⟨ix', v', cl'⟩]⟩ := by simp
          dsimp only [Option.map_none]
          rw [e]
          exact .setMap hr hp (hE.snoc (e := ⟨ix', v, 0⟩) (e' := ⟨ix', v', cl'⟩) hi hv) (.pure trivial)
        · exact .halt
      · split
        · rename_i n hn
          split
          · rename_i ho hf
            simp only [Bool.and_eq_true] at ho
            obtain ⟨ks, rfl, hl⟩ := okK_rel ho.1 hi
            show SemRel P _ m _ ((Instr.checkKey false 10000 key (aggI ks)).bind _)
            refine srun_right (srun_checkKey_ints hn hl _) ?_
            refine srun_right (findKey_ints hn hi hl hE ho.2 hf) ?_
            have e : (Array.push ⟨es'⟩ ⟨aggI ks, v', cl'⟩ : Array MapEntry) = ⟨es' ++ [⟨aggI ks, v', cl'⟩]⟩ := by simp
            dsimp only [Option.map_none]
            rw [e]
            exact .setMap hr hp (hE.snoc (e := ⟨ix, v, 0⟩) (e' := ⟨aggI ks, v', cl'⟩) hi hv) (.pure trivial)
          · exact .halt
        · exact .halt
    | _ => exact .halt
  | _ => exact .halt
theorem sr_makeMap (t : TypeId) : SV P m (Instr.makeMap t .none) (Instr.makeMap t .none) :=
  .newMap .nil fun m' r r' p he hm hp => .pure (.map hm hp)

/-! ### Slices of slices -/
theorem arun_none {α : Type} (w : String) (S : St) : arun P (.halt (.stuck w) : Sem α) S = .none := rfl
def low (c : Nat) : Nat := match Nat.blt c big with | true => c | false => c - big
theorem low_le {c c' : Nat} (h : capRel c c') : low c ≤ c' := by
  unfold low
  rcases h with ⟨h1, h2⟩ | ⟨h1, h2⟩
  · rw [show Nat.blt c big = true from Nat.ble_eq_true_of_le h1]; exact Nat.le_of_eq h2.symm
  · have : Nat.blt c big = false := by
      cases hc : Nat.blt c big
      · rfl
      · have := Nat.le_of_ble_eq_true hc; omega
    rw [this]; dsimp only; omega
theorem big_le {c : Nat} (h : Nat.blt c big = false) : big ≤ c := by
  rcases Nat.lt_or_ge c big with hl | hl
  · rw [show Nat.blt c big = true from Nat.ble_eq_true_of_le hl] at h; cases h
  · exact hl
/-- x[l:h]; a capacity from 'big' on is at least what stands over it. -/
def aSlice (P : Program) (elem : TypeId) (size : Nat) (a : Option Addr) (c l h : Nat) (S : St) : Option (Value × St) :=
  match Nat.ble l h && Nat.ble h (low c) with
  | false => .none
  | true =>
    match Nat.blt c big with
    | true => some (.slice (match Nat.beq c l with | true => a | false => a.map (·.add (l * size))) (h - l) (c - l), S)
    | false =>
      match a with
      | .none => .none
      | some a => match Nat.beq l 0 with
        | true => some (.slice (some a) h (big + h), S)
        | false => match S.heap.get a.block with
          | some (.cells _ e) => match Nat.beq e elem with
            | true => S.rd a.block fun S => some (.slice (some (a.add (l * size))) (h - l) (big + (h - l)), S)
            | false => .none
          | _ => .none

inductive OptInt : Option Value → Nat → Nat → Prop
  | none (d : Nat) : OptInt .none d d
  | some (k : IntKind) (n d : Nat) : OptInt (.some (.int k n)) d n

theorem srun_sizeOf {t : TypeId} {i : TypeInfo} (h : P.info? t = some i) : srun P (sizeOf t) = some i.size := by
  show srun P ((match P.info? t with | some i => (.pure i : Sem TypeInfo) | .none => .halt _).bind fun i => .pure i.size) = _
  rw [h]; rfl
theorem srun_bound {k : IntKind} {x y : Nat} (h : x ≤ y) (code : BoundsCode) : srun P (Instr.sliceBound (.int k x) y code) = some x := by
  show srun P (if 0 ≤ (x : Int) ∧ (x : Int) ≤ y then (.pure (x : Int).toNat : Sem Nat) else _) = _
  rw [if_pos ⟨by omega, by omega⟩]
  rfl
theorem srun_bounds {isS : Bool} {lo hi : Option Value} {n c l h : Nat} (hl : OptInt lo 0 l) (hh : OptInt hi n h) (h1 : l ≤ h) (h2 : h ≤ c) : srun P (Instr.sliceBounds isS n c lo hi .none) = some (l, h, c) := by
  have b1 : ∀ {α β : Type} (s : Sem α) (f : α → Sem β), srun P (s >>= f) = (srun P s).bind fun a => srun P (f a) := fun s f => srun_bind f s
  unfold Instr.sliceBounds
  cases hh with
  | none =>
    cases hl with
    | none => rfl
    | some k =>
      dsimp only
      rw [b1, show srun P (pure c : Sem Nat) = some c from rfl, Option.bind_some]
      rw [b1, show srun P (pure n : Sem Nat) = some n from rfl, Option.bind_some, b1, srun_bound h1]
      rfl
  | some k' =>
    dsimp only
    rw [b1, show srun P (pure c : Sem Nat) = some c from rfl, Option.bind_some]
    rw [b1, srun_bound h2, Option.bind_some]
    cases hl with
    | none => rfl
    | some k =>
      dsimp only
      rw [b1, srun_bound h1]
      rfl
theorem srun_slice {t elem : TypeId} {info : TypeInfo} (ht : P.underlying t = some (.slice elem)) (hi : P.info? elem = some info) {lo hi' : Option Value} {a : Option Addr} {n c l h : Nat} (hl : OptInt lo 0 l) (hh : OptInt hi' n h) (h1 : l ≤ h) (h2 : h ≤ c) :
    srun P (Instr.sliceAt t (.slice a n c) lo hi' .none) = some (.slice (if c = l then a else a.map (·.add (l * info.size))) (h - l) (c - l)) := by
  have b1 : ∀ {α β : Type} (s : Sem α) (f : α → Sem β), srun P (s >>= f) = (srun P s).bind fun a => srun P (f a) := fun s f => srun_bind f s
  unfold Instr.sliceAt
  rw [b1, srun_underlying ht, Option.bind_some]
  show srun P (Instr.slice t (.slice a n c) lo hi' .none) = _
  unfold Instr.slice
  rw [b1, srun_underlying ht, Option.bind_some]
  dsimp only
  rw [b1, srun_bounds hl hh h1 h2, Option.bind_some]
  dsimp only
  rw [b1, srun_sizeOf hi]
  rfl

/-- A part of a string. -/
def subStr (s : ByteArray) (l h : Nat) : ByteArray := ⟨⟨(s.data.toList.drop l).take (Nat.sub h l)⟩⟩
theorem subStr_eq (s : ByteArray) (l h : Nat) : s.extract l h = subStr s l h := by
  apply ByteArray.ext
  unfold subStr
  apply Array.ext'
  simp
theorem srun_strSlice {t : TypeId} (ht : P.underlying t = some .string) {lo hi' : Option Value} {s : ByteArray} {l h : Nat} (hl : OptInt lo 0 l) (hh : OptInt hi' s.size h) (h1 : l ≤ h) (h2 : h ≤ s.size) :
    srun P (Instr.sliceAt t (.string s) lo hi' .none) = some (.string (subStr s l h)) := by
  have b1 : ∀ {α β : Type} (s : Sem α) (f : α → Sem β), srun P (s >>= f) = (srun P s).bind fun a => srun P (f a) := fun s f => srun_bind f s
  unfold Instr.sliceAt
  rw [b1, srun_underlying ht, Option.bind_some]
  show srun P (Instr.slice t (.string s) lo hi' .none) = _
  unfold Instr.slice
  rw [b1, srun_underlying ht, Option.bind_some]
  dsimp only
  show srun P ((Instr.sliceBounds false s.size s.size lo hi' .none) >>= _) = _
  rw [b1, srun_bounds hl hh h1 h2, Option.bind_some, ← subStr_eq]
  rfl

theorem slice_sim {V : Nat → Prop} {S S' : St} {w : World} {t elem : TypeId} {info : TypeInfo} (ht : P.underlying t = some (.slice elem)) (hi : P.info? elem = some info) {lo hi' : Option Value} {a : Option Addr} {n c l h : Nat} {x' r : Value}
    (hl : OptInt lo 0 l) (hh : OptInt hi' n h) (hx : VRel m (.slice a n c) x') (he : aSlice P elem info.size a c l h S = some (r, S')) (hr : Rel P V m S w) (ha : ∀ X, X < S.next → S'.acc.testBit X = true → V X) :
    ∃ r', (Instr.sliceAt t x' lo hi' .none).run P w = .ok r' w ∧ VRel m r r' ∧ Out P V m S w m S' w := by
  unfold aSlice at he
  split at he
  · cases he
  · rename_i hb
    simp only [Bool.and_eq_true] at hb
    have h1 := Nat.le_of_ble_eq_true hb.1
    have h2 := Nat.le_of_ble_eq_true hb.2
    cases hx with
    | snil =>
      have hlow : low 0 = 0 := rfl
      rw [hlow] at h2
      have : h = 0 := by omega
      subst this
      have : l = 0 := by omega
      subst this
      have hz : Nat.blt 0 big = true := rfl
      rw [hz] at he
      cases he
      exact ⟨_, srun_run (srun_slice ht hi hl hh h1 (Nat.le_refl _)) w, .snil, Out.refl hr⟩
    | @slice a a' _ _ c' hc haa hf =>
      have h3 := low_le hc
      refine ⟨_, srun_run (srun_slice ht hi hl hh h1 (by omega)) w, ?_⟩
      split at he
      · rename_i hcb
        have hcl : c < big := Nat.le_of_ble_eq_true hcb
        have hcc : c' = c := by
          rcases hc with ⟨_, h⟩ | ⟨h, _⟩
          · exact h
          · omega
        subst hcc
        cases he
        refine ⟨?_, Out.refl hr⟩
        by_cases hcz : c' = l
        · subst hcz
          rw [if_pos rfl, show Nat.beq c' c' = true from Nat.beq_refl c']
          refine .slice (.inl ⟨by omega, rfl⟩) ?_ (fun hb => by omega)
          rcases haa with haa | haa
          · exact .inl haa
          · exact .inr ⟨by omega, by omega⟩
        · have hne : Nat.beq c' l = false := by
            cases hc : Nat.beq c' l
            · rfl
            · exact absurd (Nat.eq_of_beq_eq_true hc) hcz
          rw [if_neg hcz, hne]
          refine .slice (.inl ⟨by omega, rfl⟩) ?_ (fun hb => by omega)
          rcases haa with haa | haa
          · exact .inl (haa.add _)
          · exact .inr ⟨by omega, by omega⟩
      · rename_i hcb
        have hcl := big_le hcb
        have hf := hf hcl
        dsimp only at he
        split at he
        · rename_i hlz
          have : l = 0 := Nat.eq_of_beq_eq_true hlz
          subst this
          cases he
          refine ⟨?_, Out.refl hr⟩
          have ea : (if c' = 0 then some a' else (some a').map (·.add (0 * info.size))) = some a' := by
            split
            · rfl
            · simp [Addr.add]
          rw [ea]
          refine .slice (.inr ⟨by omega, by omega⟩) ?_ (fun _ => ?_)
          · rcases haa with haa | haa
            · exact .inl haa
            · exact .inr ⟨by omega, by omega⟩
          · rcases hf with hf | ⟨p, hp1, hp2⟩
            · exact .inl ⟨by omega, by omega⟩
            · exact .inr ⟨p, hp1, by simpa using hp2⟩
        · split at he
          · rename_i cs e hget
            split at he
            · rename_i hee
              have : e = elem := Nat.eq_of_beq_eq_true hee
              subst this
              rw [St.rd_eq] at he
              cases he
              have hVb : V a.block := ha a.block (hr.lt hget) (by simp [bit_eq])
              obtain ⟨p, cc, q1, q2, q3, q4, q5⟩ := hr.blk _ hVb _ hget
              have hes : p.es = info.size := by rw [q4]; unfold szOf; rw [hi]; rfl
              refine ⟨?_, hr.rd _⟩
              by_cases hcz : c' = l
              · rw [if_pos hcz]
                exact .slice (.inr ⟨by omega, by omega⟩) (.inr ⟨by omega, by omega⟩) (fun _ => .inl ⟨by omega, by omega⟩)
              · rw [if_neg hcz]
                rcases haa with haa | haa
                · refine .slice (.inr ⟨by omega, by omega⟩) (.inl (haa.add _)) (fun _ => ?_)
                  rcases hf with hf | ⟨p', hp1, hp2⟩
                  · exact absurd hf.2 (by omega)
                  · rw [q1] at hp1
                    cases hp1
                    obtain ⟨p2, g1, g2, g3, g4, g5⟩ := haa.add (l * info.size)
                    refine .inr ⟨p, ?_, ?_⟩
                    · unfold Addr.add; split <;> exact q1
                    · have e1 : (a'.add (l * info.size)).off = a'.off + l * info.size := by
                        unfold Addr.add; split <;> simp_all
                      rw [e1, hes]
                      rw [hes] at hp2
                      have : (c' - l) * info.size + l * info.size = c' * info.size := by rw [← Nat.add_mul]; congr 1; omega
                      omega
                · exact absurd haa.2 (by omega)
            · cases he
          · cases he

end

end
end Go.Proofs.YtgkbjdphkmmmhaaDoor.Ev
