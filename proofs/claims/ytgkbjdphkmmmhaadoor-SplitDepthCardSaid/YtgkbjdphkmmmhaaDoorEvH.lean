/-
  Runs that the kernel carries out: the common operations, by short cuts. No program in sight.
-/
import Derived.Test.YtgkbjdphkmmmhaaDoorEvF
namespace Go.Proofs.YtgkbjdphkmmmhaaDoor.Ev
open Go
noncomputable section

/-! ### What the types say; closed terms that the kernel works out once -/
/-- A struct or an array: its size; else none. -/
def aggOf (P : Program) (t : TypeId) : Option (Option Nat) :=
  match P.underlying t, P.info? t with
  | some (.struct _), some i => some (some i.size)
  | some (.array _ _), some i => some (some i.size)
  | some _, some _ => some .none
  | _, _ => .none
def offOf (P : Program) (s : TypeId) (f : Nat) : Option Nat :=
  match P.underlying s with
  | some (.struct fields) => match fields[f]? with
    | some fd => match P.info? fd.type with
      | some i => match Nat.beq i.size 0 with
        | true => .none
        | false => some fd.offset
      | .none => .none
    | .none => .none
  | _ => .none
def elemOf (P : Program) (t : TypeId) : Option Nat :=
  match P.underlying t with
  | some (.slice e) => match P.info? e with
    | some i => some i.size
    | .none => .none
  | _ => .none
def zeroOf (P : Program) (t : TypeId) : Option (List Value) :=
  match P.info? t with
  | some i => match i.zero with
    | some z => some z.cells.toList
    | .none => .none
  | .none => .none

def fLoad (P : Program) (t : TypeId) (v : Value) (S : St) : Option (Value × St) :=
  match v with
  | .pointer (some ⟨b, o, .none⟩) => match S.heap.get b with
    | some (.cells cs _) => match aggOf P t with
      | some (some (n + 1)) => takeK (n + 1) (dropL o cs) fun r => S.rd b fun S => some (.agg ⟨r⟩, S)
      | some .none => match getL cs o with
        | some v => S.rd b fun S => some (v, S)
        | .none => .none
      | _ => .none
    | _ => .none
  | _ => .none

section
variable {P : Program}
theorem bit_bit (s b : Nat) : bit (bit s b) b = bit s b := by
  apply Nat.eq_of_testBit_eq
  intro i
  simp [bit_eq]
theorem arun_loadFrom {b : Nat} : ∀ (n i : Nat) (acc : Array Value) {S : St} {o : Nat} {cs : List Value} {e : TypeId}, S.heap.get b = some (.cells cs e) → o + i + (n + 1) ≤ cs.length →
    arun P (loadCellsFrom ⟨b, o, .none⟩ i (n + 1) acc) S = some (acc ++ ((cs.drop (o + i)).take (n + 1)).toArray, ⟨S.heap, S.next, bit S.acc b, S.wr⟩) := by
  intro n
  induction n with
  | zero =>
    intro i acc S o cs e hget hl
    have ea : Addr.add ⟨b, o, .none⟩ i = ⟨b, o + i, .none⟩ := by unfold Addr.add; split <;> simp_all
    show arun P (.load .plain (Addr.add ⟨b, o, .none⟩ i) fun v => .pure (acc.push v)) S = _
    rw [ea]
    simp only [arun, hget, getL_eq]
    rw [List.getElem?_eq_getElem (by omega : o + i < cs.length)]
    simp only [St.rd_eq]
    congr 2
    apply Array.ext'
    have : (cs.drop (o + i)).take (0 + 1) = [cs[o + i]] := by
      rw [List.drop_eq_getElem_cons (by omega)]
      rfl
    rw [this]
    simp
  | succ n ih =>
    intro i acc S o cs e hget hl
    have ea : Addr.add ⟨b, o, .none⟩ i = ⟨b, o + i, .none⟩ := by unfold Addr.add; split <;> simp_all
    show arun P (.load .plain (Addr.add ⟨b, o, .none⟩ i) fun v => loadCellsFrom ⟨b, o, .none⟩ (i + 1) (n + 1) (acc.push v)) S = _
    rw [ea]
    simp only [arun, hget, getL_eq]
    rw [List.getElem?_eq_getElem (by omega : o + i < cs.length)]
    simp only [St.rd_eq]
    rw [ih (i + 1) _ (S := ⟨S.heap, S.next, bit S.acc b, S.wr⟩) (o := o) (cs := cs) (e := e) hget (by omega)]
    simp only [bit_bit]
    congr 2
    apply Array.ext'
    have : (cs.drop (o + i)).take (n + 1 + 1) = cs[o + i] :: (cs.drop (o + (i + 1))).take (n + 1) := by
      rw [List.drop_eq_getElem_cons (by omega), List.take_succ_cons]
      rfl
    rw [this]
    simp
theorem arun_bind' {α β : Type} (s : Sem α) (f : α → Sem β) (S : St) : arun P (s >>= f) S = (arun P s S).bind fun p => arun P (f p.1) p.2 := arun_bind f s S
theorem arun_srun {α : Type} : ∀ {s : Sem α} {a : α}, srun P s = some a → ∀ S, arun P s S = some (a, S)
  | .pure a, b, h, S => by simp only [srun] at h; cases h; rfl
  | .program k, b, h, S => by simp only [srun] at h; simp only [arun]; exact arun_srun h S
  | .mark _ k, b, h, S => by simp only [srun] at h; simp only [arun]; exact arun_srun h S
theorem srun_isAgg {t : TypeId} {d : TypeDesc} (h : P.underlying t = some d) : srun P (isAgg t) = some (match d with | .struct _ => true | .array _ _ => true | _ => false) := by
  have b1 : ∀ {α β : Type} (s : Sem α) (f : α → Sem β), srun P (s >>= f) = (srun P s).bind fun a => srun P (f a) := fun s f => srun_bind f s
  unfold isAgg
  rw [b1, srun_underlying h, Option.bind_some]
  cases d <;> rfl
theorem aggOf_some {t : TypeId} {r : Option Nat} (h : aggOf P t = some r) : ∃ d i, P.underlying t = some d ∧ P.info? t = some i ∧ srun P (isAgg t) = some r.isSome ∧ ∀ n, r = some n → n = i.size := by
  unfold aggOf at h
  split at h
  · rename_i hd hi; cases h; exact ⟨_, _, hd, hi, by rw [srun_isAgg hd]; rfl, fun n hn => by cases hn; rfl⟩
  · rename_i hd hi; cases h; exact ⟨_, _, hd, hi, by rw [srun_isAgg hd]; rfl, fun n hn => by cases hn; rfl⟩
  · rename_i d i h1 h2 hd hi
    cases h
    refine ⟨_, _, hd, hi, ?_, fun n hn => by cases hn⟩
    rw [srun_isAgg hd]
    cases d
    case struct fs => exact (h1 _ rfl).elim
    case array a b => exact (h2 _ _ rfl).elim
    all_goals rfl
  · cases h
theorem fLoad_some {t : TypeId} {v : Value} {S : St} {r : Value × St} (h : fLoad P t v S = some r) : arun P (Instr.loadAt t v) S = some r := by
  unfold fLoad at h
  split at h
  · rename_i b o
    split at h
    · rename_i cs e hget
      show arun P (loadVar t ⟨b, o, .none⟩) S = some r
      unfold loadVar
      split at h
      · rename_i n hag
        obtain ⟨d, i, h1, h2, h3, h4⟩ := aggOf_some hag
        rw [arun_bind', arun_srun h3]
        obtain ⟨h5, h6⟩ := takeK_some h
        rw [dropL_eq] at h5 h6
        rw [St.rd_eq] at h6
        simp only [Option.bind_some, Option.isSome_some, if_true]
        rw [arun_bind', arun_srun (srun_sizeOf h2)]
        simp only [Option.bind_some]
        rw [← h4 _ rfl, arun_bind']
        unfold loadCells
        rw [arun_loadFrom n 0 #[] hget (by rw [List.length_drop] at h5; omega)]
        rw [← h6]
        simp only [Option.bind_some]
        show some _ = some _
        simp
      · rename_i hag
        obtain ⟨d, i, h1, h2, h3, h4⟩ := aggOf_some hag
        rw [arun_bind', arun_srun h3]
        simp only [Option.bind_some, Option.isSome_none, Bool.false_eq_true, if_false]
        split at h
        · rename_i v hv
          show arun P (.load .plain ⟨b, o, .none⟩ .pure) S = some r
          simp only [arun, hget, hv]
          exact h
        · cases h
      · cases h
    · cases h
  · cases h

/-! ### Stores -/
theorem put_put (S : St) (b : Nat) (x y : Option ABlk) : (S.put b x).put b y = S.put b y := by
  unfold St.put
  simp only [set_set, bit_bit]
end

def fPut (b o : Nat) (vs : List Value) (S : St) : Option (Value × St) :=
  match S.heap.get b with
  | some (.cells cs e) => match vs with
    | [v] => setL cs o v fun cs => S.putK b (some (.cells cs e)) fun S => some (undef, S)
    | _ :: _ => match Nat.ble (o + lenL vs) (lenL cs) with
      | true => forceVs (pasteL o vs cs) fun cs => S.putK b (some (.cells cs e)) fun S => some (undef, S)
      | false => .none
    | [] => .none
  | _ => .none
def fStore (P : Program) (t : TypeId) (v x : Value) (S : St) : Option (Value × St) :=
  match v with
  | .pointer (some ⟨b, o, .none⟩) => match x with
    | .agg ⟨vs⟩ => match P.info? t, vs.all flatCell with
      | some i, true => match Nat.beq (lenL vs) i.size with
        | true => fPut b o vs S
        | false => .none
      | _, _ => .none
    | .tuple _ => .none
    | x => match P.info? t with
      | some i => match Nat.beq 1 i.size with
        | true => fPut b o [x] S
        | false => .none
      | .none => .none
  | _ => .none

section
variable {P : Program}
theorem arun_storeFrom {b o : Nat} : ∀ (vs : List Value) (i : Nat) (v : Value) {S : St} {cs : List Value} {e : TypeId}, S.heap.get b = some (.cells cs e) → b < 8192 → (v :: vs).all flatCell = true → o + i + (v :: vs).length ≤ cs.length →
    arun P (storeCells ⟨b, o, .none⟩ (v :: vs) i) S = some ((), S.put b (some (.cells (pasteL (o + i) (v :: vs) cs) e))) := by
  intro vs
  induction vs with
  | nil =>
    intro i v S cs e hget hb hf hl
    have ea : Addr.add ⟨b, o, .none⟩ i = ⟨b, o + i, .none⟩ := by unfold Addr.add; split <;> simp_all
    show arun P (.store .plain (Addr.add ⟨b, o, .none⟩ i) v (.pure ())) S = _
    simp only [List.all_cons, List.all_nil, Bool.and_true, List.length_cons, List.length_nil] at hf hl
    rw [ea]
    simp only [arun, hf, hget, forceV_eq, forceN_eq, setL_eq, St.putK_eq]
    rw [if_pos (by omega), pasteL_cons, pasteL_nil]
  | cons u vs ih =>
    intro i v S cs e hget hb hf hl
    have ea : Addr.add ⟨b, o, .none⟩ i = ⟨b, o + i, .none⟩ := by unfold Addr.add; split <;> simp_all
    show arun P (.store .plain (Addr.add ⟨b, o, .none⟩ i) v (storeCells ⟨b, o, .none⟩ (u :: vs) (i + 1))) S = _
    rw [List.all_cons, Bool.and_eq_true] at hf
    simp only [List.length_cons] at hl
    rw [ea]
    simp only [arun, hf.1, hget, forceV_eq, forceN_eq, setL_eq, St.putK_eq]
    rw [if_pos (by omega)]
    rw [ih (i + 1) u (S := S.put b (some (.cells (cs.set (o + i) v) e))) (cs := cs.set (o + i) v) (e := e) (Tr.get_set_eq 33 _ _ _ (by omega)) hb hf.2 (by simp; omega)]
    rw [put_put, pasteL_cons v (u :: vs)]
    rfl
theorem fPut_some {b o : Nat} {vs : List Value} {S : St} {r : Value × St} (h : fPut b o vs S = some r) (hf : vs.all flatCell = true) (hb : b < 8192) : arun P (storeCells ⟨b, o, .none⟩ vs) S = some ((), r.2) ∧ r.1 = undef := by
  unfold fPut at h
  split at h
  · rename_i cs e hget
    split at h
    · rename_i v
      rw [setL_eq] at h
      split at h
      · rw [St.putK_eq] at h
        cases h
        have := arun_storeFrom (P := P) (o := o) [] 0 v hget hb hf (by simp; omega)
        rw [pasteL_cons, pasteL_nil] at this
        exact ⟨this, rfl⟩
      · cases h
    · rename_i v vs _
      split at h
      · rename_i hle
        have hle := Nat.le_of_ble_eq_true hle
        rw [lenL_eq, lenL_eq] at hle
        rw [forceVs_eq, St.putK_eq] at h
        cases h
        exact ⟨arun_storeFrom (P := P) (o := o) vs 0 v hget hb hf (by simpa using hle), rfl⟩
      · cases h
    · cases h
  · cases h
theorem fStore_some {t : TypeId} {v x : Value} {S : St} {r : Value × St} (h : fStore P t v x S = some r) (hlow : ∀ X, S.next ≤ X → S.heap.get X = .none) (hbnd : S.next ≤ 8192) : done (arun P (Instr.storeAt t v x) S) = some r := by
  have key : ∀ {b o : Nat} {i : TypeInfo}, P.info? t = some i → x.cells.size = i.size → x.cells.toList.all flatCell = true → fPut b o x.cells.toList S = some r → done (arun P (storeVar t ⟨b, o, .none⟩ x) S) = some r := by
    intro b o i hi hs hfl hp
    have hb : b < 8192 := by
      unfold fPut at hp
      split at hp
      · rename_i hget
        have : b < S.next := by
          rcases Nat.lt_or_ge b S.next with hl | hl
          · exact hl
          · rw [hlow b hl] at hget; cases hget
        omega
      · cases hp
    unfold storeVar
    rw [arun_bind', arun_srun (srun_sizeOf hi)]
    simp only [Option.bind_some]
    rw [if_neg (by simp [hs])]
    obtain ⟨h1, h2⟩ := fPut_some (P := P) hp hfl hb
    rw [h1]
    obtain ⟨r1, r2⟩ := r
    simp only at h2
    subst h2
    rfl
  unfold fStore at h
  split at h
  · rename_i b o
    split at h
    · rename_i vs
      split at h
      · rename_i i hi hfl
        split at h
        · rename_i hlen
          have := Nat.eq_of_beq_eq_true hlen
          rw [lenL_eq] at this
          exact key hi this hfl h
        · cases h
      · cases h
    · cases h
    · rename_i h1 h2
      split at h
      · rename_i i hi
        split at h
        · rename_i hlen
          have hlen := Nat.eq_of_beq_eq_true hlen
          have hc : x.cells = #[x] := by
            cases x <;> first | rfl | exact absurd rfl (h1 _)
          have hfc : flatCell x = true := by
            cases x <;> first | rfl | exact absurd rfl (h1 _) | exact absurd rfl (h2 _)
          refine key hi (by rw [hc]; exact hlen) (by rw [hc]; simp [hfc]) (by rw [hc]; exact h)
        · cases h
      · cases h
  · cases h
end

/-! ### Addresses, new variables -/
def fBox (P : Program) (e : TypeId) (v : Value) (S : St) : Option (Value × St) :=
  S.newK (.cells v.cells.toList e) fun id S => some (.pointer (some ⟨id, 0, .none⟩), S)
def fAlloc (P : Program) (e : TypeId) (S : St) : Option (Value × St) :=
  match zeroOf P e with
  | some z => S.newK (.cells z e) fun id S => some (.pointer (some ⟨id, 0, .none⟩), S)
  | .none => .none
def fField (P : Program) (s : TypeId) (v : Value) (f : Nat) (S : St) : Option (Value × St) :=
  match v with
  | .pointer (some ⟨b, o, .none⟩) => match offOf P s f with
    | some d => forceN (Nat.add o d) fun o => some (.pointer (some ⟨b, o, .none⟩), S)
    | .none => .none
  | _ => .none
def fIndex (P : Program) (t : TypeId) (v : Value) (i : Int) (S : St) : Option (Value × St) :=
  match v, i with
  | .slice (some ⟨b, o, .none⟩) n _, .ofNat i => match Nat.blt i n, elemOf P t with
    | true, some size => forceN (Nat.add o (Nat.mul i size)) fun o => some (.pointer (some ⟨b, o, .none⟩), S)
    | _, _ => .none
  | .complex .f32 n 0, .ofNat i => match Nat.blt i (Nat.div n 8192), elemOf P t with
    | true, some size => forceN (Nat.mul i size) fun o => forceN (Nat.mod n 8192) fun b => some (.pointer (some ⟨b, o, .none⟩), S)
    | _, _ => .none
  | _, _ => .none

section
variable {P : Program}
theorem fBox_some {e : TypeId} {v : Value} {S : St} {r : Value × St} (h : fBox P e v S = some r) : arun P (Instr.box e v) S = some r := by
  unfold fBox at h
  rw [St.newK_eq] at h
  split at h
  · rename_i hl
    show arun P (.new (.cells ⟨v.cells.toList⟩ e (0, 0)) fun id => .pure (Value.pointer (some ⟨id, 0, .none⟩))) S = _
    simp only [arun, forceVs_eq, St.newK_eq]
    rw [if_pos hl]
    exact h
  · cases h
theorem zeroOf_some {t : TypeId} {z : List Value} (h : zeroOf P t = some z) : ∃ i v, P.info? t = some i ∧ i.zero = some v ∧ z = v.cells.toList := by
  unfold zeroOf at h
  split at h
  · split at h
    · cases h; exact ⟨_, _, by assumption, by assumption, rfl⟩
    · cases h
  · cases h
theorem fAlloc_some {e : TypeId} {S : St} {r : Value × St} (h : fAlloc P e S = some r) : arun P (Instr.alloc e true (.tuple #[])) S = some r := by
  unfold fAlloc at h
  split at h
  · rename_i z hz
    obtain ⟨i, v, h1, h2, rfl⟩ := zeroOf_some hz
    unfold Instr.alloc
    rw [arun_bind', arun_srun (srun_zeroValue h1 h2)]
    exact fBox_some h
  · cases h
theorem add_eq (b o d : Nat) : Addr.add ⟨b, o, .none⟩ d = ⟨b, o + d, .none⟩ := by unfold Addr.add; split <;> simp_all
theorem fField_some {s : TypeId} {v : Value} {f : Nat} {S : St} {r : Value × St} (h : fField P s v f S = some r) : arun P (Instr.fieldAt s v f) S = some r := by
  unfold fField at h
  split at h
  · rename_i b o
    split at h
    · rename_i d hd
      rw [forceN_eq] at h
      unfold offOf at hd
      split at hd
      · rename_i fields hu
        split at hd
        · rename_i fd hfd
          split at hd
          · rename_i i hi
            split at hd
            · cases hd
            · rename_i hz
              cases hd
              have hz : i.size ≠ 0 := fun h => by rw [h] at hz; cases hz
              unfold Instr.fieldAt
              rw [arun_bind', arun_srun (srun_underlying hu)]
              simp only [Option.bind_some, hfd]
              show arun P (fieldPlace ⟨b, o, .none⟩ fd >>= fun a => pure (.pointer (some a))) S = some r
              unfold fieldPlace
              rw [arun_bind', arun_bind', arun_srun (srun_sizeOf hi)]
              simp only [Option.bind_some]
              rw [if_neg hz, add_eq]
              exact h
          · cases hd
        · cases hd
      · cases hd
    · cases h
  · cases h
theorem fIndex_some {t : TypeId} {v : Value} {i : Int} {k : IntKind} {S : St} {r : Value × St} (h : fIndex P t v i S = some r) : aIdx P t v k i S = some r := by
  unfold fIndex at h
  split at h
  · rename_i b o n c i
    split at h
    · rename_i size hlt hsz
      rw [forceN_eq] at h
      have hlt : i < n := Nat.le_of_ble_eq_true hlt
      unfold elemOf at hsz
      split at hsz
      · rename_i e hu
        split at hsz
        · rename_i info hi
          cases hsz
          show arun P (underlying t >>= _) S = _
          rw [arun_bind', arun_srun (srun_underlying hu)]
          simp only [Option.bind_some]
          show arun P (idxTail t k (Int.ofNat i) (some ⟨b, o, .none⟩, n, e)) S = _
          unfold idxTail
          rw [arun_bind, arun_srun (srun_underlying hu)]
          simp only [Option.bind_some]
          rw [if_pos ⟨by simp, by simp; exact hlt⟩, arun_bind, arun_srun (srun_sizeOf hi)]
          simp only [Option.bind_some]
          rw [add_eq]
          exact h
        · cases hsz
      · cases hsz
    · cases h
  · rename_i n i
    split at h
    · rename_i size hlt hsz
      rw [forceN_eq, forceN_eq] at h
      have hlt : i < Nat.div n 8192 := Nat.le_of_ble_eq_true hlt
      unfold elemOf at hsz
      split at hsz
      · rename_i e hu
        split at hsz
        · rename_i info hi
          cases hsz
          show arun P (aIdxLoose t n (Int.ofNat i)) S = _
          unfold aIdxLoose
          rw [arun_bind, arun_srun (srun_underlying hu)]
          simp only [Option.bind_some]
          rw [show (decide ((0 : Int) ≤ Int.ofNat i) && decide (Int.ofNat i < ((Nat.div n 8192 : Nat) : Int))) = true from by
            simp only [Bool.and_eq_true, decide_eq_true_eq, Int.ofNat_eq_natCast]; omega]
          dsimp only
          rw [arun_bind, arun_srun (srun_sizeOf hi)]
          simp only [Option.bind_some, forceN_eq]
          exact h
        · cases hsz
      · cases hsz
    · cases h
  · cases h
end

/-! ### Numbers -/
def eqI : Int → Int → Bool
  | .ofNat a, .ofNat b => Nat.beq a b
  | .negSucc a, .negSucc b => Nat.beq a b
  | _, _ => false
def ltI : Int → Int → Bool
  | .ofNat a, .ofNat b => Nat.blt a b
  | .negSucc a, .negSucc b => Nat.blt b a
  | .negSucc _, .ofNat _ => true
  | .ofNat _, .negSucc _ => false
theorem eqI_eq (a b : Int) : eqI a b = (a == b) := by
  cases a <;> cases b <;> simp [eqI, Int.negSucc_inj] <;> (rw [Bool.eq_iff_iff]; simp [Nat.beq_eq]) <;> omega
theorem blt_eq (a b : Nat) : Nat.blt a b = decide (a < b) := by
  by_cases h : a < b
  · rw [show Nat.blt a b = true from Nat.ble_eq_true_of_le h]; simp [h]
  · have : Nat.blt a b = false := by
      cases hc : Nat.blt a b
      · rfl
      · exact absurd (Nat.le_of_ble_eq_true hc) h
    rw [this]; simp [h]
theorem ltI_eq (a b : Int) : ltI a b = decide (a < b) := by
  cases a <;> cases b <;> simp only [ltI, blt_eq] <;> (rw [Bool.eq_iff_iff]; simp) <;> omega

/-- int's operations on small numbers; none where it leaves it. -/
def fInt (op : BinOp) (a b : Int) : Option Value :=
  match op with
  | .eql => some (.bool (eqI a b))
  | .neq => some (.bool (!eqI a b))
  | .lss => some (.bool (ltI a b))
  | .gtr => some (.bool (ltI b a))
  | .leq => some (.bool (!ltI b a))
  | .geq => some (.bool (!ltI a b))
  | .add => match a, b with
    | .ofNat a, .ofNat b => match Nat.blt (a + b) 9223372036854775808 with
      | true => some (.int .i64 (.ofNat (a + b)))
      | false => .none
    | _, _ => .none
  | .sub => match a, b with
    | .ofNat a, .ofNat b => match Nat.ble b a && Nat.blt a 9223372036854775808 with
      | true => some (.int .i64 (.ofNat (a - b)))
      | false => .none
    | _, _ => .none
  | _ => .none
def fBin (P : Program) (op : BinOp) (t : TypeId) (x y : Operand) (a b : Value) (S : St) : Option (Value × St) :=
  match a, b with
  | .int .i64 a, .int .i64 b => match fInt op a b with
    | some v => some (v, S)
    | .none => aBin P op t x y (.int .i64 a) (.int .i64 b) S
  | a, b => aBin P op t x y a b S

section
variable {P : Program}
theorem fInt_some {op : BinOp} {t : TypeId} {x y : Operand} {a b : Int} {v : Value} (h : fInt op a b = some v) : srun P (do eqGuard op t x y (.int .i64 a) (.int .i64 b); binOp op t (.int .i64 a) (.int .i64 b)) = some v ∧ flat v = true := by
  cases op <;> simp only [fInt] at h
  case eql => cases h; rw [eqI_eq]; exact ⟨rfl, rfl⟩
  case neq => cases h; rw [eqI_eq]; exact ⟨rfl, rfl⟩
  case lss => cases h; rw [ltI_eq]; exact ⟨rfl, rfl⟩
  case gtr => cases h; rw [ltI_eq]; exact ⟨rfl, rfl⟩
  case leq =>
    cases h
    refine ⟨?_, rfl⟩
    have : (!ltI b a) = decide (a ≤ b) := by rw [ltI_eq, Bool.eq_iff_iff]; simp
    rw [this]; rfl
  case geq =>
    cases h
    refine ⟨?_, rfl⟩
    have : (!ltI a b) = decide (a ≥ b) := by rw [ltI_eq, Bool.eq_iff_iff]; simp
    rw [this]; rfl
  case add =>
    split at h
    · rename_i a b
      split at h
      · rename_i hl
        have hl : a + b < 9223372036854775808 := Nat.le_of_ble_eq_true hl
        cases h
        refine ⟨?_, rfl⟩
        have e : IntKind.i64.wrap (Int.ofNat a + Int.ofNat b) = Int.ofNat (a + b) := IntWalk.i64_in _ (by simp only [Int.ofNat_eq_natCast]; omega)
        show some (Value.int .i64 (IntKind.i64.wrap (Int.ofNat a + Int.ofNat b))) = _
        rw [e]
      · cases h
    · cases h
  case sub =>
    split at h
    · rename_i a b
      split at h
      · rename_i hl
        simp only [Bool.and_eq_true] at hl
        have h1 : a < 9223372036854775808 := Nat.le_of_ble_eq_true hl.2
        have h2 : b ≤ a := Nat.le_of_ble_eq_true hl.1
        cases h
        refine ⟨?_, rfl⟩
        have e0 : Int.ofNat a - Int.ofNat b = Int.ofNat (a - b) := by simp only [Int.ofNat_eq_natCast]; omega
        have e : IntKind.i64.wrap (Int.ofNat a - Int.ofNat b) = Int.ofNat (a - b) := by
          rw [e0]; exact IntWalk.i64_in _ (by simp only [Int.ofNat_eq_natCast]; omega)
        show some (Value.int .i64 (IntKind.i64.wrap (Int.ofNat a - Int.ofNat b))) = _
        rw [e]
      · cases h
    · cases h
  all_goals cases h
theorem fBin_some {op : BinOp} {t : TypeId} {x y : Operand} {a b : Value} {S : St} {r : Value × St} (h : fBin P op t x y a b S = some r) : aBin P op t x y a b S = some r := by
  unfold fBin at h
  split at h
  · rename_i a b
    split at h
    · rename_i v hv
      cases h
      obtain ⟨h1, h2⟩ := fInt_some (P := P) (t := t) (x := x) (y := y) hv
      show flatOut (srun P _) S = _
      rw [h1]
      show (match flat v with | true => some (v, S) | false => .none) = _
      rw [h2]
    · exact h
  · exact h
end

/-! ### The operation -/
def oPick (T : Tm) (c a b : Operand) (S : St) : Option (Value × St) := evO T c fun c => match c with
  | .bool true => evO T a fun v => some (v, S)
  | .bool false => evO T b fun v => some (v, S)
  | _ => .none
def oMove (T : Tm) (x : Operand) (S : St) : Option (Value × St) := evO T x fun v => some (v, S)
def oLoad (P : Program) (T : Tm) (t : TypeId) (a : Operand) (S : St) : Option (Value × St) := evO T a fun a => fLoad P t a S
def oStore (P : Program) (T : Tm) (t : TypeId) (a x : Operand) (S : St) : Option (Value × St) := evO T a fun a => evO T x fun x => fStore P t a x S
def oBox (P : Program) (T : Tm) (e : TypeId) (x : Operand) (S : St) : Option (Value × St) := evO T x fun v => fBox P e v S
def oField (P : Program) (T : Tm) (s : TypeId) (x : Operand) (f : Nat) (S : St) : Option (Value × St) := evO T x fun v => fField P s v f S
def orElse (a b : Option (Value × St)) : Option (Value × St) := match a with | some r => some r | .none => b
def oIndex (P : Program) (T : Tm) (t : TypeId) (x i : Operand) (S : St) : Option (Value × St) :=
  evO T x fun v => evI T i fun k i => orElse (fIndex P t v i S) (aIdx P t v k i S)
def oBin (P : Program) (T : Tm) (op : BinOp) (t : TypeId) (x y : Operand) (S : St) : Option (Value × St) := evO T x fun a => evO T y fun b => fBin P op t x y a b S
def oNil (T : Tm) (x : Operand) (S : St) : Option (Value × St) := evO T x fun v => match v with
  | .pointer (some a) => some (.pointer (some a), S)
  | _ => .none
def fLen (P : Program) (v : Value) (ts : List TypeId) (S : St) : Option (Value × St) :=
  match v, ts with
  | .slice _ n _, t :: _ => match elemOf P t with
    | some _ => some (.int .i64 (.ofNat n), S)
    | .none => .none
  | _, _ => .none
def oCall (P : Program) (T : Tm) (b : Builtin) (args : List Operand) (ts : List TypeId) (ty : TypeId) (S : St) : Option (Value × St) :=
  match b, args with
  | .len, [x] => evO T x fun v => orElse (fLen P v ts S) (aBuiltin P .len ts ty [v] S)
  | b, args => evOs T args fun vs => aBuiltin P b ts ty vs S
def fOp (P : Program) (T : Tm) (o : Oper) (S : St) : Option (Value × St) :=
  match o.op with
  | .move x => oMove T x S
  | .assign x => oMove T x S
  | .pick c a b => oPick T c a b S
  | .alloc e => fAlloc P e S
  | .box e x => oBox P T e x S
  | .load t a => oLoad P T t a S
  | .store t a x => oStore P T t a x S
  | .nilCheck x => oNil T x S
  | .binOp op t x y _ => oBin P T op t x y S
  | .fieldAddr s x f => oField P T s x f S
  | .indexAddr t x i => oIndex P T t x i S
  | .call ⟨.builtin b, args, ts⟩ => oCall P T b args.toList ts.toList o.type S
  | _ => aOp P T o S

section
variable {P : Program}
theorem evO_map {β γ : Type} {T : Tm} {x : Operand} {k : Value → Option β} {k' : Value → Option γ} {y : β} {z : γ} (h : evO T x k = some y) (hk : ∀ v, k v = some y → k' v = some z) : evO T x k' = some z := by
  cases x with
  | tmp t => exact hk _ h
  | const v =>
    unfold evO at h ⊢
    dsimp only at h ⊢
    cases hf : flat v with
    | true => rw [hf] at h; exact hk _ h
    | false => rw [hf] at h; cases h
  | func f => exact hk _ h
  | global g =>
    unfold evO at h ⊢
    dsimp only at h ⊢
    cases hf : Nat.blt g 64 with
    | true => rw [hf] at h; exact hk _ h
    | false => rw [hf] at h; cases h
theorem evI_map {β γ : Type} {T : Tm} {x : Operand} {k : IntKind → Int → Option β} {k' : IntKind → Int → Option γ} {y : β} {z : γ} (h : evI T x k = some y) (hk : ∀ kd i, k kd i = some y → k' kd i = some z) : evI T x k' = some z := by
  refine evO_map h fun v hv => ?_
  split at hv
  · exact hk _ _ hv
  · cases hv
theorem orElse_some {a b : Option (Value × St)} {r : Value × St} (h : orElse a b = some r) : a = some r ∨ b = some r := by
  unfold orElse at h
  split at h
  · exact .inl h
  · exact .inr h
theorem fLen_some {v : Value} {ts : List TypeId} {ty : TypeId} {S : St} {r : Value × St} (hv : fLen P v ts S = some r) : aBuiltin P .len ts ty [v] S = some r := by
  unfold fLen at hv
  split at hv
  · rename_i a n c t ts
    split at hv
    · rename_i sz hsz
      cases hv
      unfold elemOf at hsz
      split at hsz
      · rename_i e hu
        show arun P (underlying t >>= _) S = _
        rw [arun_bind', arun_srun (srun_underlying hu)]
        rfl
      · cases hsz
    · cases hv
  · cases hv
theorem oCall_some {T : Tm} {b : Builtin} {args : List Operand} {ts : List TypeId} {ty : TypeId} {S : St} {r : Value × St} (h : oCall P T b args ts ty S = some r) : evOs T args (fun vs => aBuiltin P b ts ty vs S) = some r := by
  unfold oCall at h
  split at h
  · exact evO_map h fun v hv => (orElse_some hv).elim fLen_some id
  · exact h
theorem oIndex_some {T : Tm} {t : TypeId} {x i : Operand} {S : St} {r : Value × St} (h : oIndex P T t x i S = some r) : evO T x (fun v => evI T i fun k i => aIdx P t v k i S) = some r :=
  evO_map h fun v hv => evI_map hv fun k i hi => (orElse_some hi).elim fIndex_some id
theorem fOp_some {T : Tm} {o : Oper} {S : St} {r : Value × St} (h : fOp P T o S = some r) (hlow : ∀ X, S.next ≤ X → S.heap.get X = .none) (hbnd : S.next ≤ 8192) : aOp P T o S = some r := by
  obtain ⟨dst, op, ty, pos, after, guard⟩ := o
  unfold fOp at h
  cases op <;> dsimp only at h
  case move x => exact h
  case assign x => exact h
  case pick c a b => exact h
  case alloc e => exact fAlloc_some h
  case box e x => exact evO_map h fun v hv => fBox_some hv
  case load t a => exact evO_map h fun v hv => fLoad_some hv
  case store t a x => exact evO_map h fun v hv => evO_map hv fun u hu => fStore_some hu hlow hbnd
  case nilCheck x => exact h
  case binOp op t x y yt => exact evO_map h fun v hv => evO_map hv fun u hu => fBin_some hu
  case fieldAddr s x f => exact evO_map h fun v hv => fField_some hv
  case indexAddr t x i => exact oIndex_some h
  case call c =>
    obtain ⟨callee, args, ts⟩ := c
    cases callee with
    | builtin b => exact oCall_some h
    | value f => exact h
    | invoke r n => exact h
  all_goals exact h
end


/-! ### More short cuts -/
def spine {β : Type} : List Value → (List Value → β) → β
  | [], k => k []
  | v :: vs, k => spine vs fun vs => k (v :: vs)
@[simp] theorem spine_eq {β : Type} : ∀ (vs : List Value) (k : List Value → β), spine vs k = k vs
  | [], _ => rfl
  | v :: vs, k => by rw [spine, spine_eq vs]
def fExtract (i : Nat) (v : Value) (S : St) : Option (Value × St) :=
  match v with
  | .tuple ⟨vs⟩ => match getL vs i with
    | some v => some (v, S)
    | .none => .none
  | _ => .none
def fNot (v : Value) (S : St) : Option (Value × St) :=
  match v with
  | .bool true => some (.bool false, S)
  | .bool false => some (.bool true, S)
  | _ => .none
def placesOf (P : Program) : List Field → Option (List (Nat × Nat))
  | [] => some []
  | f :: fs => match P.info? f.type, placesOf P fs with
    | some i, some ps => some ((f.offset, i.size) :: ps)
    | _, _ => .none
def structOf (P : Program) (t : TypeId) : Option (List (Nat × Nat)) :=
  match P.underlying t with
  | some (.struct fields) => placesOf P fields.toList
  | _ => .none
def fBuild (P : Program) (t : TypeId) (ps : List (Nat × Value)) (S : St) : Option (Value × St) :=
  match zeroOf P t, structOf P t with
  | some z, some places => match fillL (placeL places) z ps with
    | some x => spine x fun x => some (.agg ⟨x⟩, S)
    | .none => .none
  | _, _ => .none
/-- The elements of a slice type: the type, its size, its zero. -/
def sliceOf (P : Program) (t : TypeId) : Option (TypeId × Nat × List Value) :=
  match P.underlying t with
  | some (.slice e) => match P.info? e, zeroOf P e with
    | some i, some z => match Nat.beq z.length i.size && z.all flat1 && Nat.ble i.bytes 65536 with
      | true => some (e, i.size, z)
      | false => .none
    | _, _ => .none
  | _ => .none
def fBuildSlice (P : Program) (t : TypeId) (len : Nat) (ps : List (Nat × Value)) (S : St) : Option (Value × St) :=
  match sliceOf P t with
  | some (e, size, z) => match Nat.ble len 65536 && Nat.ble (len * size) 16777216 with
    | true => match fillL (fun i => some (i * size, size)) (repL len z) ps with
      | some x => spine x fun x => S.newK (.cells x e) fun id S => some (.slice (some ⟨id, 0, .none⟩) len len, S)
      | .none => .none
    | false => .none
  | .none => .none
def fMakeSlice (P : Program) (t : TypeId) (l c : Value) (S : St) : Option (Value × St) :=
  match l, c with
  | .int _ (.ofNat l), .int _ (.ofNat c) => match sliceOf P t with
    | some (e, _, z) => match Nat.ble l c && Nat.ble c 65536 with
      | true => spine (repL c z) fun x => S.newK (.cells x e) fun id S => some (.slice (some ⟨id, 0, .none⟩) l c, S)
      | false => .none
    | .none => .none
  | _, _ => .none

section
variable {P : Program}
theorem fExtract_some {i : Nat} {v : Value} {S : St} {r : Value × St} (h : fExtract i v S = some r) : arun P (Instr.extract v i) S = some r := by
  unfold fExtract at h
  split at h
  · rename_i vs
    rw [getL_eq] at h
    split at h
    · rename_i u hu
      unfold Instr.extract
      have : (⟨vs⟩ : Array Value)[i]? = some u := by simpa using hu
      simp only [this]
      exact h
    · cases h
  · cases h
theorem fNot_some {v : Value} {S : St} {r : Value × St} (h : fNot v S = some r) : (match flat v with | true => flatOut (srun P (Op.unary .not v)) S | false => .none) = some r := by
  unfold fNot at h
  split at h
  · exact h
  · exact h
  · cases h
theorem placesOf_some : ∀ {fs : List Field} {ps : List (Nat × Nat)}, placesOf P fs = some ps → srun P (mapL (fun f : Field => (sizeOf f.type).bind fun n => .pure (f.offset, n)) fs) = some ps
  | [], ps, h => by cases h; rfl
  | f :: fs, ps, h => by
    unfold placesOf at h
    split at h
    · rename_i i qs hi hq
      cases h
      unfold mapL
      rw [srun_bind, srun_bind, srun_sizeOf hi]
      show (srun P ((mapL _ fs).bind _)) = _
      rw [srun_bind, placesOf_some hq]
      rfl
    · cases h
theorem fBuild_some {t : TypeId} {ps : List (Nat × Value)} {S : St} {r : Value × St} (h : fBuild P t ps S = some r) : arun P (aBuild t ps) S = some r := by
  unfold fBuild at h
  split at h
  · rename_i z places hz hp
    obtain ⟨i, v, h1, h2, rfl⟩ := zeroOf_some hz
    unfold structOf at hp
    split at hp
    · rename_i fields hu
      split at h
      · rename_i x hx
        rw [spine_eq] at h
        unfold aBuild
        rw [arun_bind, arun_srun (srun_zeroValue h1 h2)]
        simp only [Option.bind_some]
        rw [arun_bind, arun_srun (srun_underlying hu)]
        simp only [Option.bind_some]
        rw [arun_bind, arun_srun (placesOf_some hp)]
        simp only [Option.bind_some, hx]
        exact h
      · cases h
    · cases hp
  · cases h
theorem sliceOf_some {t e : TypeId} {size : Nat} {z : List Value} (h : sliceOf P t = some (e, size, z)) : ∃ i v, P.underlying t = some (.slice e) ∧ P.info? e = some i ∧ i.zero = some v ∧ z = v.cells.toList ∧ size = i.size ∧ z.length = i.size ∧ z.all flat1 = true ∧ i.bytes ≤ 65536 := by
  unfold sliceOf at h
  split at h
  · rename_i e' hu
    split at h
    · rename_i i z' hi hz
      obtain ⟨i', v, h1, h2, h3⟩ := zeroOf_some hz
      rw [hi] at h1
      cases h1
      split at h
      · rename_i hb
        cases h
        simp only [Bool.and_eq_true] at hb
        exact ⟨i, v, hu, hi, h2, h3, rfl, Nat.eq_of_beq_eq_true hb.1.1, hb.1.2, Nat.le_of_ble_eq_true hb.2⟩
      · cases h
    · cases h
  · cases h
theorem arun_newRow {e : TypeId} {x : List Value} {S : St} {f : Addr → Sem Value} : arun P ((newRow e ⟨x⟩).bind f) S = S.newK (.cells x e) fun id S => arun P (f ⟨id, 0, .none⟩) S := by
  rw [arun_bind]
  show (arun P (.new (.cells ⟨x⟩ e (0, 0)) fun id => .pure (⟨id, 0, .none⟩ : Addr)) S).bind _ = _
  simp only [arun, forceVs_eq, St.newK_eq]
  split <;> rfl
theorem fBuildSlice_some {t : TypeId} {len : Nat} {ps : List (Nat × Value)} {S : St} {r : Value × St} (h : fBuildSlice P t len ps S = some r) : arun P (aBuildSlice t len ps) S = some r := by
  unfold fBuildSlice at h
  split at h
  · rename_i e size z hs
    obtain ⟨i, v, h1, h2, h3, rfl, rfl, h4, h5, h6⟩ := sliceOf_some hs
    split at h
    · rename_i hb
      simp only [Bool.and_eq_true] at hb
      have b1 := Nat.le_of_ble_eq_true hb.1
      have b2 := Nat.le_of_ble_eq_true hb.2
      split at h
      · rename_i x hx
        rw [spine_eq] at h
        unfold aBuildSlice
        rw [arun_bind, arun_srun (srun_underlying h1)]
        simp only [Option.bind_some]
        rw [arun_bind, arun_srun (srun_sizeOf h2)]
        simp only [Option.bind_some]
        rw [arun_bind, arun_srun (srun_zeroValue h2 h3)]
        simp only [Option.bind_some]
        have e1 : Nat.ble (len * i.size) 16777216 = true := hb.2
        have e2 : Nat.beq v.cells.size i.size = true := by rw [← Array.length_toList, h4]; exact Nat.beq_refl _
        have e3 : Nat.ble len 4294967296 = true := Nat.ble_eq_true_of_le (by omega)
        simp only [e1, e2, h5, e3, hx, filled]
        rw [arun_newRow]
        exact h
      · cases h
    · cases h
  · cases h
theorem fMakeSlice_some {t : TypeId} {l c : Value} {S : St} {r : Value × St} (h : fMakeSlice P t l c S = some r) : ∃ kl il kc ic, l = .int kl il ∧ c = .int kc ic ∧ arun P (aMakeSlice t il ic) S = some r := by
  unfold fMakeSlice at h
  split at h
  · rename_i kl l kc c
    refine ⟨kl, .ofNat l, kc, .ofNat c, rfl, rfl, ?_⟩
    split at h
    · rename_i e size z hs
      obtain ⟨i, v, h1, h2, h3, rfl, rfl, h4, h5, h6⟩ := sliceOf_some hs
      split at h
      · rename_i hb
        simp only [Bool.and_eq_true] at hb
        have b1 := Nat.le_of_ble_eq_true hb.1
        have b2 := Nat.le_of_ble_eq_true hb.2
        rw [spine_eq] at h
        unfold aMakeSlice
        rw [arun_bind, arun_srun (srun_underlying h1)]
        simp only [Option.bind_some]
        rw [arun_bind, arun_srun (srun_typeInfo h2)]
        simp only [Option.bind_some]
        rw [arun_bind, arun_srun (srun_sizeOf h2)]
        simp only [Option.bind_some]
        rw [arun_bind, arun_srun (srun_zeroValue h2 h3)]
        simp only [Option.bind_some]
        have hm : i.bytes * c ≤ 65536 * 65536 := Nat.mul_le_mul h6 b2
        have e1 : (decide ((0 : Int) ≤ Int.ofNat l) && decide (Int.ofNat l ≤ Int.ofNat c) && decide (Int.ofNat c ≤ 4294967296) && decide ((i.bytes : Int) * Int.ofNat c ≤ 2 ^ 48)) = true := by
          simp only [Bool.and_eq_true, decide_eq_true_eq, Int.ofNat_eq_natCast]
          refine ⟨⟨⟨by omega, by omega⟩, by omega⟩, ?_⟩
          have : ((i.bytes * c : Nat) : Int) ≤ 2 ^ 48 := by
            have : i.bytes * c ≤ 2 ^ 48 := Nat.le_trans hm (by decide)
            exact_mod_cast this
          simpa using this
        have e2 : Nat.beq v.cells.size i.size = true := by rw [← Array.length_toList, h4]; exact Nat.beq_refl _
        simp only [e1, e2, h5]
        rw [arun_newRow]
        exact h
      · cases h
    · cases h
  · cases h
end

end
end Go.Proofs.YtgkbjdphkmmmhaaDoor.Ev
