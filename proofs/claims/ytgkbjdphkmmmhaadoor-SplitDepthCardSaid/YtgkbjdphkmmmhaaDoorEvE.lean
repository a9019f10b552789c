/-
  Runs that the kernel carries out: append. No program in sight.
-/
import Derived.Test.YtgkbjdphkmmmhaaDoorEvD
namespace Go.Proofs.YtgkbjdphkmmmhaaDoor.Ev
open Go
noncomputable section

section
variable {P : Program} {m : BMap}

/-! ### Reading a part of a block -/
noncomputable def dropL (n : Nat) : List Value → List Value := Nat.rec (fun l => l) (fun _ ih l => List.casesOn l [] fun _ l => ih l) n
theorem dropL_eq : ∀ (n : Nat) (l : List Value), dropL n l = l.drop n
  | 0, [] => rfl
  | 0, _ :: _ => rfl
  | _ + 1, [] => rfl
  | n + 1, _ :: l => dropL_eq n l
noncomputable def takeK {β : Type} (n : Nat) : List Value → (List Value → Option β) → Option β := Nat.rec (fun _ k => k []) (fun _ ih l k => List.casesOn l .none fun v l => ih l fun l => k (v :: l)) n
theorem takeK_some {β : Type} {y : β} : ∀ {n : Nat} {l : List Value} {k : List Value → Option β}, takeK n l k = some y → n ≤ l.length ∧ k (l.take n) = some y
  | 0, l, k, h => ⟨Nat.zero_le _, h⟩
  | n + 1, [], k, h => by cases h
  | n + 1, v :: l, k, h => by
    have := takeK_some (n := n) (l := l) h
    exact ⟨by simp; exact this.1, by simpa using this.2⟩

/-- The first k elements of a slice, or bytes of a string. -/
def aCells {β : Type} (size k : Nat) (v : Value) (S : St) (K : List Value → St → Option β) : Option β :=
  match v with
  | .string s => match Nat.beq size 1 with
    | true => K ((s.extract 0 k).data.toList.map fun b => .int .u8 b.toNat) S
    | false => .none
  | .slice .none _ _ => K [] S
  | .slice (some a) n _ =>
    match Nat.ble k n with
    | false => .none
    | true => match Nat.beq (k * size) 0 with
      | true => K [] S
      | false => match S.heap.get a.block with
        | some (.cells cs _) => takeK (k * size) (dropL a.off cs) fun r => S.rd a.block fun S => K r S
        | _ => .none
  | _ => .none

theorem cell_at {w : World} {a : Addr} {c : Array Value} {e : TypeId} {fz : Nat × Nat} (hb : w.heap[a.block]? = some (.cells c e fz)) (hs : a.spot = .none) (i : Nat) : w.cell? (a.add i) = c[a.off + i]? := by
  unfold World.cell? Addr.add
  by_cases h : i = 0
  · subst h; simp [hb, hs]
  · rw [if_neg h]; simp only; rw [hb]; simp
theorem loadCellsFrom_run {w : World} {a : Addr} : ∀ (vs : List Value) (i : Nat) (acc : Array Value), (∀ j v, vs[j]? = some v → w.cell? (a.add (i + j)) = some v) →
    (loadCellsFrom a i vs.length acc).run P w = .ok (acc ++ vs.toArray) w
  | [], i, acc, h => by simp [loadCellsFrom, pure]
  | v :: vs, i, acc, h => by
    have h0 := h 0 v rfl
    show Sem.run P (.load .plain (a.add i) fun v => loadCellsFrom a (i + 1) vs.length (acc.push v)) w = _
    simp only [Sem.run]
    rw [Nat.add_zero] at h0
    rw [h0]
    dsimp only
    rw [loadCellsFrom_run vs (i + 1) (acc.push v) fun j v hj => by rw [show i + 1 + j = i + (j + 1) by omega]; exact h (j + 1) v hj]
    congr 1
    apply Array.ext'
    simp

def lenV : Value → Option Nat
  | .slice _ n _ => some n
  | .string s => some s.size
  | _ => .none
theorem aCells_grown {β : Type} {size k : Nat} {v : Value} {S : St} {K : List Value → St → Option β} {y : β} (he : aCells size k v S K = some y) : ∃ r S1, K r S1 = some y ∧ Grown S S1 ∧ S1.heap = S.heap ∧ S1.next = S.next := by
  unfold aCells at he
  split at he
  · split at he
    · exact ⟨_, S, he, Grown.refl S, rfl, rfl⟩
    · cases he
  · exact ⟨_, S, he, Grown.refl S, rfl, rfl⟩
  · split at he
    · cases he
    · split at he
      · exact ⟨_, S, he, Grown.refl S, rfl, rfl⟩
      · split at he
        · have := (takeK_some he).2
          rw [St.rd_eq] at this
          exact ⟨_, _, this, Grown.rd S _, rfl, rfl⟩
        · cases he
  · cases he
theorem aCells_some {β : Type} {V : Nat → Prop} {S S' : St} {w : World} {size k : Nat} {v v' : Value} {K : List Value → St → Option (β × St)} {y : β} (he : aCells size k v S K = some (y, S')) (hv : VRel m v v') (hlen : lenV v = some k) (hr : Rel P V m S w)
    (hg : ∀ r S1, S1.heap = S.heap → K r S1 = some (y, S') → Grown S1 S') (ha : ∀ X, X < S.next → S'.acc.testBit X = true → V X) :
    ∃ r r' S1, K r S1 = some (y, S') ∧ Out P V m S w m S1 w ∧ S1.heap = S.heap ∧ S1.next = S.next ∧ S1.wr = S.wr ∧ VRels m r r'.toList ∧ (∀ w2 : World, w2.heap = w.heap → (Builtin.firstCells size k v').run P w2 = .ok r' w2) ∧ r.length = k * size ∧
      ∀ a n c, v = .slice (some a) n c → ∀ cs e, S.heap.get a.block = some (.cells cs e) → ∀ i u, r[i]? = some u → cs[a.off + i]? = some u := by
  unfold aCells at he
  cases hv with
  | string s =>
    dsimp only at he
    split at he
    · rename_i hs1
      have hs1 := Nat.eq_of_beq_eq_true hs1
      refine ⟨_, (s.extract 0 k).data.map fun b => .int .u8 b.toNat, S, he, Out.refl hr, rfl, rfl, rfl, ?_, fun w2 _ => rfl, ?_, fun a n c h => by cases h⟩
      · rw [Array.toList_map]
        refine flats_rel ?_
        rw [List.all_map, List.all_eq_true]
        intro b _
        rfl
      · rw [List.length_map, hs1]
        have : s.size = k := by simpa [lenV] using hlen
        have e : (s.extract 0 k).data.toList.length = (s.extract 0 k).size := rfl
        rw [e]
        simp [this]
    · cases he
  | snil =>
    have : k = 0 := by simp [lenV] at hlen; omega
    exact ⟨_, #[], S, he, Out.refl hr, rfl, rfl, rfl, .nil, fun w2 _ => rfl, by rw [this]; simp, fun a n c h => by cases h⟩
  | @slice a a' n c c' hc haa hf =>
    dsimp only at he
    split at he
    · cases he
    · rename_i hk
      have hk := Nat.le_of_ble_eq_true hk
      split at he
      · rename_i hz
        have hz := Nat.eq_of_beq_eq_true hz
        refine ⟨_, #[], S, he, Out.refl hr, rfl, rfl, rfl, .nil, fun w2 _ => ?_, by rw [hz]; rfl, fun a n c h cs e _ i u hu => by simp at hu⟩
        show (loadCells a' (k * size)).run P w2 = _
        rw [hz]
        rfl
      · rename_i hz
        have hz : k * size ≠ 0 := fun h => by rw [h] at hz; cases hz
        split at he
        · rename_i cs e hget
          obtain ⟨hlen, he⟩ := takeK_some he
          rw [St.rd_eq, dropL_eq] at he
          rw [dropL_eq] at hlen
          have hVb : V a.block := ha a.block (hr.lt hget) ((hg _ ⟨S.heap, S.next, bit S.acc a.block, S.wr⟩ rfl he).acc _ (by simp [bit_eq]))
          have haa : ARel m a a' := haa.resolve_right (fun h => hz (by rw [show k = 0 by omega]; simp))
          obtain ⟨p, q2, q1, ⟨fr, q3, _⟩, q4, q5⟩ := hr.blk _ hVb _ hget
          obtain ⟨p', g1, g2, g3, g4, g5⟩ := haa
          rw [q1] at g1
          cases g1
          have hrel : ∀ j v, ((cs.drop a.off).take (k * size))[j]? = some v → ∃ v', q2[a'.off + j]? = some v' ∧ VRel m v v' := by
            intro j v hj
            rw [List.getElem?_take] at hj
            split at hj
            · rw [List.getElem?_drop] at hj
              obtain ⟨v', h1, h2⟩ := q5.2 _ _ hj
              exact ⟨v', by rw [show a'.off + j = a.off + j + p.off by omega]; exact h1, h2⟩
            · cases hj
          have hll : ((cs.drop a.off).take (k * size)).length = k * size := by rw [List.length_take]; omega
          let r' : List Value := (List.range (k * size)).map fun j => (q2[a'.off + j]?).getD undef
          refine ⟨_, ⟨r'⟩, _, he, hr.rd a.block, rfl, rfl, rfl, ?_, fun w2 hw2 => ?_, hll, ?_⟩
          · refine VRels.of_get (by simp [r', hll]) fun j v v' h1 h2 => ?_
            obtain ⟨u, h3, h4⟩ := hrel j v h1
            simp only [r', List.getElem?_map] at h2
            cases hj : (List.range (k * size))[j]? with
            | none => rw [hj] at h2; cases h2
            | some i =>
              have : i = j := by
                have h5 := List.getElem?_eq_some_iff.1 hj
                obtain ⟨h6, h7⟩ := h5
                simpa using h7.symm
              subst this
              rw [hj] at h2
              simp only [Option.map_some, h3, Option.getD_some] at h2
              cases h2
              exact h4
          · show (loadCellsFrom a' 0 (k * size) #[]).run P w2 = _
            have hl' : r'.length = k * size := by simp [r']
            rw [← hl', loadCellsFrom_run r' 0 #[]]
            · simp
            · intro j v hj
              have hb : w2.heap[a'.block]? = some (.cells q2 e fr) := by rw [hw2, g2]; exact q3
              rw [cell_at hb g5, Nat.zero_add]
              simp only [r', List.getElem?_map] at hj
              cases hj2 : (List.range (k * size))[j]? with
              | none => rw [hj2] at hj; cases hj
              | some i =>
                have h5 := List.getElem?_eq_some_iff.1 hj2
                obtain ⟨h6, h7⟩ := h5
                have : i = j := by simpa using h7.symm
                subst this
                rw [hj2] at hj
                have hi : i < ((cs.drop a.off).take (k * size)).length := by rw [hll]; simpa using h6
                obtain ⟨u, h3, _⟩ := hrel i _ (List.getElem?_eq_getElem hi)
                rw [Option.map_some, h3] at hj
                rw [h3]
                simpa using hj
          · intro a0 n0 c0 h0 cs0 e0 hg0 i u hu
            cases h0
            rw [hget] at hg0
            cases hg0
            rw [List.getElem?_take] at hu
            split at hu
            · rw [List.getElem?_drop] at hu; exact hu
            · cases hu
        · cases he
  | _ => cases he

/-! ### Writing a part of a block -/
theorem storeCells_run {e : TypeId} : ∀ (vs : List Value) (i : Nat) {w : World} {a : Addr} {c : Array Value} {fr : Nat × Nat}, w.heap[a.block]? = some (.cells c e fr) → NoFr P e c.size fr → a.spot = .none → vs.all flatCell = true → a.off + i + vs.length ≤ c.size →
    ∃ w', (storeCells a vs i).run P w = .ok () w' ∧ w'.heap.size = w.heap.size ∧ w'.os = w.os ∧ w'.tape = w.tape ∧ w'.output = w.output ∧ (∀ k, k ≠ a.block → w'.heap[k]? = w.heap[k]?) ∧
      ∃ c', w'.heap[a.block]? = some (.cells c' e fr) ∧ c'.size = c.size ∧ (∀ j, j < a.off + i → c'[j]? = c[j]?) ∧ (∀ j v, vs[j]? = some v → c'[a.off + i + j]? = some v)
  | [], i, w, a, c, fr, hb, hnf, hs, hf, hl => ⟨w, rfl, rfl, rfl, rfl, rfl, fun _ _ => rfl, c, hb, rfl, fun _ _ => rfl, fun j v h => by simp at h⟩
  | v :: vs, i, w, a, c, fr, hb, hnf, hs, hf, hl => by
    simp only [List.all_cons, Bool.and_eq_true, List.length_cons] at hf hl
    have hblk : (a.add i).block = a.block := by unfold Addr.add; split <;> rfl
    have hoff : (a.add i).off = a.off + i := by unfold Addr.add; split <;> simp_all
    have hsp : (a.add i).spot = .none := by unfold Addr.add; split <;> simp_all
    have hoc : a.off + i < c.size := by omega
    have hcell : w.cell? (a.add i) = some c[a.off + i] := by rw [cell_at hb hs]; exact Array.getElem?_eq_getElem hoc
    have hfr : w.frozen? (a.add i) = false := by unfold World.frozen?; rw [hblk, hb]; exact hnf.not (by rw [hoff]; exact hoc)
    have hset : (w.setCell (a.add i) v).heap = w.heap.modify a.block fun | .cells c elem frozen => .cells (c.setIfInBounds (a.off + i) v) elem frozen | o => o := by
      unfold World.setCell
      simp only [hsp, hblk, hoff, Option.isSome_none, Bool.false_eq_true, if_false]
      rfl
    have hb1 : (w.setCell (a.add i) v).heap[a.block]? = some (.cells (c.setIfInBounds (a.off + i) v) e fr) := by
      rw [hset, Array.getElem?_modify, if_pos rfl, hb]
      rfl
    obtain ⟨w', h1, h2, h3, h4, h5, h6, c', h7, h8, h9, h10⟩ := storeCells_run vs (i + 1) hb1 (by simpa using hnf) hs hf.2 (by simp; omega)
    refine ⟨w', ?_, ?_, h3, h4, h5, ?_, c', h7, by simpa using h8, ?_, ?_⟩
    · rw [← h1]
      show Sem.run P (.store .plain (a.add i) v (storeCells a vs (i + 1))) w = _
      have hfl := hf.1
      cases v <;> first | (simp [flatCell] at hfl; done) | (simp only [Sem.run, hcell, hfr]; rfl)
    · rw [h2, hset, Array.size_modify]
    · intro k hk
      rw [h6 k hk, hset, Array.getElem?_modify, if_neg (fun h => hk h.symm)]
    · intro j hj
      rw [h9 j (by omega), Array.getElem?_setIfInBounds_ne (by omega)]
    · intro j u hu
      cases j with
      | zero =>
        simp at hu
        subst hu
        rw [Nat.add_zero, h9 _ (by omega), Array.getElem?_setIfInBounds_self_of_lt hoc]
      | succ j =>
        simp at hu
        rw [← h10 j u hu]
        congr 1
        omega

/-! ### append -/
def appendOk (info : TypeInfo) (need : Nat) : Bool :=
  match info.zero with
  | some z => Nat.beq z.cells.size info.size && Nat.ble ((4 * need + 1000) * info.bytes) (2 ^ 48) && Nat.ble need 4294967296
  | .none => false
def appIn (size n k c : Nat) (a : Option Addr) (x : Value) : Sem Value := do
  let new ← Builtin.firstCells size k x
  if let some a := a then storeCells (a.add (n * size)) new.toList
  pure (.slice a (n + k) c)
def aAppend (P : Program) (elem : TypeId) (info : TypeInfo) (s x : Value) (S : St) : Option (Value × St) :=
  match s, lenV x with
  | .slice a n c, some k =>
    match Nat.ble n (low c) && appendOk info (n + k) with
    | false => .none
    | true =>
    match Nat.beq k 0 with
    | true => some (s, S)
    | false =>
      match Nat.blt c big with
      | true =>
        match Nat.ble (n + k) c with
        | true => arun P (appIn info.size n k c a x) S
        | false => aCells info.size n s S fun old S => aCells info.size k x S fun new S => S.newK (.cells (old ++ new) elem) fun id S => some (.slice (some ⟨id, 0, .none⟩) (n + k) (big + (n + k)), S)
      | false =>
        match a with
        | .none => .none
        | some a =>
          match S.heap.get a.block with
          | some (.cells _ e) => match Nat.beq e elem with
            | false => .none
            | true => aCells info.size n s S fun old S => aCells info.size k x S fun new S =>
              match new.all flatCell with
              | false => .none
              | true => S.putK a.block .none fun S => S.newK (.cells (old ++ new) elem) fun id S => some (.slice (some ⟨id, 0, .none⟩) (n + k) (big + (n + k)), S)
          | _ => .none
  | _, _ => .none

theorem nextcap_le {need c : Nat} (h : c < need) : Builtin.nextslicecap need c ≤ 2 * need + 1000 := by
  unfold Builtin.nextslicecap
  split
  · omega
  · split
    · omega
    · have step : ∀ r x, x ≤ 2 * need + 1000 → Builtin.growBy need r x ≤ 2 * need + 1000 := by
        intro r
        induction r with
        | zero => intro x hx; exact hx
        | succ r ih =>
          intro x hx
          unfold Builtin.growBy
          split
          · exact hx
          · exact ih _ (by omega)
      exact step 4 c (by omega)

theorem run_bind {α β : Type} (s : Sem α) (f : α → Sem β) (w : World) : (s >>= f).run P w = (s.run P w).andThen fun a w' => (f a).run P w' := Sem.run_bind P w s f
theorem run_underlying {t : TypeId} {d : TypeDesc} (h : P.underlying t = some d) (w : World) : (underlying t).run P w = .ok d w := srun_run (srun_underlying h) w
theorem run_sizeOf {t : TypeId} {i : TypeInfo} (h : P.info? t = some i) (w : World) : (sizeOf t).run P w = .ok i.size w := srun_run (srun_sizeOf h) w
theorem srun_typeInfo {t : TypeId} {i : TypeInfo} (h : P.info? t = some i) : srun P (typeInfo t) = some i := by
  show srun P (match P.info? t with | some i => (.pure i : Sem TypeInfo) | .none => .halt _) = _
  rw [h]; rfl
theorem srun_zeroValue {t : TypeId} {i : TypeInfo} {z : Value} (h : P.info? t = some i) (hz : i.zero = some z) : srun P (zeroValue t) = some z := by
  show srun P ((match P.info? t with | some i => (.pure i : Sem TypeInfo) | .none => .halt _).bind fun i => match i.zero with | some v => (.pure v : Sem Value) | .none => .halt _) = _
  rw [h]
  show srun P (match i.zero with | some v => (.pure v : Sem Value) | .none => .halt _) = _
  rw [hz]; rfl

/-- What append does, ahead of the question whether there is room. -/
def appendTail (elem : TypeId) (info : TypeInfo) (base : Option Addr) (s x : Value) (n c k : Nat) : Sem Value :=
  if n + k ≤ c then do
    let new ← Builtin.firstCells info.size k x
    if let some a := base then storeCells (a.add (n * info.size)) new.toList
    pure (.slice base (n + k) c)
  else do
    let newCap ← choose (.appendCap (n + k) c elem)
    askRoom (newCap * info.bytes)
    let old ← Builtin.firstCells info.size n s
    let new ← Builtin.firstCells info.size k x
    let rest := Builtin.zeroCells (info.zero.getD undef).cells (newCap - (n + k))
    pure (.slice (some (← newRow elem (old ++ new ++ rest))) (n + k) newCap)

theorem append_run {t t2 ty elem : TypeId} {info : TypeInfo} {d2 : TypeDesc} (ht : P.underlying t = some (.slice elem)) (hi : P.info? elem = some info) (ht2 : P.underlying t2 = some d2) (hd2 : ∀ k, d2 ≠ .int k)
    {base : Option Addr} {n c k : Nat} {x : Value} (hk : lenV x = some k) (hok : appendOk info (n + k) = true) (w : World) :
    (Builtin.append_ #[t, t2] ty #[.slice base n c, x]).run P w = (appendTail elem info base (.slice base n c) x n c k).run P w := by
  unfold appendOk at hok
  split at hok
  · rename_i z hz
    simp only [Bool.and_eq_true] at hok
    have h1 := Nat.eq_of_beq_eq_true hok.1.1
    have h2 := Nat.le_of_ble_eq_true hok.1.2
    have h3 := Nat.le_of_ble_eq_true hok.2
    unfold Builtin.append_
    show Sem.run P (underlying t >>= _) w = _
    rw [run_bind, run_underlying ht]
    simp only [Result.andThen]
    show Sem.run P (sizeOf elem >>= _) w = _
    rw [run_bind, run_sizeOf hi]
    simp only [Result.andThen]
    show Sem.run P (underlying t2 >>= _) w = _
    rw [run_bind, run_underlying ht2]
    simp only [Result.andThen]
    have hlen : (Builtin.lenOf x).run P w = .ok k w := by
      unfold lenV at hk
      split at hk
      · cases hk; rfl
      · cases hk; rfl
      · cases hk
    have rest : ∀ w1 : World, True := fun _ => trivial
    cases d2
    case int k' => exact absurd rfl (hd2 k')
    all_goals
      show Sem.run P (Builtin.lenOf x >>= _) w = _
      rw [run_bind, hlen]
      simp only [Result.andThen]
      unfold appendTail
      by_cases hc : n + k ≤ c
      · rw [if_pos hc, if_pos hc]
        rfl
      · rw [if_neg hc, if_neg hc]
        show Sem.run P (typeInfo elem >>= _) w = _
        rw [run_bind, srun_run (srun_typeInfo hi)]
        simp only [Result.andThen]
        rw [if_neg (by have e : IntKind.i64.max = 9223372036854775807 := rfl; rw [e]; omega)]
        show Sem.run P (typeInfo elem >>= _) w = _
        rw [run_bind, srun_run (srun_typeInfo hi)]
        simp only [Result.andThen]
        have hcap := nextcap_le (need := n + k) (c := c) (by omega)
        have hcap2 : Builtin.nextslicecap (n + k) c * info.bytes ≤ 2 ^ 48 := Nat.le_trans (Nat.mul_le_mul_right _ (by omega)) h2
        rw [if_neg (by omega)]
        rw [run_bind, run_bind]
        congr 1
        funext newCap w1
        show Sem.run P (typeInfo elem >>= _) w1 = _
        rw [run_bind, srun_run (srun_typeInfo hi)]
        simp only [Result.andThen]
        rw [run_bind, run_bind]
        congr 1
        funext _ w2
        rw [run_bind, run_bind]
        congr 1
        funext old w3
        rw [run_bind, run_bind]
        show (Sem.run P (Builtin.firstCells info.size k x) w3).andThen _ = _
        congr 1
        funext new w4
        show Sem.run P (zeroValue elem >>= _) w4 = _
        rw [run_bind, srun_run (srun_zeroValue hi hz)]
        simp only [Result.andThen, hz, Option.getD_some]
  · cases hok

theorem zeroCells_size (z : Array Value) (n : Nat) : (Builtin.zeroCells z n).size = n * z.size := by
  unfold Builtin.zeroCells; simp

theorem Rel.drew {V : Nat → Prop} {S : St} {w w1 : World} (h : Rel P V m S w) (hw : w1.heap = w.heap) : Rel P V m S w1 := by
  refine ⟨fun X hv x hx => ?_, h.inj, h.low, h.bnd⟩
  have := h.blk X hv x hx
  obtain ⟨p, hp, _⟩ := this.block
  exact this.same hp (by rw [hw])

/-- A block that is given up: what stood there stands in a new one, at the same place in the real memory or at another. -/
theorem Rel.of_move {V : Nat → Prop} {S : St} {w w1 : World} (h : Rel P V m S w) {b : Nat} {p q : Img} {old x : ABlk} (hb : V b) (hm : m b = some p) (hold : S.heap.get b = some old) (hn : S.next < 8192) (hmn : m S.next = .none)
    (hq : q.blk = p.blk ∨ q.blk = w.heap.size) (hsz : w.heap.size ≤ w1.heap.size) (hrest : ∀ k, k < w.heap.size → k ≠ p.blk → w1.heap[k]? = w.heap[k]?) (hos : w1.os = w.os) (htape : w1.tape = w.tape) (hout : w1.output = w.output)
    (hx : BR P (m.with S.next q) S.next x w1) : Out P V m S w (m.with S.next q) ((S.put b .none).new x) w1 := by
  have hlt : b < S.next := h.lt hold
  have hpl : p.blk < w.heap.size := by
    obtain ⟨p', h1, h2⟩ := (h.blk b hb _ hold).block
    rw [hm] at h1; cases h1; exact h2
  have hget : ((S.put b .none).new x).heap.get S.next = some x := Tr.get_set_eq 33 _ _ _ hn
  have hne : ∀ X, X ≠ S.next → ((S.put b .none).new x).heap.get X = (Tr.set 33 S.heap b .none).get X := fun X hX => Tr.get_set_ne 33 _ _ _ _ hX
  have hnb : ((S.put b .none).new x).heap.get b = .none := by rw [hne b (by omega)]; exact Tr.get_set_eq 33 _ _ _ (by have := h.bnd; omega)
  have hne2 : ∀ X, X ≠ S.next → X ≠ b → ((S.put b .none).new x).heap.get X = S.heap.get X := fun X h1 h2 => by rw [hne X h1]; exact Tr.get_set_ne 33 _ _ _ _ h2
  have hnext : ((S.put b .none).new x).next = S.next + 1 := rfl
  have hV : ∀ X, X ≠ S.next → V X ∨ (S.next ≤ X ∧ X < ((S.put b .none).new x).next) → V X := fun X h1 h2 => h2.resolve_right (fun h => by rw [hnext] at h; omega)
  have live : ∀ X y, X ≠ S.next → ((S.put b .none).new x).heap.get X = some y → X ≠ b ∧ S.heap.get X = some y := by
    intro X y h1 h2
    have h3 : X ≠ b := fun h => by rw [h, hnb] at h2; cases h2
    exact ⟨h3, by rw [← hne2 X h1 h3]; exact h2⟩
  have hg1 : Grown S ((S.put b .none).new x) := (Grown.put S b .none (by rw [hold]; rfl)).trans (Grown.new _ x hn)
  have hwb : ((S.put b .none).new x).wr.testBit b = true := (Grown.new (S.put b .none) x hn).wr b (by simp [St.put, bit_eq])
  refine ⟨Ext.with hmn _, ?_, ⟨?_, ?_, ?_, by rw [hnext]; omega⟩, hg1, hsz, hos, htape, hout, ?_, ?_⟩
  · intro X h1 h2
    by_cases hX : X = S.next
    · rw [hnext]; omega
    · rw [BMap.with_ne _ _ hX] at h2; exact absurd h1 h2
  · intro X hv y hy
    by_cases hX : X = S.next
    · subst hX
      rw [hget] at hy
      cases hy
      exact hx
    · obtain ⟨h1, h2⟩ := live X y hX hy
      have hB := h.blk X (hV X hX hv) y h2
      obtain ⟨c, hc, hl⟩ := hB.block
      refine BR.same (p := c) (by rw [BMap.with_ne _ _ hX]; exact hc) (hrest _ hl ?_) (hB.mono (Ext.with hmn q))
      intro he
      exact h1 (h.inj X b (hV X hX hv) hb (by rw [h2]; rfl) (by rw [hold]; rfl) _ _ hc hm he)
  · have key : ∀ X r, X ≠ S.next → (V X ∨ (S.next ≤ X ∧ X < ((S.put b .none).new x).next)) → (((S.put b .none).new x).heap.get X).isSome → m X = some r → r.blk ≠ q.blk := by
      intro X r hX hv hs hmX he
      obtain ⟨y, hy⟩ := Option.isSome_iff_exists.1 hs
      obtain ⟨h1, h2⟩ := live X y hX hy
      rcases hq with hq | hq
      · exact h1 (h.inj X b (hV X hX hv) hb (by rw [h2]; rfl) (by rw [hold]; rfl) _ _ hmX hm (by rw [he, hq]))
      · obtain ⟨c, hc, hl⟩ := (h.blk X (hV X hX hv) y h2).block
        rw [hmX] at hc
        cases hc
        omega
    intro X Y hX hY gX gY p1 q1 mX mY hpq
    by_cases eX : X = S.next
    · by_cases eY : Y = S.next
      · rw [eX, eY]
      · subst eX
        rw [BMap.with_self] at mX
        cases mX
        rw [BMap.with_ne _ _ eY] at mY
        exact absurd hpq.symm (key Y _ eY hY gY mY)
    · by_cases eY : Y = S.next
      · subst eY
        rw [BMap.with_self] at mY
        cases mY
        rw [BMap.with_ne _ _ eX] at mX
        exact absurd hpq (key X _ eX hX gX mX)
      · rw [BMap.with_ne _ _ eX] at mX
        rw [BMap.with_ne _ _ eY] at mY
        obtain ⟨y, hy⟩ := Option.isSome_iff_exists.1 gX
        obtain ⟨y', hy'⟩ := Option.isSome_iff_exists.1 gY
        obtain ⟨_, h2⟩ := live X y eX hy
        obtain ⟨_, h2'⟩ := live Y y' eY hy'
        exact h.inj X Y (hV X eX hX) (hV Y eY hY) (by rw [h2]; rfl) (by rw [h2']; rfl) _ _ mX mY hpq
  · intro X hX
    rw [hnext] at hX
    rw [hne2 X (by omega) (by omega)]
    exact h.low X (by omega)
  · intro k hk hw
    exact hrest k hk (fun he => hw b p hwb hm he.symm)
  · intro X r h1 h2 hmX
    rw [hnext] at h2
    have : X = S.next := by omega
    subst this
    rw [BMap.with_self] at hmX
    cases hmX
    rcases hq with hq | hq
    · exact .inr ⟨b, p, hwb, hm, hq.symm⟩
    · exact .inl (Nat.le_of_eq hq.symm)

theorem lenV_rel {x x' : Value} {k : Nat} (h : VRel m x x') (hk : lenV x = some k) : lenV x' = some k := by cases h <;> first | exact hk | cases hk

theorem fresh_run {elem : TypeId} {info : TypeInfo} {base : Option Addr} {s' x' : Value} {n c k : Nat} {w : World} {old new : Array Value} {z : Value} (hz : info.zero = some z) (hzs : z.cells.size = info.size) (hc : ¬ n + k ≤ c) (hnk : n + k ≤ 4294967296)
    (ho : ∀ w2 : World, w2.heap = w.heap → (Builtin.firstCells info.size n s').run P w2 = .ok old w2) (hn : ∀ w2 : World, w2.heap = w.heap → (Builtin.firstCells info.size k x').run P w2 = .ok new w2)
    (h1 : old.size = n * info.size) (h2 : new.size = k * info.size) :
    ∃ (cap : Nat) (cc : Array Value) (w1 : World), (appendTail elem info base s' x' n c k).run P w = .ok (.slice (some ⟨w.heap.size, 0, .none⟩) (n + k) cap) w1 ∧ n + k ≤ cap ∧ cc.size = cap * info.size ∧ w1.heap = w.heap.push (.cells cc elem (0, 0)) ∧
      w1.os = w.os ∧ w1.tape = w.tape ∧ w1.output = w.output ∧ ∀ (i : Nat) (v : Value), (old.toList ++ new.toList)[i]? = some v → cc[i]? = some v := by
  let cap := (Question.appendCap (n + k) c elem).cut (w.tape w.drawn (.appendCap (n + k) c elem))
  have hcap : n + k ≤ cap := Nat.le_add_right _ _
  let cc := old ++ new ++ Builtin.zeroCells z.cells (cap - (n + k))
  refine ⟨cap, cc, { { w with drawn := w.drawn + 1 } with heap := w.heap.push (.cells cc elem (0, 0)) }, ?_, hcap, ?_, rfl, rfl, rfl, rfl, ?_⟩
  · unfold appendTail
    rw [if_neg hc, run_bind]
    have e1 : (choose (.appendCap (n + k) c elem)).run P w = .ok cap { w with drawn := w.drawn + 1 } := rfl
    rw [e1]
    simp only [Result.andThen]
    rw [run_bind]
    have e2 : (askRoom (cap * info.bytes)).run P { w with drawn := w.drawn + 1 } = .ok () { w with drawn := w.drawn + 1 } := by
      unfold askRoom; split <;> rfl
    rw [e2]
    simp only [Result.andThen]
    rw [run_bind, ho { w with drawn := w.drawn + 1 } rfl]
    simp only [Result.andThen]
    rw [run_bind, hn { w with drawn := w.drawn + 1 } rfl, hz]
    rfl
  · simp only [cc, Array.size_append, zeroCells_size, h1, h2, hzs]
    rw [← Nat.add_mul, ← Nat.add_mul]
    congr 1
    omega
  · intro i v hv
    have hl : i < old.size + new.size := by
      have := (List.getElem?_eq_some_iff.1 hv).1
      simpa using this
    simp only [cc]
    rw [Array.getElem?_append_left (by simpa using hl)]
    rw [← hv]
    rw [← Array.getElem?_toList]
    simp

theorem sr_appIn {size n k c : Nat} {a : Option Addr} {x x' s' : Value} (hs : VRel m (.slice a n c) s') (hx : VRel m x x') (hc : c < big) (hk : lenV x = some k) (hk0 : k ≠ 0) (hle : n + k ≤ c) :
    ∃ a', s' = .slice a' n c ∧ SV P m (appIn size n k c a x) (appIn size n k c a' x') := by
  have cells : SemRel P (fun m x x' => VRels m x.toList x'.toList) m (Builtin.firstCells size k x) (Builtin.firstCells size k x') := sr_firstCells size k hx fun a k' c h => by subst h; cases hk; exact Nat.le_refl _
  cases hs with
  | snil => omega
  | @slice a a' _ _ c' hcap ha hf =>
    have e : c' = c := by
      rcases hcap with ⟨_, h⟩ | ⟨h, _⟩
      · exact h
      · omega
    subst e
    have ha := ha.resolve_right fun h => by have := h.1; omega
    refine ⟨_, rfl, cells.bind ?_⟩
    rintro m1 y y' he hy
    refine (sr_storeCells ((ha.mono he).add _) hy 0).bind ?_
    rintro m2 _ _ he2 _
    exact .pure (.slice (.inl ⟨hc, rfl⟩) (.inl ((ha.mono he).mono he2)) fun h => absurd h (by omega))

theorem append_sim {V : Nat → Prop} {S S' : St} {w : World} {t t2 ty elem : TypeId} {info : TypeInfo} {d2 : TypeDesc} (ht : P.underlying t = some (.slice elem)) (hi : P.info? elem = some info) (ht2 : P.underlying t2 = some d2) (hd2 : ∀ k, d2 ≠ .int k)
    {s s' x x' r : Value} (hs : VRel m s s') (hx : VRel m x x') (he : aAppend P elem info s x S = some (r, S')) (hr : Rel P V m S w) (ha : ∀ X, X < S.next → S'.acc.testBit X = true → V X) (hf : ∀ X, S.next ≤ X → X < S'.next → m X = .none) :
    ∃ m' r' w', (Builtin.append_ #[t, t2] ty #[s', x']).run P w = .ok r' w' ∧ VRel m' r r' ∧ Out P V m S w m' S' w' := by
  unfold aAppend at he
  split at he
  · rename_i a n c k hk
    have hk' : lenV x' = some k := lenV_rel hx hk
    split at he
    · cases he
    · rename_i hb
      simp only [Bool.and_eq_true] at hb
      have hn := Nat.le_of_ble_eq_true hb.1
      have hok := hb.2
      obtain ⟨z, hz, hzs, hnk⟩ : ∃ z, info.zero = some z ∧ z.cells.size = info.size ∧ n + k ≤ 4294967296 := by
        have h := hok
        unfold appendOk at h
        split at h
        · rename_i z hz
          simp only [Bool.and_eq_true] at h
          exact ⟨z, hz, Nat.eq_of_beq_eq_true h.1.1, Nat.le_of_ble_eq_true h.2⟩
        · cases h
      obtain ⟨base', c', rfl, hcap⟩ : ∃ base' c', s' = .slice base' n c' ∧ capRel c c' := by
        cases hs with
        | snil => exact ⟨_, _, rfl, capRel.refl 0⟩
        | slice hc _ _ => exact ⟨_, _, rfl, hc⟩
      have hnc : n ≤ c' := Nat.le_trans hn (low_le hcap)
      rw [append_run ht hi ht2 hd2 hk' hok]
      split at he
      · -- nothing to append
        rename_i hk0
        have hk0 := Nat.eq_of_beq_eq_true hk0
        subst hk0
        cases he
        refine ⟨m, _, w, ?_, hs, Out.refl hr⟩
        unfold appendTail
        rw [if_pos (by omega), run_bind]
        have e : (Builtin.firstCells info.size 0 x').run P w = .ok #[] w := by
          cases hx with
          | string str =>
            have e : (str.extract 0 0).data.map (fun b => Value.int .u8 b.toNat) = #[] := by
              apply Array.eq_empty_of_size_eq_zero
              rw [Array.size_map]
              show (str.extract 0 0).size = 0
              simp
            show Sem.run P (.pure _) w = _
            rw [e]; rfl
          | snil => rfl
          | slice _ _ _ =>
            show (loadCells _ (0 * info.size)).run P w = _
            rw [Nat.zero_mul]; rfl
          | _ => cases hk
        rw [e]
        simp only [Result.andThen]
        cases base' <;> rfl
      · rename_i hk0
        have hk0 : k ≠ 0 := fun h => by rw [h] at hk0; cases hk0
        split at he
        · -- the capacity is known
          rename_i hcb
          have hcl : c < big := Nat.le_of_ble_eq_true hcb
          have hcc : c' = c := by
            rcases hcap with ⟨_, h⟩ | ⟨h, _⟩
            · exact h
            · omega
          subst hcc
          split at he
          · rename_i hle
            have hle : n + k ≤ c' := Nat.le_of_ble_eq_true hle
            obtain ⟨a', e, hsr⟩ := sr_appIn (P := P) (size := info.size) hs hx hcl hk hk0 hle
            cases e
            obtain ⟨m1, v1, w1, h1, h2, h3⟩ := arun_sim hsr he hr ha hf
            refine ⟨m1, v1, w1, ?_, h2, h3⟩
            rw [← h1]
            unfold appendTail appIn
            rw [if_pos hle]
          · rename_i hle
            have hle : ¬ n + k ≤ c' := fun h => by rw [Nat.ble_eq_true_of_le h] at hle; cases hle
            have g2 : ∀ (old : List Value) (S1 : St), S1.heap = S.heap → (aCells info.size k x S1 fun new S => S.newK (.cells (old ++ new) elem) fun id S => some (Value.slice (some ⟨id, 0, .none⟩) (n + k) (big + (n + k)), S)) = some (r, S') → Grown S1 S' := by
              intro old S1 _ h
              obtain ⟨new, S2, h2, h3, _, _⟩ := aCells_grown h
              obtain ⟨h4, h5⟩ := St.newK_some h2
              cases h5
              exact h3.trans (Grown.new _ _ h4)
            obtain ⟨old, old', S1, he1, o1, p1, p2, p3, r1, run1, l1, _⟩ := aCells_some he hs rfl hr g2 ha
            obtain ⟨new, new', S2, he2, o2, q1, q2, q3, r2, run2, l2, _⟩ := aCells_some he1 hx hk o1.rel (fun r S1 _ h => by
              obtain ⟨h4, h5⟩ := St.newK_some h
              cases h5
              exact Grown.new _ _ h4) (step_acc o1 ha)
            obtain ⟨hlt, he3⟩ := St.newK_some he2
            cases he3
            have hnx : S2.next = S.next := by rw [q2, p2]
            have hmn : m S2.next = .none := by rw [hnx]; exact hf _ (Nat.le_refl _) (by show S.next < S2.next + 1; omega)
            have so : old'.size = n * info.size := by rw [← l1]; exact r1.length.symm
            have sn : new'.size = k * info.size := by rw [← l2]; exact r2.length.symm
            obtain ⟨cap, cc, w1, hrun, hcp, hcs, hheap, e1, e2, e3, hcells⟩ := fresh_run (base := base') (elem := elem) hz hzs hle hnk run1 run2 so sn
            have o3 : Out P (fun X => (V X ∨ (S.next ≤ X ∧ X < S1.next)) ∨ (S1.next ≤ X ∧ X < S2.next)) m S2 w (m.with S2.next ⟨w.heap.size, 0, cap * info.size, info.size⟩) (S2.new (.cells (old ++ new) elem)) w1 := by
              refine o2.rel.of_new hlt hmn rfl hheap e1 e2 e3 ⟨_, cc, BMap.with_self _ _ _, ⟨(0, 0), by rw [hheap]; simp, .inl ⟨rfl, rfl⟩⟩, hcs, by simp only; unfold szOf; rw [hi]; rfl, ?_⟩
              intro i v hv
              obtain ⟨v', h1, h2⟩ := (r1.append r2).get hv
              exact ⟨v', hcells i v' h1, h2.mono (Ext.with hmn _)⟩
            refine ⟨_, _, w1, hrun, ?_, o1.trans (o2.trans o3)⟩
            refine .slice (.inr ⟨by omega, by omega⟩) (.inl ⟨_, BMap.with_self _ _ _, rfl, rfl, rfl, rfl⟩) (fun _ => .inr ⟨_, BMap.with_self _ _ _, by simp⟩)
        · -- it is not known
          rename_i hcb
          have hcl := big_le hcb
          split at he
          · cases he
          · rename_i a0
            split at he
            · rename_i cs e0 hget
              split at he
              · cases he
              · rename_i hee
                have hee : e0 = elem := Nat.eq_of_beq_eq_true hee
                subst hee
                obtain ⟨a', rfl, haa, hfit⟩ : ∃ a', base' = some a' ∧ (ARel m a0 a' ∨ (n = 0 ∧ c' = 0)) ∧ Fits m a0 a' n c' := by
                  cases hs with
                  | slice hc h hf => exact ⟨_, rfl, h, hf hcl⟩
                have g3 : ∀ (old new : List Value) (S2 : St), (match new.all flatCell with
                    | false => .none
                    | true => S2.putK a0.block .none fun S => S.newK (.cells (old ++ new) e0) fun id S => some (Value.slice (some ⟨id, 0, .none⟩) (n + k) (big + (n + k)), S)) = some (r, S') →
                    new.all flatCell = true ∧ S2.next < 8192 ∧ r = .slice (some ⟨S2.next, 0, .none⟩) (n + k) (big + (n + k)) ∧ S' = (S2.put a0.block .none).new (.cells (old ++ new) e0) := by
                  intro old new S2 h
                  split at h
                  · cases h
                  · rename_i hfl
                    rw [St.putK_eq] at h
                    obtain ⟨h4, h5⟩ := St.newK_some h
                    cases h5
                    exact ⟨hfl, h4, rfl, rfl⟩
                have g2 : ∀ (old : List Value) (S1 : St), S1.heap = S.heap → (aCells info.size k x S1 fun new S => match new.all flatCell with
                    | false => .none
                    | true => S.putK a0.block .none fun S => S.newK (.cells (old ++ new) e0) fun id S => some (Value.slice (some ⟨id, 0, .none⟩) (n + k) (big + (n + k)), S)) = some (r, S') → Grown S1 S' := by
                  intro old S1 hh h
                  obtain ⟨new, S2, h2, h3, hh2, _⟩ := aCells_grown h
                  obtain ⟨_, h4, _, rfl⟩ := g3 old new S2 h2
                  exact h3.trans ((Grown.put S2 _ _ (by rw [hh2, hh, hget]; rfl)).trans (Grown.new _ _ h4))
                obtain ⟨old, old', S1, he1, o1, p1, p2, p3, r1, run1, l1, at1⟩ := aCells_some he hs rfl hr g2 ha
                obtain ⟨new, new', S2, he2, o2, q1, q2, q3, r2, run2, l2, _⟩ := aCells_some he1 hx hk o1.rel (fun r1 S3 hh h => by
                  obtain ⟨_, h4, _, rfl⟩ := g3 old r1 S3 h
                  exact (Grown.put S3 _ _ (by rw [hh, p1, hget]; rfl)).trans (Grown.new _ _ h4)) (step_acc o1 ha)
                obtain ⟨hfl, hlt, rfl, rfl⟩ := g3 old new S2 he2
                have hnx : S2.next = S.next := by rw [q2, p2]
                have hmn : m S2.next = .none := by rw [hnx]; exact hf _ (Nat.le_refl _) (by show S.next < S2.next + 1; omega)
                have so : old'.size = n * info.size := by rw [← l1]; exact r1.length.symm
                have sn : new'.size = k * info.size := by rw [← l2]; exact r2.length.symm
                have hget2 : S2.heap.get a0.block = some (.cells cs e0) := by rw [q1, p1]; exact hget
                have hVb : V a0.block := ha a0.block (hr.lt hget) ((Grown.new (S2.put a0.block .none) _ hlt).acc _ (by simp [St.put, bit_eq]))
                obtain ⟨p, cc0, m1, ⟨fr0, m2, mnf⟩, m3, m4, m5⟩ := hr.blk _ hVb _ hget
                have hes : p.es = info.size := by rw [m4]; unfold szOf; rw [hi]; rfl
                have hV2 : (fun X => (fun X => V X ∨ (S.next ≤ X ∧ X < S1.next)) X ∨ (S1.next ≤ X ∧ X < S2.next)) a0.block := .inl (.inl hVb)
                have hpl : p.blk < w.heap.size := (Array.getElem?_eq_some_iff.1 m2).1
                by_cases hle : n + k ≤ c'
                · -- in place
                  have haa : ARel m a0 a' := haa.resolve_right (fun h => by omega)
                  obtain ⟨p', g1, g4, g5, g6, g7⟩ := haa
                  rw [m1] at g1
                  cases g1
                  have hfit : a'.off + c' * info.size ≤ p.tot := by
                    rcases hfit with h | ⟨p', h1, h2⟩
                    · omega
                    · rw [m1] at h1; cases h1; rw [← hes]; exact h2
                  have hmul : n * info.size + k * info.size ≤ c' * info.size := by rw [← Nat.add_mul]; exact Nat.mul_le_mul_right _ hle
                  have hao : (a'.add (n * info.size)).off = a'.off + n * info.size := by unfold Addr.add; split <;> simp_all
                  have hab : (a'.add (n * info.size)).block = a'.block := by unfold Addr.add; split <;> rfl
                  have has : (a'.add (n * info.size)).spot = .none := by unfold Addr.add; split <;> simp_all
                  have hnf : new'.toList.all flatCell = true := by
                    rw [List.all_eq_true]
                    intro u hu
                    obtain ⟨i, hi', hiu⟩ := List.mem_iff_getElem.1 hu
                    obtain ⟨v, h1, h2⟩ := r2.get' (List.getElem?_eq_some_iff.2 ⟨hi', hiu⟩)
                    have h3 := List.all_eq_true.1 hfl v (List.mem_of_getElem? h1)
                    cases h2 <;> first | rfl | exact h3
                  obtain ⟨w1, hst, z1, z2, z3, z4, z5, cc, z6, z7, z8, z9⟩ := storeCells_run (P := P) (e := e0) new'.toList 0 (w := w) (a := a'.add (n * info.size)) (c := cc0) (by rw [hab, g4]; exact m2) mnf has hnf (by rw [hao, Array.length_toList, sn, m3]; omega)
                  rw [hab, g4] at z6
                  rw [hab, g4] at z5
                  have o3 : Out P (fun X => (V X ∨ (S.next ≤ X ∧ X < S1.next)) ∨ (S1.next ≤ X ∧ X < S2.next)) m S2 w (m.with S2.next ⟨p.blk, a'.off, p.tot, p.es⟩) ((S2.put a0.block .none).new (.cells (old ++ new) e0)) w1 := by
                    refine o2.rel.of_move (p := p) hV2 m1 hget2 hlt hmn (.inl rfl) (Nat.le_of_eq z1.symm) (fun k _ hk => z5 k hk) z2 z3 z4 ⟨_, cc, BMap.with_self _ _ _, ⟨fr0, z6, by rw [z7]; exact mnf⟩, by rw [z7]; exact m3, by simp only; exact m4, ?_⟩
                    intro i v hv
                    by_cases hio : i < old.length
                    · rw [List.getElem?_append_left hio] at hv
                      have h1 := at1 _ _ _ rfl cs e0 hget i v hv
                      obtain ⟨v', h2, h3⟩ := m5 _ _ h1
                      refine ⟨v', ?_, h3.mono (Ext.with hmn _)⟩
                      rw [z8 _ (by rw [hao]; simp only; omega)]
                      rw [← h2]
                      congr 1
                      simp only
                      omega
                    · rw [List.getElem?_append_right (by omega)] at hv
                      obtain ⟨v', h1, h2⟩ := r2.get hv
                      refine ⟨v', ?_, h2.mono (Ext.with hmn _)⟩
                      rw [← z9 _ _ h1]
                      congr 1
                      rw [hao]
                      simp only
                      omega
                  refine ⟨_, .slice (some a') (n + k) c', w1, ?_, ?_, o1.trans (o2.trans o3)⟩
                  · unfold appendTail
                    rw [if_pos hle, run_bind, run2 w rfl]
                    simp only [Result.andThen]
                    rw [run_bind, hst]
                    rfl
                  · exact .slice (.inr ⟨by omega, by omega⟩) (.inl ⟨_, BMap.with_self _ _ _, g4, by simp, rfl, g7⟩) (fun _ => .inr ⟨_, BMap.with_self _ _ _, by simp only; rw [hes]; exact hfit⟩)
                · obtain ⟨cap, cc, w1, hrun, hcp, hcs, hheap, e1, e2, e3, hcells⟩ := fresh_run (base := some a') (elem := e0) hz hzs hle hnk run1 run2 so sn
                  have o3 : Out P (fun X => (V X ∨ (S.next ≤ X ∧ X < S1.next)) ∨ (S1.next ≤ X ∧ X < S2.next)) m S2 w (m.with S2.next ⟨w.heap.size, 0, cap * info.size, info.size⟩) ((S2.put a0.block .none).new (.cells (old ++ new) e0)) w1 := by
                    refine o2.rel.of_move (p := p) hV2 m1 hget2 hlt hmn (.inr rfl) (by rw [hheap]; simp) (fun k hk _ => by rw [hheap, Array.getElem?_push]; simp; omega) e1 e2 e3 ⟨_, cc, BMap.with_self _ _ _, ⟨(0, 0), by rw [hheap]; simp, .inl ⟨rfl, rfl⟩⟩, hcs, by simp only; unfold szOf; rw [hi]; rfl, ?_⟩
                    intro i v hv
                    obtain ⟨v', h1, h2⟩ := (r1.append r2).get hv
                    exact ⟨v', hcells i v' h1, h2.mono (Ext.with hmn _)⟩
                  refine ⟨_, _, w1, hrun, ?_, o1.trans (o2.trans o3)⟩
                  exact .slice (.inr ⟨by omega, by omega⟩) (.inl ⟨_, BMap.with_self _ _ _, rfl, rfl, rfl, rfl⟩) (fun _ => .inr ⟨_, BMap.with_self _ _ _, by simp⟩)
            · cases he
  · cases he

theorem append_grown {S S' : St} {elem : TypeId} {info : TypeInfo} {s x r : Value} (he : aAppend P elem info s x S = some (r, S')) : Grown S S' := by
  unfold aAppend at he
  split at he
  · split at he
    · cases he
    · split at he
      · cases he; exact Grown.refl _
      · split at he
        · split at he
          · exact arun_grown _ he
          · obtain ⟨_, S1, h1, g1, _, _⟩ := aCells_grown he
            obtain ⟨_, S2, h2, g2, _, _⟩ := aCells_grown h1
            obtain ⟨h4, h5⟩ := St.newK_some h2
            cases h5
            exact g1.trans (g2.trans (Grown.new _ _ h4))
        · split at he
          · cases he
          · split at he
            · rename_i hget
              split at he
              · cases he
              · obtain ⟨_, S1, h1, g1, e1, _⟩ := aCells_grown he
                obtain ⟨_, S2, h2, g2, e2, _⟩ := aCells_grown h1
                split at h2
                · cases h2
                · rw [St.putK_eq] at h2
                  obtain ⟨h4, h5⟩ := St.newK_some h2
                  cases h5
                  exact g1.trans (g2.trans ((Grown.put S2 _ _ (by rw [e2, e1, hget]; rfl)).trans (Grown.new _ _ h4)))
            · cases he
  · cases he
theorem slice_grown {S S' : St} {elem : TypeId} {size : Nat} {a : Option Addr} {c l h : Nat} {r : Value} (he : aSlice P elem size a c l h S = some (r, S')) : Grown S S' := by
  unfold aSlice at he
  split at he
  · cases he
  · split at he
    · cases he; exact Grown.refl _
    · split at he
      · cases he
      · split at he
        · cases he; exact Grown.refl _
        · split at he
          · split at he
            · rw [St.rd_eq] at he; cases he; exact Grown.rd _ _
            · cases he
          · cases he
end

end
end Go.Proofs.YtgkbjdphkmmmhaaDoor.Ev
