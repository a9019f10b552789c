/-
  Runs that the kernel carries out: what is asked of a program; symbols; a run that has answered true. No program in sight.
-/
import Derived.Test.YtgkbjdphkmmmhaaDoorEvP
namespace Go.Proofs.YtgkbjdphkmmmhaaDoor.Ev
open Go
noncomputable section

def Self (v : Value) : Prop := ∀ m : BMap, VRel m v v
def zeroOk (i : TypeInfo) : Prop := ∀ v, i.zero = some v → Self v
def flat2 (i : TypeInfo) : Bool :=
  match i.zero with
  | some (.tuple ⟨cs⟩) => cs.all flat
  | some v => flat v
  | .none => true
theorem flats2 {m : BMap} : ∀ {cs : List Value}, cs.all flat = true → VRels m cs cs
  | [], _ => .nil
  | v :: vs, h => by
    simp only [List.all_cons, Bool.and_eq_true] at h
    exact .cons (flat_rel h.1) (flats2 h.2)
theorem zeroOk_of {i : TypeInfo} (h : flat2 i = true) : zeroOk i := by
  intro v hv m
  unfold flat2 at h
  rw [hv] at h
  split at h
  · rename_i e; cases e; exact .tuple (flats2 h)
  · rename_i e; cases e; exact flat_rel h
  · rename_i e; cases e
theorem self_cells {v : Value} (h : Self v) (m : BMap) : VRels m v.cells.toList v.cells.toList := (h m).cells
theorem selfs_append {m : BMap} {xs ys : List Value} (h : VRels m xs xs) (h' : VRels m ys ys) : VRels m (xs ++ ys) (xs ++ ys) := h.append h'
theorem forIn_inv {α β : Type} (I : β → Prop) (f : α → β → Option (ForInStep β)) (hf : ∀ a b s, I b → f a b = some s → I (match s with | .done b => b | .yield b => b)) : ∀ (l : List α) (b r : β), I b → forIn l b f = some r → I r
  | [], b, r, hb, h => by cases h; exact hb
  | a :: l, b, r, hb, h => by
    rw [List.forIn_cons] at h
    cases hs : f a b with
    | none => rw [hs] at h; cases h
    | some s =>
      rw [hs] at h
      have hi := hf a b s hb hs
      cases s with
      | done b' => cases h; exact hi
      | yield b' => exact forIn_inv I f hf l b' r hi h
theorem struct_ok {info : TypeId → Option TypeInfo} (hinfo : ∀ t i, info t = some i → zeroOk i) {fs : Array Field} {i : TypeInfo} (h : Made.reckonStruct info fs = some i) : zeroOk i := by
  unfold Made.reckonStruct at h
  simp only [bind, pure] at h
  obtain ⟨r, hr, h⟩ := Option.bind_eq_some_iff.1 h
  rw [← Array.forIn_toList] at hr
  have hI := forIn_inv (fun s => ∀ z, s.2.2.2.2.2.2.2.1 = some z → ∀ m : BMap, VRels m z.toList z.toList) _ (fun f b s hI h => ?_) fs.toList _ _ (fun z hz m => by cases hz; exact .nil) hr
  · have fin : ∀ {j : TypeInfo}, j.zero = r.2.2.2.2.2.2.2.1.map (fun c => Value.agg c) → zeroOk j := by
      intro j hj
      intro v hv m
      rw [hj] at hv
      obtain ⟨u, h1, h2⟩ := Option.map_eq_some_iff.1 hv
      cases h2
      exact .agg (hI u h1 m)
    split at h <;> (cases h; exact fin rfl)
  · cases hi : info f.type with
    | none => rw [hi] at h; cases h
    | some i =>
      have key : ∀ z, (b.2.2.2.2.2.2.2.1.bind fun u => i.zero.bind fun v => some (u ++ v.cells)) = some z → ∀ m : BMap, VRels m z.toList z.toList := by
        intro z hz m
        obtain ⟨u, h1, h2⟩ := Option.bind_eq_some_iff.1 hz
        obtain ⟨v, h3, h4⟩ := Option.bind_eq_some_iff.1 h2
        cases h4
        rw [Array.toList_append]
        exact selfs_append (hI u h1 m) (self_cells (hinfo _ _ hi v h3) m)
      rw [hi] at h
      cases hq : Made.quote f.tag <;> simp only [hq, Option.map_none, Option.map_some, Option.bind_some, Option.bind_none] at h <;> (repeat' split at h) <;> first | (cases h; done) | (cases h; exact key) | (cases h; intro z hz; cases hz)
theorem reckon_ok {info : TypeId → Option TypeInfo} (hinfo : ∀ t i, info t = some i → zeroOk i) {d : TypeDesc} {i : TypeInfo} (h : Made.reckon info d = some i) : zeroOk i := by
  unfold Made.reckon at h
  simp only [bind, pure] at h
  have word : ∀ {d : TypeDesc} {s : String} {z : Value} {c : Bool} {n : Nat}, Self z → zeroOk (Made.word d s z c n) := by
    intro d s z c n hz v hv
    cases hv; exact hz
  split at h
  · obtain ⟨j, h1, h⟩ := Option.bind_eq_some_iff.1 h
    split at h
    · cases h
    · split at h
      · cases h
      · obtain ⟨s, h2, h3⟩ := Option.bind_eq_some_iff.1 h; cases h3; exact word fun m => by constructor
    · obtain ⟨s, h2, h3⟩ := Option.bind_eq_some_iff.1 h; cases h3; exact word fun m => by constructor
  · obtain ⟨j, h1, h⟩ := Option.bind_eq_some_iff.1 h
    obtain ⟨s, h2, h3⟩ := Option.bind_eq_some_iff.1 h; cases h3; exact word fun m => by constructor
  · obtain ⟨j, h1, h⟩ := Option.bind_eq_some_iff.1 h
    obtain ⟨s, h2, h⟩ := Option.bind_eq_some_iff.1 h
    obtain ⟨j2, h1, h⟩ := Option.bind_eq_some_iff.1 h
    obtain ⟨s, h2, h3⟩ := Option.bind_eq_some_iff.1 h; cases h3; exact word fun m => by constructor
  · obtain ⟨j, h1, h⟩ := Option.bind_eq_some_iff.1 h
    obtain ⟨s, h2, h3⟩ := Option.bind_eq_some_iff.1 h; cases h3; exact word fun m => by constructor
  · obtain ⟨s, h2, h3⟩ := Option.bind_eq_some_iff.1 h; cases h3; exact word fun m => by constructor
  · obtain ⟨j, h1, h⟩ := Option.bind_eq_some_iff.1 h
    obtain ⟨s, h2, h3⟩ := Option.bind_eq_some_iff.1 h
    cases h3
    intro v hv m
    dsimp only at hv
    split at hv
    · cases hv
    · split at hv
      · cases hv; exact .agg .nil
      · obtain ⟨u, h4, h5⟩ := Option.map_eq_some_iff.1 hv
        cases h5
        have hz := self_cells (hinfo _ _ h1 u h4) m
        have rep : ∀ n, VRels m (Array.replicate n u.cells).flatten.toList (Array.replicate n u.cells).flatten.toList := by
          intro n
          rw [Array.toList_flatten, Array.toList_replicate, List.map_replicate]
          induction n with
          | zero => exact .nil
          | succ n ih => rw [List.replicate_succ, List.flatten_cons]; exact selfs_append hz ih
        exact .agg (rep _)
  · exact struct_ok hinfo h
  · cases h
theorem infoAt_ok {T : Tables} (hT : (T.types.toList.all flat2) = true) : ∀ (f : Nat) (t : TypeId) (i : TypeInfo), Made.infoAt T f t = some i → zeroOk i
  | 0, t, i, h => by cases h
  | f + 1, t, i, h => by
    unfold Made.infoAt at h
    split at h
    · exact zeroOk_of (List.all_eq_true.1 hT i (by rw [← Array.getElem?_toList] at h; exact List.mem_of_getElem? h))
    · cases hd : Made.decode (t - T.types.size) with
      | none => rw [hd] at h; cases h
      | some d => rw [hd] at h; exact reckon_ok (infoAt_ok hT f) h
theorem pgood_of {P : Program} (hT : (P.types.toList.all flat2) = true) : PGood P := by
  refine ⟨fun t i v hi hz => ?_⟩
  have h : zeroOk i := by
    have hi : (if t < P.types.size then P.types[t]? else Made.infoAt P.toTables Made.depth t) = some i := hi
    split at hi
    · exact zeroOk_of (List.all_eq_true.1 hT i (by rw [← Array.getElem?_toList] at hi; exact List.mem_of_getElem? hi))
    · exact infoAt_ok hT _ _ _ hi
  exact h v hz
theorem pnames_of {P : Program} (h : (P.funcs.toList.all fun fn => !(fn.name == "runtime.NumGoroutine")) = true) : PNames P := by
  refine ⟨fun f fn hf => ?_⟩
  have h := List.all_eq_true.1 h fn (by rw [← Array.getElem?_toList] at hf; exact List.mem_of_getElem? hf)
  simpa using h

/-- A run that has answered true. -/
noncomputable def okRunO (P : Program) (ov : Ov) (gl : Gls) (f : Nat) (g : FuncId) (args : List Value) : Bool :=
  match evCallO P ov f g args (SG gl) with
  | some (.bool true, S) => Nat.ble S.next 8192 && Nat.beq (Nat.shiftRight S.wr 8192) 0 && Nat.beq (Nat.mod S.wr 18446744073709551616) 0
  | _ => false
noncomputable def okRun (P : Program) (f : Nat) (g : FuncId) (args : List Value) : Bool := okRunO P noOv [] f g args

theorem okRunO_calls {P : Program} (hP : PGood P) (hN : PNames P) (hm : P.follows .mixedOrders = true) {ov : Ov} (hO : OvOk P ov) {gl : Gls} (hg : glsOk gl = true) {f : Nat} {g : FuncId} {args args' : List Value} (h : okRunO P ov gl f g args = true) {m0 : BMap} (hm0 : ∀ X, X < symAt → m0 X = .none)
    (hargs : VRels (mG P gl m0) args args') (w : World) (hgw : GlsAt gl w) :
    Calls P g ⟨args'⟩ w fun e w' => e = .returned (.bool true) ∧ RowKit.Below w.heap.size w w' := by
  unfold okRunO at h
  split at h
  · rename_i S he
    simp only [Bool.and_eq_true] at h
    have h1 := Nat.le_of_ble_eq_true h.1.1
    have h2 := Nat.eq_of_beq_eq_true h.1.2
    have h3 := Nat.eq_of_beq_eq_true h.2
    refine calls_of_gen hP hN hm hO hg he hm0 (Nat.le_trans h1 (by decide)) (fun X hX => ?_) hargs rfl w hgw
    rcases hX with hX | hX
    · have hs : (S.wr % 2 ^ 64).testBit X = false := by
        have : S.wr % 2 ^ 64 = 0 := h3
        rw [this]; simp
      rw [Nat.testBit_mod_two_pow] at hs
      simpa [hX] using hs
    · have hs : (S.wr >>> 8192).testBit (X - 8192) = false := by
        have : S.wr >>> 8192 = 0 := h2
        rw [this]; simp
      rw [Nat.testBit_shiftRight] at hs
      have e : 8192 + (X - 8192) = X := Nat.add_sub_cancel' (Nat.le_trans (by decide) hX)
      have e2 := congrArg S.wr.testBit e
      rw [hs] at e2
      exact e2.symm
  · cases h
theorem okRun_calls {P : Program} (hP : PGood P) (hN : PNames P) (hm : P.follows .mixedOrders = true) {f : Nat} {g : FuncId} {args args' : List Value} (h : okRun P f g args = true) {m0 : BMap} (hm0 : ∀ X, X < symAt → m0 X = .none) (hargs : VRels (mG P [] m0) args args') (w : World) :
    Calls P g ⟨args'⟩ w fun e w' => e = .returned (.bool true) ∧ RowKit.Below w.heap.size w w' :=
  okRunO_calls hP hN hm (noOv_ok P) rfl h hm0 hargs w (fun x hx => by cases hx)

theorem mG_ext {P : Program} {gl : Gls} {m : BMap} (h : ∀ X, X < symAt → m X = .none) : Ext m (mG P gl m) := fun X p hp => by
  rw [mG_ge]
  · exact hp
  · rcases Nat.lt_or_ge X 64 with hX | hX
    · rw [h X (Nat.lt_trans hX (by decide))] at hp; cases hp
    · exact hX

/-! ### Symbols -/
/-- The map with the symbols z (a kind's mark and a number each). -/
def symMap (z : Nat → Option (Nat × Int)) : BMap := fun X =>
  if X < symAt then .none
  else if X = symAt + 15 then some ⟨0, 0, 0, 0⟩
  else match z (X - symAt) with
    | some (e, v) => some ⟨v.toNat, 0, (-v).toNat, e⟩
    | .none => .none
theorem symMap_low (z : Nat → Option (Nat × Int)) : ∀ X, X < symAt → symMap z X = .none := fun X h => by unfold symMap; rw [if_pos h]
theorem symMap_at {z : Nat → Option (Nat × Int)} {a e : Nat} {v : Int} (ha : a < 15) (h : z a = some (e, v)) : ∃ p, symMap z (symAt + a) = some p ∧ sval p = v ∧ p.es = e := by
  refine ⟨⟨v.toNat, 0, (-v).toNat, e⟩, ?_, ?_, rfl⟩
  · unfold symMap
    rw [if_neg (by omega), if_neg (by omega), show symAt + a - symAt = a by omega, h]
  · unfold sval; simp only; omega
theorem symMap_zero (z : Nat → Option (Nat × Int)) : ∃ q, symMap z (symAt + 15) = some q ∧ sval q = 0 := ⟨⟨0, 0, 0, 0⟩, by unfold symMap; rw [if_neg (by omega), if_pos rfl], rfl⟩

/-- What a question's answer says. -/
def Says (z : Nat → Option (Nat × Int)) (key r : Nat) : Prop :=
  (∀ a b d, a < 16 → b < 16 → key = keyLt a b d → ∃ e u e' v, ((z a = some (e, u) ∧ a < 15) ∨ (a = 15 ∧ u = 0)) ∧ ((z b = some (e', v) ∧ b < 15) ∨ (b = 15 ∧ v = 0)) ∧ decide (u - v + 4096 < (d : Int)) = Nat.beq r 1) ∧
  (∀ a c, a < 16 → key = keyRem a c → ∃ e u, z a = some (e, u) ∧ a < 15 ∧ c ≠ 0 ∧ u.tmod c = (r : Int))
theorem knows_of {z : Nat → Option (Nat × Int)} {l : Nat} (h : ∀ key r, ask 64 l key = some r → Says z key r) : Knows (symMap z) l := by
  have get : ∀ {a e : Nat} {u : Int}, ((z a = some (e, u) ∧ a < 15) ∨ (a = 15 ∧ u = 0)) → ∃ p, symMap z (symAt + a) = some p ∧ sval p = u := by
    intro a e u h
    rcases h with ⟨h1, h2⟩ | ⟨rfl, rfl⟩
    · obtain ⟨p, h3, h4, _⟩ := symMap_at h2 h1
      exact ⟨p, h3, h4⟩
    · exact symMap_zero z
  refine ⟨fun a b d r la lb ha => ?_, fun a c r la ha => ?_, symMap_zero z⟩
  · obtain ⟨e, u, e', v, h1, h2, h3⟩ := (h _ _ ha).1 a b d la lb rfl
    obtain ⟨p, h4, h5⟩ := get h1
    obtain ⟨q, h6, h7⟩ := get h2
    exact ⟨p, q, h4, h6, by rw [h5, h7]; exact h3⟩
  · obtain ⟨e, u, h1, h2, h3, h4⟩ := (h _ _ ha).2 a c la rfl
    obtain ⟨p, h5, h6, _⟩ := symMap_at h2 h1
    exact ⟨p, h5, h3, by rw [h6]; exact h4⟩

/-- The list of what is known, as a number. -/
def enc : List (Nat × Nat) → Nat
  | [] => 0
  | (k, r) :: l => Nat.add (Nat.add (Nat.mul k 64) r) (Nat.mul 4294967296 (enc l))
theorem ask_enc : ∀ (f : Nat) {l : List (Nat × Nat)} {key r : Nat}, (∀ x ∈ l, x.1 < 67108864 ∧ x.2 < 64) → ask f (enc l) key = some r → (key, r) ∈ l
  | 0, l, key, r, _, h => by cases h
  | f + 1, [], key, r, _, h => by cases h
  | f + 1, (k, s) :: l, key, r, hl, h => by
    have hk := hl (k, s) (by simp)
    have e1 : (enc ((k, s) :: l)).mod 4294967296 = k * 64 + s := by
      show (k * 64 + s + 4294967296 * enc l) % 4294967296 = _
      omega
    have e2 : (enc ((k, s) :: l)).div 4294967296 = enc l := by
      show (k * 64 + s + 4294967296 * enc l) / 4294967296 = _
      omega
    unfold ask at h
    split at h
    · cases h
    · rw [e1, e2] at h
      split at h
      · rename_i hb
        have hb := Nat.eq_of_beq_eq_true hb
        have hd : (k * 64 + s) / 64 = k := by omega
        have hd2 : (enc ((k, s) :: l)).mod 64 = s := by show (k * 64 + s + 4294967296 * enc l) % 64 = s; omega
        rw [show (k * 64 + s).div 64 = k from hd] at hb
        cases h
        rw [hd2, ← hb]
        simp
      · exact List.mem_cons_of_mem _ (ask_enc f (fun x hx => hl x (List.mem_cons_of_mem _ hx)) h)
theorem keyLt_inj {a b d a' b' d' : Nat} (h1 : a < 16) (h2 : b < 16) (h3 : a' < 16) (h4 : b' < 16) (h : keyLt a b d = keyLt a' b' d') : a = a' ∧ b = b' ∧ d = d' := by
  have h : (d * 16 + b) * 32 + a * 2 = (d' * 16 + b') * 32 + a' * 2 := h
  omega
theorem keyRem_inj {a c a' c' : Nat} (h1 : a < 16) (h2 : a' < 16) (h : keyRem a c = keyRem a' c') : a = a' ∧ c = c' := by
  have h : c * 32 + (a * 2 + 1) = c' * 32 + (a' * 2 + 1) := h
  omega
theorem key_ne {a b d a' c : Nat} : keyLt a b d ≠ keyRem a' c := by
  intro h
  have h : (d * 16 + b) * 32 + a * 2 = c * 32 + (a' * 2 + 1) := h
  omega
theorem says_lt {z : Nat → Option (Nat × Int)} {a b d r e e' : Nat} {u v : Int} (la : a < 16) (lb : b < 16) (h1 : (z a = some (e, u) ∧ a < 15) ∨ (a = 15 ∧ u = 0)) (h2 : (z b = some (e', v) ∧ b < 15) ∨ (b = 15 ∧ v = 0)) (h3 : decide (u - v + 4096 < (d : Int)) = Nat.beq r 1) : Says z (keyLt a b d) r := by
  refine ⟨fun a' b' d' la' lb' h => ?_, fun a' c _ h => absurd h key_ne⟩
  obtain ⟨rfl, rfl, rfl⟩ := keyLt_inj la lb la' lb' h
  exact ⟨e, u, e', v, h1, h2, h3⟩
theorem says_rem {z : Nat → Option (Nat × Int)} {a c r e : Nat} {u : Int} (la : a < 15) (h1 : z a = some (e, u)) (hc : c ≠ 0) (h3 : u.tmod c = (r : Int)) : Says z (keyRem a c) r := by
  refine ⟨fun a' b' d' la' lb' h => absurd h.symm key_ne, fun a' c' la' h => ?_⟩
  obtain ⟨rfl, rfl⟩ := keyRem_inj (by omega) la' h
  exact ⟨e, u, h1, la, hc, h3⟩
theorem knows_enc {z : Nat → Option (Nat × Int)} {l : List (Nat × Nat)} (hl : ∀ x ∈ l, x.1 < 67108864 ∧ x.2 < 64) (h : ∀ x ∈ l, Says z x.1 x.2) : Knows (symMap z) (enc l) :=
  knows_of fun key r hk => h (key, r) (ask_enc _ hl hk)

/-- An argument that is a symbol. -/
def sym (i know : Nat) : Value := .complex .f32 (i + 16 * know) 1025
theorem sym_rel {z : Nat → Option (Nat × Int)} {i know e : Nat} {u : Int} {kd : IntKind} (hi : i < 15) (hk : Knows (symMap z) know) (hz : z i = some (e, u)) (hb : -1000000 ≤ u ∧ u ≤ 1000000) (hd : kd = if e = 0 then .i8 else .u8) : VRel (symMap z) (sym i know) (.int kd u) := by
  obtain ⟨p, h1, h2, h3⟩ := symMap_at hi hz
  have e1 : Nat.mod (i + 16 * know) 16 = i := by show (i + 16 * know) % 16 = i; omega
  have e2 : Nat.div (i + 16 * know) 16 = know := by show (i + 16 * know) / 16 = know; omega
  refine .sym (j := 1024) ⟨p, by rw [e1]; exact h1, by rw [e2]; exact hk, ?_, ?_, ?_, ?_, by decide⟩
  · rw [hd, ← h3]; rfl
  · rw [h2]; omega
  · rw [h2]; exact hb.1
  · rw [h2]; exact hb.2
/-- An argument that is an opaque number. -/
theorem opq_rel {z : Nat → Option (Nat × Int)} {n e : Nat} {v : Int} (hi : Nat.mod n 16 < 15) (hz : z (Nat.mod n 16) = some (e, v)) (hr : wrapO v = v) (nz : bitO n 15 = true → v ≠ 0)
    (ne : ∀ b, b < 12 → bitO n b = true → ∃ e u, z b = some (e, u) ∧ u ≠ v) (sum : bitO n 14 = true → ∃ e q e' r, z 1 = some (e, q) ∧ z 2 = some (e', r) ∧ wrapO (v + q) = r ∧ r ≠ 0 ∧ r ≠ v)
    (sum0 : bitO n 13 = true → ∃ e q, z 1 = some (e, q) ∧ wrapO (v + q) = 0) (one : bitO n 12 = true → ∃ e, z 1 = some (e, 1)) : VRel (symMap z) (.chan (some n)) (.int .i64 v) := by
  refine .opq ⟨?_, hr, nz, fun b hb h => ?_, fun h => ?_, fun h => ?_, fun h => ?_⟩
  · obtain ⟨p, h1, h2, -⟩ := symMap_at hi hz
    exact ⟨p, h1, h2.symm⟩
  · obtain ⟨e, u, h1, h2⟩ := ne b hb h
    obtain ⟨p, h3, h4, -⟩ := symMap_at (by omega) h1
    exact ⟨p, h3, by rw [h4]; exact h2⟩
  · obtain ⟨e, q, e', r, h1, h2, h3, h4, h5⟩ := sum h
    obtain ⟨p, g1, g2, -⟩ := symMap_at (by omega) h1
    obtain ⟨p', g3, g4, -⟩ := symMap_at (by omega) h2
    exact ⟨p, p', g1, g3, by rw [g2, g4]; exact h3, by rw [g4]; exact h4, by rw [g4]; exact h5⟩
  · obtain ⟨e, q, h1, h2⟩ := sum0 h
    obtain ⟨p, g1, g2, -⟩ := symMap_at (by omega) h1
    exact ⟨p, g1, by rw [g2]; exact h2⟩
  · obtain ⟨e, h1⟩ := one h
    obtain ⟨p, g1, g2, -⟩ := symMap_at (by omega) h1
    exact ⟨p, g1, g2⟩
end
end Go.Proofs.YtgkbjdphkmmmhaaDoor.Ev
