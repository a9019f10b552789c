/-
  Runs that the kernel carries out: one operation, calls of functions aside. No program in sight.
-/
import Derived.Test.YtgkbjdphkmmmhaaDoorEvE
import Derived.Laws.BytesString
import Derived.Laws.IdiomStrings
import Derived.Laws.AppendOwn
namespace Go.Proofs.YtgkbjdphkmmmhaaDoor.Ev
open Go
noncomputable section

/-- The slots of a function, at most 512. -/
structure Tm where
  lo : N16 (N16 Value)
  hi : N16 (N16 Value)
structure GetC where
  g : Tm → Value
def getC (t : Nat) : GetC :=
  match Nat.blt t 256 with
  | true => match (get16 (Nat.mod t 16) : Get16 Value), (get16 (Nat.div t 16) : Get16 (N16 Value)) with
    | ⟨g0⟩, ⟨g1⟩ => ⟨fun T => g0 (g1 T.lo)⟩
  | false => match Nat.blt t 512 with
    | true => match (get16 (Nat.mod t 16) : Get16 Value), (get16 (Nat.sub (Nat.div t 16) 16) : Get16 (N16 Value)) with
      | ⟨g0⟩, ⟨g1⟩ => ⟨fun T => g0 (g1 T.hi)⟩
    | false => ⟨fun _ => undef⟩
def tget (T : Tm) (t : Nat) : Value := (getC t).g T
def evO {β : Type} (T : Tm) (x : Operand) (k : Value → Option β) : Option β :=
  match x with
  | .tmp t => k (tget T t)
  | .const v => match flat v with | true => k v | false => .none
  | .func f => k (.func (.func f) ⟨[]⟩ ⟨[]⟩)
  | .global g => match Nat.blt g 64 with | true => k (.pointer (some ⟨g, 0, .none⟩)) | false => .none
def evOs {β : Type} (T : Tm) : List Operand → (List Value → Option β) → Option β
  | [], k => k []
  | x :: xs, k => evO T x fun v => evOs T xs fun vs => k (v :: vs)
def evPs {β : Type} (T : Tm) : List (Nat × Operand) → (List (Nat × Value) → Option β) → Option β
  | [], k => k []
  | (n, x) :: xs, k => evO T x fun v => evPs T xs fun vs => k ((n, v) :: vs)
def evI {β : Type} (T : Tm) (x : Operand) (k : IntKind → Int → Option β) : Option β :=
  evO T x fun v => match v with | .int kd i => k kd i | _ => .none
/-- A bound of a slice expression. -/
def evB {β : Type} (T : Tm) (x : Option Operand) (d : Nat) (k : Nat → Option β) : Option β :=
  match x with
  | .none => k d
  | some x => evI T x fun _ i => match i with | .ofNat n => k n | .negSucc _ => .none

/-- The package's variables, the first 64, stand for themselves. -/
def Gl (m : BMap) : Prop := ∀ g, g < 64 → ∃ p, m g = some p ∧ p.blk = g ∧ p.off = 0
theorem Gl.mono {m m' : BMap} (h : Ext m m') (hg : Gl m) : Gl m' := fun g hl =>
  let ⟨p, h1, h2⟩ := hg g hl
  ⟨p, h _ _ h1, h2⟩
structure TRel (m : BMap) (T : Tm) (a : Act) : Prop where
  gl : Gl m
  tm : ∀ t, VRel m (tget T t) (a.eval (.tmp t))
instance {m : BMap} {T : Tm} {a : Act} : CoeFun (TRel m T a) fun _ => ∀ t, VRel m (tget T t) (a.eval (.tmp t)) := ⟨TRel.tm⟩
theorem TRel.mono {m m' : BMap} (h : Ext m m') {T : Tm} {a : Act} (hT : TRel m T a) : TRel m' T a := ⟨hT.gl.mono h, fun t => (hT t).mono h⟩

section
variable {P : Program} {m : BMap}
theorem evO_some {β : Type} {T : Tm} {a : Act} (hT : TRel m T a) {x : Operand} {k : Value → Option β} {y : β} (h : evO T x k = some y) : ∃ v, k v = some y ∧ VRel m v (a.eval x) := by
  unfold evO at h
  split at h
  · exact ⟨_, h, hT _⟩
  · split at h
    · rename_i hf; exact ⟨_, h, flat_rel hf⟩
    · cases h
  · exact ⟨_, h, .func .nil .nil⟩
  · split at h
    · rename_i hb
      obtain ⟨p, h1, h2, h3⟩ := hT.gl _ (blt_true hb)
      exact ⟨_, h, .ptr ⟨p, h1, h2.symm, by rw [h3], rfl, rfl⟩⟩
    · cases h
theorem evOs_some {β : Type} {T : Tm} {a : Act} (hT : TRel m T a) : ∀ {xs : List Operand} {k : List Value → Option β} {y : β}, evOs T xs k = some y → ∃ vs, k vs = some y ∧ VRels m vs (xs.map a.eval)
  | [], k, y, h => ⟨[], h, .nil⟩
  | x :: xs, k, y, h => by
    obtain ⟨v, h1, h2⟩ := evO_some hT h
    obtain ⟨vs, h3, h4⟩ := evOs_some hT h1
    exact ⟨_, h3, .cons h2 h4⟩
theorem evPs_some {β : Type} {T : Tm} {a : Act} (hT : TRel m T a) : ∀ {xs : List (Nat × Operand)} {k : List (Nat × Value) → Option β} {y : β}, evPs T xs k = some y → ∃ vs, k vs = some y ∧ PRels m vs (xs.map fun p => (p.1, a.eval p.2))
  | [], k, y, h => ⟨[], h, .nil⟩
  | (n, x) :: xs, k, y, h => by
    obtain ⟨v, h1, h2⟩ := evO_some hT h
    obtain ⟨vs, h3, h4⟩ := evPs_some hT h1
    exact ⟨_, h3, .cons h2 h4⟩
theorem evI_some {β : Type} {T : Tm} {a : Act} (hT : TRel m T a) {x : Operand} {k : IntKind → Int → Option β} {y : β} (h : evI T x k = some y) : ∃ kd i, k kd i = some y ∧ a.eval x = .int kd i := by
  obtain ⟨v, h1, h2⟩ := evO_some hT h
  generalize a.eval x = e at h2 ⊢
  split at h1
  · cases h2; exact ⟨_, _, h1, rfl⟩
  · cases h1
theorem evB_some {β : Type} {T : Tm} {a : Act} (hT : TRel m T a) {x : Option Operand} {d : Nat} {k : Nat → Option β} {y : β} (h : evB T x d k = some y) : ∃ n, k n = some y ∧ OptInt (x.map a.eval) d n := by
  unfold evB at h
  split at h
  · exact ⟨d, h, .none d⟩
  · obtain ⟨kd, i, h1, h2⟩ := evI_some hT h
    split at h1
    · rename_i n
      refine ⟨n, h1, ?_⟩
      rw [Option.map_some, h2]
      exact .some kd n d
    · cases h1
end

def nilPair : TypeDesc → Value → Value → Option Bool
  | .pointer _, .pointer .none, .pointer (some _) => some false
  | .pointer _, .pointer (some _), .pointer .none => some false
  | .slice _, .slice .none _ _, .slice (some _) _ _ => some false
  | .slice _, .slice (some _) _ _, .slice .none _ _ => some false
  | .map _ _, .map .none, .map (some _) => some false
  | .map _ _, .map (some _), .map .none => some false
  | .func _ _ _, .nilFunc, .func _ _ _ => some false
  | .func _ _ _, .func _ _ _, .nilFunc => some false
  | _, _, _ => .none
def flatOut (o : Option Value) (S : St) : Option (Value × St) :=
  match o with
  | some v => match flat v with | true => some (v, S) | false => .none
  | .none => .none
/-- Operations on symbols. -/
def boolOf (o : Option Nat) : Option Value :=
  match o with
  | some r => some (.bool (Nat.beq r 1))
  | .none => .none
def intOf (o : Option Nat) : Option Value :=
  match o with
  | some r => some (.int .i64 (.ofNat r))
  | .none => .none
/-- The sum of the first two opaque numbers: the third, or zero. -/
def sumO (n : Nat) : Option Value :=
  match bitO n 14 with
  | true => some (.chan (some 524306))
  | false => match bitO n 13 with
    | true => some (.int .i64 (.ofNat 0))
    | false => .none
def addO (a b : Value) : Option Value :=
  match a, b with
  | .chan (some n), .chan (some n') => match Nat.beq (Nat.mod n 16) 0 && Nat.beq (Nat.mod n' 16) 1 with
    | true => sumO n
    | false => .none
  | .chan (some n), .int .i64 (.ofNat 1) => match Nat.beq (Nat.mod n 16) 0 && bitO n 12 with
    | true => sumO n
    | false => .none
  | .int .i64 (.ofNat 0), .chan (some n') => some (.chan (some n'))
  | _, _ => .none
def boolO (o : Option Bool) : Option Value :=
  match o with
  | some r => some (.bool r)
  | .none => .none
def symBin (op : BinOp) (a b : Value) : Option Value :=
  match op with
  | .lss => match a, b with
    | .complex .f64 n (.succ j), .complex .f64 n' (.succ j') => match Nat.beq n n' with
      | true => some (.bool (Nat.blt j j'))
      | false => boolOf (ask 64 (Nat.div n 16) (keyLt (Nat.mod n 16) (Nat.mod n' 16) (Nat.sub (Nat.add j' 4096) j)))
    | .complex .f64 n (.succ j), .int .i64 (.ofNat c) => boolOf (ask 64 (Nat.div n 16) (keyLt (Nat.mod n 16) 15 (Nat.sub (Nat.add c 5120) j)))
    | .int .i64 (.ofNat c), .complex .f64 n (.succ j) => match Nat.ble c 3072 with
      | true => boolOf (ask 64 (Nat.div n 16) (keyLt 15 (Nat.mod n 16) (Nat.sub (Nat.add j 3072) c)))
      | false => .none
    | _, _ => .none
  | .sub => match a, b with
    | .complex .f64 n (.succ j), .int .i64 (.ofNat c) => match Nat.ble c j with
      | true => some (.complex .f64 n (.succ (Nat.sub j c)))
      | false => .none
    | _, _ => .none
  | .rem => match a, b with
    | .complex .f64 n (.succ j), .int .i64 (.ofNat c) => match Nat.beq j 1024 with
      | true => intOf (ask 64 (Nat.div n 16) (keyRem (Nat.mod n 16) c))
      | false => .none
    | _, _ => .none
  | .eql => boolO (eqO a b)
  | .neq => boolO ((eqO a b).map (!·))
  | .add => addO a b
  | _ => .none
def symConv (P : Program) (s d : TypeId) (a : Value) : Option Value :=
  match a with
  | .complex .f32 n (.succ j) => match Nat.beq j 1024, P.underlying s, P.underlying d with
    | true, some _, some (.int .i64) => some (.complex .f64 n (.succ j))
    | _, _, _ => .none
  | _ => .none
/-! ### Numbers of which only bounds are known -/
def itvOf : Value → Option (Nat × Nat)
  | .int .i64 (.ofNat c) => some (c, c)
  | .float .f32 n => match Nat.beq (Nat.div n 4294967296) 0 with
    | true => some (itvLo n, itvHi n)
    | false => .none
  | _ => .none
def mkItv (lo hi : Nat) : Option Value :=
  match Nat.blt hi 65536 && Nat.ble lo hi with
  | true => forceN (Nat.add lo (Nat.mul 65536 hi)) fun n => some (.float .f32 n)
  | false => .none
def decO (a b : Bool) : Option Value :=
  match a with
  | true => some (.bool true)
  | false => match b with
    | true => some (.bool false)
    | false => .none
def itvBin (op : BinOp) (a b : Value) : Option Value :=
  match itvOf a, itvOf b with
  | some (l, h), some (l', h') => match op with
    | .add => mkItv (Nat.add l l') (Nat.add h h')
    | .lss => decO (Nat.blt h l') (Nat.ble h' l)
    | .leq => decO (Nat.ble h l') (Nat.blt h' l)
    | .gtr => decO (Nat.blt h' l) (Nat.ble h l')
    | .geq => decO (Nat.ble h' l) (Nat.blt h l')
    | .rem => match Nat.beq l' h' && Nat.blt 0 l' with
      | true => mkItv 0 (Nat.sub l' 1)
      | false => .none
    | _ => .none
  | _, _ => .none
def symBinI (op : BinOp) (a b : Value) : Option Value :=
  match symBin op a b with
  | some r => some r
  | .none => itvBin op a b
def itvConv (P : Program) (s d : TypeId) (a : Value) : Option Value :=
  match a with
  | .float .f32 n => match Nat.beq (Nat.div n 4294967296) 1, P.underlying s, P.underlying d with
    | true, some _, some (.int .i64) => forceN (Nat.mod n 4294967296) fun n => some (.float .f32 n)
    | _, _, _ => .none
  | _ => .none
def symConvI (P : Program) (s d : TypeId) (a : Value) : Option Value :=
  match symConv P s d a with
  | some r => some r
  | .none => itvConv P s d a
def sameOp : Operand → Operand → Bool
  | .tmp a, .tmp b => Nat.beq a b
  | _, _ => false
def aMk (P : Program) (t : TypeId) (s : Bool) (l c : Value) (S : St) : Option (Value × St) :=
  match l, c with
  | .int _ l, .int _ c => arun P (aMakeSlice t l c) S
  | .float .f32 n, .float .f32 _ => match s with
    | true => arun P (aMakeLoose t n) S
    | false => .none
  | _, _ => .none
def aIdx (P : Program) (t : TypeId) (v : Value) (k : IntKind) (i : Int) (S : St) : Option (Value × St) :=
  match v with
  | .complex .f32 n 0 => arun P (aIdxLoose t n i) S
  | v => arun P (Instr.indexAt t v (.int k i)) S
/-- Bytes to a string. -/
def pushB : List Value → ByteArray → Option ByteArray
  | [], r => some r
  | .int .u8 n :: vs, r => pushB vs (r.push (UInt8.ofNat n.toNat))
  | _ :: _, _ => .none
def bytesV : List UInt8 → List Value
  | [] => []
  | b :: bs => .int .u8 (.ofNat b.toNat) :: bytesV bs
def strConv (P : Program) (s d : TypeId) (a : Value) (S : St) : Option (Value × St) :=
  match a, P.underlying s, P.underlying d with
  | .slice (some ad) n c, some (.slice e), some .string => match P.underlying e with
    | some (.int .u8) => aCells 1 n (.slice (some ad) n c) S fun cells S => match pushB cells ByteArray.empty with
      | some b => some (.string b, S)
      | .none => .none
    | _ => .none
  | .string b, some .string, some (.slice e) => match P.underlying e with
    | some (.int .u8) => match Nat.ble b.size 65536 && Nat.ble (szOf P e) 1 with
      | true => forceVs (bytesV b.data.toList) fun cs => S.newK (.cells cs e) fun id S => some (.slice (some ⟨id, 0, .none⟩) b.size (big + b.size), S)
      | false => .none
    | _ => .none
  | .slice (some ad) n c, some (.slice _), some (.slice e) => match P.underlying e with
    | some (.int .u8) => match Nat.beq s d && Nat.ble 1 n with
      | true => match S.heap.get ad.block with
        | some (.cells cs e0) => match Nat.beq e0 e with
          | true => S.putK ad.block (some (.cells cs e0)) fun S => some (.slice (some ad) n c, S)
          | false => .none
        | _ => .none
      | false => .none
    | _ => .none
  | _, _, _ => .none
def aBin (P : Program) (op : BinOp) (t : TypeId) (x y : Operand) (a b : Value) (S : St) : Option (Value × St) :=
  match flat a && flat b with
  | true => flatOut (srun P (do eqGuard op t x y a b; binOp op t a b)) S
  | false => match P.underlying t with
    | some d => match nilPair d a b with
      | some r => match op with
        | .eql => some (.bool r, S)
        | .neq => some (.bool (!r), S)
        | _ => .none
      | .none => match symBinI op a b with
        | some r => some (r, S)
        | .none => .none
    | .none => .none
def noInt : TypeDesc → Bool
  | .int _ => false
  | _ => true
def aBuiltin (P : Program) (b : Builtin) (ts : List TypeId) (ty : TypeId) (vs : List Value) (S : St) : Option (Value × St) :=
  match b, ts, vs with
  | .len, t :: ts, [x] => arun P (Builtin.len_ ⟨t :: ts⟩ ty #[x]) S
  | .append, [t, t2], [s, x] =>
    match P.underlying t, P.underlying t2 with
    | some (.slice elem), some d2 => match noInt d2, P.info? elem with
      | true, some info => aAppend P elem info s x S
      | _, _ => .none
    | _, _ => .none
  | .copy, t :: ts, [d, s] => arun P (Builtin.copy_ ⟨t :: ts⟩ ty #[d, s]) S
  | .max, ts, vs => match vs.all flat with
    | true => flatOut (srun P (Builtin.max_ ⟨ts⟩ ty ⟨vs⟩)) S
    | false => .none
  | .min, ts, vs => match vs.all flat with
    | true => flatOut (srun P (Builtin.min_ ⟨ts⟩ ty ⟨vs⟩)) S
    | false => .none
  | .clear, [t], [.slice a n _] => arun P (aClear t a n) S
  | _, _, _ => .none
def done (o : Option (Unit × St)) : Option (Value × St) :=
  match o with
  | some (_, S) => some (undef, S)
  | .none => .none

/-! ### Ranges over a string -/
def aRange (P : Program) (t : TypeId) (v : Value) (S : St) : Option (Value × St) :=
  match v, P.underlying t with
  | .string s, some .string => S.newK (.iter s 0) fun id S => some (.pointer (some ⟨id, 0, .none⟩), S)
  | _, _ => .none
def aNext (v : Value) (isString : Bool) (S : St) : Option (Value × St) :=
  match v, isString with
  | .pointer (some ⟨r, 0, .none⟩), true =>
    match S.heap.get r with
    | some (.iter s pos) =>
      match Nat.blt pos s.size with
      | true => forceN (Utf8.decode s pos).1 fun c => forceN (Nat.add pos (Utf8.decode s pos).2) fun q => S.putK r (some (.iter s q)) fun S => some (.tuple ⟨[.bool true, .int .i64 (.ofNat pos), .int .i32 (.ofNat c)]⟩, S)
      | false => S.rd r fun S => some (.tuple ⟨[.bool false]⟩, S)
    | _ => .none
  | _, _ => .none
/-- Not a string that becomes bytes. -/
def notBytes (P : Program) (d : TypeId) (a : Value) : Bool :=
  match a, P.underlying d with
  | .string _, some (.slice _) => false
  | _, _ => true
def aOp (P : Program) (T : Tm) (o : Oper) (S : St) : Option (Value × St) :=
  match o.op with
  | .move x => evO T x fun v => some (v, S)
  | .assign x => evO T x fun v => some (v, S)
  | .pick c a b => evO T c fun c => match c with
    | .bool true => evO T a fun v => some (v, S)
    | .bool false => evO T b fun v => some (v, S)
    | _ => .none
  | .alloc e => arun P (Instr.alloc e true (.tuple #[])) S
  | .box e x => evO T x fun v => arun P (Instr.box e v) S
  | .build t ps => evPs T ps.toList fun ps => arun P (aBuild t ps) S
  | .buildSlice t len ps => evPs T ps.toList fun ps => arun P (aBuildSlice t len ps) S
  | .load t a => evO T a fun a => arun P (Instr.loadAt t a) S
  | .store t a x => evO T a fun a => evO T x fun x => done (arun P (Instr.storeAt t a x) S)
  | .nilCheck x => evO T x fun v => match v with
    | .pointer (some a) => some (.pointer (some a), S)
    | _ => .none
  | .binOp op t x y _ => evO T x fun a => evO T y fun b => aBin P op t x y a b S
  | .unOp op _ x => evO T x fun a => match flat a with | true => flatOut (srun P (Op.unary op a)) S | false => .none
  | .convert s d x => evO T x fun a => match flat a && notBytes P d a with
    | true => flatOut (srun P (convert s d a)) S
    | false => match symConvI P s d a with
      | some r => some (r, S)
      | .none => strConv P s d a S
  | .makeFunc fn f c => evOs T f.toList fun f => evOs T c.toList fun c => some (.func fn ⟨f⟩ ⟨c⟩, S)
  | .makeMap t .none => arun P (Instr.makeMap t .none) S
  | .makeSlice t l c => evO T l fun l' => evO T c fun c' => aMk P t (sameOp l c) l' c' S
  | .slice t x lo hi .none => evO T x fun v => match v with
    | .slice a n c => evB T lo 0 fun l => evB T hi n fun h => match P.underlying t with
      | some (.slice elem) => match P.info? elem with
        | some info => aSlice P elem info.size a c l h S
        | .none => .none
      | _ => .none
    | .string s => evB T lo 0 fun l => evB T hi s.size fun h => match P.underlying t with
      | some .string => match Nat.ble l h && Nat.ble h s.size with
        | true => some (.string (subStr s l h), S)
        | false => .none
      | _ => .none
    | _ => .none
  | .fieldAddr s x f => evO T x fun v => arun P (Instr.fieldAt s v f) S
  | .field t x f => evO T x fun v => arun P (Instr.field t v f) S
  | .indexAddr t x i => evO T x fun v => evI T i fun k i => aIdx P t v k i S
  | .index t x i => evO T x fun v => evI T i fun k i => arun P (Instr.index t v (.int k i)) S
  | .lookup t x i ok => evO T x fun v => evO T i fun i => arun P (aLookup P t v i ok) S
  | .mapUpdate t x k v => evO T x fun x => evO T k fun k => evO T v fun v => done (arun P (aUpdate P t x k v) S)
  | .extract x i => evO T x fun v => arun P (Instr.extract v i) S
  | .range t x => evO T x fun v => aRange P t v S
  | .next x isStr => evO T x fun v => aNext v isStr S
  | .call ⟨.builtin b, args, ts⟩ => evOs T args.toList fun vs => aBuiltin P b ts.toList o.type vs S
  | _ => .none

section
variable {P : Program} {m : BMap}

/-- What an operation has done: it has left a value. -/
def Left (P : Program) (s : Sem Next) (w : World) (v' : Value) (w' : World) : Prop := s.run P w = .ok (.value v') w' ∨ (s.run P w = .ok .skip w' ∧ v' = undef)

theorem left_v {s : Sem Value} {w w' : World} {v' : Value} (h : s.run P w = .ok v' w') : Left P (s >>= fun v => pure (.value v)) w v' w' := by
  refine .inl ?_
  rw [run_bind, h]
  rfl
theorem left_u {s : Sem Unit} {w w' : World} (h : s.run P w = .ok () w') : Left P (s >>= fun _ => pure .skip) w undef w' := by
  refine .inr ⟨?_, rfl⟩
  rw [run_bind, h]
  rfl

theorem flatOut_some {o : Option Value} {S S' : St} {v : Value} (h : flatOut o S = some (v, S')) : o = some v ∧ flat v = true ∧ S' = S := by
  unfold flatOut at h
  split at h
  · split at h
    · rename_i hf; cases h; exact ⟨rfl, hf, rfl⟩
    · cases h
  · cases h
theorem flats_eq' : ∀ {vs vs' : List Value}, vs.all flat = true → VRels m vs vs' → vs' = vs
  | _, _, _, .nil => rfl
  | _, _, h, .cons a b => by
    simp only [List.all_cons, Bool.and_eq_true] at h
    rw [flat_eq h.1 a, flats_eq' h.2 b]

theorem srun_equal {t : TypeId} {d : TypeDesc} (ht : P.underlying t = some d) {a b : Value} {r : Bool} (h : nilPair d a b = some r) : srun P (Op.equal t a b) = some r := by
  have b1 : ∀ {α β : Type} (s : Sem α) (f : α → Sem β), srun P (s >>= f) = (srun P s).bind fun a => srun P (f a) := fun s f => srun_bind f s
  unfold Op.equal
  rw [show Op.maxDepth = 9999 + 1 from rfl, Op.equalIn, b1, srun_underlying ht, Option.bind_some]
  unfold nilPair at h
  split at h <;> first | (cases h; rfl) | cases h
theorem srun_nil {t : TypeId} {d : TypeDesc} (ht : P.underlying t = some d) {x y : Operand} {a b : Value} {r : Bool} (h : nilPair d a b = some r) :
    srun P (do eqGuard .eql t x y a b; binOp .eql t a b) = some (.bool r) ∧ srun P (do eqGuard .neq t x y a b; binOp .neq t a b) = some (.bool (!r)) := by
  have b1 : ∀ {α β : Type} (s : Sem α) (f : α → Sem β), srun P (s >>= f) = (srun P s).bind fun a => srun P (f a) := fun s f => srun_bind f s
  have he := srun_equal ht h
  have e1 : srun P (Op.equal t a b >>= fun r => (pure (.bool r) : Sem Value)) = some (.bool r) := by rw [b1, he]; rfl
  have e2 : srun P (Op.equal t a b >>= fun r => (pure (.bool (!r)) : Sem Value)) = some (.bool (!r)) := by rw [b1, he]; rfl
  unfold nilPair at h
  split at h <;> first | exact ⟨e1, e2⟩ | cases h
theorem nilPair_rel {d : TypeDesc} {a b a' b' : Value} {r : Bool} (h : nilPair d a b = some r) (ha : VRel m a a') (hb : VRel m b b') : nilPair d a' b' = some r := by
  unfold nilPair at h
  split at h <;> first | (cases h; cases ha; cases hb; rfl) | cases h

theorem SymIs.at {k : FloatKind} {n j : Nat} {kd : IntKind} {z : Int} (h : SymIs m k n j kd z) : ∃ p, m (symAt + Nat.mod n 16) = some p ∧ Knows m (Nat.div n 16) ∧ kd = symKind k p ∧ z = sval p + j - 1024 ∧ -1000000 ≤ sval p ∧ sval p ≤ 1000000 ∧ j ≤ 2048 := h
theorem boolOf_some {o : Option Nat} {v : Value} (h : boolOf o = some v) : ∃ r, o = some r ∧ v = .bool (Nat.beq r 1) := by
  cases o with
  | none => cases h
  | some r => cases h; exact ⟨r, rfl, rfl⟩
theorem srun_lss (t : TypeId) (x y : Operand) (a b : Int) : srun P (do eqGuard .lss t x y (.int .i64 a) (.int .i64 b); binOp .lss t (.int .i64 a) (.int .i64 b)) = some (.bool (decide (a < b))) := rfl
theorem blt_dec (a b : Nat) : Nat.blt a b = decide (a < b) := by
  by_cases h : a < b
  · rw [show Nat.blt a b = true from Nat.ble_eq_true_of_le h]; simp [h]
  · have : Nat.blt a b = false := by
      cases hc : Nat.blt a b
      · rfl
      · exact absurd (Nat.le_of_ble_eq_true hc) h
    rw [this]; simp [h]
theorem addO_sim {t : TypeId} {x y : Operand} {a b a' b' v : Value} (h : addO a b = some v) (ha : VRel m a a') (hb : VRel m b b') : ∃ v', VRel m v v' ∧ srun P (do eqGuard .add t x y a' b'; binOp .add t a' b') = some v' := by
  have sum : ∀ {n : Nat} {z : Int} {q : Img}, OpqIs m n z → Nat.mod n 16 = 0 → m (symAt + 1) = some q → sumO n = some v → ∃ v', VRel m v v' ∧ some (Value.int .i64 (wrapO (z + sval q))) = some v' := by
    intro n z q hz hn hq h
    unfold sumO at h
    split at h
    · rename_i hb
      cases h
      obtain ⟨q', r, h1, h2, h3, h4, h5⟩ := hz.sum hb
      rw [hq] at h1; cases h1
      refine ⟨_, .opq (z := wrapO (z + sval q)) ⟨⟨r, h2, h3⟩, ?_, fun _ => by rw [h3]; exact h4, fun b hb' hbb => ?_, fun hb' => ?_, fun hb' => ?_, fun hb' => ?_⟩, rfl⟩
      · unfold wrapO; simp only [IntKind.wrap_i64]; omega
      · have hb0 : b = 0 := by
          revert hbb
          have : ∀ b, b < 12 → bitO 524306 b = true → b = 0 := by decide
          exact this b hb'
        subst hb0
        obtain ⟨p, p1, p2⟩ := hz.at'
        rw [hn] at p1
        exact ⟨p, p1, by rw [h3, ← p2]; exact fun e => h5 e.symm⟩
      · exact absurd hb' (by decide)
      · exact absurd hb' (by decide)
      · exact absurd hb' (by decide)
    · split at h
      · rename_i hb
        cases h
        obtain ⟨q', h1, h2⟩ := hz.sum0 hb
        rw [hq] at h1; cases h1
        exact ⟨_, .int _ _, by rw [h2]; rfl⟩
      · cases h
  unfold addO at h
  split at h
  · split at h
    · rename_i hc
      simp only [Bool.and_eq_true] at hc
      cases ha with | opq ha =>
      cases hb with | opq hb =>
      obtain ⟨q, q1, q2⟩ := hb.at'
      rw [Nat.eq_of_beq_eq_true hc.2] at q1
      obtain ⟨v', h1, h2⟩ := sum ha (Nat.eq_of_beq_eq_true hc.1) q1 h
      refine ⟨v', h1, ?_⟩
      rw [← h2, q2]
      rfl
    · cases h
  · split at h
    · rename_i hc
      simp only [Bool.and_eq_true] at hc
      cases ha with | opq ha =>
      cases hb
      obtain ⟨q, q1, q2⟩ := ha.one hc.2
      obtain ⟨v', h1, h2⟩ := sum ha (Nat.eq_of_beq_eq_true hc.1) q1 h
      refine ⟨v', h1, ?_⟩
      rw [← h2, q2]
      rfl
    · cases h
  · cases h
    cases ha
    cases hb with | opq hb =>
    refine ⟨_, .opq hb, ?_⟩
    have e := hb.rng
    unfold wrapO at e
    show some (Value.int .i64 (IntKind.i64.wrap (Int.ofNat 0 + _))) = _
    rw [show Int.ofNat 0 = 0 from rfl, Int.zero_add, e]
  · cases h
theorem symBin_sim {op : BinOp} {t : TypeId} {x y : Operand} {a b a' b' v : Value} (h : symBin op a b = some v) (ha : VRel m a a') (hb : VRel m b b') : ∃ v', VRel m v v' ∧ srun P (do eqGuard op t x y a' b'; binOp op t a' b') = some v' := by
  unfold symBin at h
  split at h
  · split at h
    · rename_i n j n' j'
      cases ha with | sym ha =>
      cases hb with | sym hb =>
      obtain ⟨p, p1, p2, rfl, rfl, p5, p6, p7⟩ := ha.at
      obtain ⟨q, q1, q2, rfl, rfl, q5, q6, q7⟩ := hb.at
      refine ⟨.bool (decide (sval p + j - 1024 < sval q + j' - 1024)), ?_, srun_lss ..⟩
      split at h
      · rename_i hn
        have hn := Nat.eq_of_beq_eq_true hn
        subst hn
        rw [p1] at q1
        cases q1
        cases h
        have e : Nat.blt j j' = decide (sval p + j - 1024 < sval p + j' - 1024) := by
          rw [blt_dec, decide_eq_decide]; omega
        rw [e]
        exact .bool _
      · obtain ⟨r, h1, rfl⟩ := boolOf_some h
        obtain ⟨p', q', h2, h3, h4⟩ := p2.lt (Nat.mod n 16) (Nat.mod n' 16) _ _ (Nat.mod_lt _ (by decide)) (Nat.mod_lt _ (by decide)) h1
        rw [p1] at h2; cases h2
        rw [q1] at h3; cases h3
        rw [← h4]
        have e : decide (sval p - sval q + 4096 < ((Nat.sub (Nat.add j' 4096) j : Nat) : Int)) = decide (sval p + j - 1024 < sval q + j' - 1024) := by
          have e1 : ((Nat.sub (Nat.add j' 4096) j : Nat) : Int) = (j' : Int) + 4096 - j := by
            show ((j' + 4096 - j : Nat) : Int) = _
            omega
          rw [e1, decide_eq_decide]; omega
        rw [e]
        exact .bool _
    · rename_i n j c
      cases ha with | sym ha =>
      cases hb
      obtain ⟨p, p1, p2, rfl, rfl, p5, p6, p7⟩ := ha.at
      obtain ⟨r, h1, rfl⟩ := boolOf_some h
      obtain ⟨p', q', h2, h3, h4⟩ := p2.lt (Nat.mod n 16) 15 _ _ (Nat.mod_lt _ (by decide)) (by decide) h1
      rw [p1] at h2; cases h2
      obtain ⟨q, q1, q2⟩ := p2.zero
      rw [q1] at h3; cases h3
      refine ⟨.bool (decide (sval p + j - 1024 < Int.ofNat c)), ?_, srun_lss ..⟩
      rw [← h4, q2]
      have e : decide (sval p - 0 + 4096 < ((Nat.sub (Nat.add c 5120) j : Nat) : Int)) = decide (sval p + j - 1024 < Int.ofNat c) := by
        have e1 : ((Nat.sub (Nat.add c 5120) j : Nat) : Int) = (c : Int) + 5120 - j := by
          show ((c + 5120 - j : Nat) : Int) = _
          omega
        rw [e1, decide_eq_decide]
        show _ ↔ _ < (c : Int)
        omega
      rw [e]
      exact .bool _
    · rename_i c n j
      split at h
      · rename_i hc
        have hc := Nat.le_of_ble_eq_true hc
        cases hb with | sym hb =>
        cases ha
        obtain ⟨p, p1, p2, rfl, rfl, p5, p6, p7⟩ := hb.at
        obtain ⟨r, h1, rfl⟩ := boolOf_some h
        obtain ⟨q', p', h3, h2, h4⟩ := p2.lt 15 (Nat.mod n 16) _ _ (by decide) (Nat.mod_lt _ (by decide)) h1
        rw [p1] at h2; cases h2
        obtain ⟨q, q1, q2⟩ := p2.zero
        rw [q1] at h3; cases h3
        refine ⟨.bool (decide (Int.ofNat c < sval p + j - 1024)), ?_, srun_lss ..⟩
        rw [← h4, q2]
        have e : decide (0 - sval p + 4096 < ((Nat.sub (Nat.add j 3072) c : Nat) : Int)) = decide (Int.ofNat c < sval p + j - 1024) := by
          have e1 : ((Nat.sub (Nat.add j 3072) c : Nat) : Int) = (j : Int) + 3072 - c := by
            show ((j + 3072 - c : Nat) : Int) = _
            omega
          rw [e1, decide_eq_decide]
          show _ ↔ (c : Int) < _
          omega
        rw [e]
        exact .bool _
      · cases h
    · cases h
  · split at h
    · rename_i n j c
      split at h
      · rename_i hc
        have hc := Nat.le_of_ble_eq_true hc
        cases h
        cases ha with | sym ha =>
        cases hb
        obtain ⟨p, p1, p2, rfl, rfl, p5, p6, p7⟩ := ha.at
        refine ⟨.int .i64 (sval p + j - 1024 - Int.ofNat c), .sym ⟨p, p1, p2, rfl, ?_, p5, p6, ?_⟩, ?_⟩
        · show _ = sval p + ((j - c : Nat) : Int) - 1024
          simp only [Int.ofNat_eq_natCast]; omega
        · show j - c ≤ 2048; omega
        · have e : IntKind.i64.wrap (sval p + j - 1024 - Int.ofNat c) = sval p + j - 1024 - Int.ofNat c := IntWalk.i64_in _ (by simp only [Int.ofNat_eq_natCast]; omega)
          show some (Value.int .i64 (IntKind.i64.wrap (sval p + j - 1024 - Int.ofNat c))) = _
          rw [e]
      · cases h
    · cases h
  · split at h
    · rename_i n j c
      split at h
      · rename_i hj
        have hj := Nat.eq_of_beq_eq_true hj
        subst hj
        cases ha with | sym ha =>
        cases hb
        obtain ⟨p, p1, p2, rfl, rfl, p5, p6, p7⟩ := ha.at
        unfold intOf at h
        split at h
        · rename_i r hr
          cases h
          obtain ⟨p', h2, h3, h4⟩ := p2.rem (Nat.mod n 16) _ _ (Nat.mod_lt _ (by decide)) hr
          rw [p1] at h2; cases h2
          refine ⟨_, .int _ _, ?_⟩
          show srun P (Op.intDiv .rem .i64 (sval p + 1024 - 1024) (c : Int)) = some (Value.int .i64 (r : Int))
          unfold Op.intDiv
          rw [if_neg (by omega)]
          show some (Value.int .i64 ((sval p + 1024 - 1024).tmod (c : Int))) = _
          rw [show sval p + 1024 - 1024 = sval p by omega, h4]
        · cases h
      · cases h
    · cases h
  · cases he : eqO a b with
    | none => rw [he] at h; cases h
    | some r =>
      rw [he] at h
      cases h
      obtain ⟨x', y', rfl, rfl, rfl⟩ := eqO_sound he ha hb
      exact ⟨_, .bool _, rfl⟩
  · cases he : eqO a b with
    | none => rw [he] at h; cases h
    | some r =>
      rw [he] at h
      cases h
      obtain ⟨x', y', rfl, rfl, rfl⟩ := eqO_sound he ha hb
      exact ⟨_, .bool _, rfl⟩
  · exact addO_sim h ha hb
  · cases h
theorem symConv_sim {s d : TypeId} {a a' v : Value} (h : symConv P s d a = some v) (ha : VRel m a a') : ∃ v', VRel m v v' ∧ srun P (convert s d a') = some v' := by
  unfold symConv at h
  split at h
  · rename_i n j
    split at h
    · rename_i hj hs hd
      have hj := Nat.eq_of_beq_eq_true hj
      subst hj
      cases h
      cases ha with | sym ha =>
      obtain ⟨p, p1, p2, rfl, rfl, p5, p6, p7⟩ := ha.at
      refine ⟨.int .i64 (sval p + 1024 - 1024), .sym ⟨p, p1, p2, rfl, rfl, p5, p6, p7⟩, ?_⟩
      have e : IntKind.i64.wrap (sval p + 1024 - 1024) = sval p + 1024 - 1024 := IntWalk.i64_in _ (by omega)
      have b1 : ∀ {α β : Type} (s : Sem α) (f : α → Sem β), srun P (s >>= f) = (srun P s).bind fun a => srun P (f a) := fun s f => srun_bind f s
      unfold convert
      rw [b1, srun_underlying hs, Option.bind_some, b1, srun_underlying hd, Option.bind_some]
      show some (Value.int .i64 (IntKind.i64.wrap (sval p + 1024 - 1024))) = _
      rw [e]
    · cases h
  · cases h

theorem itvOf_rel {a a' : Value} {l h : Nat} (ho : itvOf a = some (l, h)) (ha : VRel m a a') : ∃ z : Int, a' = .int .i64 z ∧ (l : Int) ≤ z ∧ z ≤ (h : Int) := by
  unfold itvOf at ho
  split at ho
  · rename_i c
    cases ho
    cases ha
    exact ⟨_, rfl, Int.le_refl _, Int.le_refl _⟩
  · rename_i n
    split at ho
    · rename_i hk
      cases ho
      cases ha with | itv ha =>
      refine ⟨_, ?_, ha.1, ha.2⟩
      unfold itvKind
      rw [Nat.eq_of_beq_eq_true hk]
      rfl
    · cases ho
  · cases ho
theorem mkItv_rel {lo hi : Nat} {v : Value} (h : mkItv lo hi = some v) {z : Int} (h1 : (lo : Int) ≤ z) (h2 : z ≤ (hi : Int)) : VRel m v (.int .i64 z) ∧ z < 65536 := by
  unfold mkItv at h
  split at h
  · rename_i hb
    simp only [Bool.and_eq_true] at hb
    have b1 := blt_true hb.1
    have b2 := Nat.le_of_ble_eq_true hb.2
    rw [forceN_eq] at h
    cases h
    have e1 : itvLo (lo + 65536 * hi) = lo := by show (lo + 65536 * hi) % 65536 = lo; omega
    have e2 : itvHi (lo + 65536 * hi) = hi := by show (lo + 65536 * hi) / 65536 % 65536 = hi; omega
    have e3 : itvKind (lo + 65536 * hi) = .i64 := by
      unfold itvKind
      rw [show Nat.div (lo + 65536 * hi) 4294967296 = 0 from by show (lo + 65536 * hi) / 4294967296 = 0; omega]
      rfl
    refine ⟨?_, by omega⟩
    show VRel m (.float .f32 (lo + 65536 * hi)) _
    have := VRel.itv (m := m) (n := lo + 65536 * hi) (z := z) ⟨by rw [e1]; exact h1, by rw [e2]; exact h2⟩
    rw [e3] at this
    exact this
  · cases h
theorem decO_some {a b : Bool} {v : Value} (h : decO a b = some v) {q : Prop} [Decidable q] (h1 : a = true → q) (h2 : b = true → ¬ q) : v = .bool (decide q) := by
  unfold decO at h
  split at h
  · cases h; rw [decide_eq_true (h1 rfl)]
  · split at h
    · cases h; rw [decide_eq_false (h2 rfl)]
    · cases h
theorem itvBin_sim {op : BinOp} {t : TypeId} {x y : Operand} {a b a' b' v : Value} (h : itvBin op a b = some v) (ha : VRel m a a') (hb : VRel m b b') : ∃ v', VRel m v v' ∧ srun P (do eqGuard op t x y a' b'; binOp op t a' b') = some v' := by
  unfold itvBin at h
  split at h
  · rename_i l1 h1 l2 h2 o1 o2
    obtain ⟨z, rfl, z1, z2⟩ := itvOf_rel o1 ha
    obtain ⟨u, rfl, u1, u2⟩ := itvOf_rel o2 hb
    split at h
    · obtain ⟨k1, k2⟩ := mkItv_rel (m := m) h (z := z + u) (by show ((l1 + l2 : Nat) : Int) ≤ _; omega) (by show _ ≤ ((h1 + h2 : Nat) : Int); omega)
      refine ⟨_, k1, ?_⟩
      have e : IntKind.i64.wrap (z + u) = z + u := IntWalk.i64_in _ (by omega)
      show some (Value.int .i64 (IntKind.i64.wrap (z + u))) = _
      rw [e]
    · rw [decO_some h (q := z < u) (fun hq => by have := blt_true hq; omega) (fun hq => by have := Nat.le_of_ble_eq_true hq; omega)]
      exact ⟨_, .bool _, rfl⟩
    · rw [decO_some h (q := z ≤ u) (fun hq => by have := Nat.le_of_ble_eq_true hq; omega) (fun hq => by have := blt_true hq; omega)]
      exact ⟨_, .bool _, rfl⟩
    · rw [decO_some h (q := z > u) (fun hq => by have := blt_true hq; omega) (fun hq => by have := Nat.le_of_ble_eq_true hq; omega)]
      exact ⟨_, .bool _, rfl⟩
    · rw [decO_some h (q := z ≥ u) (fun hq => by have := Nat.le_of_ble_eq_true hq; omega) (fun hq => by have := blt_true hq; omega)]
      exact ⟨_, .bool _, rfl⟩
    · split at h
      · rename_i hc
        simp only [Bool.and_eq_true] at hc
        have c1 := Nat.eq_of_beq_eq_true hc.1
        have c2 := blt_true hc.2
        have hu : u = (l2 : Int) := by omega
        subst hu
        have r1 : 0 ≤ z.tmod (l2 : Int) := Int.tmod_nonneg _ (by omega)
        have r2 : z.tmod (l2 : Int) < (l2 : Int) := Int.tmod_lt_of_pos _ (by omega)
        obtain ⟨k1, k2⟩ := mkItv_rel (m := m) h (z := z.tmod (l2 : Int)) (by simpa using r1) (by show _ ≤ ((l2 - 1 : Nat) : Int); omega)
        refine ⟨_, k1, ?_⟩
        show srun P (Op.intDiv .rem .i64 z (l2 : Int)) = some (Value.int .i64 (z.tmod (l2 : Int)))
        unfold Op.intDiv
        rw [if_neg (by omega)]
        rfl
      · cases h
    · cases h
  · cases h
theorem symBinI_sim {op : BinOp} {t : TypeId} {x y : Operand} {a b a' b' v : Value} (h : symBinI op a b = some v) (ha : VRel m a a') (hb : VRel m b b') : ∃ v', VRel m v v' ∧ srun P (do eqGuard op t x y a' b'; binOp op t a' b') = some v' := by
  unfold symBinI at h
  split at h
  · rename_i hs
    cases h
    exact symBin_sim hs ha hb
  · exact itvBin_sim h ha hb
theorem symConvI_sim {s d : TypeId} {a a' v : Value} (h : symConvI P s d a = some v) (ha : VRel m a a') : ∃ v', VRel m v v' ∧ srun P (convert s d a') = some v' := by
  unfold symConvI at h
  split at h
  · rename_i hs
    cases h
    exact symConv_sim hs ha
  · rename_i hnone
    clear hnone
    unfold itvConv at h
    split at h
    · rename_i n
      split at h
      · rename_i hk hs hd
        have hk := Nat.eq_of_beq_eq_true hk
        rw [forceN_eq] at h
        cases h
        cases ha with | @itv _ z ha =>
        have e1 : itvLo (Nat.mod n 4294967296) = itvLo n := by show n % 4294967296 % 65536 = n % 65536; omega
        have e2 : itvHi (Nat.mod n 4294967296) = itvHi n := by show n % 4294967296 / 65536 % 65536 = n / 65536 % 65536; omega
        have e3 : itvKind (Nat.mod n 4294967296) = .i64 := by
          unfold itvKind
          rw [show Nat.div (Nat.mod n 4294967296) 4294967296 = 0 from by show n % 4294967296 / 4294967296 = 0; omega]
          rfl
        have e4 : itvKind n = .u8 := by
          unfold itvKind
          rw [hk]
          rfl
        obtain ⟨z1, z2⟩ := ha
        have hhi : itvHi n < 65536 := Nat.mod_lt _ (by decide)
        refine ⟨.int .i64 z, ?_, ?_⟩
        · have := VRel.itv (m := m) (n := Nat.mod n 4294967296) (z := z) ⟨by rw [e1]; exact z1, by rw [e2]; exact z2⟩
          rw [e3] at this
          exact this
        · rw [e4]
          have e : IntKind.i64.wrap z = z := IntWalk.i64_in _ (by omega)
          have b1 : ∀ {α β : Type} (s : Sem α) (f : α → Sem β), srun P (s >>= f) = (srun P s).bind fun a => srun P (f a) := fun s f => srun_bind f s
          unfold convert
          rw [b1, srun_underlying hs, Option.bind_some, b1, srun_underlying hd, Option.bind_some]
          show some (Value.int .i64 (IntKind.i64.wrap z)) = _
          rw [e]
      · cases h
    · cases h

theorem pushB_some : ∀ {vs : List Value} {r b : ByteArray}, pushB vs r = some b → ∃ ns : List Int, vs = ns.map (Value.int .u8) ∧ b = ns.foldl (fun r n => r.push (UInt8.ofNat n.toNat)) r
  | [], r, b, h => by cases h; exact ⟨[], rfl, rfl⟩
  | v :: vs, r, b, h => by
    cases v with
    | int k n =>
      cases k with
      | u8 =>
        obtain ⟨ns, rfl, rfl⟩ := pushB_some (vs := vs) (r := r.push (UInt8.ofNat n.toNat)) h
        exact ⟨n :: ns, rfl, rfl⟩
      | _ => cases h
    | _ => cases h
theorem freeze_one {w : World} {b : Nat} {cc : Array Value} {e : TypeId} {fr : Nat × Nat} (h : w.heap[b]? = some (.cells cc e fr)) :
    w.freeze ⟨b, cc.size, .none⟩ 1 = { w with heap := w.heap.setIfInBounds b (.cells cc e (if fr.1 == fr.2 then (cc.size, cc.size + 1) else (min fr.1 cc.size, max fr.2 (cc.size + 1)))) } := by
  unfold World.freeze
  rw [if_neg (by decide)]
  congr 1
  apply Array.ext_getElem?
  intro i
  rw [Array.getElem?_modify, Array.getElem?_setIfInBounds]
  have hlt := (Array.getElem?_eq_some_iff.1 h).1
  by_cases hi : b = i
  · subst hi
    rw [if_pos rfl, if_pos rfl, if_pos hlt, h]
    rfl
  · rw [if_neg hi, if_neg hi]
theorem strConv_sim {V : Nat → Prop} {S S' : St} {w : World} {s d : TypeId} {a a' v : Value} (he : strConv P s d a S = some (v, S')) (hv : VRel m a a') (hr : Rel P V m S w) (ha : ∀ X, X < S.next → S'.acc.testBit X = true → V X)
    (hf : ∀ X, S.next ≤ X → X < S'.next → m X = .none) :
    ∃ m' v' w', (convert s d a').run P w = .ok v' w' ∧ VRel m' v v' ∧ Out P V m S w m' S' w' := by
  unfold strConv at he
  split at he
  · rename_i ad n c e hs hd
    split at he
    · rename_i hu
      have fin : ∀ (cells : List Value) (S1 : St), (match pushB cells ByteArray.empty with | some b => some (Value.string b, S1) | .none => .none) = some (v, S') → S1 = S' ∧ ∃ b, pushB cells ByteArray.empty = some b ∧ v = .string b := by
        intro cells S1 h
        split at h
        · cases h; exact ⟨rfl, _, by assumption, rfl⟩
        · cases h
      obtain ⟨r, r', S1, h1, h2, _, _, _, h3, h4, h5, _⟩ := aCells_some he hv rfl hr (fun r S1 _ h => by obtain ⟨rfl, _⟩ := fin _ _ h; exact Grown.refl _) ha
      obtain ⟨rfl, b, h6, rfl⟩ := fin _ _ h1
      obtain ⟨ns, rfl, rfl⟩ := pushB_some h6
      cases hv with
      | @slice _ a2 _ _ c2 hc hA hf =>
        refine ⟨m, .string _, w, ?_, .string _, h2⟩
        have e1 : r'.toList = ns.map (Value.int .u8) := flats_eq (by simp [flat1]) h3
        have e2 : r' = (ns.map (Value.int .u8)).toArray := by rw [← e1]
        have h7 := h4 w rfl
        rw [run_convert_bytes_string w s d e (some a2) n c2 hs hu hd]
        refine run_bytesToString w a2 n c2 ns ?_
        rw [← e2]
        have : (Builtin.firstCells 1 n (.slice (some a2) n c2)) = loadCells a2 (n * 1) := rfl
        rw [this, Nat.mul_one] at h7
        exact h7
    · cases he
  · rename_i b e hs hd
    split at he
    · rename_i hu
      split at he
      · rename_i hb
        simp only [Bool.and_eq_true] at hb
        have hb1 := Nat.le_of_ble_eq_true hb.1
        have hb2 := Nat.le_of_ble_eq_true hb.2
        rw [forceVs_eq] at he
        obtain ⟨hn, he⟩ := St.newK_some he
        cases he
        cases hv
        have hmn : m S.next = .none := hf S.next (Nat.le_refl _) (by simp [St.new])
        have hge := grownCap_ge w b.size 0 e
        have hcs : (bytesRow b (grownCap w b.size 0 e)).size = grownCap w b.size 0 e := by
          have : b.data.size = b.size := rfl
          simp [bytesRow]; omega
        refine ⟨m.with S.next ⟨w.heap.size, 0, (bytesRow b (grownCap w b.size 0 e)).size, szOf P e⟩, _, _, run_bytes_of_string w s d e b hs hd hu, ?_, ?_⟩
        · refine .slice (.inr ⟨by omega, by omega⟩) (.inl ⟨_, BMap.with_self _ _ _, rfl, rfl, rfl, rfl⟩) (fun _ => .inr ⟨_, BMap.with_self _ _ _, ?_⟩)
          simp only
          rw [hcs]
          have := Nat.mul_le_mul_left (grownCap w b.size 0 e) hb2
          omega
        · refine hr.of_new (o := .cells (bytesRow b (grownCap w b.size 0 e)) e ((bytesRow b (grownCap w b.size 0 e)).size, (bytesRow b (grownCap w b.size 0 e)).size + 1)) hn hmn rfl rfl rfl rfl rfl
            ⟨_, bytesRow b (grownCap w b.size 0 e), BMap.with_self _ _ _, ⟨((bytesRow b (grownCap w b.size 0 e)).size, (bytesRow b (grownCap w b.size 0 e)).size + 1), ?_, .inr ⟨Nat.le_refl _, hu⟩⟩, rfl, rfl, ?_⟩
          · show (w.heap.push _)[w.heap.size]? = _
            simp
          · intro i v hv
            have e1 : bytesV b.data.toList = b.data.toList.map fun x => Value.int .u8 x.toNat := by
              generalize b.data.toList = l
              induction l with
              | nil => rfl
              | cons x l ih => simp only [bytesV, ih, List.map_cons]; rfl
            rw [e1] at hv
            refine ⟨v, ?_, ?_⟩
            · have hl : i < b.data.size := by
                have := (List.getElem?_eq_some_iff.1 hv).1
                simpa using this
              unfold bytesRow
              rw [Nat.add_zero, Array.getElem?_append_left (by simpa using hl)]
              simpa using hv
            · rw [List.getElem?_map] at hv
              obtain ⟨x, _, rfl⟩ := Option.map_eq_some_iff.1 hv
              exact .int _ _
      · cases he
    · cases he
  · rename_i ad n c e0 e hs hd
    split at he
    · rename_i hu
      split at he
      · rename_i hsd
        simp only [Bool.and_eq_true] at hsd
        obtain rfl : s = d := Nat.eq_of_beq_eq_true hsd.1
        have hn1 : 1 ≤ n := Nat.le_of_ble_eq_true hsd.2
        split at he
        · rename_i cs e1 hget
          split at he
          rotate_left
          · cases he
          rename_i he1
          obtain rfl : e1 = e := Nat.eq_of_beq_eq_true he1
          rw [St.putK_eq] at he
          cases he
          have hv' := hv
          cases hv with
          | @slice _ a2 _ _ c2 hc hA hfit =>
            have hVb : V ad.block := ha _ (hr.lt hget) (by simp [St.put, bit_eq])
            obtain ⟨p, cc, h1, ⟨fr, h2, hnf⟩, h3, h4, h5⟩ := hr.blk _ hVb _ hget
            have hconv : ∀ w1, (markStringish a2).run P w = .ok () w1 → (convert s s (.slice (some a2) n c2)).run P w = .ok (.slice (some a2) n c2) w1 := by
              intro w1 hm
              have b1 : ∀ {α β : Type} (x : Sem α) (f : α → Sem β) (w : World), (x >>= f).run P w = (x.run P w).andThen fun a w' => (f a).run P w' := fun x f w => Sem.run_bind P w x f
              unfold convert
              rw [b1, run_underlying hs]
              simp only [Result.andThen]
              rw [b1, run_underlying hd]
              simp only [Result.andThen]
              rw [b1, run_underlying hu]
              simp only [Result.andThen]
              have : (s == s) = true := by simp
              rw [this]
              simp only
              rw [b1, hm]
              rfl
            by_cases hAA : ARel m ad a2
            · obtain ⟨q, g1, g2, g3, g4, g5⟩ := hAA
              rw [h1] at g1
              cases g1
              have hlt2 := (Array.getElem?_eq_some_iff.1 h2).1
              let nf : Nat × Nat := if fr.1 == fr.2 then (cc.size, cc.size + 1) else (min fr.1 cc.size, max fr.2 (cc.size + 1))
              have hm : (markStringish a2).run P w = .ok () { w with heap := w.heap.setIfInBounds p.blk (.cells cc e1 nf) } := by
                have hsh : w.shape? a2.block = some (e1, cc.size) := by unfold World.shape?; rw [g2, h2]
                unfold markStringish
                show Sem.run P (.shape a2.block _) w = _
                simp only [Sem.run, hsh]
                show Sem.run P (.freeze ⟨a2.block, cc.size, .none⟩ 1 _) w = _
                simp only [Sem.run]
                rw [freeze_one (b := a2.block) (by rw [g2]; exact h2), g2]
              refine ⟨m, _, _, hconv _ hm, hv', ?_⟩
              refine hr.of_put hVb h1 hget (by simp) (fun j hj => Array.getElem?_setIfInBounds_ne (fun h => hj h.symm)) rfl rfl rfl ⟨p, cc, h1, ⟨nf, by simp only; rw [Array.getElem?_setIfInBounds_self_of_lt hlt2], ?_⟩, h3, h4, h5⟩
              right
              refine ⟨?_, hu⟩
              show cc.size ≤ (if fr.1 == fr.2 then (cc.size, cc.size + 1) else (min fr.1 cc.size, max fr.2 (cc.size + 1))).1
              split
              · exact Nat.le_refl _
              · rename_i hne
                rcases hnf with ⟨q1, q2⟩ | h
                · rw [q1, q2] at hne; simp at hne
                · simp only; omega
            · exact absurd (hA.resolve_right (fun h => by omega)) hAA
        · cases he
      · cases he
    · cases he
  · cases he

theorem aBin_sim {op : BinOp} {t : TypeId} {x y : Operand} {a b a' b' v : Value} {S S' : St} (h : aBin P op t x y a b S = some (v, S')) (ha : VRel m a a') (hb : VRel m b b') :
    S' = S ∧ ∃ v', VRel m v v' ∧ srun P (do eqGuard op t x y a' b'; binOp op t a' b') = some v' := by
  unfold aBin at h
  split at h
  · rename_i hf
    simp only [Bool.and_eq_true] at hf
    obtain ⟨h1, h2, h3⟩ := flatOut_some h
    rw [flat_eq hf.1 ha, flat_eq hf.2 hb]
    exact ⟨h3, _, flat_rel h2, h1⟩
  · split at h
    · rename_i d hd
      split at h
      · rename_i r hn
        have := srun_nil (x := x) (y := y) hd (nilPair_rel hn ha hb)
        split at h
        · cases h; exact ⟨rfl, _, .bool _, this.1⟩
        · cases h; exact ⟨rfl, _, .bool _, this.2⟩
        · cases h
      · split at h
        · rename_i r hs
          cases h
          exact ⟨rfl, symBinI_sim hs ha hb⟩
        · cases h
    · cases h

theorem aBuiltin_sim (hP : PGood P) {V : Nat → Prop} {S S' : St} {w : World} {b : Builtin} {ts : List TypeId} {ty : TypeId} {vs vs' : List Value} {v : Value} {consts : Array Bool} (he : aBuiltin P b ts ty vs S = some (v, S')) (hv : VRels m vs vs')
    (hr : Rel P V m S w) (ha : ∀ X, X < S.next → S'.acc.testBit X = true → V X) (hf : ∀ X, S.next ≤ X → X < S'.next → m X = .none) :
    ∃ m' v' w', Left P (builtin b ⟨ts⟩ ty consts ⟨vs'⟩) w v' w' ∧ VRel m' v v' ∧ Out P V m S w m' S' w' := by
  unfold aBuiltin at he
  split at he
  · obtain ⟨x', hx, rfl⟩ : ∃ x', VRel m _ x' ∧ vs' = [x'] := by
      cases hv with | cons h hs => cases hs; exact ⟨_, h, rfl⟩
    obtain ⟨m', v', w', h1, h2, h3⟩ := arun_sim (sr_len _ ty _ hx) he hr ha hf
    exact ⟨m', v', w', left_v h1, h2, h3⟩
  · split at he
    · rename_i hu1 hu2
      split at he
      · rename_i hni hinfo
        cases hv with
        | cons hs hv =>
          cases hv with
          | cons hx hv =>
            cases hv
            obtain ⟨m', v', w', h1, h2, h3⟩ := append_sim (ty := ty) hu1 hinfo hu2 (fun k hk => by subst hk; cases hni) hs hx he hr ha hf
            exact ⟨m', v', w', left_v h1, h2, h3⟩
      · cases he
    · cases he
  · cases hv with
    | cons hd hv =>
      cases hv with
      | cons hs hv =>
        cases hv
        obtain ⟨m', v', w', h1, h2, h3⟩ := arun_sim (sr_copy _ ty _ hd hs) he hr ha hf
        exact ⟨m', v', w', left_v h1, h2, h3⟩
  · split at he
    · rename_i hfl
      obtain ⟨h1, h2, rfl⟩ := flatOut_some he
      rw [flats_eq' hfl hv]
      exact ⟨m, v, w, left_v (srun_run h1 w), flat_rel h2, Out.refl hr⟩
    · cases he
  · split at he
    · rename_i hfl
      obtain ⟨h1, h2, rfl⟩ := flatOut_some he
      rw [flats_eq' hfl hv]
      exact ⟨m, v, w, left_v (srun_run h1 w), flat_rel h2, Out.refl hr⟩
    · cases he
  · cases hv with
    | cons hx hv =>
      cases hv
      obtain ⟨m', v', w', h1, h2, h3⟩ := arun_sim (sr_clear hP _ ty hx) he hr ha hf
      exact ⟨m', v', w', left_v h1, h2, h3⟩
  · cases he

theorem done_some {o : Option (Unit × St)} {v : Value} {S' : St} (h : done o = some (v, S')) : o = some ((), S') ∧ v = undef := by
  unfold done at h
  split at h
  · cases h; exact ⟨rfl, rfl⟩
  · cases h

theorem aRange_sim {V : Nat → Prop} {S S' : St} {w : World} {t : TypeId} {u u' v : Value} (he : aRange P t u S = some (v, S')) (hu : VRel m u u') (hr : Rel P V m S w) (hf : ∀ X, S.next ≤ X → X < S'.next → m X = .none) :
    ∃ m' v' w', (Instr.range t u').run P w = .ok v' w' ∧ VRel m' v v' ∧ Out P V m S w m' S' w' := by
  unfold aRange at he
  split at he
  · rename_i s hs
    obtain ⟨hn, he⟩ := St.newK_some he
    cases he
    cases hu
    have hmn : m S.next = .none := hf S.next (Nat.le_refl _) (by simp [St.new])
    refine ⟨m.with S.next ⟨w.heap.size, 0, 0, 0⟩, .pointer (some ⟨w.heap.size, 0, .none⟩), { w with heap := w.heap.push (.stringIter s 0) }, ?_, .ptr ⟨_, BMap.with_self _ _ _, rfl, rfl, rfl, rfl⟩,
      hr.of_new (o := .stringIter s 0) hn hmn rfl rfl rfl rfl rfl ⟨_, BMap.with_self _ _ _, by simp, rfl⟩⟩
    unfold Instr.range
    rw [run_bind]
    have e : (underlying t).run P w = .ok .string w := srun_run (srun_underlying hs) w
    rw [e]
    rfl
  · cases he
theorem aNext_sim {V : Nat → Prop} {S S' : St} {w : World} {b : Bool} {ty : TypeId} {u u' v : Value} (he : aNext u b S = some (v, S')) (hu : VRel m u u') (hr : Rel P V m S w) (ha : ∀ X, X < S.next → S'.acc.testBit X = true → V X) :
    ∃ m' v' w', (Instr.next u' b ty).run P w = .ok v' w' ∧ VRel m' v v' ∧ Out P V m S w m' S' w' := by
  unfold aNext at he
  split at he
  · rename_i r
    split at he
    · rename_i s pos hget
      have hlt : r < S.next := hr.lt hget
      cases hu with
      | ptr hA =>
        rename_i a'
        obtain ⟨p, hm, h1, h2, h3, h4⟩ := hA
        obtain ⟨b', o', s'⟩ := a'
        simp only at hm h1 h2 h3 h4
        subst h1 h4
        have run : ∀ (hV : V r), p.off = 0 ∧ o' = 0 ∧ w.heap[p.blk]? = some (.stringIter s pos) := fun hV => by
          obtain ⟨q, e1, e2, e3⟩ := hr.blk r hV _ hget
          obtain rfl : q = p := by have h := e1; rw [hm] at h; cases h; rfl
          exact ⟨e3, by omega, e2⟩
        split at he
        · rename_i hb
          simp only [forceN_eq, St.putK_eq] at he
          cases he
          have hVb : V r := ha r hlt (by simp [St.put, bit_eq])
          obtain ⟨e1, rfl, e2⟩ := run hVb
          have hlt2 := (Array.getElem?_eq_some_iff.1 e2).1
          refine ⟨m, _, { w with heap := w.heap.setIfInBounds p.blk (.stringIter s (pos + (Utf8.decode s pos).2)) }, ?_, .tuple (.cons (.bool _) (.cons (.int _ _) (.cons (.int _ _) .nil))),
            hr.of_put hVb hm hget (by simp) (fun j hj => Array.getElem?_setIfInBounds_ne (fun h => hj h.symm)) rfl rfl rfl ⟨p, hm, by simp only; rw [Array.getElem?_setIfInBounds_self_of_lt hlt2]; rfl, e1⟩⟩
          have hb' : pos < s.size := blt_true hb
          simp only [Instr.next, getObj, Sem.run, e2, run_bind, Result.andThen]
          show Sem.run P (if pos < s.size then _ else _) w = _
          rw [if_pos hb']
          simp only [setObj, Sem.run, run_bind, e2, Result.andThen]
          rfl
        · rename_i hb
          rw [St.rd_eq] at he
          cases he
          have hVb : V r := ha r hlt (by simp [bit_eq])
          obtain ⟨e1, rfl, e2⟩ := run hVb
          refine ⟨m, _, w, ?_, .tuple (.cons (.bool _) .nil), hr.rd r⟩
          have hb' : ¬ pos < s.size := by have := blt_false hb; omega
          simp only [Instr.next, getObj, Sem.run, e2, run_bind, Result.andThen]
          show Sem.run P (if pos < s.size then _ else _) w = _
          rw [if_neg hb']
          rfl
    · cases he
  · cases he
theorem string_of {s : ByteArray} {v : Value} (h : VRel m (.string s) v) : v = .string s := by cases h; rfl
theorem aOp_sim (hP : PGood P) {V : Nat → Prop} {S S' : St} {w : World} {T : Tm} {a : Act} {o : Oper} {v : Value} (he : aOp P T o S = some (v, S')) (hT : TRel m T a)
    (hr : Rel P V m S w) (ha : ∀ X, X < S.next → S'.acc.testBit X = true → V X) (hf : ∀ X, S.next ≤ X → X < S'.next → m X = .none) :
    ∃ m' v' w', Left P (execOp a.eval o) w v' w' ∧ VRel m' v v' ∧ Out P V m S w m' S' w' := by
  obtain ⟨dst, op, ty, pos, after, guard⟩ := o
  unfold aOp at he
  cases op <;> dsimp only at he
  case move x =>
    obtain ⟨u, h1, h2⟩ := evO_some hT he
    cases h1
    exact ⟨m, _, w, .inl rfl, h2, Out.refl hr⟩
  case assign x =>
    obtain ⟨u, h1, h2⟩ := evO_some hT he
    cases h1
    exact ⟨m, _, w, .inl rfl, h2, Out.refl hr⟩
  case pick c x y =>
    obtain ⟨u, h1, h2⟩ := evO_some hT he
    split at h1
    · obtain ⟨u2, h3, h4⟩ := evO_some hT h1
      cases h3
      refine ⟨m, _, w, .inl ?_, h4, Out.refl hr⟩
      have : a.eval c = .bool true := by generalize a.eval c = e at h2; cases h2; rfl
      unfold execOp
      simp only [this]
      rfl
    · obtain ⟨u2, h3, h4⟩ := evO_some hT h1
      cases h3
      refine ⟨m, _, w, .inl ?_, h4, Out.refl hr⟩
      have : a.eval c = .bool false := by generalize a.eval c = e at h2; cases h2; rfl
      unfold execOp
      simp only [this]
      rfl
    · cases h1
  case alloc e =>
    obtain ⟨m', v', w', h1, h2, h3⟩ := arun_sim (sr_alloc hP e) he hr ha hf
    exact ⟨m', v', w', left_v h1, h2, h3⟩
  case box e x =>
    obtain ⟨u, h0, hu⟩ := evO_some hT he
    obtain ⟨m', v', w', h1, h2, h3⟩ := arun_sim (sr_box e hu) h0 hr ha hf
    exact ⟨m', v', w', left_v h1, h2, h3⟩
  case build t ps =>
    obtain ⟨u, h0, hu⟩ := evPs_some hT he
    obtain ⟨m', v', w', h1, h2, h3⟩ := arun_sim (sr_build hP t (ps' := ps.map fun p => (p.1, a.eval p.2)) (by rw [Array.toList_map]; exact hu)) h0 hr ha hf
    exact ⟨m', v', w', left_v h1, h2, h3⟩
  case buildSlice t len ps =>
    obtain ⟨u, h0, hu⟩ := evPs_some hT he
    obtain ⟨m', v', w', h1, h2, h3⟩ := arun_sim (sr_buildSlice hP t len (ps' := ps.map fun p => (p.1, a.eval p.2)) (by rw [Array.toList_map]; exact hu)) h0 hr ha hf
    exact ⟨m', v', w', left_v h1, h2, h3⟩
  case load t x =>
    obtain ⟨u, h0, hu⟩ := evO_some hT he
    obtain ⟨m', v', w', h1, h2, h3⟩ := arun_sim (sr_loadAt t hu) h0 hr ha hf
    exact ⟨m', v', w', left_v h1, h2, h3⟩
  case store t x y =>
    obtain ⟨u, h0, hu⟩ := evO_some hT he
    obtain ⟨u2, h00, hu2⟩ := evO_some hT h0
    obtain ⟨h5, rfl⟩ := done_some h00
    obtain ⟨m', v', w', h1, h2, h3⟩ := arun_sim (sr_storeAt t hu hu2) h5 hr ha hf
    exact ⟨m', undef, w', left_u h1, .tuple .nil, h3⟩
  case nilCheck x =>
    obtain ⟨u, h0, hu⟩ := evO_some hT he
    split at h0
    · cases h0
      refine ⟨m, _, w, .inl ?_, hu, Out.refl hr⟩
      generalize he : a.eval x = ex at hu
      unfold execOp
      simp only [he]
      cases hu
      rfl
    · cases h0
  case binOp op t x y yt =>
    obtain ⟨u, h0, hu⟩ := evO_some hT he
    obtain ⟨u2, h00, hu2⟩ := evO_some hT h0
    obtain ⟨rfl, v', h2, h3⟩ := aBin_sim h00 hu hu2
    exact ⟨m, v', w, left_v (srun_run h3 w), h2, Out.refl hr⟩
  case unOp op t x =>
    obtain ⟨u, h0, hu⟩ := evO_some hT he
    split at h0
    · rename_i hfl
      obtain ⟨h1, h2, rfl⟩ := flatOut_some h0
      rw [← flat_eq hfl hu] at h1
      exact ⟨m, v, w, left_v (srun_run h1 w), flat_rel h2, Out.refl hr⟩
    · cases h0
  case convert s d x =>
    obtain ⟨u, h0, hu⟩ := evO_some hT he
    split at h0
    · rename_i hfl
      simp only [Bool.and_eq_true] at hfl
      obtain ⟨h1, h2, rfl⟩ := flatOut_some h0
      rw [← flat_eq hfl.1 hu] at h1
      exact ⟨m, v, w, left_v (srun_run h1 w), flat_rel h2, Out.refl hr⟩
    · split at h0
      · rename_i r hs
        cases h0
        obtain ⟨v', h1, h2⟩ := symConvI_sim hs hu
        exact ⟨m, v', w, left_v (srun_run h2 w), h1, Out.refl hr⟩
      · obtain ⟨m', v', w', h1, h2, h3⟩ := strConv_sim h0 hu hr ha hf
        exact ⟨m', v', w', left_v h1, h2, h3⟩
  case makeFunc fn f c =>
    obtain ⟨u, h0, hu⟩ := evOs_some hT he
    obtain ⟨u2, h00, hu2⟩ := evOs_some hT h0
    cases h00
    refine ⟨m, .func fn (f.map a.eval) (c.map a.eval), w, .inl rfl, ?_, Out.refl hr⟩
    have e1 : f.map a.eval = ⟨f.toList.map a.eval⟩ := by apply Array.ext'; simp
    have e2 : c.map a.eval = ⟨c.toList.map a.eval⟩ := by apply Array.ext'; simp
    rw [e1, e2]
    exact .func hu hu2
  case makeMap t r =>
    cases r with
    | some x => cases he
    | none =>
      obtain ⟨m', v', w', h1, h2, h3⟩ := arun_sim (sr_makeMap t) he hr ha hf
      exact ⟨m', v', w', left_v h1, h2, h3⟩
  case makeSlice t l c =>
    obtain ⟨u, h0, hu⟩ := evO_some hT he
    obtain ⟨u2, h00, hu2⟩ := evO_some hT h0
    unfold aMk at h00
    split at h00
    · rename_i k1 i1 k2 i2
      have e1 : a.eval l = .int k1 i1 := by generalize a.eval l = e at hu ⊢; cases hu; rfl
      have e2 : a.eval c = .int k2 i2 := by generalize a.eval c = e at hu2 ⊢; cases hu2; rfl
      obtain ⟨m', v', w', h1, h2, h3⟩ := arun_sim (sr_makeSlice hP t k1 k2 i1 i2) h00 hr ha hf
      refine ⟨m', v', w', ?_, h2, h3⟩
      unfold execOp
      simp only [e1, e2]
      exact left_v h1
    · rename_i n n'
      split at h00
      · rename_i hs
        have hlc : l = c := by
          revert hs
          unfold sameOp
          split
          · exact fun hs => by rw [Nat.eq_of_beq_eq_true hs]
          · exact fun hs => by cases hs
        subst hlc
        obtain ⟨z, e1, hz⟩ : ∃ z, a.eval l = .int (itvKind n) z ∧ ItvIs n z := by
          generalize a.eval l = e at hu ⊢
          cases hu with | itv h => exact ⟨_, rfl, h⟩
        obtain ⟨m', v', w', h1, h2, h3⟩ := arun_sim (sr_makeLoose hP t hz) h00 hr ha hf
        refine ⟨m', v', w', ?_, h2, h3⟩
        unfold execOp
        simp only [e1]
        exact left_v h1
      · cases h00
    · cases h00
  case slice t x lo hi mx =>
    cases mx with
    | some y => cases he
    | none =>
      obtain ⟨u, h0, hu⟩ := evO_some hT he
      split at h0
      · obtain ⟨l, h1, hl⟩ := evB_some hT h0
        obtain ⟨h, h2, hh⟩ := evB_some hT h1
        split at h2
        · rename_i hut
          split at h2
          · rename_i hinfo
            obtain ⟨r', g1, g2, g3⟩ := slice_sim hut hinfo hl hh hu h2 hr ha
            exact ⟨m, r', w, left_v g1, g2, g3⟩
          · cases h2
        · cases h2
      · obtain ⟨l, h1, hl⟩ := evB_some hT h0
        obtain ⟨h, h2, hh⟩ := evB_some hT h1
        split at h2
        · rename_i hut
          split at h2
          · rename_i hck
            simp only [Bool.and_eq_true] at hck
            cases h2
            have hrun := srun_run (srun_strSlice hut hl hh (Nat.le_of_ble_eq_true hck.1) (Nat.le_of_ble_eq_true hck.2)) w
            rw [← string_of hu] at hrun
            exact ⟨m, _, w, left_v hrun, .string _, Out.refl hr⟩
          · cases h2
        · cases h2
      · cases h0
  case fieldAddr s x f =>
    obtain ⟨u, h0, hu⟩ := evO_some hT he
    obtain ⟨m', v', w', h1, h2, h3⟩ := arun_sim (sr_fieldAt s hu f) h0 hr ha hf
    exact ⟨m', v', w', left_v h1, h2, h3⟩
  case field t x f =>
    obtain ⟨u, h0, hu⟩ := evO_some hT he
    obtain ⟨m', v', w', h1, h2, h3⟩ := arun_sim (sr_field t hu f) h0 hr ha hf
    exact ⟨m', v', w', left_v h1, h2, h3⟩
  case indexAddr t x i =>
    obtain ⟨u, h0, hu⟩ := evO_some hT he
    obtain ⟨k1, i1, h00, hu2⟩ := evI_some hT h0
    unfold aIdx at h00
    split at h00
    · rename_i n
      obtain ⟨a1, n1, c1, e1, hl⟩ : ∃ a1 n1 c1, a.eval x = .slice (some a1) n1 c1 ∧ LooseIs m n a1 n1 := by
        generalize a.eval x = e at hu ⊢
        cases hu with | loose h => exact ⟨_, _, _, rfl, h⟩
      obtain ⟨m', v', w', h1, h2, h3⟩ := arun_sim (sr_idxLoose t hl k1 i1) h00 hr ha hf
      refine ⟨m', v', w', ?_, h2, h3⟩
      unfold execOp
      simp only [hu2, e1]
      exact left_v h1
    · obtain ⟨m', v', w', h1, h2, h3⟩ := arun_sim (sr_indexAt t hu k1 i1) h00 hr ha hf
      refine ⟨m', v', w', ?_, h2, h3⟩
      unfold execOp
      simp only [hu2]
      exact left_v h1
  case index t x i =>
    obtain ⟨u, h0, hu⟩ := evO_some hT he
    obtain ⟨k1, i1, h00, hu2⟩ := evI_some hT h0
    obtain ⟨m', v', w', h1, h2, h3⟩ := arun_sim (sr_index t hu k1 i1) h00 hr ha hf
    refine ⟨m', v', w', ?_, h2, h3⟩
    unfold execOp
    simp only [hu2]
    exact left_v h1
  case lookup t x i ok =>
    obtain ⟨u, h0, hu⟩ := evO_some hT he
    obtain ⟨u2, h00, hu2⟩ := evO_some hT h0
    obtain ⟨m', v', w', h1, h2, h3⟩ := arun_sim (sr_lookup hP t hu hu2 ok) h00 hr ha hf
    exact ⟨m', v', w', left_v h1, h2, h3⟩
  case mapUpdate t x k y =>
    obtain ⟨u, h0, hu⟩ := evO_some hT he
    obtain ⟨u2, h00, hu2⟩ := evO_some hT h0
    obtain ⟨u3, h000, hu3⟩ := evO_some hT h00
    obtain ⟨h5, rfl⟩ := done_some h000
    obtain ⟨m', v', w', h1, h2, h3⟩ := arun_sim (sr_update t hu hu2 hu3) h5 hr ha hf
    exact ⟨m', undef, w', left_u h1, .tuple .nil, h3⟩
  case extract x i =>
    obtain ⟨u, h0, hu⟩ := evO_some hT he
    obtain ⟨m', v', w', h1, h2, h3⟩ := arun_sim (sr_extract hu i) h0 hr ha hf
    exact ⟨m', v', w', left_v h1, h2, h3⟩
  case call c =>
    obtain ⟨callee, args, ts⟩ := c
    cases callee with
    | builtin b =>
      obtain ⟨u, h0, hu⟩ := evOs_some hT he
      obtain ⟨m', v', w', h1, h2, h3⟩ := aBuiltin_sim hP (consts := args.map fun | .const _ => true | _ => false) h0 hu hr ha hf
      refine ⟨m', v', w', ?_, h2, h3⟩
      have e1 : args.map a.eval = ⟨args.toList.map a.eval⟩ := by apply Array.ext'; simp
      have e2 : execOp a.eval ⟨dst, .call ⟨.builtin b, args, ts⟩, ty, pos, after, guard⟩ = builtin b ts ty (args.map fun | .const _ => true | _ => false) (args.map a.eval) := rfl
      rw [e2, e1]
      exact h1
    | value f => cases he
    | invoke r n => cases he
  case range t x =>
    obtain ⟨u, h0, hu⟩ := evO_some hT he
    obtain ⟨m', v', w', h1, h2, h3⟩ := aRange_sim h0 hu hr hf
    exact ⟨m', v', w', left_v h1, h2, h3⟩
  case next x b =>
    obtain ⟨u, h0, hu⟩ := evO_some hT he
    obtain ⟨m', v', w', h1, h2, h3⟩ := aNext_sim (ty := ty) h0 hu hr ha
    exact ⟨m', v', w', left_v h1, h2, h3⟩
  all_goals cases he
end

end
end Go.Proofs.YtgkbjdphkmmmhaaDoor.Ev
