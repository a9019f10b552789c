/-
  Runs that the kernel carries out: code and calls, each part of a program made ready once. No program in sight.
-/
import Derived.Test.YtgkbjdphkmmmhaaDoorEvH
namespace Go.Proofs.YtgkbjdphkmmmhaaDoor.Ev
open Go
noncomputable section

/-! ### Slots, by ready paths -/
abbrev Reg := Option (Tm × St)
structure SetC (β : Type) where
  s : Value → Tm → (Tm → β) → β
def setC {β : Type} (t : Nat) : SetC β :=
  match Nat.blt t 256 with
  | true => match (get16 (Nat.div t 16) : Get16 (N16 Value)), (set16 (Nat.mod t 16) : Set16 Value β), (set16 (Nat.div t 16) : Set16 (N16 Value) β) with
    | ⟨g1⟩, ⟨s0⟩, ⟨s1⟩ => ⟨fun v T k => Tm.casesOn T fun lo hi => s0 v (g1 lo) fun r => s1 r lo fun lo => k ⟨lo, hi⟩⟩
  | false => match (get16 (Nat.sub (Nat.div t 16) 16) : Get16 (N16 Value)), (set16 (Nat.mod t 16) : Set16 Value β), (set16 (Nat.sub (Nat.div t 16) 16) : Set16 (N16 Value) β) with
    | ⟨g1⟩, ⟨s0⟩, ⟨s1⟩ => ⟨fun v T k => Tm.casesOn T fun lo hi => s0 v (g1 hi) fun r => s1 r hi fun hi => k ⟨lo, hi⟩⟩

/-- An operand, ready. -/
structure OpdC where
  o : Option GetC
def opdC : Operand → OpdC
  | .tmp t => ⟨some (getC t)⟩
  | .const v => match flat v with | true => ⟨some ⟨fun _ => v⟩⟩ | false => ⟨.none⟩
  | .func f => ⟨some ⟨fun _ => .func (.func f) ⟨[]⟩ ⟨[]⟩⟩⟩
  | .global g => match Nat.blt g 64 with | true => ⟨some ⟨fun _ => .pointer (some ⟨g, 0, .none⟩)⟩⟩ | false => ⟨.none⟩

abbrev CallF := FuncId → List Value → St → Option (Value × St)
structure OpC where
  r : CallF → Tm → St → Option (Value × St)
def forced (o : Option (Value × St)) : Option (Value × St) :=
  match o with
  | some (v, S) => forceV v fun v => some (v, S)
  | .none => .none
def slowC (P : Program) (o : Oper) : OpC := ⟨fun _ T S => forced (aOp P T o S)⟩
def un (x : Operand) (f : Value → St → Option (Value × St)) : OpC :=
  match opdC x with
  | ⟨some g⟩ => ⟨fun _ T S => f (g.g T) S⟩
  | ⟨.none⟩ => ⟨fun _ _ _ => .none⟩
def bi (x y : Operand) (f : Value → Value → St → Option (Value × St)) : OpC :=
  match opdC x, opdC y with
  | ⟨some g⟩, ⟨some h⟩ => ⟨fun _ T S => f (g.g T) (h.g T) S⟩
  | _, _ => ⟨fun _ _ _ => .none⟩
def pickF (T : Tm) (a b : GetC) (S : St) (c : Value) : Option (Value × St) :=
  match c with
  | .bool true => some (a.g T, S)
  | .bool false => some (b.g T, S)
  | _ => .none
def pickC (c a b : Operand) : OpC :=
  match opdC c, opdC a, opdC b with
  | ⟨some c⟩, ⟨some a⟩, ⟨some b⟩ => ⟨fun _ T S => pickF T a b S (c.g T)⟩
  | _, _, _ => ⟨fun _ _ _ => .none⟩
def callV (call : CallF) (vs : List Value) (S : St) (fv : Value) : Option (Value × St) :=
  match fv with
  | .func (.func g) ⟨first⟩ ⟨captured⟩ => call g (first ++ vs ++ captured) S
  | _ => .none
def getsC : List Operand → Option (List GetC)
  | [] => some []
  | x :: xs => match opdC x, getsC xs with
    | ⟨some g⟩, some gs => some (g :: gs)
    | _, _ => .none
def getsV (T : Tm) : List GetC → List Value
  | [] => []
  | g :: gs => g.g T :: getsV T gs
def callC (f : Operand) (args : List Operand) : OpC :=
  match f, getsC args with
  | .func g, some gs => ⟨fun call T S => call g (getsV T gs) S⟩
  | f, some gs => match opdC f with
    | ⟨some h⟩ => ⟨fun call T S => callV call (getsV T gs) S (h.g T)⟩
    | ⟨.none⟩ => ⟨fun _ _ _ => .none⟩
  | _, .none => ⟨fun _ _ _ => .none⟩
def nilF (v : Value) (S : St) : Option (Value × St) :=
  match v with
  | .pointer (some a) => some (.pointer (some a), S)
  | _ => .none
def binF (P : Program) (op : BinOp) (t : TypeId) (x y : Operand) (a b : Value) (S : St) : Option (Value × St) := forced (fBin P op t x y a b S)
def idxF (P : Program) (t : TypeId) (v i : Value) (S : St) : Option (Value × St) :=
  match i with
  | .int k i => orElse (fIndex P t v i S) (forced (aIdx P t v k i S))
  | _ => .none
def mkF (P : Program) (t : TypeId) (s : Bool) (l c : Value) (S : St) : Option (Value × St) := orElse (fMakeSlice P t l c S) (forced (aMk P t s l c S))
def lenF (P : Program) (ts : List TypeId) (ty : TypeId) (v : Value) (S : St) : Option (Value × St) := orElse (fLen P v ts S) (forced (aBuiltin P .len ts ty [v] S))
def builtinC (P : Program) (b : Builtin) (args : List Operand) (ts : List TypeId) (ty : TypeId) : OpC :=
  match b, args with
  | .len, [x] => un x (lenF P ts ty)
  | b, args => ⟨fun _ T S => forced (evOs T args fun vs => aBuiltin P b ts ty vs S)⟩
def getPs : List (Nat × Operand) → Option (List (Nat × GetC))
  | [] => some []
  | (n, x) :: xs => match opdC x, getPs xs with
    | ⟨some g⟩, some gs => some ((n, g) :: gs)
    | _, _ => .none
def getPv (T : Tm) : List (Nat × GetC) → List (Nat × Value)
  | [] => []
  | (n, g) :: gs => (n, g.g T) :: getPv T gs
def buildC (f : List (Nat × Value) → St → Option (Value × St)) (ps : List (Nat × Operand)) : OpC :=
  match getPs ps with
  | some gs => ⟨fun _ T S => f (getPv T gs) S⟩
  | .none => ⟨fun _ _ _ => .none⟩
def opC (P : Program) (o : Oper) : OpC :=
  match o.op with
  | .move x => un x fun v S => some (v, S)
  | .assign x => un x fun v S => some (v, S)
  | .pick c a b => pickC c a b
  | .alloc e => ⟨fun _ _ S => fAlloc P e S⟩
  | .extract x i => un x (fExtract i)
  | .unOp .not _ x => un x fNot
  | .build t ps => buildC (fun ps S => orElse (fBuild P t ps S) (forced (arun P (aBuild t ps) S))) ps.toList
  | .buildSlice t len ps => buildC (fun ps S => fBuildSlice P t len ps S) ps.toList
  | .makeSlice t l c => bi l c (mkF P t (sameOp l c))
  | .box e x => un x (fBox P e)
  | .load t a => un a (fLoad P t)
  | .store t a x => bi a x (fStore P t)
  | .nilCheck x => un x nilF
  | .binOp op t x y _ => bi x y (binF P op t x y)
  | .fieldAddr s x f => un x fun v S => fField P s v f S
  | .indexAddr t x i => bi x i (idxF P t)
  | .call ⟨.builtin b, args, ts⟩ => builtinC P b args.toList ts.toList o.type
  | .call ⟨.value f, args, _⟩ => callC f args.toList
  | _ => slowC P o

/-! ### Regions -/
structure RegC where
  r : CallF → Tm → St → Reg
def then2 {β γ : Type} (o : Option (β × St)) (k : β → St → Option γ) : Option γ := Option.casesOn o .none fun p => Prod.casesOn p k
def eqB : Bool → Bool → Bool
  | true, true => true
  | false, false => true
  | _, _ => false
def nthO : List Oper → Nat → Option Oper
  | [], _ => .none
  | o :: os, n => match Nat.beq n 0 with
    | true => some o
    | false => forceN (n - 1) fun n => nthO os n
structure WantC where
  w : Tm → Bool
def isB (want : Bool) : Value → Bool
  | .bool b => eqB b want
  | _ => false
/-- The slot that decides about an operation. -/
def guardSlot (all : List Oper) (j : Nat) : Option Nat :=
  match nthO all j with
  | some o => o.dst
  | .none => .none
def wantC (all : List Oper) : Option (Nat × Bool) → Option WantC
  | .none => .none
  | some (j, want) => match guardSlot all j with
    | some t => some ⟨fun T => isB want ((getC t).g T)⟩
    | .none => some ⟨fun _ => false⟩
structure PutC where
  p : Value → Tm → (Tm → Reg) → Reg
def putC (n : Nat) : Option Tmp → PutC
  | .none => ⟨fun _ T k => k T⟩
  | some d => match Nat.blt d n && Nat.blt d 512 with
    | true => ⟨(setC d).s⟩
    | false => ⟨fun _ _ _ => .none⟩
def regC (P : Program) (n : Nat) (all : List Oper) : List Oper → RegC
  | [] => ⟨fun _ T S => some (T, S)⟩
  | o :: os =>
    match wantC all o.guard with
    | .none => ⟨fun call T S => then2 ((opC P o).r call T S) fun v S => (putC n o.dst).p v T fun T => (regC P n all os).r call T S⟩
    | some w => ⟨fun call T S => match w.w T with
      | true => then2 ((opC P o).r call T S) fun v S => (putC n o.dst).p v T fun T => (regC P n all os).r call T S
      | false => (putC n o.dst).p undef T fun T => (regC P n all os).r call T S⟩

/-! ### A region that draws its order: in one order; no two operations in no order may touch the same -/
structure Rec where
  i : Nat
  acc : Nat
  wr : Nat
  lo : Nat
  hi : Nat
def hasBit (m i : Nat) : Bool := Nat.beq (Nat.mod (Nat.shiftRight m i) 2) 1
def apart (mask acc wr : Nat) (r : Rec) : Bool :=
  match hasBit mask r.i with
  | true => true
  | false => match Nat.beq (Nat.land r.wr acc) 0 with
    | false => false
    | true => match Nat.beq (Nat.land wr r.acc) 0 with
      | true => Nat.beq (Nat.mod (Nat.shiftRight acc r.lo) (Nat.pow 2 (Nat.sub r.hi r.lo))) 0
      | false => false
def allApart (mask acc wr : Nat) : List Rec → Bool
  | [] => true
  | r :: rs => match apart mask acc wr r with
    | true => allApart mask acc wr rs
    | false => false
def maskOf (ms : List Nat) (o : Oper) : Nat := o.after.toList.foldl (fun s e => if Region.binds .any e then s ||| 2 ^ e.on ||| ms.getD e.on 0 else s) 0
def masksOf : List Oper → List Nat → List Nat
  | [], ms => ms
  | o :: os, ms => masksOf os (ms ++ [maskOf ms o])
structure DrawC where
  r : CallF → Tm → St → List Rec → Nat → Nat → Reg
def drawC (P : Program) (n : Nat) (all : List Oper) : List (Oper × Nat) → Nat → DrawC
  | [], _ => ⟨fun _ T S _ acc wr => some (T, ⟨S.heap, S.next, acc, wr⟩)⟩
  | (o, mk) :: os, j =>
    let go : CallF → Tm → St → List Rec → Nat → Nat → Reg := fun call T S rs acc wr => St.casesOn S fun h0 n0 _ _ =>
      then2 ((opC P o).r call T ⟨h0, n0, 0, 0⟩) fun v S1 => (putC n o.dst).p v T fun T => St.casesOn S1 fun h1 n1 a1 w1 =>
        match Nat.beq a1 0 && Nat.beq n1 n0 with
        | true => (drawC P n all os (j + 1)).r call T ⟨h1, n1, a1, w1⟩ rs acc wr
        | false => match allApart mk a1 w1 rs with
          | true => forceN (Nat.lor acc a1) fun acc => forceN (Nat.lor wr w1) fun wr => (drawC P n all os (j + 1)).r call T ⟨h1, n1, a1, w1⟩ (⟨j, a1, w1, n0, n1⟩ :: rs) acc wr
          | false => .none
    match wantC all o.guard with
    | .none => ⟨go⟩
    | some w => ⟨fun call T S rs acc wr => match w.w T with
      | true => go call T S rs acc wr
      | false => (putC n o.dst).p undef T fun T => (drawC P n all os (j + 1)).r call T S rs acc wr⟩

def namesOf (all : List Oper) (o : Oper) : List Nat :=
  (match o.guard with | some (j, _) => (guardSlot all j).toList | .none => []) ++
  o.op.operands.toList.filterMap fun | .tmp t => some t | _ => .none
def statOk (ops : List Oper) : Bool :=
  let ms := masksOf ops []
  (List.range ops.length).all fun j => match ops[j]? with
    | .none => true
    | some oj => (oj.after.toList.all fun e => !Region.binds .any e || decide (e.on < j)) &&
      (List.range j).all fun i => hasBit (ms.getD j 0) i || match ops[i]? with
        | .none => true
        | some oi => (oi.dst.toList.all fun d => !(namesOf ops oj).contains d && !(oj.dst == some d)) && (oj.dst.toList.all fun d => !(namesOf ops oi).contains d)

/-! ### Code -/
inductive Ex where
  | normal
  | exit (id : Nat)
  | ret
abbrev Cod := Option (Ex × Tm × St)
structure CodC where
  r : CallF → Tm → St → Cod
def toNormal (o : Reg) : Cod :=
  match o with
  | some (T, S) => some (.normal, T, S)
  | .none => .none
def cSeq (a : Cod) (b : Tm → St → Cod) : Cod :=
  match a with
  | some (.normal, T, S) => b T S
  | some (.exit i, T, S) => some (.exit i, T, S)
  | some (.ret, T, S) => some (.ret, T, S)
  | .none => .none
def cBlock (id : Nat) (a : Cod) : Cod :=
  match a with
  | some (.exit i, T, S) => match Nat.beq i id with
    | true => some (.normal, T, S)
    | false => some (.exit i, T, S)
  | some (.normal, T, S) => some (.normal, T, S)
  | some (.ret, T, S) => some (.ret, T, S)
  | .none => .none
def cCond (v : Value) (a b : CodC) (call : CallF) (T : Tm) (S : St) : Cod :=
  match v with
  | .bool true => a.r call T S
  | .bool false => b.r call T S
  | _ => .none
def cLoop (a : CodC) (call : CallF) : Nat → Tm → St → Cod
  | 0, _, _ => .none
  | f + 1, T, S => cSeq (a.r call T S) (cLoop a call f)
def regionC (P : Program) (n : Nat) (ops : List Oper) (draw : Bool) : CodC :=
  match draw with
  | false => ⟨fun call T S => toNormal ((regC P n ops ops).r call T S)⟩
  | true => match statOk ops with
    | true => ⟨fun call T S => toNormal ((drawC P n ops (ops.zip (masksOf ops [])) 0).r call T S [] S.acc S.wr)⟩
    | false => ⟨fun _ _ _ => .none⟩
def codC (P : Program) (n : Nat) : Code → CodC
  | .skip => ⟨fun _ T S => some (.normal, T, S)⟩
  | .label _ => ⟨fun _ T S => some (.normal, T, S)⟩
  | .region _ ops draw => regionC P n ops.toList draw
  | .seq a b => ⟨fun call T S => cSeq ((codC P n a).r call T S) fun T S => (codC P n b).r call T S⟩
  | .cond x a b => match opdC x with
    | ⟨some g⟩ => ⟨fun call T S => cCond (g.g T) (codC P n a) (codC P n b) call T S⟩
    | ⟨.none⟩ => ⟨fun _ _ _ => .none⟩
  | .block id a => ⟨fun call T S => cBlock id ((codC P n a).r call T S)⟩
  | .loop a => ⟨fun call T S => cLoop (codC P n a) call 1000000 T S⟩
  | .scope a => ⟨fun call T S => (codC P n a).r call T S⟩
  | .exit id => ⟨fun _ T S => some (.exit id, T, S)⟩
  | .ret => ⟨fun _ T S => some (.ret, T, S)⟩
  | _ => ⟨fun _ _ _ => .none⟩

/-! ### Calls -/
def evRs {β : Type} (P : Program) (T : Tm) : List ResultVar → St → (List Value → St → Option β) → Option β
  | [], S, k => k [] S
  | .tmp t :: rs, S, k => evRs P T rs S fun vs S => k ((getC t).g T :: vs) S
  | .cell a t :: rs, S, k => then2 (fLoad P t ((getC a).g T) S) fun v S => evRs P T rs S fun vs S => k (v :: vs) S
def nthF : List Func → Nat → Option Func
  | [], _ => .none
  | o :: os, n => match Nat.beq n 0 with
    | true => some o
    | false => forceN (n - 1) fun n => nthF os n
def noTm : Tm := ⟨all16 (all16 undef), all16 (all16 undef)⟩
structure FunC where
  f : CallF → List Value → St → Option (Value × St)
def tupled (vs : List Value) : Value :=
  match vs with
  | [v] => v
  | vs => .tuple ⟨vs⟩
def retV (vs : List Value) (S : St) : Option (Value × St) := forceV (tupled vs) fun v => some (v, S)
def finish (P : Program) (rs : List ResultVar) (o : Cod) : Option (Value × St) :=
  match o with
  | some (.normal, T, S) => evRs P T rs S retV
  | some (.ret, T, S) => evRs P T rs S retV
  | _ => .none
def initC (k : Tm → Option (Value × St)) : List Value → Nat → Tm → Option (Value × St)
  | [], _, T => k T
  | v :: vs, i, T => (setC i).s v T fun T => forceN (Nat.succ i) fun i => initC k vs i T
def funC (P : Program) (g : FuncId) : FunC :=
  match nthF P.funcs.toList g with
  | .none => ⟨fun _ _ _ => .none⟩
  | some fn => match fn.body with
    | .none => ⟨fun _ _ _ => .none⟩
    | some c => ⟨fun call args S => match Nat.ble (lenL args) fn.ntmps && Nat.ble fn.ntmps 512 with
      | true => initC (fun T => finish P fn.results.toList ((codC P fn.ntmps c).r call T S)) args 0 noTm
      | false => .none⟩
/-- Functions for which something else stands. -/
abbrev Ov := FuncId → Option (List Value → St → Option (Value × St))
def noOv : Ov := fun _ => .none
def evCallO (P : Program) (ov : Ov) : Nat → CallF
  | 0, _, _, _ => .none
  | f + 1, g, args, S => match ov g with
    | some h => h args S
    | .none => (funC P g).f (evCallO P ov f) args S
def evCall (P : Program) : Nat → CallF := evCallO P noOv

/-! ### The beginning: 64 package variables, of which some are known -/
abbrev Gls := List (Nat × List Value × TypeId)
def glHeap : Gls → Tr ABlk → Tr ABlk
  | [], T => T
  | (g, cs, e) :: l, T => glHeap l (Tr.set 33 T g (some (.cells cs e)))
def SG (gl : Gls) : St := ⟨glHeap gl Tr.empty, 64, 0, 0⟩
def S0 : St := ⟨Tr.empty, 64, 0, 0⟩

end
end Go.Proofs.YtgkbjdphkmmmhaaDoor.Ev
