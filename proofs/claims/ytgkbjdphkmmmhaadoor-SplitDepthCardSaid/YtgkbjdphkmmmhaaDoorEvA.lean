/-
  Runs that the kernel carries out: an abstract memory, and how it stands for a real one. No program in sight.
-/
import Derived.Orders
import Derived.Calls
namespace Go.Proofs.YtgkbjdphkmmmhaaDoor.Ev
open Go
noncomputable section

/-! ### Forcing: the kernel works a number or a value out before it goes on -/
def forceN {β : Type} (n : Nat) (f : Nat → β) : β := Nat.casesOn n (f Nat.zero) fun k => f (Nat.succ k)
@[simp] theorem forceN_eq {β : Type} (n : Nat) (f : Nat → β) : forceN n f = f n := by cases n <;> rfl
def forceI {β : Type} (i : Int) (f : Int → β) : β := match i with | .ofNat n => forceN n fun n => f (.ofNat n) | .negSucc n => forceN n fun n => f (.negSucc n)
@[simp] theorem forceI_eq {β : Type} (i : Int) (f : Int → β) : forceI i f = f i := by cases i <;> simp [forceI]
def forceA {β : Type} (a : Addr) (f : Addr → β) : β :=
  match a with
  | ⟨b, o, .none⟩ => forceN b fun b => forceN o fun o => f ⟨b, o, .none⟩
  | ⟨b, o, some s⟩ => f ⟨b, o, some s⟩
@[simp] theorem forceA_eq {β : Type} (a : Addr) (f : Addr → β) : forceA a f = f a := by
  obtain ⟨b, o, s⟩ := a
  cases s <;> simp [forceA]
def forceL {β : Type} (fv : Value → (Value → β) → β) : List Value → (List Value → β) → β
  | [], k => k []
  | v :: vs, k => fv v fun v => forceL fv vs fun vs => k (v :: vs)
theorem forceL_eq {β : Type} {fv : Value → (Value → β) → β} (h : ∀ v k, fv v k = k v) : ∀ (vs : List Value) (k : List Value → β), forceL fv vs k = k vs
  | [], _ => rfl
  | v :: vs, k => by rw [forceL, h, forceL_eq h vs]
def forceVn {β : Type} : Nat → Value → (Value → β) → β
  | 0, v, k => k v
  | f + 1, v, k =>
    match v with
    | .bool true => k (.bool true)
    | .bool false => k (.bool false)
    | .int kd n => forceI n fun n => k (.int kd n)
    | .pointer (some a) => forceA a fun a => k (.pointer (some a))
    | .slice (some a) n c => forceA a fun a => forceN n fun n => forceN c fun c => k (.slice (some a) n c)
    | .map (some r) => forceN r fun r => k (.map (some r))
    | .func fn ⟨a⟩ ⟨b⟩ => forceL (forceVn f) a fun a => forceL (forceVn f) b fun b => k (.func fn ⟨a⟩ ⟨b⟩)
    | .agg ⟨cs⟩ => forceL (forceVn f) cs fun cs => k (.agg ⟨cs⟩)
    | .tuple ⟨cs⟩ => forceL (forceVn f) cs fun cs => k (.tuple ⟨cs⟩)
    | v => k v
theorem forceVn_eq {β : Type} : ∀ (f : Nat) (v : Value) (k : Value → β), forceVn f v k = k v
  | 0, _, _ => rfl
  | f + 1, v, k => by
    unfold forceVn
    split <;> simp [forceL_eq (forceVn_eq f)]
def forceV {β : Type} (v : Value) (k : Value → β) : β := forceVn 6 v k
@[simp] theorem forceV_eq {β : Type} (v : Value) (k : Value → β) : forceV v k = k v := forceVn_eq 6 v k
def forceVs {β : Type} (vs : List Value) (k : List Value → β) : β := forceL (fun v k => forceVn 6 v k) vs k
@[simp] theorem forceVs_eq {β : Type} (vs : List Value) (k : List Value → β) : forceVs vs k = k vs := forceL_eq (fun v k => forceVn_eq 6 v k) vs k

def forceEs {β : Type} : List MapEntry → (List MapEntry → β) → β
  | [], k => k []
  | ⟨a, b, n⟩ :: es, k => forceV a fun a => forceV b fun b => forceEs es fun es => k (⟨a, b, n⟩ :: es)
@[simp] theorem forceEs_eq {β : Type} : ∀ (es : List MapEntry) (k : List MapEntry → β), forceEs es k = k es
  | [], _ => rfl
  | ⟨a, b, n⟩ :: es, k => by rw [forceEs, forceV_eq, forceV_eq, forceEs_eq es]

theorem nmod (a b : Nat) : Nat.mod a b = a % b := rfl
theorem ndiv (a b : Nat) : Nat.div a b = a / b := rfl
theorem nsub (a b : Nat) : Nat.sub a b = a - b := rfl
theorem nadd (a b : Nat) : Nat.add a b = a + b := rfl
/-! ### Rows of sixteen; tries of four such levels -/
structure N16 (α : Type) where
  a0 : α
  a1 : α
  a2 : α
  a3 : α
  a4 : α
  a5 : α
  a6 : α
  a7 : α
  a8 : α
  a9 : α
  a10 : α
  a11 : α
  a12 : α
  a13 : α
  a14 : α
  a15 : α
structure Get16 (α : Type) where
  g : N16 α → α
structure Set16 (α β : Type) where
  s : α → N16 α → (N16 α → β) → β
def get16 {α : Type} (i : Nat) : Get16 α :=
  Nat.casesOn i ⟨fun r => r.a0⟩ fun i => Nat.casesOn i ⟨fun r => r.a1⟩ fun i => Nat.casesOn i ⟨fun r => r.a2⟩ fun i => Nat.casesOn i ⟨fun r => r.a3⟩ fun i => Nat.casesOn i ⟨fun r => r.a4⟩ fun i => Nat.casesOn i ⟨fun r => r.a5⟩ fun i => Nat.casesOn i ⟨fun r => r.a6⟩ fun i => Nat.casesOn i ⟨fun r => r.a7⟩ fun i => Nat.casesOn i ⟨fun r => r.a8⟩ fun i => Nat.casesOn i ⟨fun r => r.a9⟩ fun i => Nat.casesOn i ⟨fun r => r.a10⟩ fun i => Nat.casesOn i ⟨fun r => r.a11⟩ fun i => Nat.casesOn i ⟨fun r => r.a12⟩ fun i => Nat.casesOn i ⟨fun r => r.a13⟩ fun i => Nat.casesOn i ⟨fun r => r.a14⟩ fun i => ⟨fun r => r.a15⟩
def set16 {α β : Type} (i : Nat) : Set16 α β :=
  Nat.casesOn i ⟨fun v r c => N16.casesOn r fun a0 a1 a2 a3 a4 a5 a6 a7 a8 a9 a10 a11 a12 a13 a14 a15 => c ⟨v, a1, a2, a3, a4, a5, a6, a7, a8, a9, a10, a11, a12, a13, a14, a15⟩⟩ fun i => Nat.casesOn i ⟨fun v r c => N16.casesOn r fun a0 a1 a2 a3 a4 a5 a6 a7 a8 a9 a10 a11 a12 a13 a14 a15 => c ⟨a0, v, a2, a3, a4, a5, a6, a7, a8, a9, a10, a11, a12, a13, a14, a15⟩⟩ fun i => Nat.casesOn i ⟨fun v r c => N16.casesOn r fun a0 a1 a2 a3 a4 a5 a6 a7 a8 a9 a10 a11 a12 a13 a14 a15 => c ⟨a0, a1, v, a3, a4, a5, a6, a7, a8, a9, a10, a11, a12, a13, a14, a15⟩⟩ fun i => Nat.casesOn i ⟨fun v r c => N16.casesOn r fun a0 a1 a2 a3 a4 a5 a6 a7 a8 a9 a10 a11 a12 a13 a14 a15 => c ⟨a0, a1, a2, v, a4, a5, a6, a7, a8, a9, a10, a11, a12, a13, a14, a15⟩⟩ fun i => Nat.casesOn i ⟨fun v r c => N16.casesOn r fun a0 a1 a2 a3 a4 a5 a6 a7 a8 a9 a10 a11 a12 a13 a14 a15 => c ⟨a0, a1, a2, a3, v, a5, a6, a7, a8, a9, a10, a11, a12, a13, a14, a15⟩⟩ fun i => Nat.casesOn i ⟨fun v r c => N16.casesOn r fun a0 a1 a2 a3 a4 a5 a6 a7 a8 a9 a10 a11 a12 a13 a14 a15 => c ⟨a0, a1, a2, a3, a4, v, a6, a7, a8, a9, a10, a11, a12, a13, a14, a15⟩⟩ fun i => Nat.casesOn i ⟨fun v r c => N16.casesOn r fun a0 a1 a2 a3 a4 a5 a6 a7 a8 a9 a10 a11 a12 a13 a14 a15 => c ⟨a0, a1, a2, a3, a4, a5, v, a7, a8, a9, a10, a11, a12, a13, a14, a15⟩⟩ fun i => Nat.casesOn i ⟨fun v r c => N16.casesOn r fun a0 a1 a2 a3 a4 a5 a6 a7 a8 a9 a10 a11 a12 a13 a14 a15 => c ⟨a0, a1, a2, a3, a4, a5, a6, v, a8, a9, a10, a11, a12, a13, a14, a15⟩⟩ fun i => Nat.casesOn i ⟨fun v r c => N16.casesOn r fun a0 a1 a2 a3 a4 a5 a6 a7 a8 a9 a10 a11 a12 a13 a14 a15 => c ⟨a0, a1, a2, a3, a4, a5, a6, a7, v, a9, a10, a11, a12, a13, a14, a15⟩⟩ fun i => Nat.casesOn i ⟨fun v r c => N16.casesOn r fun a0 a1 a2 a3 a4 a5 a6 a7 a8 a9 a10 a11 a12 a13 a14 a15 => c ⟨a0, a1, a2, a3, a4, a5, a6, a7, a8, v, a10, a11, a12, a13, a14, a15⟩⟩ fun i => Nat.casesOn i ⟨fun v r c => N16.casesOn r fun a0 a1 a2 a3 a4 a5 a6 a7 a8 a9 a10 a11 a12 a13 a14 a15 => c ⟨a0, a1, a2, a3, a4, a5, a6, a7, a8, a9, v, a11, a12, a13, a14, a15⟩⟩ fun i => Nat.casesOn i ⟨fun v r c => N16.casesOn r fun a0 a1 a2 a3 a4 a5 a6 a7 a8 a9 a10 a11 a12 a13 a14 a15 => c ⟨a0, a1, a2, a3, a4, a5, a6, a7, a8, a9, a10, v, a12, a13, a14, a15⟩⟩ fun i => Nat.casesOn i ⟨fun v r c => N16.casesOn r fun a0 a1 a2 a3 a4 a5 a6 a7 a8 a9 a10 a11 a12 a13 a14 a15 => c ⟨a0, a1, a2, a3, a4, a5, a6, a7, a8, a9, a10, a11, v, a13, a14, a15⟩⟩ fun i => Nat.casesOn i ⟨fun v r c => N16.casesOn r fun a0 a1 a2 a3 a4 a5 a6 a7 a8 a9 a10 a11 a12 a13 a14 a15 => c ⟨a0, a1, a2, a3, a4, a5, a6, a7, a8, a9, a10, a11, a12, v, a14, a15⟩⟩ fun i => Nat.casesOn i ⟨fun v r c => N16.casesOn r fun a0 a1 a2 a3 a4 a5 a6 a7 a8 a9 a10 a11 a12 a13 a14 a15 => c ⟨a0, a1, a2, a3, a4, a5, a6, a7, a8, a9, a10, a11, a12, a13, v, a15⟩⟩ fun i => ⟨fun v r c => N16.casesOn r fun a0 a1 a2 a3 a4 a5 a6 a7 a8 a9 a10 a11 a12 a13 a14 a15 => c ⟨a0, a1, a2, a3, a4, a5, a6, a7, a8, a9, a10, a11, a12, a13, a14, v⟩⟩
def put16 {α : Type} (i : Nat) (v : α) (r : N16 α) : N16 α := (set16 i).s v r id
theorem set16_eq {α β : Type} (i : Nat) (v : α) (r : N16 α) (k : N16 α → β) : (set16 i).s v r k = k (put16 i v r) := by
  match i with
  | 0 => rfl
  | 1 => rfl
  | 2 => rfl
  | 3 => rfl
  | 4 => rfl
  | 5 => rfl
  | 6 => rfl
  | 7 => rfl
  | 8 => rfl
  | 9 => rfl
  | 10 => rfl
  | 11 => rfl
  | 12 => rfl
  | 13 => rfl
  | 14 => rfl
  | _ + 15 => rfl
theorem get16_put {α : Type} {i : Nat} (hi : i < 16) (v : α) (r : N16 α) : (get16 i).g (put16 i v r) = v := by
  have h : i = 0 ∨ i = 1 ∨ i = 2 ∨ i = 3 ∨ i = 4 ∨ i = 5 ∨ i = 6 ∨ i = 7 ∨ i = 8 ∨ i = 9 ∨ i = 10 ∨ i = 11 ∨ i = 12 ∨ i = 13 ∨ i = 14 ∨ 15 ≤ i := by omega
  rcases h with rfl | rfl | rfl | rfl | rfl | rfl | rfl | rfl | rfl | rfl | rfl | rfl | rfl | rfl | rfl | h
  all_goals first | rfl | (have : i = 15 := by omega
                           subst this; rfl)
theorem get16_put_ne {α : Type} {i j : Nat} (hi : i < 16) (hj : j < 16) (hij : j ≠ i) (v : α) (r : N16 α) : (get16 j).g (put16 i v r) = (get16 j).g r := by
  have h : i = 0 ∨ i = 1 ∨ i = 2 ∨ i = 3 ∨ i = 4 ∨ i = 5 ∨ i = 6 ∨ i = 7 ∨ i = 8 ∨ i = 9 ∨ i = 10 ∨ i = 11 ∨ i = 12 ∨ i = 13 ∨ i = 14 ∨ i = 15 := by omega
  have h' : j = 0 ∨ j = 1 ∨ j = 2 ∨ j = 3 ∨ j = 4 ∨ j = 5 ∨ j = 6 ∨ j = 7 ∨ j = 8 ∨ j = 9 ∨ j = 10 ∨ j = 11 ∨ j = 12 ∨ j = 13 ∨ j = 14 ∨ j = 15 := by omega
  rcases h with rfl | rfl | rfl | rfl | rfl | rfl | rfl | rfl | rfl | rfl | rfl | rfl | rfl | rfl | rfl | rfl
  all_goals (rcases h' with rfl | rfl | rfl | rfl | rfl | rfl | rfl | rfl | rfl | rfl | rfl | rfl | rfl | rfl | rfl | rfl)
  all_goals first | rfl | exact absurd rfl hij
theorem put16_put {α : Type} (i : Nat) (v u : α) (r : N16 α) : put16 i u (put16 i v r) = put16 i u r := by
  match i with
  | 0 => rfl
  | 1 => rfl
  | 2 => rfl
  | 3 => rfl
  | 4 => rfl
  | 5 => rfl
  | 6 => rfl
  | 7 => rfl
  | 8 => rfl
  | 9 => rfl
  | 10 => rfl
  | 11 => rfl
  | 12 => rfl
  | 13 => rfl
  | 14 => rfl
  | _ + 15 => rfl
def all16 {α : Type} (x : α) : N16 α := ⟨x, x, x, x, x, x, x, x, x, x, x, x, x, x, x, x⟩
theorem get16_all {α : Type} (x : α) (i : Nat) : (get16 i).g (all16 x) = x := by
  match i with
  | 0 => rfl
  | 1 => rfl
  | 2 => rfl
  | 3 => rfl
  | 4 => rfl
  | 5 => rfl
  | 6 => rfl
  | 7 => rfl
  | 8 => rfl
  | 9 => rfl
  | 10 => rfl
  | 11 => rfl
  | 12 => rfl
  | 13 => rfl
  | 14 => rfl
  | _ + 15 => rfl
/-- Up to 8192 places. -/
structure Tr (α : Type) where
  lo : N16 (N16 (N16 (Option α)))
  hi : N16 (N16 (N16 (Option α)))
structure GetT (α : Type) where
  g : Tr α → Option α
def getT {α : Type} (n : Nat) : GetT α :=
  match Nat.blt n 4096 with
  | true => match (get16 (Nat.mod n 16) : Get16 (Option α)), (get16 (Nat.mod (Nat.div n 16) 16) : Get16 (N16 (Option α))), (get16 (Nat.div n 256) : Get16 (N16 (N16 (Option α)))) with
    | ⟨g0⟩, ⟨g1⟩, ⟨g2⟩ => ⟨fun T => g0 (g1 (g2 T.lo))⟩
  | false => match Nat.blt n 8192 with
    | true => match (get16 (Nat.mod n 16) : Get16 (Option α)), (get16 (Nat.mod (Nat.div n 16) 16) : Get16 (N16 (Option α))), (get16 (Nat.sub (Nat.div n 256) 16) : Get16 (N16 (N16 (Option α)))) with
      | ⟨g0⟩, ⟨g1⟩, ⟨g2⟩ => ⟨fun T => g0 (g1 (g2 T.hi))⟩
    | false => ⟨fun _ => .none⟩
def Tr.get {α : Type} (T : Tr α) (n : Nat) : Option α := (getT n).g T
structure SetT (α β : Type) where
  s : Option α → Tr α → (Tr α → β) → β
def setT {α β : Type} (n : Nat) : SetT α β :=
  match Nat.blt n 4096 with
  | true => match (get16 (Nat.mod (Nat.div n 16) 16) : Get16 (N16 (Option α))), (get16 (Nat.div n 256) : Get16 (N16 (N16 (Option α)))),
      (set16 (Nat.mod n 16) : Set16 (Option α) β), (set16 (Nat.mod (Nat.div n 16) 16) : Set16 (N16 (Option α)) β), (set16 (Nat.div n 256) : Set16 (N16 (N16 (Option α))) β) with
    | ⟨g1⟩, ⟨g2⟩, ⟨s0⟩, ⟨s1⟩, ⟨s2⟩ => ⟨fun x T k => Tr.casesOn T fun lo hi => s0 x (g1 (g2 lo)) fun r1 => s1 r1 (g2 lo) fun r2 => s2 r2 lo fun lo => k ⟨lo, hi⟩⟩
  | false => match Nat.blt n 8192 with
    | true => match (get16 (Nat.mod (Nat.div n 16) 16) : Get16 (N16 (Option α))), (get16 (Nat.sub (Nat.div n 256) 16) : Get16 (N16 (N16 (Option α)))),
        (set16 (Nat.mod n 16) : Set16 (Option α) β), (set16 (Nat.mod (Nat.div n 16) 16) : Set16 (N16 (Option α)) β), (set16 (Nat.sub (Nat.div n 256) 16) : Set16 (N16 (N16 (Option α))) β) with
      | ⟨g1⟩, ⟨g2⟩, ⟨s0⟩, ⟨s1⟩, ⟨s2⟩ => ⟨fun x T k => Tr.casesOn T fun lo hi => s0 x (g1 (g2 hi)) fun r1 => s1 r1 (g2 hi) fun r2 => s2 r2 hi fun hi => k ⟨lo, hi⟩⟩
    | false => ⟨fun _ T k => k T⟩
def Tr.setK {α β : Type} (_f : Nat) (T : Tr α) (n : Nat) (x : Option α) (k : Tr α → β) : β := (setT n).s x T k
def Tr.set {α : Type} (f : Nat) (T : Tr α) (n : Nat) (x : Option α) : Tr α := Tr.setK f T n x id
def Tr.empty {α : Type} : Tr α := ⟨all16 (all16 (all16 .none)), all16 (all16 (all16 .none))⟩
theorem blt_true {a b : Nat} (h : Nat.blt a b = true) : a < b := Nat.le_of_ble_eq_true h
theorem blt_false {a b : Nat} (h : Nat.blt a b = false) : b ≤ a := by
  rcases Nat.lt_or_ge a b with hl | hl
  · rw [show Nat.blt a b = true from Nat.ble_eq_true_of_le hl] at h; cases h
  · exact hl
theorem Tr.get_eq {α : Type} (T : Tr α) (n : Nat) : T.get n = if n < 4096 then (get16 (n % 16)).g ((get16 (n / 16 % 16)).g ((get16 (n / 256)).g T.lo)) else
    if n < 8192 then (get16 (n % 16)).g ((get16 (n / 16 % 16)).g ((get16 (n / 256 - 16)).g T.hi)) else .none := by
  unfold Tr.get getT
  split
  · rename_i h; rw [if_pos (blt_true h)]; rfl
  · rename_i h
    have := blt_false h
    rw [if_neg (by omega)]
    split
    · rename_i h; rw [if_pos (blt_true h)]; rfl
    · rename_i h
      have := blt_false h
      rw [if_neg (by omega)]
theorem Tr.setK_eq' {α β : Type} (f : Nat) (T : Tr α) (n : Nat) (x : Option α) (k : Tr α → β) : Tr.setK f T n x k = k (
    if n < 4096 then ⟨put16 (n / 256) (put16 (n / 16 % 16) (put16 (n % 16) x ((get16 (n / 16 % 16)).g ((get16 (n / 256)).g T.lo))) ((get16 (n / 256)).g T.lo)) T.lo, T.hi⟩
    else if n < 8192 then ⟨T.lo, put16 (n / 256 - 16) (put16 (n / 16 % 16) (put16 (n % 16) x ((get16 (n / 16 % 16)).g ((get16 (n / 256 - 16)).g T.hi))) ((get16 (n / 256 - 16)).g T.hi)) T.hi⟩ else T) := by
  obtain ⟨lo, hi⟩ := T
  unfold Tr.setK setT
  split
  · rename_i h
    rw [if_pos (blt_true h)]
    show (set16 (n % 16)).s x _ _ = _
    rw [set16_eq]
    show (set16 (n / 16 % 16)).s _ _ _ = _
    rw [set16_eq]
    show (set16 (n / 256)).s _ _ _ = _
    rw [set16_eq]
    rfl
  · rename_i h
    have := blt_false h
    rw [if_neg (by omega)]
    split
    · rename_i h
      rw [if_pos (blt_true h)]
      show (set16 (n % 16)).s x _ _ = _
      rw [set16_eq]
      show (set16 (n / 16 % 16)).s _ _ _ = _
      rw [set16_eq]
      show (set16 (n / 256 - 16)).s _ _ _ = _
      rw [set16_eq]
      rfl
    · rename_i h
      have := blt_false h
      rw [if_neg (by omega)]
theorem Tr.set_eq {α : Type} (f : Nat) (T : Tr α) (n : Nat) (x : Option α) : Tr.set f T n x =
    if n < 4096 then ⟨put16 (n / 256) (put16 (n / 16 % 16) (put16 (n % 16) x ((get16 (n / 16 % 16)).g ((get16 (n / 256)).g T.lo))) ((get16 (n / 256)).g T.lo)) T.lo, T.hi⟩
    else if n < 8192 then ⟨T.lo, put16 (n / 256 - 16) (put16 (n / 16 % 16) (put16 (n % 16) x ((get16 (n / 16 % 16)).g ((get16 (n / 256 - 16)).g T.hi))) ((get16 (n / 256 - 16)).g T.hi)) T.hi⟩ else T :=
  Tr.setK_eq' f T n x id
theorem Tr.setK_eq {α β : Type} (f : Nat) (T : Tr α) (n : Nat) (x : Option α) (k : Tr α → β) : Tr.setK f T n x k = k (Tr.set f T n x) := by
  rw [Tr.setK_eq', Tr.set_eq]
/-- Three levels. -/
theorem row_same {α : Type} {a b c : Nat} (ha : a < 16) (hb : b < 16) (hc : c < 16) (x : α) (R : N16 (N16 (N16 α))) :
    (get16 c).g ((get16 b).g ((get16 a).g (put16 a (put16 b (put16 c x ((get16 b).g ((get16 a).g R))) ((get16 a).g R)) R))) = x := by
  rw [get16_put ha, get16_put hb, get16_put hc]
theorem row_other {α : Type} {a b c a' b' c' : Nat} (ha : a < 16) (hb : b < 16) (hc : c < 16) (ha' : a' < 16) (hb' : b' < 16) (hc' : c' < 16) (h : ¬ (a' = a ∧ b' = b ∧ c' = c)) (x : α) (R : N16 (N16 (N16 α))) :
    (get16 c').g ((get16 b').g ((get16 a').g (put16 a (put16 b (put16 c x ((get16 b).g ((get16 a).g R))) ((get16 a).g R)) R))) = (get16 c').g ((get16 b').g ((get16 a').g R)) := by
  by_cases h1 : a' = a
  · subst h1
    rw [get16_put ha]
    by_cases h2 : b' = b
    · subst h2
      rw [get16_put hb, get16_put_ne hc hc' (fun h3 => h ⟨rfl, rfl, h3⟩)]
    · rw [get16_put_ne hb hb' h2]
  · rw [get16_put_ne ha ha' h1]
theorem row_twice {α : Type} {a b c : Nat} (ha : a < 16) (hb : b < 16) (x y : α) (R : N16 (N16 (N16 α))) :
    put16 a (put16 b (put16 c y ((get16 b).g ((get16 a).g (put16 a (put16 b (put16 c x ((get16 b).g ((get16 a).g R))) ((get16 a).g R)) R)))) ((get16 a).g (put16 a (put16 b (put16 c x ((get16 b).g ((get16 a).g R))) ((get16 a).g R)) R))) (put16 a (put16 b (put16 c x ((get16 b).g ((get16 a).g R))) ((get16 a).g R)) R) =
    put16 a (put16 b (put16 c y ((get16 b).g ((get16 a).g R))) ((get16 a).g R)) R := by
  rw [get16_put ha, get16_put hb, put16_put, put16_put, put16_put]
theorem Tr.get_set_ne {α : Type} (f : Nat) (t : Tr α) (n k : Nat) (x : Option α) (h : k ≠ n) : (Tr.set f t n x).get k = t.get k := by
  rw [Tr.set_eq, Tr.get_eq, Tr.get_eq]
  by_cases h1 : n < 4096
  · rw [if_pos h1]
    by_cases h2 : k < 4096
    · rw [if_pos h2, if_pos h2]
      exact row_other (by omega) (by omega) (by omega) (by omega) (by omega) (by omega) (by omega) _ _
    · rw [if_neg h2, if_neg h2]
  · rw [if_neg h1]
    by_cases h3 : n < 8192
    · rw [if_pos h3]
      by_cases h2 : k < 4096
      · rw [if_pos h2, if_pos h2]
      · rw [if_neg h2, if_neg h2]
        by_cases h4 : k < 8192
        · rw [if_pos h4, if_pos h4]
          exact row_other (by omega) (by omega) (by omega) (by omega) (by omega) (by omega) (by omega) _ _
        · rw [if_neg h4, if_neg h4]
    · rw [if_neg h3]
theorem Tr.get_set_eq {α : Type} (f : Nat) (t : Tr α) (n : Nat) (x : Option α) (h : n < 8192) : (Tr.set f t n x).get n = x := by
  rw [Tr.set_eq, Tr.get_eq]
  by_cases h1 : n < 4096
  · rw [if_pos h1, if_pos h1]
    exact row_same (by omega) (by omega) (by omega) _ _
  · rw [if_neg h1, if_pos h, if_neg h1, if_pos h]
    exact row_same (by omega) (by omega) (by omega) _ _
theorem set_set {α : Type} (f : Nat) (t : Tr α) (n : Nat) (x y : Option α) : Tr.set f (Tr.set f t n x) n y = Tr.set f t n y := by
  rw [Tr.set_eq f (Tr.set f t n x), Tr.set_eq f t n y, Tr.set_eq f t n x]
  by_cases h1 : n < 4096
  · rw [if_pos h1, if_pos h1, if_pos h1]
    congr 1
    exact row_twice (by omega) (by omega) _ _ _
  · rw [if_neg h1, if_neg h1, if_neg h1]
    by_cases h : n < 8192
    · rw [if_pos h, if_pos h, if_pos h]
      congr 1
      exact row_twice (by omega) (by omega) _ _ _
    · rw [if_neg h, if_neg h, if_neg h]
theorem Tr.get_empty {α : Type} (n : Nat) : (Tr.empty : Tr α).get n = .none := by
  rw [Tr.get_eq]
  unfold Tr.empty
  simp only [get16_all]
  split
  · rfl
  · split <;> rfl

/-! ### The abstract memory -/
inductive ABlk where
  | cells (cs : List Value) (e : TypeId)
  | map (es : List MapEntry) (clock : Nat)
  | iter (s : ByteArray) (pos : Nat)

structure St where
  heap : Tr ABlk
  next : Nat
  acc : Nat
  wr : Nat

/-- A bit more. -/
def bit (s b : Nat) : Nat := Nat.lor s (Nat.shiftLeft 1 b)
theorem bit_eq (s b X : Nat) : (bit s b).testBit X = (s.testBit X || decide (X = b)) := by
  show (s ||| 1 <<< b).testBit X = _
  rw [Nat.testBit_or]
  congr 1
  rw [Nat.shiftLeft_eq, Nat.one_mul, Nat.testBit_two_pow]
  simp [eq_comm]

def St.rd {β : Type} (S : St) (b : Nat) (k : St → β) : β := St.casesOn S fun h n a w => forceN (bit a b) fun a => k ⟨h, n, a, w⟩
@[simp] theorem St.rd_eq {β : Type} (S : St) (b : Nat) (k : St → β) : S.rd b k = k ⟨S.heap, S.next, bit S.acc b, S.wr⟩ := by
  obtain ⟨h, n, a, w⟩ := S
  show forceN (bit a b) (fun a => k ⟨h, n, a, w⟩) = _
  rw [forceN_eq]
def St.put (S : St) (b : Nat) (x : Option ABlk) : St := ⟨Tr.set 33 S.heap b x, S.next, bit S.acc b, bit S.wr b⟩
def St.putK {β : Type} (S : St) (b : Nat) (x : Option ABlk) (k : St → β) : β :=
  St.casesOn S fun h n a w => Tr.setK 33 h b x fun h => forceN (bit a b) fun a => forceN (bit w b) fun c => k ⟨h, n, a, c⟩
@[simp] theorem St.putK_eq {β : Type} (S : St) (b : Nat) (x : Option ABlk) (k : St → β) : S.putK b x k = k (S.put b x) := by
  obtain ⟨h, n, a, w⟩ := S
  show Tr.setK 33 h b x (fun h => forceN (bit a b) fun a => forceN (bit w b) fun c => k ⟨h, n, a, c⟩) = _
  simp only [Tr.setK_eq, forceN_eq]
  rfl
def St.new (S : St) (x : ABlk) : St := ⟨Tr.set 33 S.heap S.next (some x), S.next + 1, bit S.acc S.next, S.wr⟩
def St.newK {β : Type} (S : St) (x : ABlk) (k : Nat → St → Option β) : Option β :=
  St.casesOn S fun h n a w => Bool.casesOn (Nat.blt n 8192) .none (Tr.setK 33 h n (some x) fun h => forceN (bit a n) fun a => forceN (Nat.add n 1) fun n' => k n ⟨h, n', a, w⟩)
theorem St.newK_eq {β : Type} (S : St) (x : ABlk) (k : Nat → St → Option β) : S.newK x k = if S.next < 8192 then k S.next (S.new x) else .none := by
  obtain ⟨h, n, a, w⟩ := S
  show (Bool.casesOn (Nat.blt n 8192) .none (Tr.setK 33 h n (some x) fun h => forceN (bit a n) fun a => forceN (Nat.add n 1) fun n' => k n ⟨h, n', a, w⟩) : Option β) = _
  by_cases hn : n < 8192
  · have hb : Nat.blt n 8192 = true := Nat.ble_eq_true_of_le hn
    rw [hb, if_pos hn]
    simp only [Tr.setK_eq, forceN_eq]
    rfl
  · have hb : Nat.blt n 8192 = false := by
      cases hc : Nat.blt n 8192
      · rfl
      · exact absurd (Nat.le_of_ble_eq_true hc) hn
    rw [hb, if_neg hn]
theorem St.newK_some {β : Type} {S : St} {x : ABlk} {k : Nat → St → Option β} {y : β} (h : S.newK x k = some y) : S.next < 8192 ∧ k S.next (S.new x) = some y := by
  rw [St.newK_eq] at h
  split at h
  · rename_i hb; exact ⟨hb, h⟩
  · cases h

/-- An entry of a list, another in its place. -/
noncomputable def setL {β : Type} (xs : List Value) : Nat → Value → (List Value → Option β) → Option β := List.rec (fun _ _ _ => .none) (fun x xs ih n v k => Nat.rec (k (v :: xs)) (fun n _ => ih n v fun xs => k (x :: xs)) n) xs
theorem setL_nil {β : Type} (n : Nat) (v : Value) (k : List Value → Option β) : setL [] n v k = .none := rfl
theorem setL_zero {β : Type} (x : Value) (xs : List Value) (v : Value) (k : List Value → Option β) : setL (x :: xs) 0 v k = k (v :: xs) := rfl
theorem setL_succ {β : Type} (x : Value) (xs : List Value) (n : Nat) (v : Value) (k : List Value → Option β) : setL (x :: xs) (n + 1) v k = setL xs n v fun xs => k (x :: xs) := rfl
theorem setL_eq {β : Type} (v : Value) : ∀ (xs : List Value) (n : Nat) (k : List Value → Option β), setL xs n v k = if n < xs.length then k (xs.set n v) else .none
  | [], _, _ => rfl
  | x :: xs, 0, k => rfl
  | x :: xs, n + 1, k => by
    rw [setL_succ, setL_eq v xs n]
    simp only [List.length_cons, Nat.add_lt_add_iff_right]
    rfl
theorem setL_some {β : Type} {v : Value} {y : β} {xs : List Value} {n : Nat} {k : List Value → Option β} (h : setL xs n v k = some y) : n < xs.length ∧ k (xs.set n v) = some y := by
  rw [setL_eq] at h
  split at h
  · rename_i hn; exact ⟨hn, h⟩
  · cases h
noncomputable def getL (xs : List Value) : Nat → Option Value := List.rec (fun _ => .none) (fun x _ ih n => Nat.casesOn n (some x) ih) xs
theorem getL_eq : ∀ (xs : List Value) (n : Nat), getL xs n = xs[n]?
  | [], _ => rfl
  | _ :: _, 0 => rfl
  | _ :: xs, n + 1 => getL_eq xs n

def flatCell : Value → Bool
  | .agg _ => false
  | .tuple _ => false
  | _ => true

/-- An operation's run in the abstract memory. -/
def arun (P : Program) {α : Type} : Sem α → St → Option (α × St)
  | .pure a, S => some (a, S)
  | .load _ a k, S =>
    match a with
    | ⟨_, _, some _⟩ => .none
    | ⟨b, o, .none⟩ =>
      match S.heap.get b with
      | some (.cells cs _) =>
        match getL cs o with
        | some v => S.rd b fun S => arun P (k v) S
        | .none => .none
      | _ => .none
  | .store _ a v k, S =>
    match flatCell v with
    | false => .none
    | true =>
    match a with
    | ⟨_, _, some _⟩ => .none
    | ⟨b, o, .none⟩ =>
      match S.heap.get b with
      | some (.cells cs e) => forceV v fun v => forceN o fun o => setL cs o v fun cs => S.putK b (some (.cells cs e)) fun S => arun P k S
      | _ => .none
  | .new o k, S =>
    match o with
    | .cells ⟨c⟩ e (0, 0) => forceVs c fun c => S.newK (.cells c e) fun id S => arun P (k id) S
    | .map ⟨es⟩ _ => forceEs es fun es => S.newK (.map es 0) fun id S => arun P (k id) S
    | _ => .none
  | .getObj r k, S =>
    match S.heap.get r with
    | some (.map es cl) => S.rd r fun S => arun P (k (.map ⟨es⟩ cl)) S
    | _ => .none
  | .setObj r o k, S =>
    match o with
    | .map ⟨es⟩ _ =>
      match S.heap.get r with
      | some (.map _ _) => forceEs es fun es => S.putK r (some (.map es 0)) fun S => arun P k S
      | _ => .none
    | _ => .none
  | .program k, S => arun P (k P) S
  | .mark _ k, S => arun P k S
  | .shape _ _, _ => .none
  | .freeze _ _ _, _ => .none
  | .frozen _ _, _ => .none
  | .choose _ _, _ => .none
  | .sys _ _, _ => .none
  | .halt _, _ => .none

/-! ### How it stands for a real one -/
/-- The real block, where the abstract one begins in it, how many cells it has, and how many each of its elements has. -/
structure Img where
  blk : Nat
  off : Nat
  tot : Nat
  es : Nat
abbrev BMap := Nat → Option Img
def Ext (m m' : BMap) : Prop := ∀ X p, m X = some p → m' X = some p
theorem Ext.refl (m : BMap) : Ext m m := fun _ _ h => h
theorem Ext.trans {a b c : BMap} (h : Ext a b) (h' : Ext b c) : Ext a c := fun X p hx => h' X p (h X p hx)

def big : Nat := 18446744073709551616
def capRel (c c' : Nat) : Prop := (c < big ∧ c' = c) ∨ (big ≤ c ∧ c ≤ c' + big)
def ARel (m : BMap) (a a' : Addr) : Prop := ∃ p, m a.block = some p ∧ a'.block = p.blk ∧ a'.off = a.off + p.off ∧ a.spot = .none ∧ a'.spot = .none
/-- What is known of a capacity that is not known: it lies in the block. -/
def Fits (m : BMap) (a a' : Addr) (n c' : Nat) : Prop := (n = 0 ∧ c' = 0) ∨ ∃ p, m a.block = some p ∧ a'.off + c' * p.es ≤ p.tot

/-! ### Symbols: inputs that a run moves, converts, compares; what is known of them lies in the value itself -/
def symAt : Nat := 1099511627776
def sval (p : Img) : Int := (p.blk : Int) - (p.tot : Int)
def symKind : FloatKind → Img → IntKind
  | .f32, p => if p.es = 0 then .i8 else .u8
  | .f64, _ => .i64
/-- What is known: a list of digits, each a question and its answer. -/
def ask : Nat → Nat → Nat → Option Nat
  | 0, _, _ => .none
  | f + 1, l, key =>
    match Nat.beq l 0 with
    | true => .none
    | false => match Nat.beq (Nat.div (Nat.mod l 4294967296) 64) key with
      | true => some (Nat.mod l 64)
      | false => ask f (Nat.div l 4294967296) key
def keyLt (a b d : Nat) : Nat := Nat.add (Nat.mul (Nat.add (Nat.mul d 16) b) 32) (Nat.mul a 2)
def keyRem (a c : Nat) : Nat := Nat.add (Nat.mul c 32) (Nat.add (Nat.mul a 2) 1)
structure Knows (m : BMap) (l : Nat) : Prop where
  lt : ∀ a b d r, a < 16 → b < 16 → ask 64 l (keyLt a b d) = some r → ∃ p q, m (symAt + a) = some p ∧ m (symAt + b) = some q ∧ decide (sval p - sval q + 4096 < (d : Int)) = Nat.beq r 1
  rem : ∀ a c r, a < 16 → ask 64 l (keyRem a c) = some r → ∃ p, m (symAt + a) = some p ∧ c ≠ 0 ∧ (sval p).tmod c = (r : Int)
  zero : ∃ q, m (symAt + 15) = some q ∧ sval q = 0
theorem Knows.mono {m m' : BMap} (h : Ext m m') {l : Nat} (hk : Knows m l) : Knows m' l := by
  refine ⟨fun a b d r la lb ha => ?_, fun a c r la ha => ?_, ?_⟩
  · obtain ⟨p, q, h1, h2, h3⟩ := hk.lt a b d r la lb ha
    exact ⟨p, q, h _ _ h1, h _ _ h2, h3⟩
  · obtain ⟨p, h1, h2⟩ := hk.rem a c r la ha
    exact ⟨p, h _ _ h1, h2⟩
  · obtain ⟨q, h1, h2⟩ := hk.zero
    exact ⟨q, h _ _ h1, h2⟩
def SymIs (m : BMap) (k : FloatKind) (n j : Nat) (kd : IntKind) (z : Int) : Prop :=
  ∃ p, m (symAt + Nat.mod n 16) = some p ∧ Knows m (Nat.div n 16) ∧ kd = symKind k p ∧ z = sval p + j - 1024 ∧ -1000000 ≤ sval p ∧ sval p ≤ 1000000 ∧ j ≤ 2048
theorem SymIs.mono {m m' : BMap} (h : Ext m m') {k : FloatKind} {n j : Nat} {kd : IntKind} {z : Int} : SymIs m k n j kd z → SymIs m' k n j kd z :=
  fun ⟨p, h1, h2, h3⟩ => ⟨p, h _ _ h1, h2.mono h, h3⟩

/-! ### Opaque numbers: a run moves them, asks whether two are equal, adds the first two -/
def bitO (n k : Nat) : Bool := Nat.beq (Nat.mod (Nat.div n (Nat.mul 16 (Nat.pow 2 k))) 2) 1
def wrapO (z : Int) : Int := IntKind.i64.wrap z
structure OpqIs (m : BMap) (n : Nat) (z : Int) : Prop where
  at' : ∃ p, m (symAt + Nat.mod n 16) = some p ∧ z = sval p
  rng : wrapO z = z
  nz : bitO n 15 = true → z ≠ 0
  ne : ∀ b, b < 12 → bitO n b = true → ∃ q, m (symAt + b) = some q ∧ sval q ≠ z
  sum : bitO n 14 = true → ∃ q r, m (symAt + 1) = some q ∧ m (symAt + 2) = some r ∧ wrapO (z + sval q) = sval r ∧ sval r ≠ 0 ∧ sval r ≠ z
  sum0 : bitO n 13 = true → ∃ q, m (symAt + 1) = some q ∧ wrapO (z + sval q) = 0
  one : bitO n 12 = true → ∃ q, m (symAt + 1) = some q ∧ sval q = 1
theorem OpqIs.mono {m m' : BMap} (h : Ext m m') {n : Nat} {z : Int} (k : OpqIs m n z) : OpqIs m' n z where
  at' := by obtain ⟨p, h1, h2⟩ := k.at'; exact ⟨p, h _ _ h1, h2⟩
  rng := k.rng
  nz := k.nz
  ne := fun b hb h1 => by obtain ⟨q, h2, h3⟩ := k.ne b hb h1; exact ⟨q, h _ _ h2, h3⟩
  sum := fun h1 => by obtain ⟨q, r, h2, h3, h4⟩ := k.sum h1; exact ⟨q, r, h _ _ h2, h _ _ h3, h4⟩
  sum0 := fun h1 => by obtain ⟨q, h2, h3⟩ := k.sum0 h1; exact ⟨q, h _ _ h2, h3⟩
  one := fun h1 => by obtain ⟨q, h2, h3⟩ := k.one h1; exact ⟨q, h _ _ h2, h3⟩

/-! ### Numbers of which only bounds are known; slices of which only the least length is known -/
def itvLo (n : Nat) : Nat := Nat.mod n 65536
def itvHi (n : Nat) : Nat := Nat.mod (Nat.div n 65536) 65536
def itvKind (n : Nat) : IntKind := match Nat.div n 4294967296 with | 0 => .i64 | _ => .u8
def ItvIs (n : Nat) (z : Int) : Prop := (itvLo n : Int) ≤ z ∧ z ≤ (itvHi n : Int)
def LooseIs (m : BMap) (n : Nat) (a' : Addr) (n' : Nat) : Prop := ARel m ⟨Nat.mod n 8192, 0, .none⟩ a' ∧ Nat.div n 8192 ≤ n'
theorem LooseIs.mono {m m' : BMap} (h : Ext m m') {n : Nat} {a' : Addr} {n' : Nat} (k : LooseIs m n a' n') : LooseIs m' n a' n' := by
  obtain ⟨⟨p, h1, h2⟩, h3⟩ := k
  exact ⟨⟨p, h _ _ h1, h2⟩, h3⟩

mutual
inductive VRel (m : BMap) : Value → Value → Prop
  | bool (b : Bool) : VRel m (.bool b) (.bool b)
  | int (k : IntKind) (n : Int) : VRel m (.int k n) (.int k n)
  | float (b : Nat) : VRel m (.float .f64 b) (.float .f64 b)
  | itv {n : Nat} {z : Int} (h : ItvIs n z) : VRel m (.float .f32 n) (.int (itvKind n) z)
  | complex (a : Nat) : VRel m (.complex .f64 a 0) (.complex .f64 a 0)
  | loose {n : Nat} {a' : Addr} {n' c' : Nat} (h : LooseIs m n a' n') : VRel m (.complex .f32 n 0) (.slice (some a') n' c')
  | sym {k : FloatKind} {n j : Nat} {kd : IntKind} {z : Int} (h : SymIs m k n j kd z) : VRel m (.complex k n (Nat.succ j)) (.int kd z)
  | opq {n : Nat} {z : Int} (h : OpqIs m n z) : VRel m (.chan (some n)) (.int .i64 z)
  | cnil : VRel m (.chan .none) (.chan .none)
  | string (s : ByteArray) : VRel m (.string s) (.string s)
  | pnil : VRel m (.pointer .none) (.pointer .none)
  | ptr {a a' : Addr} (h : ARel m a a') : VRel m (.pointer (some a)) (.pointer (some a'))
  | snil : VRel m (.slice .none 0 0) (.slice .none 0 0)
  | slice {a a' : Addr} {n c c' : Nat} (hc : capRel c c') (h : ARel m a a' ∨ (n = 0 ∧ c' = 0)) (hf : big ≤ c → Fits m a a' n c') : VRel m (.slice (some a) n c) (.slice (some a') n c')
  | mnil : VRel m (.map .none) (.map .none)
  | map {r r' : Nat} {p : Img} (h : m r = some p) (hp : p.blk = r') : VRel m (.map (some r)) (.map (some r'))
  | func {fn : Fn} {f f' c c' : List Value} (h : VRels m f f') (h' : VRels m c c') : VRel m (.func fn ⟨f⟩ ⟨c⟩) (.func fn ⟨f'⟩ ⟨c'⟩)
  | nilFunc : VRel m .nilFunc .nilFunc
  | iface {t : TypeId} {v v' : Value} (h : VRel m v v') : VRel m (.iface t v) (.iface t v')
  | nilIface : VRel m .nilIface .nilIface
  | agg {cs cs' : List Value} (h : VRels m cs cs') : VRel m (.agg ⟨cs⟩) (.agg ⟨cs'⟩)
  | tuple {cs cs' : List Value} (h : VRels m cs cs') : VRel m (.tuple ⟨cs⟩) (.tuple ⟨cs'⟩)
inductive VRels (m : BMap) : List Value → List Value → Prop
  | nil : VRels m [] []
  | cons {v v' : Value} {vs vs' : List Value} (h : VRel m v v') (hs : VRels m vs vs') : VRels m (v :: vs) (v' :: vs')
end

theorem ARel.mono {m m' : BMap} (h : Ext m m') {a a' : Addr} (ha : ARel m a a') : ARel m' a a' := by
  obtain ⟨d, h1, h2⟩ := ha
  exact ⟨d, h _ _ h1, h2⟩
theorem Fits.mono {m m' : BMap} (h : Ext m m') {a a' : Addr} {n c' : Nat} (hf : Fits m a a' n c') : Fits m' a a' n c' :=
  hf.imp id fun ⟨p, h1, h2⟩ => ⟨p, h _ _ h1, h2⟩
mutual
theorem VRel.mono {m m' : BMap} (h : Ext m m') : ∀ {v v' : Value}, VRel m v v' → VRel m' v v'
  | _, _, .bool b => .bool b
  | _, _, .int k n => .int k n
  | _, _, .float n => .float n
  | _, _, .itv hs => .itv hs
  | _, _, .complex a => .complex a
  | _, _, .loose hs => .loose (hs.mono h)
  | _, _, .sym hs => .sym (hs.mono h)
  | _, _, .opq hs => .opq (hs.mono h)
  | _, _, .cnil => .cnil
  | _, _, .string s => .string s
  | _, _, .pnil => .pnil
  | _, _, .ptr ha => .ptr (ha.mono h)
  | _, _, .snil => .snil
  | _, _, .slice hc ha hf => .slice hc (ha.imp (ARel.mono h) id) fun hb => (hf hb).mono h
  | _, _, .mnil => .mnil
  | _, _, .map hr hp => .map (h _ _ hr) hp
  | _, _, .func a b => .func (VRels.mono h a) (VRels.mono h b)
  | _, _, .nilFunc => .nilFunc
  | _, _, .iface a => .iface (VRel.mono h a)
  | _, _, .nilIface => .nilIface
  | _, _, .agg a => .agg (VRels.mono h a)
  | _, _, .tuple a => .tuple (VRels.mono h a)
theorem VRels.mono {m m' : BMap} (h : Ext m m') : ∀ {v v' : List Value}, VRels m v v' → VRels m' v v'
  | _, _, .nil => .nil
  | _, _, .cons a b => .cons (VRel.mono h a) (VRels.mono h b)
end

theorem VRels.length {m : BMap} : ∀ {vs vs' : List Value}, VRels m vs vs' → vs.length = vs'.length
  | _, _, .nil => rfl
  | _, _, .cons _ h => by simp [VRels.length h]
theorem VRels.get {m : BMap} : ∀ {vs vs' : List Value}, VRels m vs vs' → ∀ {i : Nat} {v : Value}, vs[i]? = some v → ∃ v', vs'[i]? = some v' ∧ VRel m v v'
  | _, _, .nil, i, v, h => by simp at h
  | _, _, .cons (v := x) (v' := x') a b, 0, v, h => by simp at h; subst h; exact ⟨x', rfl, a⟩
  | _, _, .cons a b, i + 1, v, h => by simp at h; exact VRels.get b h
theorem VRels.get' {m : BMap} : ∀ {vs vs' : List Value}, VRels m vs vs' → ∀ {i : Nat} {v' : Value}, vs'[i]? = some v' → ∃ v, vs[i]? = some v ∧ VRel m v v'
  | _, _, .nil, i, v, h => by simp at h
  | _, _, .cons (v := x) (v' := x') a b, 0, v, h => by simp at h; subst h; exact ⟨x, rfl, a⟩
  | _, _, .cons a b, i + 1, v, h => by simp at h; exact VRels.get' b h
theorem VRels.append {m : BMap} : ∀ {a a' b b' : List Value}, VRels m a a' → VRels m b b' → VRels m (a ++ b) (a' ++ b')
  | _, _, _, _, .nil, h => h
  | _, _, _, _, .cons a b, h => .cons a (VRels.append b h)
theorem VRels.of_get {m : BMap} : ∀ {vs vs' : List Value}, vs.length = vs'.length → (∀ (i : Nat) (v v' : Value), vs[i]? = some v → vs'[i]? = some v' → VRel m v v') → VRels m vs vs'
  | [], [], _, _ => .nil
  | [], _ :: _, h, _ => by simp at h
  | _ :: _, [], h, _ => by simp at h
  | v :: vs, v' :: vs', h, hi => .cons (hi 0 v v' rfl rfl) (VRels.of_get (by simpa using h) fun i => hi (i + 1))

inductive ERels (m : BMap) : List MapEntry → List MapEntry → Prop
  | nil : ERels m [] []
  | cons {e e' : MapEntry} {es es' : List MapEntry} (hk : VRel m e.key e'.key) (hv : VRel m e.val e'.val) (hs : ERels m es es') : ERels m (e :: es) (e' :: es')
theorem ERels.mono {m m' : BMap} (h : Ext m m') : ∀ {v v' : List MapEntry}, ERels m v v' → ERels m' v v'
  | _, _, .nil => .nil
  | _, _, .cons a b c => .cons (a.mono h) (b.mono h) (c.mono h)

def CRel (m : BMap) (cs : List Value) (d : Nat) (c : Array Value) : Prop := ∀ i v, cs[i]? = some v → ∃ v', c[i + d]? = some v' ∧ VRel m v v'
theorem CRel.mono {m m' : BMap} (h : Ext m m') {cs : List Value} {d : Nat} {c : Array Value} (hc : CRel m cs d c) : CRel m' cs d c := fun i v hi =>
  let ⟨v', h1, h2⟩ := hc i v hi
  ⟨v', h1, h2.mono h⟩
def szOf (P : Program) (e : TypeId) : Nat := ((P.info? e).map (·.size)).getD 0
/-- No cell of a block of n cells is marked; behind the last one a block of bytes alone can be. -/
def NoFr (P : Program) (e : TypeId) (n : Nat) (fr : Nat × Nat) : Prop := (fr.1 = 0 ∧ fr.2 = 0) ∨ (n ≤ fr.1 ∧ P.underlying e = some (.int .u8))
theorem NoFr.not {P : Program} {e : TypeId} {n : Nat} {fr : Nat × Nat} (h : NoFr P e n fr) {o : Nat} (ho : o < n) : (decide (fr.1 ≤ o) && decide (o < fr.2)) = false := by
  simp only [Bool.and_eq_false_iff, decide_eq_false_iff_not]
  rcases h with h | h <;> omega
def BR (P : Program) (m : BMap) (X : Nat) : ABlk → World → Prop
  | .cells cs e, w => ∃ p c, m X = some p ∧ (∃ fr, w.heap[p.blk]? = some (.cells c e fr) ∧ NoFr P e c.size fr) ∧ c.size = p.tot ∧ p.es = szOf P e ∧ CRel m cs p.off c
  | .map es _, w => ∃ p es' cl', m X = some p ∧ w.heap[p.blk]? = some (.map ⟨es'⟩ cl') ∧ ERels m es es'
  | .iter s pos, w => ∃ p, m X = some p ∧ w.heap[p.blk]? = some (.stringIter s pos) ∧ p.off = 0
theorem BR.mono {P : Program} {m m' : BMap} (h : Ext m m') {X : Nat} : ∀ {blk : ABlk} {w : World}, BR P m X blk w → BR P m' X blk w
  | .cells _ _, _, ⟨p, c, h1, h2, h3, h4, h5⟩ => ⟨p, c, h _ _ h1, h2, h3, h4, h5.mono h⟩
  | .map _ _, _, ⟨b, d, c, h1, h2, h3⟩ => ⟨b, d, c, h _ _ h1, h2, h3.mono h⟩
  | .iter _ _, _, ⟨b, h1, h2, h3⟩ => ⟨b, h _ _ h1, h2, h3⟩
theorem BR.block {P : Program} {m : BMap} {X : Nat} : ∀ {blk : ABlk} {w : World}, BR P m X blk w → ∃ p, m X = some p ∧ p.blk < w.heap.size
  | .cells _ _, _, ⟨p, c, h1, ⟨_, h2, _⟩, _⟩ => ⟨p, h1, (Array.getElem?_eq_some_iff.1 h2).1⟩
  | .map _ _, _, ⟨p, d, c, h1, h2, h3⟩ => ⟨p, h1, (Array.getElem?_eq_some_iff.1 h2).1⟩
  | .iter _ _, _, ⟨p, h1, h2, _⟩ => ⟨p, h1, (Array.getElem?_eq_some_iff.1 h2).1⟩
theorem BR.same {P : Program} {m : BMap} {X : Nat} {p : Img} (hm : m X = some p) {w w' : World} (hw : w'.heap[p.blk]? = w.heap[p.blk]?) : ∀ {blk : ABlk}, BR P m X blk w → BR P m X blk w'
  | .cells _ _, ⟨q, c, h1, h2, h3⟩ => by
    rw [hm] at h1
    cases h1
    exact ⟨p, c, hm, by rw [hw]; exact h2, h3⟩
  | .map _ _, ⟨q, d', c, h1, h2, h3⟩ => by
    rw [hm] at h1
    cases h1
    exact ⟨p, d', c, hm, by rw [hw]; exact h2, h3⟩
  | .iter _ _, ⟨q, h1, h2⟩ => by
    rw [hm] at h1
    cases h1
    exact ⟨p, hm, by rw [hw]; exact h2.1, h2.2⟩

structure Rel (P : Program) (V : Nat → Prop) (m : BMap) (S : St) (w : World) : Prop where
  blk : ∀ X, V X → ∀ x, S.heap.get X = some x → BR P m X x w
  inj : ∀ X Y, V X → V Y → (S.heap.get X).isSome → (S.heap.get Y).isSome → ∀ p q, m X = some p → m Y = some q → p.blk = q.blk → X = Y
  low : ∀ X, S.next ≤ X → S.heap.get X = .none
  bnd : S.next ≤ 8192

/-- What a run does to the abstract memory, whatever the real one is. -/
structure Grown (S S' : St) : Prop where
  next : S.next ≤ S'.next
  acc : ∀ X, S.acc.testBit X = true → S'.acc.testBit X = true
  wr : ∀ X, S.wr.testBit X = true → S'.wr.testBit X = true
  heap : ∀ X, X < S.next → S'.wr.testBit X = false → S'.heap.get X = S.heap.get X
  live : ∀ X, X < S.next → S'.wr.testBit X = true → S.wr.testBit X = true ∨ (S.heap.get X).isSome = true
  low : (∀ X, S.next ≤ X → S.heap.get X = .none) → ∀ X, S'.next ≤ X → S'.heap.get X = .none
  bnd : S.next ≤ 8192 → S'.next ≤ 8192
  sub : (∀ X, S.wr.testBit X = true → S.acc.testBit X = true) → ∀ X, S'.wr.testBit X = true → S'.acc.testBit X = true
  top : (∀ X, S.next ≤ X → S.heap.get X = .none) → (∀ X, S.wr.testBit X = true → X < S.next) → ∀ X, S'.wr.testBit X = true → X < S'.next
theorem Grown.refl (S : St) : Grown S S := ⟨Nat.le_refl _, fun _ h => h, fun _ h => h, fun _ _ _ => rfl, fun _ _ h => .inl h, fun h => h, fun h => h, fun h => h, fun _ h => h⟩
theorem Grown.trans {a b c : St} (h : Grown a b) (k : Grown b c) : Grown a c where
  next := Nat.le_trans h.next k.next
  acc := fun X hx => k.acc X (h.acc X hx)
  wr := fun X hx => k.wr X (h.wr X hx)
  heap := fun X hx hw => by
    have hw1 : b.wr.testBit X = false := by
      cases hc : b.wr.testBit X
      · rfl
      · rw [k.wr X hc] at hw; exact hw
    rw [k.heap X (Nat.lt_of_lt_of_le hx h.next) hw, h.heap X hx hw1]
  live := fun X hx hw => by
    cases hc : b.wr.testBit X
    · rcases k.live X (Nat.lt_of_lt_of_le hx h.next) hw with h1 | h1
      · rw [hc] at h1; cases h1
      · rw [h.heap X hx hc] at h1; exact .inr h1
    · exact h.live X hx hc
  low := fun hl => k.low (h.low hl)
  bnd := fun hb => k.bnd (h.bnd hb)
  sub := fun hs => k.sub (h.sub hs)
  top := fun hl ht => k.top (h.low hl) (h.top hl ht)
theorem Grown.rd (S : St) (b : Nat) : Grown S ⟨S.heap, S.next, bit S.acc b, S.wr⟩ := ⟨Nat.le_refl _, fun X h => by simp [bit_eq, h], fun _ h => h, fun _ _ _ => rfl, fun _ _ h => .inl h, fun h => h, fun h => h, fun h X hx => by simp [bit_eq, h X hx], fun _ h => h⟩
theorem Grown.put (S : St) (b : Nat) (x : Option ABlk) (hb : (S.heap.get b).isSome = true) : Grown S (S.put b x) where
  next := Nat.le_refl _
  acc := fun X h => by simp [St.put, bit_eq, h]
  wr := fun X h => by simp [St.put, bit_eq, h]
  heap := fun X hx hw => by
    refine Tr.get_set_ne 33 _ _ _ _ ?_
    intro he
    subst he
    simp [St.put, bit_eq] at hw
  live := fun X hx hw => by
    simp only [St.put, bit_eq, Bool.or_eq_true, decide_eq_true_eq] at hw
    rcases hw with hw | hw
    · exact .inl hw
    · subst hw; exact .inr hb
  low := fun hl X hX => by
    have hX : S.next ≤ X := hX
    rw [show (S.put b x).heap.get X = S.heap.get X from Tr.get_set_ne 33 _ _ _ _ ?_]
    · exact hl X hX
    · intro he
      subst he
      rw [hl X hX] at hb
      cases hb
  bnd := fun h => h
  sub := fun hs X hw => by
    simp only [St.put, bit_eq, Bool.or_eq_true, decide_eq_true_eq] at hw ⊢
    exact hw.imp (hs X) id
  top := fun hl ht X hw => by
    simp only [St.put, bit_eq, Bool.or_eq_true, decide_eq_true_eq] at hw
    rcases hw with hw | hw
    · exact ht X hw
    · subst hw
      show X < S.next
      rcases Nat.lt_or_ge X S.next with h | h
      · exact h
      · rw [hl X h] at hb; cases hb
theorem Grown.new (S : St) (x : ABlk) (hn : S.next < 8192) : Grown S (S.new x) where
  next := by simp [St.new]
  acc := fun X h => by simp [St.new, bit_eq, h]
  wr := fun _ h => h
  heap := fun X hx _ => Tr.get_set_ne 33 _ _ _ _ (by omega)
  live := fun X _ h => .inl h
  low := fun hl X hX => by
    have hX : S.next + 1 ≤ X := hX
    rw [show (S.new x).heap.get X = S.heap.get X from Tr.get_set_ne 33 _ _ _ _ (by omega)]
    exact hl X (by omega)
  bnd := fun _ => hn
  sub := fun hs X hw => by
    have hw : S.wr.testBit X = true := hw
    simp only [St.new, bit_eq, Bool.or_eq_true]
    exact .inl (hs X hw)
  top := fun _ ht X hw => Nat.lt_succ_of_lt (ht X hw)

structure Out (P : Program) (V : Nat → Prop) (m : BMap) (S : St) (w : World) (m' : BMap) (S' : St) (w' : World) : Prop where
  ext : Ext m m'
  dom : ∀ X, m X = .none → m' X ≠ .none → S.next ≤ X ∧ X < S'.next
  rel : Rel P (fun X => V X ∨ (S.next ≤ X ∧ X < S'.next)) m' S' w'
  grown : Grown S S'
  size : w.heap.size ≤ w'.heap.size
  os : w'.os = w.os
  tape : w'.tape = w.tape
  output : w'.output = w.output
  keep : ∀ b, b < w.heap.size → (∀ X p, S'.wr.testBit X = true → m X = some p → p.blk ≠ b) → w'.heap[b]? = w.heap[b]?
  new : ∀ X p, S.next ≤ X → X < S'.next → m' X = some p → w.heap.size ≤ p.blk ∨ ∃ Y q, S'.wr.testBit Y = true ∧ m Y = some q ∧ q.blk = p.blk

theorem Out.refl {P : Program} {V : Nat → Prop} {m : BMap} {S : St} {w : World} (h : Rel P V m S w) : Out P V m S w m S w where
  ext := Ext.refl m
  dom := fun X h1 h2 => absurd h1 h2
  rel := ⟨fun X hv x hx => h.blk X (hv.resolve_right (fun h => by omega)) x hx, fun X Y hx hy => h.inj X Y (hx.resolve_right (fun h => by omega)) (hy.resolve_right (fun h => by omega)), h.low, h.bnd⟩
  grown := Grown.refl S
  size := Nat.le_refl _
  os := rfl
  tape := rfl
  output := rfl
  keep := fun _ _ _ => rfl
  new := fun X p h1 h2 _ => by omega

theorem Rel.weaken {P : Program} {V V' : Nat → Prop} {m : BMap} {S : St} {w : World} (h : Rel P V m S w) (hv : ∀ X, X < S.next → V' X → V X) : Rel P V' m S w := by
  have key : ∀ X x, V' X → S.heap.get X = some x → V X := fun X x hx hg => by
    by_cases hl : X < S.next
    · exact hv X hl hx
    · rw [h.low X (by omega)] at hg; cases hg
  refine ⟨fun X hx x hg => h.blk X (key X x hx hg) x hg, fun X Y hx hy gx gy => ?_, h.low, h.bnd⟩
  obtain ⟨x, hx'⟩ := Option.isSome_iff_exists.1 gx
  obtain ⟨y, hy'⟩ := Option.isSome_iff_exists.1 gy
  exact h.inj X Y (key X x hx hx') (key Y y hy hy') gx gy

theorem Out.trans {P : Program} {V : Nat → Prop} {m m1 m2 : BMap} {S S1 S2 : St} {w w1 w2 : World} (h : Out P V m S w m1 S1 w1) (k : Out P (fun X => V X ∨ (S.next ≤ X ∧ X < S1.next)) m1 S1 w1 m2 S2 w2) : Out P V m S w m2 S2 w2 where
  ext := h.ext.trans k.ext
  dom := fun X h1 h2 => by
    have := h.grown.next; have := k.grown.next
    by_cases hx : m1 X = .none
    · have := k.dom X hx h2; omega
    · have := h.dom X h1 hx; omega
  rel := k.rel.weaken (fun X hl hx => by
    have := h.grown.next; have := k.grown.next
    rcases hx with hx | hx
    · exact .inl (.inl hx)
    · by_cases hy : X < S1.next
      · exact .inl (.inr ⟨hx.1, hy⟩)
      · exact .inr ⟨by omega, hx.2⟩)
  grown := h.grown.trans k.grown
  size := Nat.le_trans h.size k.size
  os := k.os.trans h.os
  tape := k.tape.trans h.tape
  output := k.output.trans h.output
  keep := fun b hb hx => by
    rw [k.keep b (Nat.lt_of_lt_of_le hb h.size) ?_, h.keep b hb (fun X p hw hm => hx X p (k.grown.wr X hw) hm)]
    intro X p hw hm
    by_cases h0 : m X = .none
    · have h1 := h.dom X h0 (by rw [hm]; simp)
      rcases h.new X p h1.1 h1.2 hm with h2 | ⟨Y, q, h2, h3, h4⟩
      · omega
      · rw [← h4]; exact hx Y q (k.grown.wr Y h2) h3
    · obtain ⟨q, hp⟩ := Option.ne_none_iff_exists'.1 h0
      have := h.ext X q hp
      rw [hm] at this
      cases this
      exact hx X p hw hp
  new := fun X p h1 h2 hm => by
    by_cases hl : X < S1.next
    · -- X was new in the first part
      by_cases h0 : m1 X = .none
      · have := k.dom X h0 (by rw [hm]; simp); omega
      · obtain ⟨q, hp⟩ := Option.ne_none_iff_exists'.1 h0
        have := k.ext X q hp
        rw [hm] at this
        cases this
        rcases h.new X p h1 hl hp with h3 | ⟨Y, q, h3, h4⟩
        · exact .inl h3
        · exact .inr ⟨Y, q, k.grown.wr Y h3, h4⟩
    · rcases k.new X p (by omega) h2 hm with h3 | ⟨Y, q, h3, h4, h5⟩
      · exact .inl (Nat.le_trans h.size h3)
      · by_cases h0 : m Y = .none
        · have h5' := h.dom Y h0 (by rw [h4]; simp)
          rcases h.new Y q h5'.1 h5'.2 h4 with h6 | ⟨Z, q', h6, h7, h8⟩
          · exact .inl (by omega)
          · exact .inr ⟨Z, q', k.grown.wr Z h6, h7, by omega⟩
        · obtain ⟨q', hp⟩ := Option.ne_none_iff_exists'.1 h0
          have := h.ext Y q' hp
          rw [h4] at this
          cases this
          exact .inr ⟨Y, q, h3, hp, h5⟩

/-! ### Values that look at no memory -/
def flat1 : Value → Bool
  | .bool _ => true
  | .int _ _ => true
  | .float .f64 _ => true
  | .complex .f64 _ 0 => true
  | .string _ => true
  | .pointer .none => true
  | .slice .none 0 0 => true
  | .map .none => true
  | .chan .none => true
  | .nilFunc => true
  | .nilIface => true
  | _ => false
def flat : Value → Bool
  | .agg ⟨cs⟩ => cs.all flat1
  | .tuple ⟨cs⟩ => cs.all flat1
  | v => flat1 v
theorem flat1_rel {m : BMap} {v : Value} (h : flat1 v = true) : VRel m v v := by
  unfold flat1 at h
  split at h <;> first | constructor | cases h
theorem flats_rel {m : BMap} : ∀ {vs : List Value}, vs.all flat1 = true → VRels m vs vs
  | [], _ => .nil
  | v :: vs, h => by
    simp only [List.all_cons, Bool.and_eq_true] at h
    exact .cons (flat1_rel h.1) (flats_rel h.2)
theorem flat_rel {m : BMap} {v : Value} (h : flat v = true) : VRel m v v := by
  unfold flat at h
  split at h
  · exact .agg (flats_rel h)
  · exact .tuple (flats_rel h)
  · exact flat1_rel h

/-- What it stands for is itself. -/
theorem flat1_eq {m : BMap} {v v' : Value} (h : flat1 v = true) (hr : VRel m v v') : v' = v := by
  cases hr with
  | @sym k n j kd z hs => cases k <;> cases h
  | _ => first | rfl | cases h
theorem flats_eq {m : BMap} : ∀ {vs vs' : List Value}, vs.all flat1 = true → VRels m vs vs' → vs' = vs
  | _, _, _, .nil => rfl
  | _, _, h, .cons a b => by
    simp only [List.all_cons, Bool.and_eq_true] at h
    rw [flat1_eq h.1 a, flats_eq h.2 b]
theorem flat_eq {m : BMap} {v v' : Value} (h : flat v = true) (hr : VRel m v v') : v' = v := by
  cases hr with
  | agg hs => rw [flats_eq h hs]
  | tuple hs => rw [flats_eq h hs]
  | opq hs => cases h
  | @sym k n j kd z hs => cases k <;> cases h
  | _ => exact flat1_eq (m := m) h (by constructor <;> assumption)

end
end Go.Proofs.YtgkbjdphkmmmhaaDoor.Ev
