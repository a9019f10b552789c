/-
  Chapter 8: what an instruction writes and reads (flow.Def, flow.Uses), as plain functions and as contracts.
-/
import Derived.Test.YtgkbjdphkmmmhaaDoorAppendAll
import Derived.WalkSpells
import Derived.Deep.Cut
import Derived.Deep.CutBlock
import Derived.Deep.DeepCutAuto
import Derived.Test.YtgkbjdphkmmmhaaDoorNumsB
namespace Go.Proofs.YtgkbjdphkmmmhaaDoor
open Go.RowKit

def OwnPost {α : Type} (enc : α → List Value) (size : Nat) (e : TypeId) (xs : List α) (w : World) (en : Ending) (w' : World) : Prop :=
  ∃ p' c', en = .returned (.slice p' xs.length c') ∧ Own enc size e w.heap.size w' (.slice p' xs.length c') xs ∧ Keep None w w'

theorem own_block {α : Type} {enc : α → List Value} {size : Nat} {e : TypeId} {base : Nat} {w : World} {v : Value} {xs : List α} (h : Own enc size e base w v xs) {T : Nat → Prop} (hT : ∀ k, base ≤ k → ¬ T k) : ∀ k, v.ownBlock = some k → ¬ T k :=
  fun k hk => hT k (World.ownsRow.lt h k hk).1

set_option maxRecDepth 100000 in
set_option maxHeartbeats 2000000 in
theorem clone_calls (p : Option Addr) (xs : List Int) (c : Nat) (w : World) (h : SliceV intEnc 1 w p xs) (hl : xs.length ≤ 17592186044416) :
    Calls Tryd.prog 16 #[.slice p xs.length c] w (OwnPost intEnc 1 3 xs w) := by
  obtain ⟨i2, hi2, hv0, hv1, hv2⟩ := info_parts Tryd.infoInt
  have hnil : ∀ (wx : World) (a : Option Addr) (n c' : Nat), (binOp .eql 30 (.slice a n c') (.slice none 0 0)).run Tryd.prog wx = .ok (.bool a.isNone) wx := fun wx a n c' => Lib.run_eql_slice_nil wx _ _ a n c' 0 0 Tryd.underlying30
  cases p with
  | none =>
    have hx : xs = [] := by
      rcases h with h | ⟨_, _, he, _⟩
      · exact h
      · cases he
    subst hx
    go_enter Tryd.func16, Tryd.ntmps16
    go_wp2
    go_ret
    exact ⟨none, 0, rfl, Own.nil _ _ _ _ _, Keep.refl _ _⟩
  | some ad =>
    have HS := Lib.hid h
    clear h
    go_enter Tryd.func16, Tryd.ntmps16
    go_wp2_with (at_builtin; go_loud (refine wpList_appendAll (enc := intEnc) rfl _ _ 30 rfl w.heap.size _ i2 _ 8 Tryd.underlying30 hi2 hv0 hv1 hv2 rfl (by decide) intEnc_len (.slice (some ⟨w.heap.size, 0, none⟩) 0 0) [] rfl (Own.ofArr (enc := intEnc) intEnc_len (xs := []) (g := w.heap.size) (show Arr intEnc 3 _ w.heap.size [] from heap_alloc_new _ _) (Nat.le_refl _) (by simp)) (some ad) xs c rfl (HS.out.keep (S := None) ((Keep.refl _ _).alloc _) (fun _ _ => id)) (by intro x u hu; simp [intEnc] at hu; subst hu; rfl) (by simp; omega) (by simp; omega) ((Keep.refl None w).alloc _).size ?_; intro p' c' w6 hown6 hk6 hd6; have HO6 := Lib.hid hown6; have HK6 := Lib.hid hk6; clear hown6 hk6 hd6))
    go_ret
    refine ⟨p', c', by simp, by simpa using HO6.out, ((Keep.refl _ _).alloc _).andThen HK6.out (by intro k hk hq; simp [Value.ownBlock] at hq; omega)⟩


/-- An instruction: its data, and where its arguments lie. -/
structure Ins where
  k : Int
  op : Int
  d : Int
  a : Int
  b : Int
  v : Int
  p : Option Addr
  c : Nat
  args : List Int
def Ins.enc (x : Ins) : List Value := [.int .i64 x.k, .int .i64 x.op, .int .i64 x.d, .int .i64 x.a, .int .i64 x.b, .int .i64 x.v, .slice x.p x.args.length x.c]
theorem Ins.enc_len (x : Ins) : x.enc.length = 7 := rfl
def Ins.val (x : Ins) : Value := .agg #[.int .i64 x.k, .int .i64 x.op, .int .i64 x.d, .int .i64 x.a, .int .i64 x.b, .int .i64 x.v, .slice x.p x.args.length x.c]

def defOf (k d : Int) : Option Int := if k = 6 ∨ k = 8 ∨ k = 10 ∨ k = 13 ∨ k < 1 ∨ 14 < k then none else some d
def usesOf (k a b : Int) (args : List Int) : List Int :=
  if k = 2 ∨ k = 3 ∨ k = 6 ∨ k = 7 ∨ k = 10 then [a] else if k = 4 ∨ k = 8 then [a, b] else if k = 11 then args else if k = 12 then a :: args else []
structure InsD where
  k : Int
  d : Int
  a : Int
  b : Int
  args : List Int
def Ins.data (x : Ins) : InsD := ⟨x.k, x.d, x.a, x.b, x.args⟩
/-! ### What is live ahead of a block -/
def setAtB (l : List Bool) (r : Int) (b : Bool) : Option (List Bool) :=
  match r with
  | .ofNat n => match Nat.blt n l.length with
    | true => some (l.set n b)
    | false => none
  | .negSucc _ => none
def setAllB : List Int → List Bool → Option (List Bool)
  | [], l => some l
  | r :: rs, l => match setAtB l r true with
    | some l' => setAllB rs l'
    | none => none
def insB (x : InsD) (l : List Bool) : Option (List Bool) :=
  match defOf x.k x.d with
  | some d => match setAtB l d false with
    | some l' => setAllB (usesOf x.k x.a x.b x.args) l'
    | none => none
  | none => setAllB (usesOf x.k x.a x.b x.args) l
def insAll : List InsD → List Bool → Option (List Bool)
  | [], l => some l
  | x :: xs, l => match insB x l with
    | some l' => insAll xs l'
    | none => none
def tuses (tk ta : Int) : List Int := if tk = 2 ∨ tk = 3 then [ta] else []
def befB (tk ta : Int) (ins : List InsD) (l : List Bool) : Option (List Bool) :=
  match setAllB (tuses tk ta) l with
  | some l' => insAll ins.reverse l'
  | none => none

theorem setAtB_some {l l' : List Bool} {r : Int} {b : Bool} (h : setAtB l r b = some l') : ∃ n : Nat, r = n ∧ n < l.length ∧ l' = l.set n b := by
  unfold setAtB at h
  split at h
  · rename_i n
    split at h
    · rename_i hb
      cases h
      exact ⟨n, rfl, by have := Nat.le_of_ble_eq_true hb; omega, rfl⟩
    · cases h
  · cases h
theorem setAtB_len {l l' : List Bool} {r : Int} {b : Bool} (h : setAtB l r b = some l') : l'.length = l.length := by
  obtain ⟨n, -, -, rfl⟩ := setAtB_some h
  simp
theorem setAllB_len : ∀ (rs : List Int) (l l' : List Bool), setAllB rs l = some l' → l'.length = l.length
  | [], l, l', h => by cases h; rfl
  | r :: rs, l, l', h => by
    unfold setAllB at h
    split at h
    · rename_i l1 h1
      rw [setAllB_len rs _ _ h, setAtB_len h1]
    · cases h
theorem insB_len {x : InsD} {l l' : List Bool} (h : insB x l = some l') : l'.length = l.length := by
  unfold insB at h
  split at h
  · split at h
    · rename_i h1
      rw [setAllB_len _ _ _ h, setAtB_len h1]
    · cases h
  · exact setAllB_len _ _ _ h
theorem setAllB_cons {r : Int} {rs : List Int} {l l1 : List Bool} (h : setAtB l r true = some l1) : setAllB (r :: rs) l = setAllB rs l1 := by simp [setAllB, h]
theorem insAll_cons {x : InsD} {xs : List InsD} {l l1 : List Bool} (h : insB x l = some l1) : insAll (x :: xs) l = insAll xs l1 := by simp [insAll, h]
theorem setAllB_app : ∀ (rs ts : List Int) (l l' : List Bool), setAllB (rs ++ ts) l = some l' → ∃ l1, setAllB rs l = some l1 ∧ setAllB ts l1 = some l'
  | [], ts, l, l', h => ⟨l, rfl, h⟩
  | r :: rs, ts, l, l', h => by
    rw [List.cons_append] at h
    cases h1 : setAtB l r true with
    | none => simp [setAllB, h1] at h
    | some l1 =>
      rw [setAllB_cons h1] at h ⊢
      exact setAllB_app rs ts _ _ h
theorem insAll_snoc {xs : List InsD} {x : InsD} {l l1 l2 : List Bool} (h : insAll xs l = some l1) (h' : insB x l1 = some l2) : insAll (xs ++ [x]) l = some l2 := by
  induction xs generalizing l with
  | nil => cases h; simp [insAll, h']
  | cons y ys ih =>
    rw [List.cons_append]
    cases h3 : insB y l with
    | none => simp [insAll, h3] at h
    | some l3 =>
      rw [insAll_cons h3] at h ⊢
      exact ih h
theorem setAllB_snoc {rs : List Int} {r : Int} {l l1 l2 : List Bool} (h : setAllB rs l = some l1) (h' : setAtB l1 r true = some l2) : setAllB (rs ++ [r]) l = some l2 := by
  induction rs generalizing l with
  | nil => cases h; simp [setAllB, h']
  | cons y ys ih =>
    rw [List.cons_append]
    cases h3 : setAtB l y true with
    | none => simp [setAllB, h3] at h
    | some l3 =>
      rw [setAllB_cons h3] at h ⊢
      exact ih h
theorem befB_some {tk ta : Int} {ins : List InsD} {l l' : List Bool} (h : befB tk ta ins l = some l') : ∃ l1, setAllB (tuses tk ta) l = some l1 ∧ insAll ins.reverse l1 = some l' := by
  unfold befB at h
  split at h
  · rename_i l1 h1
    exact ⟨l1, h1, h⟩
  · cases h
theorem insAll_len : ∀ (xs : List InsD) (l l' : List Bool), insAll xs l = some l' → l'.length = l.length
  | [], l, l', h => by cases h; rfl
  | x :: xs, l, l', h => by
    unfold insAll at h
    split at h
    · rename_i l1 h1
      rw [insAll_len xs _ _ h, insB_len h1]
    · cases h
theorem befB_len {tk ta : Int} {ins : List InsD} {l l' : List Bool} (h : befB tk ta ins l = some l') : l'.length = l.length := by
  unfold befB at h
  split at h
  · rename_i l1 h1
    rw [insAll_len _ _ _ h, setAllB_len _ _ _ h1]
  · cases h

/-! ### What is in range -/
def okR (n : Nat) (r : Int) : Prop := 0 ≤ r ∧ r < n
def okD (n : Nat) (x : InsD) : Prop := (∀ d, defOf x.k x.d = some d → okR n d) ∧ ∀ r ∈ usesOf x.k x.a x.b x.args, okR n r
theorem setAtB_ok {l : List Bool} {r : Int} {b : Bool} (h : okR l.length r) : setAtB l r b = some (l.set r.toNat b) := by
  obtain ⟨k, rfl⟩ : ∃ k : Nat, r = k := ⟨r.toNat, by have := h.1; omega⟩
  have h2 : k < l.length := by have := h.2; omega
  have hb : Nat.blt k l.length = true := Nat.ble_eq_true_of_le h2
  show (match Nat.blt k l.length with | true => some (l.set k b) | false => none) = _
  rw [hb]
  rfl
theorem setAtB_okR {l l' : List Bool} {r : Int} {b : Bool} (h : setAtB l r b = some l') : okR l.length r := by
  obtain ⟨n, rfl, h1, -⟩ := setAtB_some h
  exact ⟨by omega, by omega⟩
theorem setAllB_ok : ∀ (rs : List Int) (l : List Bool), (∀ r ∈ rs, okR l.length r) → ∃ l', setAllB rs l = some l'
  | [], l, _ => ⟨l, rfl⟩
  | r :: rs, l, h => by
    unfold setAllB
    rw [setAtB_ok (h r (by simp))]
    exact setAllB_ok rs _ (fun x hx => by rw [List.length_set]; exact h x (by simp [hx]))
theorem setAllB_okR : ∀ (rs : List Int) (l l' : List Bool), setAllB rs l = some l' → ∀ r ∈ rs, okR l.length r
  | [], l, l', _, r, hr => by simp at hr
  | r :: rs, l, l', h, x, hx => by
    unfold setAllB at h
    split at h
    · rename_i l1 h1
      rcases List.mem_cons.1 hx with rfl | hx
      · exact setAtB_okR h1
      · rw [← setAtB_len h1]; exact setAllB_okR rs _ _ h x hx
    · cases h
/-- A list of registers, set one by one. -/
theorem setAllB_step {rs : List Int} {l l' : List Bool} (h : setAllB rs l = some l') {k : Nat} {lv : List Bool} {r : Int} (hk : setAllB (rs.take k) l = some lv) (hr : rs[k]? = some r) : okR lv.length r ∧ setAllB (rs.take (k + 1)) l = some (lv.set r.toNat true) := by
  have hx := setAllB_okR _ _ _ h r (List.mem_of_getElem? hr)
  rw [← setAllB_len _ _ _ hk] at hx
  refine ⟨hx, ?_⟩
  rw [List.take_add_one, hr]
  exact setAllB_snoc hk (setAtB_ok hx)
theorem insB_ok {x : InsD} {l : List Bool} (h : okD l.length x) : ∃ l', insB x l = some l' := by
  unfold insB
  cases hd : defOf x.k x.d with
  | none => exact setAllB_ok _ _ h.2
  | some d =>
    simp only
    rw [setAtB_ok (h.1 d hd)]
    exact setAllB_ok _ _ (fun r hr => by rw [List.length_set]; exact h.2 r hr)
theorem insB_okD {x : InsD} {l l' : List Bool} (h : insB x l = some l') : okD l.length x := by
  unfold insB at h
  split at h
  · rename_i d hd
    split at h
    · rename_i l1 h1
      refine ⟨fun d' hd' => ?_, fun r hr => ?_⟩
      · rw [hd] at hd'; cases hd'; exact setAtB_okR h1
      · rw [← setAtB_len h1]; exact setAllB_okR _ _ _ h r hr
    · cases h
  · rename_i hd
    refine ⟨fun d' hd' => ?_, setAllB_okR _ _ _ h⟩
    rw [hd] at hd'
    cases hd'
theorem insAll_okD : ∀ (xs : List InsD) (l l' : List Bool), insAll xs l = some l' → ∀ x ∈ xs, okD l.length x
  | [], l, l', _, x, hx => by simp at hx
  | y :: ys, l, l', h, x, hx => by
    unfold insAll at h
    split at h
    · rename_i l1 h1
      rcases List.mem_cons.1 hx with rfl | hx
      · exact insB_okD h1
      · rw [← insB_len h1]; exact insAll_okD ys _ _ h x hx
    · cases h

/-! ### Memory -/
/-- A slice that reads as a list, in another block than g (where it has elements). -/
def SlOff {α : Type} (enc : α → List Value) (size : Nat) (g : Nat) (w : World) (p : Option Addr) (xs : List α) : Prop := xs = [] ∨ ∃ b off, p = some ⟨b, off, none⟩ ∧ b ≠ g ∧ SlAt enc size w b off xs
theorem SlOff.keep {α : Type} {enc : α → List Value} {size g : Nat} {w w' : World} {p : Option Addr} {xs : List α} (h : SlOff enc size g w p xs) (k : Keep (· = g) w w') : SlOff enc size g w' p xs := by
  rcases h with h | ⟨b, off, h1, h2, h3⟩
  · exact .inl h
  · exact .inr ⟨b, off, h1, h2, h3.keep k h2⟩
theorem SlOff.slice {α : Type} {enc : α → List Value} {size g : Nat} {w : World} {p : Option Addr} {xs : List α} (h : SlOff enc size g w p xs) : SliceV enc size w p xs := by
  rcases h with h | ⟨b, off, h1, _, h3⟩
  · exact .inl h
  · exact .inr ⟨b, off, h1, h3⟩
/-- The row of truth values at block g, from o on. -/
def BoolsAt (w : World) (g o N : Nat) (e : TypeId) (l : List Bool) : Prop := ∃ C : Array Value, w.heap[g]? = some (.cells C e (0, 0)) ∧ C.size = N ∧ o + l.length ≤ N ∧ ∀ i b, l[i]? = some b → C[o + i]? = some (.bool b)
theorem BoolsAt.cell {w : World} {g o N : Nat} {e : TypeId} {l : List Bool} (h : BoolsAt w g o N e l) {i : Nat} (hi : i < l.length) : ∃ b, w.cell? ⟨g, o + i, none⟩ = some (.bool b) ∧ w.frozen? ⟨g, o + i, none⟩ = false := by
  obtain ⟨C, h1, h2, h3, h4⟩ := h
  refine ⟨l[i], ?_, ?_⟩
  · have := h4 i l[i] (List.getElem?_eq_getElem hi)
    simp [World.cell?, h1, this]
  · simp [World.frozen?, h1]
theorem BoolsAt.set {w : World} {g o N : Nat} {e : TypeId} {l : List Bool} (h : BoolsAt w g o N e l) {i : Nat} (hi : i < l.length) (b : Bool) : BoolsAt (w.setCell ⟨g, o + i, none⟩ (.bool b)) g o N e (l.set i b) := by
  obtain ⟨C, h1, h2, h3, h4⟩ := h
  refine ⟨C.setIfInBounds (o + i) (.bool b), by simp [World.setCell, Array.getElem?_modify, h1], by simpa using h2, by simpa using h3, fun j x hx => ?_⟩
  rw [Array.getElem?_setIfInBounds]
  by_cases hj : i = j
  · subst hj
    rw [List.getElem?_set_self (by omega)] at hx
    cases hx
    rw [if_pos rfl, if_pos (by omega)]
  · rw [List.getElem?_set_ne hj] at hx
    rw [if_neg (by omega)]
    exact h4 j x hx
theorem BoolsAt.same {w w' : World} {g o N : Nat} {e : TypeId} {l : List Bool} (h : BoolsAt w g o N e l) (hh : w'.heap[g]? = w.heap[g]?) : BoolsAt w' g o N e l := by
  obtain ⟨C, h1, h2, h3, h4⟩ := h
  exact ⟨C, hh.trans h1, h2, h3, h4⟩

def tupleOf : Option Int → Value
  | some d => .tuple #[.int .i64 d, .bool true]
  | none => .tuple #[.int .i64 0, .bool false]

theorem within_calls (n l m : Int) (w : World) : Calls Tryd.prog 32 #[.int .i64 n, .int .i64 l, .int .i64 m] w fun e w' => e = .returned (.bool (decide (l ≤ n ∧ n ≤ m))) ∧ w' = w := by
  by_cases h1 : l ≤ n
  · by_cases h2 : n ≤ m
    · rw [decide_eq_true (show l ≤ n ∧ n ≤ m from ⟨h1, h2⟩)]
      go_enter Tryd.func32, Tryd.ntmps32
      go_wp2
      go_ret
      exact ⟨rfl, rfl⟩
    · rw [decide_eq_false (show ¬ (l ≤ n ∧ n ≤ m) from fun h => h2 h.2)]
      go_enter Tryd.func32, Tryd.ntmps32
      go_wp2
      go_ret
      exact ⟨rfl, rfl⟩
  · rw [decide_eq_false (show ¬ (l ≤ n ∧ n ≤ m) from fun h => h1 h.1)]
    go_enter Tryd.func32, Tryd.ntmps32
    go_wp2
    go_ret
    exact ⟨rfl, rfl⟩

def IntsOut (xs : List Int) (w : World) (e : Ending) (w' : World) : Prop :=
  ∃ p c, e = .returned (.slice p xs.length c) ∧ SliceV intEnc 1 w' p xs ∧ From w.heap.size p ∧ Keep None w w'

set_option maxRecDepth 100000 in
set_option maxHeartbeats 4000000 in
theorem def_calls (x : Ins) (w : World) : Calls Tryd.prog 66 #[x.val] w fun e w' => e = .returned (tupleOf (defOf x.k x.d)) ∧ Keep None w w' := by
  obtain ⟨k, op, d, a, b, v, p, c, args⟩ := x
  simp only [Ins.val]
  by_cases h1 : k = 6
  · subst h1
    (rw [show defOf 6 d = none from by simp [defOf]]; (go_enter Tryd.func66, Tryd.ntmps66; go_upto_region 1 with (fail); (generalize hw1 : World.alloc _ _ = w1; have hk1 : Keep None w w1 := (by rw [← hw1]; exact (Keep.refl _ _).alloc _); have ho1 : w1.heap[w.heap.size]? = some (.cells #[.int .i64 6, .int .i64 op, .int .i64 d, .int .i64 a, .int .i64 b, .int .i64 v, .slice p args.length c] 32 (0, 0)) := (by rw [← hw1]; exact heap_alloc_new _ _); have q0 := cell_of_row _ _ 0 _ _ _ ho1; have q2 := cell_of_row _ _ 2 _ _ _ ho1; have q3 := cell_of_row _ _ 3 _ _ _ ho1; have q4 := cell_of_row _ _ 4 _ _ _ ho1; have q6 := cell_of_row _ _ 6 _ _ _ ho1; have HK := Lib.hid hk1; clear hw1 hk1 ho1)); go_wp2_with (go_at_call 32; refine (within_calls _ _ _ _).mono ?_; rintro e w' ⟨rfl, rfl⟩); all_goals (refine bodyPost_ret (results_tmp2 rfl _ _ _) rfl ?_; exact ⟨rfl, HK.out⟩))
  by_cases h2 : k = 8
  · subst h2
    (rw [show defOf 8 d = none from by simp [defOf]]; (go_enter Tryd.func66, Tryd.ntmps66; go_upto_region 1 with (fail); (generalize hw1 : World.alloc _ _ = w1; have hk1 : Keep None w w1 := (by rw [← hw1]; exact (Keep.refl _ _).alloc _); have ho1 : w1.heap[w.heap.size]? = some (.cells #[.int .i64 8, .int .i64 op, .int .i64 d, .int .i64 a, .int .i64 b, .int .i64 v, .slice p args.length c] 32 (0, 0)) := (by rw [← hw1]; exact heap_alloc_new _ _); have q0 := cell_of_row _ _ 0 _ _ _ ho1; have q2 := cell_of_row _ _ 2 _ _ _ ho1; have q3 := cell_of_row _ _ 3 _ _ _ ho1; have q4 := cell_of_row _ _ 4 _ _ _ ho1; have q6 := cell_of_row _ _ 6 _ _ _ ho1; have HK := Lib.hid hk1; clear hw1 hk1 ho1)); go_wp2_with (go_at_call 32; refine (within_calls _ _ _ _).mono ?_; rintro e w' ⟨rfl, rfl⟩); all_goals (refine bodyPost_ret (results_tmp2 rfl _ _ _) rfl ?_; exact ⟨rfl, HK.out⟩))
  by_cases h3 : k = 10
  · subst h3
    (rw [show defOf 10 d = none from by simp [defOf]]; (go_enter Tryd.func66, Tryd.ntmps66; go_upto_region 1 with (fail); (generalize hw1 : World.alloc _ _ = w1; have hk1 : Keep None w w1 := (by rw [← hw1]; exact (Keep.refl _ _).alloc _); have ho1 : w1.heap[w.heap.size]? = some (.cells #[.int .i64 10, .int .i64 op, .int .i64 d, .int .i64 a, .int .i64 b, .int .i64 v, .slice p args.length c] 32 (0, 0)) := (by rw [← hw1]; exact heap_alloc_new _ _); have q0 := cell_of_row _ _ 0 _ _ _ ho1; have q2 := cell_of_row _ _ 2 _ _ _ ho1; have q3 := cell_of_row _ _ 3 _ _ _ ho1; have q4 := cell_of_row _ _ 4 _ _ _ ho1; have q6 := cell_of_row _ _ 6 _ _ _ ho1; have HK := Lib.hid hk1; clear hw1 hk1 ho1)); go_wp2_with (go_at_call 32; refine (within_calls _ _ _ _).mono ?_; rintro e w' ⟨rfl, rfl⟩); all_goals (refine bodyPost_ret (results_tmp2 rfl _ _ _) rfl ?_; exact ⟨rfl, HK.out⟩))
  by_cases h4 : k = 13
  · subst h4
    (rw [show defOf 13 d = none from by simp [defOf]]; (go_enter Tryd.func66, Tryd.ntmps66; go_upto_region 1 with (fail); (generalize hw1 : World.alloc _ _ = w1; have hk1 : Keep None w w1 := (by rw [← hw1]; exact (Keep.refl _ _).alloc _); have ho1 : w1.heap[w.heap.size]? = some (.cells #[.int .i64 13, .int .i64 op, .int .i64 d, .int .i64 a, .int .i64 b, .int .i64 v, .slice p args.length c] 32 (0, 0)) := (by rw [← hw1]; exact heap_alloc_new _ _); have q0 := cell_of_row _ _ 0 _ _ _ ho1; have q2 := cell_of_row _ _ 2 _ _ _ ho1; have q3 := cell_of_row _ _ 3 _ _ _ ho1; have q4 := cell_of_row _ _ 4 _ _ _ ho1; have q6 := cell_of_row _ _ 6 _ _ _ ho1; have HK := Lib.hid hk1; clear hw1 hk1 ho1)); go_wp2_with (go_at_call 32; refine (within_calls _ _ _ _).mono ?_; rintro e w' ⟨rfl, rfl⟩); all_goals (refine bodyPost_ret (results_tmp2 rfl _ _ _) rfl ?_; exact ⟨rfl, HK.out⟩))
  by_cases h5 : 1 ≤ k ∧ k ≤ 14
  · have hd : decide (1 ≤ k ∧ k ≤ 14) = true := decide_eq_true h5
    rw [show defOf k d = some d from by simp [defOf, h1, h2, h3, h4]; omega]
    (go_enter Tryd.func66, Tryd.ntmps66; go_upto_region 1 with (fail); (generalize hw1 : World.alloc _ _ = w1; have hk1 : Keep None w w1 := (by rw [← hw1]; exact (Keep.refl _ _).alloc _); have ho1 : w1.heap[w.heap.size]? = some (.cells #[.int .i64 k, .int .i64 op, .int .i64 d, .int .i64 a, .int .i64 b, .int .i64 v, .slice p args.length c] 32 (0, 0)) := (by rw [← hw1]; exact heap_alloc_new _ _); have q0 := cell_of_row _ _ 0 _ _ _ ho1; have q2 := cell_of_row _ _ 2 _ _ _ ho1; have q3 := cell_of_row _ _ 3 _ _ _ ho1; have q4 := cell_of_row _ _ 4 _ _ _ ho1; have q6 := cell_of_row _ _ 6 _ _ _ ho1; have HK := Lib.hid hk1; clear hw1 hk1 ho1))
    go_wp2_with (go_at_call 32; refine (within_calls _ _ _ _).mono ?_; rintro e w' ⟨rfl, rfl⟩; rw [hd])
    refine bodyPost_ret (results_tmp2 rfl _ _ _) rfl ?_
    exact ⟨rfl, HK.out⟩
  · have hd : decide (1 ≤ k ∧ k ≤ 14) = false := decide_eq_false h5
    rw [show defOf k d = none from by simp [defOf]; omega]
    (go_enter Tryd.func66, Tryd.ntmps66; go_upto_region 1 with (fail); (generalize hw1 : World.alloc _ _ = w1; have hk1 : Keep None w w1 := (by rw [← hw1]; exact (Keep.refl _ _).alloc _); have ho1 : w1.heap[w.heap.size]? = some (.cells #[.int .i64 k, .int .i64 op, .int .i64 d, .int .i64 a, .int .i64 b, .int .i64 v, .slice p args.length c] 32 (0, 0)) := (by rw [← hw1]; exact heap_alloc_new _ _); have q0 := cell_of_row _ _ 0 _ _ _ ho1; have q2 := cell_of_row _ _ 2 _ _ _ ho1; have q3 := cell_of_row _ _ 3 _ _ _ ho1; have q4 := cell_of_row _ _ 4 _ _ _ ho1; have q6 := cell_of_row _ _ 6 _ _ _ ho1; have HK := Lib.hid hk1; clear hw1 hk1 ho1))
    go_wp2_with (go_at_call 32; refine (within_calls _ _ _ _).mono ?_; rintro e w' ⟨rfl, rfl⟩; rw [hd])
    refine bodyPost_ret (results_tmp2 rfl _ _ _) rfl ?_
    exact ⟨rfl, HK.out⟩

set_option maxRecDepth 100000 in
set_option maxHeartbeats 8000000 in
theorem uses_calls (x : Ins) (w : World) (h : SliceV intEnc 1 w x.p x.args) (hl : x.args.length ≤ 1000000) : Calls Tryd.prog 67 #[x.val] w (IntsOut (usesOf x.k x.a x.b x.args) w) := by
  obtain ⟨k, op, d, a, b, v, p, c, args⟩ := x
  simp only [Ins.val]
  simp only at h hl
  have HS := Lib.hid h
  clear h
  by_cases h2 : k = 2
  · subst h2
    (rw [show usesOf 2 a b args = [a] from by simp [usesOf]]; (go_enter Tryd.func67, Tryd.ntmps67; go_upto_region 1 with (fail); (generalize hw1 : World.alloc _ _ = w1; have hk1 : Keep None w w1 := (by rw [← hw1]; exact (Keep.refl _ _).alloc _); have ho1 : w1.heap[w.heap.size]? = some (.cells #[.int .i64 2, .int .i64 op, .int .i64 d, .int .i64 a, .int .i64 b, .int .i64 v, .slice p args.length c] 32 (0, 0)) := (by rw [← hw1]; exact heap_alloc_new _ _); have q0 := cell_of_row _ _ 0 _ _ _ ho1; have q2 := cell_of_row _ _ 2 _ _ _ ho1; have q3 := cell_of_row _ _ 3 _ _ _ ho1; have q4 := cell_of_row _ _ 4 _ _ _ ho1; have q6 := cell_of_row _ _ 6 _ _ _ ho1; have HK := Lib.hid hk1; clear hw1 hk1 ho1)); go_wp2; go_ret; exact ⟨some ⟨_, 0, none⟩, 1, rfl, .inr ⟨_, 0, rfl, Arr.slAt (e := 3) intEnc_len (heap_alloc_new _ _)⟩, (by intro ad had; cases had; exact HK.out.size), HK.out.alloc _⟩)
  by_cases h3 : k = 3
  · subst h3
    (rw [show usesOf 3 a b args = [a] from by simp [usesOf]]; (go_enter Tryd.func67, Tryd.ntmps67; go_upto_region 1 with (fail); (generalize hw1 : World.alloc _ _ = w1; have hk1 : Keep None w w1 := (by rw [← hw1]; exact (Keep.refl _ _).alloc _); have ho1 : w1.heap[w.heap.size]? = some (.cells #[.int .i64 3, .int .i64 op, .int .i64 d, .int .i64 a, .int .i64 b, .int .i64 v, .slice p args.length c] 32 (0, 0)) := (by rw [← hw1]; exact heap_alloc_new _ _); have q0 := cell_of_row _ _ 0 _ _ _ ho1; have q2 := cell_of_row _ _ 2 _ _ _ ho1; have q3 := cell_of_row _ _ 3 _ _ _ ho1; have q4 := cell_of_row _ _ 4 _ _ _ ho1; have q6 := cell_of_row _ _ 6 _ _ _ ho1; have HK := Lib.hid hk1; clear hw1 hk1 ho1)); go_wp2; go_ret; exact ⟨some ⟨_, 0, none⟩, 1, rfl, .inr ⟨_, 0, rfl, Arr.slAt (e := 3) intEnc_len (heap_alloc_new _ _)⟩, (by intro ad had; cases had; exact HK.out.size), HK.out.alloc _⟩)
  by_cases h6 : k = 6
  · subst h6
    (rw [show usesOf 6 a b args = [a] from by simp [usesOf]]; (go_enter Tryd.func67, Tryd.ntmps67; go_upto_region 1 with (fail); (generalize hw1 : World.alloc _ _ = w1; have hk1 : Keep None w w1 := (by rw [← hw1]; exact (Keep.refl _ _).alloc _); have ho1 : w1.heap[w.heap.size]? = some (.cells #[.int .i64 6, .int .i64 op, .int .i64 d, .int .i64 a, .int .i64 b, .int .i64 v, .slice p args.length c] 32 (0, 0)) := (by rw [← hw1]; exact heap_alloc_new _ _); have q0 := cell_of_row _ _ 0 _ _ _ ho1; have q2 := cell_of_row _ _ 2 _ _ _ ho1; have q3 := cell_of_row _ _ 3 _ _ _ ho1; have q4 := cell_of_row _ _ 4 _ _ _ ho1; have q6 := cell_of_row _ _ 6 _ _ _ ho1; have HK := Lib.hid hk1; clear hw1 hk1 ho1)); go_wp2; go_ret; exact ⟨some ⟨_, 0, none⟩, 1, rfl, .inr ⟨_, 0, rfl, Arr.slAt (e := 3) intEnc_len (heap_alloc_new _ _)⟩, (by intro ad had; cases had; exact HK.out.size), HK.out.alloc _⟩)
  by_cases h7 : k = 7
  · subst h7
    (rw [show usesOf 7 a b args = [a] from by simp [usesOf]]; (go_enter Tryd.func67, Tryd.ntmps67; go_upto_region 1 with (fail); (generalize hw1 : World.alloc _ _ = w1; have hk1 : Keep None w w1 := (by rw [← hw1]; exact (Keep.refl _ _).alloc _); have ho1 : w1.heap[w.heap.size]? = some (.cells #[.int .i64 7, .int .i64 op, .int .i64 d, .int .i64 a, .int .i64 b, .int .i64 v, .slice p args.length c] 32 (0, 0)) := (by rw [← hw1]; exact heap_alloc_new _ _); have q0 := cell_of_row _ _ 0 _ _ _ ho1; have q2 := cell_of_row _ _ 2 _ _ _ ho1; have q3 := cell_of_row _ _ 3 _ _ _ ho1; have q4 := cell_of_row _ _ 4 _ _ _ ho1; have q6 := cell_of_row _ _ 6 _ _ _ ho1; have HK := Lib.hid hk1; clear hw1 hk1 ho1)); go_wp2; go_ret; exact ⟨some ⟨_, 0, none⟩, 1, rfl, .inr ⟨_, 0, rfl, Arr.slAt (e := 3) intEnc_len (heap_alloc_new _ _)⟩, (by intro ad had; cases had; exact HK.out.size), HK.out.alloc _⟩)
  by_cases h10 : k = 10
  · subst h10
    (rw [show usesOf 10 a b args = [a] from by simp [usesOf]]; (go_enter Tryd.func67, Tryd.ntmps67; go_upto_region 1 with (fail); (generalize hw1 : World.alloc _ _ = w1; have hk1 : Keep None w w1 := (by rw [← hw1]; exact (Keep.refl _ _).alloc _); have ho1 : w1.heap[w.heap.size]? = some (.cells #[.int .i64 10, .int .i64 op, .int .i64 d, .int .i64 a, .int .i64 b, .int .i64 v, .slice p args.length c] 32 (0, 0)) := (by rw [← hw1]; exact heap_alloc_new _ _); have q0 := cell_of_row _ _ 0 _ _ _ ho1; have q2 := cell_of_row _ _ 2 _ _ _ ho1; have q3 := cell_of_row _ _ 3 _ _ _ ho1; have q4 := cell_of_row _ _ 4 _ _ _ ho1; have q6 := cell_of_row _ _ 6 _ _ _ ho1; have HK := Lib.hid hk1; clear hw1 hk1 ho1)); go_wp2; go_ret; exact ⟨some ⟨_, 0, none⟩, 1, rfl, .inr ⟨_, 0, rfl, Arr.slAt (e := 3) intEnc_len (heap_alloc_new _ _)⟩, (by intro ad had; cases had; exact HK.out.size), HK.out.alloc _⟩)
  by_cases h4 : k = 4
  · subst h4
    (rw [show usesOf 4 a b args = [a, b] from by simp [usesOf]]; (go_enter Tryd.func67, Tryd.ntmps67; go_upto_region 1 with (fail); (generalize hw1 : World.alloc _ _ = w1; have hk1 : Keep None w w1 := (by rw [← hw1]; exact (Keep.refl _ _).alloc _); have ho1 : w1.heap[w.heap.size]? = some (.cells #[.int .i64 4, .int .i64 op, .int .i64 d, .int .i64 a, .int .i64 b, .int .i64 v, .slice p args.length c] 32 (0, 0)) := (by rw [← hw1]; exact heap_alloc_new _ _); have q0 := cell_of_row _ _ 0 _ _ _ ho1; have q2 := cell_of_row _ _ 2 _ _ _ ho1; have q3 := cell_of_row _ _ 3 _ _ _ ho1; have q4 := cell_of_row _ _ 4 _ _ _ ho1; have q6 := cell_of_row _ _ 6 _ _ _ ho1; have HK := Lib.hid hk1; clear hw1 hk1 ho1)); go_wp2; go_ret; exact ⟨some ⟨_, 0, none⟩, 2, rfl, .inr ⟨_, 0, rfl, Arr.slAt (e := 3) intEnc_len (heap_alloc_new _ _)⟩, (by intro ad had; cases had; exact HK.out.size), HK.out.alloc _⟩)
  by_cases h8 : k = 8
  · subst h8
    (rw [show usesOf 8 a b args = [a, b] from by simp [usesOf]]; (go_enter Tryd.func67, Tryd.ntmps67; go_upto_region 1 with (fail); (generalize hw1 : World.alloc _ _ = w1; have hk1 : Keep None w w1 := (by rw [← hw1]; exact (Keep.refl _ _).alloc _); have ho1 : w1.heap[w.heap.size]? = some (.cells #[.int .i64 8, .int .i64 op, .int .i64 d, .int .i64 a, .int .i64 b, .int .i64 v, .slice p args.length c] 32 (0, 0)) := (by rw [← hw1]; exact heap_alloc_new _ _); have q0 := cell_of_row _ _ 0 _ _ _ ho1; have q2 := cell_of_row _ _ 2 _ _ _ ho1; have q3 := cell_of_row _ _ 3 _ _ _ ho1; have q4 := cell_of_row _ _ 4 _ _ _ ho1; have q6 := cell_of_row _ _ 6 _ _ _ ho1; have HK := Lib.hid hk1; clear hw1 hk1 ho1)); go_wp2; go_ret; exact ⟨some ⟨_, 0, none⟩, 2, rfl, .inr ⟨_, 0, rfl, Arr.slAt (e := 3) intEnc_len (heap_alloc_new _ _)⟩, (by intro ad had; cases had; exact HK.out.size), HK.out.alloc _⟩)
  by_cases h11 : k = 11
  · subst h11
    rw [show usesOf 11 a b args = args from by simp [usesOf]]
    (go_enter Tryd.func67, Tryd.ntmps67; go_upto_region 1 with (fail); (generalize hw1 : World.alloc _ _ = w1; have hk1 : Keep None w w1 := (by rw [← hw1]; exact (Keep.refl _ _).alloc _); have ho1 : w1.heap[w.heap.size]? = some (.cells #[.int .i64 11, .int .i64 op, .int .i64 d, .int .i64 a, .int .i64 b, .int .i64 v, .slice p args.length c] 32 (0, 0)) := (by rw [← hw1]; exact heap_alloc_new _ _); have q0 := cell_of_row _ _ 0 _ _ _ ho1; have q2 := cell_of_row _ _ 2 _ _ _ ho1; have q3 := cell_of_row _ _ 3 _ _ _ ho1; have q4 := cell_of_row _ _ 4 _ _ _ ho1; have q6 := cell_of_row _ _ 6 _ _ _ ho1; have HK := Lib.hid hk1; clear hw1 hk1 ho1))
    go_wp2_with (go_at_call 16; refine (clone_calls _ _ _ _ (HS.out.keep HK.out (fun _ _ h => h)) (by omega)).mono ?_; rintro e w' ⟨p', c', rfl, ho, hk⟩; have HO := Lib.hid ho; have HK2 := Lib.hid hk; clear ho hk)
    go_ret
    obtain ⟨-, -, -, hsl, hfr⟩ := HO.out.reads intEnc_len
    exact ⟨p', c', rfl, hsl, (fun ad had => Nat.le_trans HK.out.size (hfr ad had)), HK.out.trans HK2.out⟩
  by_cases h12 : k = 12
  · obtain ⟨i2, hi2, hv0, hv1, hv2⟩ := info_parts Tryd.infoInt
    subst h12
    rw [show usesOf 12 a b args = a :: args from by simp [usesOf]]
    (go_enter Tryd.func67, Tryd.ntmps67; go_upto_region 1 with (fail); (generalize hw1 : World.alloc _ _ = w1; have hk1 : Keep None w w1 := (by rw [← hw1]; exact (Keep.refl _ _).alloc _); have ho1 : w1.heap[w.heap.size]? = some (.cells #[.int .i64 12, .int .i64 op, .int .i64 d, .int .i64 a, .int .i64 b, .int .i64 v, .slice p args.length c] 32 (0, 0)) := (by rw [← hw1]; exact heap_alloc_new _ _); have q0 := cell_of_row _ _ 0 _ _ _ ho1; have q2 := cell_of_row _ _ 2 _ _ _ ho1; have q3 := cell_of_row _ _ 3 _ _ _ ho1; have q4 := cell_of_row _ _ 4 _ _ _ ho1; have q6 := cell_of_row _ _ 6 _ _ _ ho1; have HK := Lib.hid hk1; clear hw1 hk1 ho1))
    have q6b : ∀ o, (w1.alloc o).cell? ⟨w.heap.size, 6, none⟩ = some (.slice p args.length c) := fun o => ((Keep.refl None w1).alloc o).cell q6 (fun h => h)
    go_wp2_with (at_builtin; go_loud (refine wpList_appendAll (enc := intEnc) rfl _ _ 30 rfl w1.heap.size _ i2 _ 8 Tryd.underlying30 hi2 hv0 hv1 hv2 rfl (by decide) intEnc_len (.slice (some ⟨w1.heap.size, 0, none⟩) 1 1) [a] rfl (Own.ofArr (enc := intEnc) intEnc_len (xs := [a]) (g := w1.heap.size) (show Arr intEnc 3 _ w1.heap.size [a] from heap_alloc_new _ _) (Nat.le_refl _) (by simp)) p args c rfl (HS.out.keep (HK.out.alloc _) (fun _ _ h => h)) (by intro x u hu; simp [intEnc] at hu; subst hu; rfl) (by simp; omega) (by simp; omega) ((Keep.refl None w1).alloc _).size ?_; intro p' c' w6 hown6 hk6 hd6; have HO6 := Lib.hid hown6; have HK6 := Lib.hid hk6; clear hown6 hk6 hd6))
    go_ret
    obtain ⟨-, -, -, hsl, hfr⟩ := HO6.out.reads intEnc_len
    exact ⟨p', c', by simp [Nat.add_comm], hsl, (fun ad had => Nat.le_trans HK.out.size (hfr ad had)), HK.out.trans (((Keep.refl None w1).alloc _).andThen HK6.out (by intro k hk hq; simp [Value.ownBlock] at hq; omega))⟩
  rw [show usesOf k a b args = [] from by simp [usesOf, *]]
  (go_enter Tryd.func67, Tryd.ntmps67; go_upto_region 1 with (fail); (generalize hw1 : World.alloc _ _ = w1; have hk1 : Keep None w w1 := (by rw [← hw1]; exact (Keep.refl _ _).alloc _); have ho1 : w1.heap[w.heap.size]? = some (.cells #[.int .i64 k, .int .i64 op, .int .i64 d, .int .i64 a, .int .i64 b, .int .i64 v, .slice p args.length c] 32 (0, 0)) := (by rw [← hw1]; exact heap_alloc_new _ _); have q0 := cell_of_row _ _ 0 _ _ _ ho1; have q2 := cell_of_row _ _ 2 _ _ _ ho1; have q3 := cell_of_row _ _ 3 _ _ _ ho1; have q4 := cell_of_row _ _ 4 _ _ _ ho1; have q6 := cell_of_row _ _ 6 _ _ _ ho1; have HK := Lib.hid hk1; clear hw1 hk1 ho1))
  go_wp2
  go_ret
  exact ⟨none, 0, rfl, .inl rfl, (by intro ad had; cases had), HK.out⟩

end Go.Proofs.YtgkbjdphkmmmhaaDoor
