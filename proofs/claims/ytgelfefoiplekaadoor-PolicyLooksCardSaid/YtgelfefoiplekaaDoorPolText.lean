/-
  Chapter 44: the text of a policy; a plain law of bytes.
-/
import Derived.Lib.ItoaNum
import Derived.Lib.IndexMore
import Derived.Lib.SplitLaws
namespace Go.Proofs.YtgelfefoiplekaaDoor.PN
open Go

abbrev Bs := List UInt8

/-- What stands before the first c, and behind it. -/
def ct (c : UInt8) : Bs → Bs × Bs
  | [] => ([], [])
  | x :: r => if x = c then ([], r) else (x :: (ct c r).1, (ct c r).2)
/-- The pieces between all c. -/
def sp (c : UInt8) : Bs → List Bs
  | [] => [[]]
  | x :: r => if x = c then [] :: sp c r else (x :: (sp c r).headD []) :: (sp c r).tail

theorem sp_ne (c : UInt8) : ∀ s, sp c s ≠ []
  | [] => by simp [sp]
  | x :: r => by unfold sp; split <;> simp
def joinC (c : UInt8) : List Bs → Bs
  | [] => []
  | [l] => l
  | l :: m :: ls => l ++ c :: joinC c (m :: ls)
theorem joinC_cons (c : UInt8) (l : Bs) {ls : List Bs} (h : ls ≠ []) : joinC c (l :: ls) = l ++ c :: joinC c ls := by
  cases ls with
  | nil => exact absurd rfl h
  | cons m ls => rfl
theorem join_sp (c : UInt8) : ∀ s, joinC c (sp c s) = s
  | [] => rfl
  | x :: r => by
    have ih := join_sp c r
    have hne := sp_ne c r
    unfold sp
    by_cases h : x = c
    · rw [if_pos h, joinC_cons _ _ hne, ih, h]; rfl
    · rw [if_neg h]
      cases hs : sp c r with
      | nil => exact absurd hs hne
      | cons l ls =>
        rw [hs] at ih
        simp only [List.headD_cons, List.tail_cons]
        cases ls with
        | nil => simp only [joinC] at ih ⊢; rw [ih]
        | cons m ls => simp only [joinC, List.cons_append] at ih ⊢; rw [ih]
theorem sp_one (c : UInt8) : ∀ s, (∀ x ∈ s, x ≠ c) → sp c s = [s]
  | [], _ => rfl
  | x :: r, h => by
    unfold sp
    rw [if_neg (h x (by simp)), sp_one c r (fun y hy => h y (by simp [hy]))]; rfl
theorem sp_more (c : UInt8) (r : Bs) : ∀ s, (∀ x ∈ s, x ≠ c) → sp c (s ++ c :: r) = s :: sp c r
  | [], _ => by rw [List.nil_append, sp, if_pos rfl]
  | x :: s, h => by
    rw [List.cons_append, sp, if_neg (h x (by simp)), sp_more c r s (fun y hy => h y (by simp [hy]))]; rfl
theorem ct_more (c : UInt8) (r : Bs) : ∀ s, (∀ x ∈ s, x ≠ c) → ct c (s ++ c :: r) = (s, r)
  | [], _ => by simp [ct]
  | x :: s, h => by
    rw [List.cons_append, ct, if_neg (h x (by simp)), ct_more c r s (fun y hy => h y (by simp [hy]))]
theorem ct_none (c : UInt8) : ∀ s, (∀ x ∈ s, x ≠ c) → ct c s = (s, [])
  | [], _ => rfl
  | x :: s, h => by rw [ct, if_neg (h x (by simp)), ct_none c s (fun y hy => h y (by simp [hy]))]
theorem ct_or (c : UInt8) : ∀ s, (∃ a r, s = a ++ c :: r ∧ (∀ x ∈ a, x ≠ c) ∧ ct c s = (a, r)) ∨ ((∀ x ∈ s, x ≠ c) ∧ ct c s = (s, []))
  | [] => .inr ⟨by simp, rfl⟩
  | x :: s => by
    by_cases h : x = c
    · refine .inl ⟨[], s, by rw [h]; rfl, by simp, by rw [ct, if_pos h]⟩
    · rcases ct_or c s with ⟨a, r, e, ha, hc⟩ | ⟨ha, hc⟩
      · refine .inl ⟨x :: a, r, by rw [e]; rfl, ?_, by rw [ct, if_neg h, hc]⟩
        intro y hy
        rcases List.mem_cons.1 hy with rfl | hy
        · exact h
        · exact ha y hy
      · refine .inr ⟨?_, by rw [ct, if_neg h, hc]⟩
        intro y hy
        rcases List.mem_cons.1 hy with rfl | hy
        · exact h
        · exact ha y hy

/-! ### Numbers -/

abbrev dec (n : Int) : Bs := Lib.decDigits n.toNat
def isDig (d : UInt8) : Bool := decide (48 ≤ d.toNat) && decide (d.toNat ≤ 57)
def val (l : Bs) : Nat := l.foldl (fun n d => n * 10 + (d.toNat - 48)) 0
def numOk (l : Bs) : Bool := decide (1 ≤ l.length) && decide (l.length ≤ 9) && !(decide (1 < l.length) && l.headD 0 == 48) && l.all isDig
def number (l : Bs) : Option Int := if numOk l then some (val l) else none

theorem val_snoc (l : Bs) (d : UInt8) : val (l ++ [d]) = val l * 10 + (d.toNat - 48) := by simp [val]
theorem dec_small {u : Nat} (h : u < 10) : Lib.decDigits u = [UInt8.ofNat (48 + u)] := Lib.decDigits_one h
theorem dec_big {u : Nat} (h : ¬ u < 10) : Lib.decDigits u = Lib.decDigits (u / 10) ++ [UInt8.ofNat (48 + u % 10)] := by rw [Lib.decDigits, dif_neg h]
theorem dig_nat {k : Nat} (h : k < 10) : (UInt8.ofNat (48 + k)).toNat = 48 + k := by simp; omega

theorem dec_dig (u : Nat) : ∀ d ∈ Lib.decDigits u, isDig d = true := by
  induction u using Nat.strongRecOn with
  | _ u ih =>
    intro d hd
    by_cases h : u < 10
    · rw [dec_small h] at hd
      simp only [List.mem_singleton] at hd
      subst hd
      simp only [isDig, dig_nat h, Bool.and_eq_true, decide_eq_true_eq]; omega
    · rw [dec_big h] at hd
      rcases List.mem_append.1 hd with hd | hd
      · exact ih (u / 10) (by omega) d hd
      · simp only [List.mem_singleton] at hd
        subst hd
        simp only [isDig, dig_nat (Nat.mod_lt u (by omega)), Bool.and_eq_true, decide_eq_true_eq]; omega
theorem dec_val (u : Nat) : val (Lib.decDigits u) = u := by
  induction u using Nat.strongRecOn with
  | _ u ih =>
    by_cases h : u < 10
    · rw [dec_small h]; simp only [val, List.foldl_cons, List.foldl_nil, dig_nat h]; omega
    · rw [dec_big h, val_snoc, ih (u / 10) (by omega), dig_nat (Nat.mod_lt u (by omega))]; omega
theorem dec_ne (u : Nat) : Lib.decDigits u ≠ [] := by
  by_cases h : u < 10
  · rw [dec_small h]; simp
  · rw [dec_big h]; simp
theorem dec_head {u : Nat} (h : 1 ≤ u) : (Lib.decDigits u).headD 0 ≠ 48 := by
  induction u using Nat.strongRecOn with
  | _ u ih =>
    by_cases h1 : u < 10
    · rw [dec_small h1]
      simp only [List.headD_cons]
      intro e
      have := congrArg UInt8.toNat e
      rw [dig_nat h1] at this
      have h48 : (48 : UInt8).toNat = 48 := rfl
      omega
    · rw [dec_big h1]
      have := ih (u / 10) (by omega) (by omega)
      cases hd : Lib.decDigits (u / 10) with
      | nil => exact absurd hd (dec_ne _)
      | cons x r => rw [hd] at this; simpa using this
theorem dec_len (u : Nat) : (Lib.decDigits u).length = Lib.nDigits u := Lib.decDigits_length u
theorem nDig_le (u k : Nat) (h : u < 10 ^ (k + 1)) : Lib.nDigits u ≤ k + 1 := by
  induction k generalizing u with
  | zero => rw [Lib.nDigits_small (by simpa using h)]; omega
  | succ k ih =>
    by_cases h1 : u < 10
    · rw [Lib.nDigits_small h1]; omega
    · rw [Lib.nDigits_big h1]
      have := ih (u / 10) (by rw [Nat.pow_succ] at h; omega)
      omega
theorem dec_ok {n : Int} (h0 : 0 ≤ n) (h1 : n < 1000000000) : number (dec n) = some n := by
  unfold number
  have hlen : (Lib.decDigits n.toNat).length ≤ 9 := by rw [dec_len]; exact nDig_le _ 8 (by omega)
  have hne : 1 ≤ (Lib.decDigits n.toNat).length := by
    have := dec_ne n.toNat
    cases hd : Lib.decDigits n.toNat with
    | nil => exact absurd hd this
    | cons x r => simp
  have hall : (Lib.decDigits n.toNat).all isDig = true := List.all_eq_true.2 (dec_dig n.toNat)
  have hz : (!(decide (1 < (Lib.decDigits n.toNat).length) && (Lib.decDigits n.toNat).headD 0 == 48)) = true := by
    by_cases hp : 1 ≤ n.toNat
    · have := dec_head hp
      have h2 : ((Lib.decDigits n.toNat).headD 0 == 48) = false := by simpa using this
      rw [h2]; simp
    · have hn : n.toNat = 0 := by omega
      rw [hn, dec_small (by omega)]; rfl
  have : numOk (dec n) = true := by
    unfold numOk dec
    rw [hall, hz]
    simp [hlen, hne]
  rw [if_pos this, dec_val]
  congr 1
  omega

theorem val_bound : ∀ (l : Bs), l.all isDig = true → val l < 10 ^ l.length := by
  intro l
  induction hl : l.length generalizing l with
  | zero => intro _; have : l = [] := by cases l; rfl; simp at hl
            subst this; decide
  | succ k ih =>
    intro h
    obtain ⟨m, d, rfl⟩ : ∃ m d, l = m ++ [d] := by
      have hne : l ≠ [] := by intro e; simp [e] at hl
      exact ⟨l.dropLast, l.getLast hne, (List.dropLast_concat_getLast hne).symm⟩
    simp only [List.length_append, List.length_singleton] at hl
    rw [List.all_append, Bool.and_eq_true] at h
    have h1 := ih m (by omega) h.1
    have h2 : isDig d = true := by simpa using h.2
    simp only [isDig, Bool.and_eq_true, decide_eq_true_eq] at h2
    rw [val_snoc, Nat.pow_succ]
    omega

/-- A numeral without a leading 0 is that of its value. -/
theorem val_dec : ∀ (l : Bs), l ≠ [] → l.all isDig = true → (1 < l.length → l.headD 0 ≠ 48) → Lib.decDigits (val l) = l := by
  intro l
  induction hl : l.length generalizing l with
  | zero => intro h; exact absurd (by cases l; rfl; simp at hl) h
  | succ k ih =>
    intro hne h hz
    obtain ⟨m, d, rfl⟩ : ∃ m d, l = m ++ [d] := ⟨l.dropLast, l.getLast hne, (List.dropLast_concat_getLast hne).symm⟩
    simp only [List.length_append, List.length_singleton] at hl
    rw [List.all_append, Bool.and_eq_true] at h
    have h2 : isDig d = true := by simpa using h.2
    simp only [isDig, Bool.and_eq_true, decide_eq_true_eq] at h2
    rw [val_snoc]
    have hd48 : UInt8.ofNat (48 + (d.toNat - 48)) = d := by
      apply UInt8.toNat_inj.1
      rw [dig_nat (by omega)]; omega
    by_cases hm : m = []
    · subst hm
      have : val ([] : Bs) = 0 := rfl
      rw [this, Nat.zero_mul, Nat.zero_add, dec_small (by omega), hd48]; rfl
    · have hml : 1 ≤ m.length := by cases m; exact absurd rfl hm; simp
      have hhd : m.headD 0 ≠ 48 := by
        have := hz (by omega)
        cases m with
        | nil => exact absurd rfl hm
        | cons x r => simpa using this
      have ih1 := ih m (by omega) hm h.1 (fun _ => hhd)
      have hv : 1 ≤ val m := by
        rcases Nat.eq_zero_or_pos (val m) with h0 | h0
        · rw [h0, dec_small (by omega)] at ih1
          rw [← ih1] at hhd
          exact absurd rfl hhd
        · exact h0
      rw [dec_big (by omega), show (val m * 10 + (d.toNat - 48)) / 10 = val m by omega, show (val m * 10 + (d.toNat - 48)) % 10 = d.toNat - 48 by omega, ih1, hd48]
theorem number_dec {l : Bs} {n : Int} (h : number l = some n) : dec n = l ∧ 0 ≤ n ∧ n < 1000000000 := by
  unfold number at h
  by_cases ho : numOk l = true
  · rw [if_pos ho] at h
    injection h with h
    subst h
    unfold numOk at ho
    simp only [Bool.and_eq_true, decide_eq_true_eq] at ho
    obtain ⟨⟨⟨h1, h2⟩, h3⟩, h4⟩ := ho
    have hb := val_bound l h4
    have hp : 10 ^ l.length ≤ 10 ^ 9 := Nat.pow_le_pow_right (by omega) h2
    refine ⟨?_, by omega, by omega⟩
    unfold dec
    rw [Int.toNat_natCast]
    refine val_dec l (by intro e; simp [e] at h1) h4 fun hl => ?_
    intro e
    rw [e] at h3
    simp [hl] at h3
  · rw [if_neg ho] at h; cases h

theorem dig_ne {d c : UInt8} (hd : isDig d = true) (hc : isDig c = false) : d ≠ c := by rintro rfl; rw [hd] at hc; cases hc
theorem dec_no {n : Int} {c : UInt8} (hc : isDig c = false) : ∀ x ∈ dec n, x ≠ c := fun x hx => dig_ne (dec_dig _ x hx) hc

/-! ### Lines -/

/-- A line "first N second N". -/
def two (line word between : Bs) : Option (Int × Int) :=
  match sp 32 line with
  | [a, b, c, d] => if a = word ∧ c = between then (match number b, number d with | some x, some y => some (x, y) | _, _ => none) else none
  | _ => none
def twoText (word between : Bs) (x y : Int) : Bs := word ++ 32 :: (dec x ++ 32 :: (between ++ 32 :: dec y))

theorem two_text {word between : Bs} (hw : ∀ x ∈ word, x ≠ 32) (hb : ∀ x ∈ between, x ≠ 32) {x y : Int} (hx : 0 ≤ x ∧ x < 1000000000) (hy : 0 ≤ y ∧ y < 1000000000) : two (twoText word between x y) word between = some (x, y) := by
  unfold two twoText
  rw [sp_more _ _ _ hw, sp_more _ _ _ (dec_no (by decide)), sp_more _ _ _ hb, sp_one _ _ (dec_no (by decide))]
  simp only [and_self, if_true]
  rw [dec_ok hx.1 hx.2, dec_ok hy.1 hy.2]
theorem two_back {line word between : Bs} {x y : Int} (h : two line word between = some (x, y)) : line = twoText word between x y ∧ (0 ≤ x ∧ x < 1000000000) ∧ (0 ≤ y ∧ y < 1000000000) := by
  have hj := join_sp 32 line
  unfold two at h
  split at h
  case h_1 a b c d hs =>
    by_cases hac : a = word ∧ c = between
    · rw [if_pos hac] at h
      obtain ⟨rfl, rfl⟩ := hac
      cases hb : number b with
      | none => rw [hb] at h; simp at h
      | some x' =>
        cases hd : number d with
        | none => rw [hb, hd] at h; simp at h
        | some y' =>
          rw [hb, hd] at h
          simp at h
          obtain ⟨rfl, rfl⟩ := h
          obtain ⟨e1, e2⟩ := number_dec hb
          obtain ⟨e3, e4⟩ := number_dec hd
          refine ⟨?_, e2, e4⟩
          rw [hs] at hj
          rw [← hj]
          simp only [joinC, twoText, e1, e3]
    · rw [if_neg hac] at h; cases h
  case h_2 => cases h

def wMargin : Bs := [109, 97, 114, 103, 105, 110]
def wLevel : Bs := [108, 101, 118, 101, 108]
def wStage : Bs := [115, 116, 97, 103, 101]
def wAfter : Bs := [97, 102, 116, 101, 114]
def wSlash : Bs := [47]

def margin (line : Bs) : Option Int := if (ct 32 line).1 = wMargin then number (ct 32 line).2 else none
def marginText (m : Int) : Bs := wMargin ++ 32 :: dec m
theorem margin_text {m : Int} (h : 0 ≤ m ∧ m < 1000000000) : margin (marginText m) = some m := by
  unfold margin marginText
  rw [ct_more _ _ _ (by decide), if_pos rfl, dec_ok h.1 h.2]
theorem margin_back {line : Bs} {m : Int} (h : margin line = some m) : line = marginText m ∧ (0 ≤ m ∧ m < 1000000000) := by
  unfold margin at h
  by_cases hw : (ct 32 line).1 = wMargin
  · rw [if_pos hw] at h
    obtain ⟨e1, e2⟩ := number_dec h
    refine ⟨?_, e2⟩
    rcases ct_or 32 line with ⟨a, r, e, ha, hc⟩ | ⟨ha, hc⟩
    · rw [hc] at hw e1
      simp only at hw e1
      rw [e, hw, marginText, e1]
    · rw [hc] at e1
      exact absurd e1 (dec_ne _)
  · rw [if_neg hw] at h; cases h

def stage (line : Bs) : Option (Int × Int) := two line wStage wAfter
def level (line : Bs) : Option (Int × Int) := two line wLevel wSlash

theorem ct_shorter (c : UInt8) (s : Bs) (h : s ≠ []) : (ct c s).2.length < s.length := by
  rcases ct_or c s with ⟨a, r, e, ha, hc⟩ | ⟨ha, hc⟩
  · rw [hc, e]; simp; omega
  · rw [hc]
    have : 0 < s.length := List.length_pos_iff.2 h
    simpa using this
/-- The lines of a text. -/
def lines : Bs → List Bs
  | [] => []
  | x :: r => (ct 10 (x :: r)).1 :: lines (ct 10 (x :: r)).2
termination_by s => s.length
decreasing_by exact ct_shorter 10 _ (by simp)
theorem lines_nil : lines [] = [] := by rw [lines]
theorem lines_cons {s : Bs} (h : s ≠ []) : lines s = (ct 10 s).1 :: lines (ct 10 s).2 := by
  cases s with
  | nil => exact absurd rfl h
  | cons x r => rw [lines]

def nl (ls : List Bs) : Bs := ls.flatMap (· ++ [10])
theorem lines_nl : ∀ (ls : List Bs), (∀ l ∈ ls, ∀ x ∈ l, x ≠ 10) → lines (nl ls) = ls
  | [], _ => lines_nil
  | l :: ls, h => by
    have e : nl (l :: ls) = l ++ 10 :: nl ls := by simp [nl]
    rw [e, lines_cons (by simp), ct_more _ _ _ (h l (by simp)), lines_nl ls (fun m hm => h m (by simp [hm]))]
theorem nl_lines (s : Bs) : nl (lines s) = s ∨ nl (lines s) = s ++ [10] := by
  induction hl : s.length using Nat.strongRecOn generalizing s with
  | _ k ih =>
    by_cases h : s = []
    · subst h; rw [lines_nil]; exact .inl rfl
    · rw [lines_cons h]
      have hlt := ct_shorter 10 s h
      have h2 := ih _ (by omega) (ct 10 s).2 rfl
      have e : nl ((ct 10 s).1 :: lines (ct 10 s).2) = (ct 10 s).1 ++ 10 :: nl (lines (ct 10 s).2) := by simp [nl]
      rw [e]
      rcases ct_or 10 s with ⟨a, r, e2, ha, hc⟩ | ⟨ha, hc⟩
      · rw [hc] at h2 ⊢
        simp only at h2 ⊢
        rcases h2 with h2 | h2
        · rw [h2]; exact .inl e2.symm
        · rw [h2]; right; rw [e2]; simp
      · rw [hc]
        simp only
        rw [lines_nil]
        right
        simp [nl]

/-! ### Policies -/

structure Pol where
  num : Int
  den : Int
  margin : Int
  st : List (Int × Int)

/-- Each stage is greater than the one before it. -/
def asc : Int × Int → List (Int × Int) → Bool
  | _, [] => true
  | (a, b), (x, y) :: r => decide (a < x) && decide (x ≤ 100) && decide (b < y) && decide (y ≤ 60) && asc (x, y) r

def shareB (num den : Int) (looks : Nat) : Bool :=
  decide (1 ≤ den) && decide (den ≤ 1000000) && decide (0 ≤ num) && decide (num ≤ den) && decide (1 ≤ looks) && decide (looks ≤ 8) && decide (den * looks ≤ 1000000)
def validB (p : Pol) : Bool :=
  decide (1 ≤ p.st.length) && decide (p.st.length ≤ 8) && decide (0 ≤ p.margin) && decide (p.margin ≤ 1000) && asc (0, 0) p.st && shareB p.num p.den p.st.length

theorem asc_bounds : ∀ (l : List (Int × Int)) (a b : Int), 0 ≤ a → 0 ≤ b → asc (a, b) l = true → ∀ s ∈ l, (a < s.1 ∧ s.1 ≤ 100) ∧ (b < s.2 ∧ s.2 ≤ 60)
  | [], _, _, _, _, _, s, hs => by simp at hs
  | (x, y) :: r, a, b, ha, hb, h, s, hs => by
    simp only [asc, Bool.and_eq_true, decide_eq_true_eq] at h
    obtain ⟨⟨⟨⟨h1, h2⟩, h3⟩, h4⟩, h5⟩ := h
    rcases List.mem_cons.1 hs with rfl | hs
    · exact ⟨⟨h1, h2⟩, h3, h4⟩
    · have := asc_bounds r x y (by omega) (by omega) h5 s hs
      omega

structure Good (p : Pol) : Prop where
  n1 : 1 ≤ p.st.length
  n8 : p.st.length ≤ 8
  m0 : 0 ≤ p.margin
  m1 : p.margin ≤ 1000
  st : ∀ s ∈ p.st, (1 ≤ s.1 ∧ s.1 ≤ 100) ∧ (1 ≤ s.2 ∧ s.2 ≤ 60)
  d1 : 1 ≤ p.den
  d2 : p.den ≤ 1000000
  u0 : 0 ≤ p.num
  u1 : p.num ≤ p.den
  dl : p.den * p.st.length ≤ 1000000
theorem valid_good {p : Pol} (h : validB p = true) : Good p := by
  unfold validB shareB at h
  simp only [Bool.and_eq_true, decide_eq_true_eq] at h
  obtain ⟨⟨⟨⟨⟨a1, a2⟩, a3⟩, a4⟩, a5⟩, ⟨⟨⟨⟨⟨⟨b1, b2⟩, b3⟩, b4⟩, b5⟩, b6⟩, b7⟩⟩ := h
  refine ⟨a1, a2, a3, a4, fun s hs => ?_, b1, b2, b3, b4, b7⟩
  have := asc_bounds p.st 0 0 (by omega) (by omega) a5 s hs
  omega

def stagesOf : List Bs → Option (List (Int × Int))
  | [] => some []
  | l :: ls => match stage l, stagesOf ls with | some s, some r => some (s :: r) | _, _ => none
def readLines : List Bs → Option Pol
  | a :: b :: ls => match level a, margin b, stagesOf ls with | some l, some m, some s => some ⟨l.1, l.2, m, s⟩ | _, _, _ => none
  | _ => none
def parse (s : Bs) : Option Pol := match readLines (lines s) with | some p => if validB p then some p else none | none => none

def stageText (s : Int × Int) : Bs := twoText wStage wAfter s.1 s.2
def linesOf (p : Pol) : List Bs := twoText wLevel wSlash p.num p.den :: marginText p.margin :: p.st.map stageText
def format (p : Pol) : Bs := nl (linesOf p)

theorem stagesOf_text : ∀ (l : List (Int × Int)), (∀ s ∈ l, (1 ≤ s.1 ∧ s.1 ≤ 100) ∧ (1 ≤ s.2 ∧ s.2 ≤ 60)) → stagesOf (l.map stageText) = some l
  | [], _ => rfl
  | (x, y) :: r, h => by
    have h1 := h (x, y) (by simp)
    simp only at h1
    rw [List.map_cons, stagesOf, stagesOf_text r (fun s hs => h s (by simp [hs]))]
    unfold stage stageText
    rw [two_text (by decide) (by decide) (by simp only; omega) (by simp only; omega)]
theorem stagesOf_back : ∀ (ls : List Bs) (l : List (Int × Int)), stagesOf ls = some l → ls = l.map stageText
  | [], l, h => by simp [stagesOf] at h; subst h; rfl
  | a :: ls, l, h => by
    unfold stagesOf at h
    cases hs : stage a with
    | none => rw [hs] at h; simp at h
    | some s =>
      cases hr : stagesOf ls with
      | none => rw [hs, hr] at h; simp at h
      | some r =>
        rw [hs, hr] at h
        simp at h
        subst h
        rw [List.map_cons, ← stagesOf_back ls r hr]
        congr 1
        exact (two_back (x := s.1) (y := s.2) hs).1
theorem twoText_no {w b : Bs} (hw : ∀ x ∈ w, x ≠ 10) (hb : ∀ x ∈ b, x ≠ 10) (x y : Int) : ∀ z ∈ twoText w b x y, z ≠ 10 := by
  intro z hz
  simp only [twoText, List.mem_append, List.mem_cons] at hz
  rcases hz with hz | rfl | hz | rfl | hz | rfl | hz
  · exact hw z hz
  · decide
  · exact dec_no (by decide) z hz
  · decide
  · exact hb z hz
  · decide
  · exact dec_no (by decide) z hz
theorem linesOf_no (p : Pol) : ∀ l ∈ linesOf p, ∀ x ∈ l, x ≠ 10 := by
  intro l hl
  simp only [linesOf, List.mem_cons, List.mem_map] at hl
  rcases hl with rfl | rfl | ⟨s, _, rfl⟩
  · exact twoText_no (by decide) (by decide) _ _
  · intro z hz
    simp only [marginText, List.mem_append, List.mem_cons] at hz
    rcases hz with hz | rfl | hz
    · revert z; decide
    · decide
    · exact dec_no (by decide) z hz
  · exact twoText_no (by decide) (by decide) _ _

/-- A valid policy survives its text. -/
theorem parse_format {p : Pol} (h : validB p = true) : parse (format p) = some p := by
  have g := valid_good h
  unfold parse format
  rw [lines_nl _ (linesOf_no p)]
  have e : readLines (linesOf p) = some p := by
    unfold linesOf readLines
    simp only
    unfold level
    have h1 := g.u0
    have h2 := g.u1
    have h3 := g.d1
    have h4 := g.d2
    have h5 := g.m0
    have h6 := g.m1
    rw [two_text (by decide) (by decide) (by omega) (by omega), margin_text (by omega), stagesOf_text _ g.st]
  rw [e]
  simp only
  rw [if_pos h]

theorem readLines_back {ls : List Bs} {p : Pol} (h : readLines ls = some p) : ls = linesOf p := by
  match ls, h with
  | a :: b :: ls, h =>
    simp only [readLines] at h
    cases hl : level a with
    | none => rw [hl] at h; simp at h
    | some l =>
      cases hm : margin b with
      | none => rw [hl, hm] at h; simp at h
      | some m =>
        cases hs : stagesOf ls with
        | none => rw [hl, hm, hs] at h; simp at h
        | some s =>
          rw [hl, hm, hs] at h
          simp at h
          subst h
          unfold linesOf
          simp only
          rw [(two_back (x := l.1) (y := l.2) hl).1, (margin_back hm).1, stagesOf_back ls s hs]

/-- A text that is read is that of the policy, but for the line feed at its end. -/
theorem format_parse {x : Bs} {p : Pol} (h : parse x = some p) : validB p = true ∧ (format p = x ∨ format p = x ++ [10]) := by
  unfold parse at h
  cases hr : readLines (lines x) with
  | none => rw [hr] at h; simp at h
  | some q =>
    rw [hr] at h
    simp only at h
    by_cases hv : validB q = true
    · rw [if_pos hv] at h
      injection h with h
      subst h
      refine ⟨hv, ?_⟩
      unfold format
      rw [← readLines_back hr]
      exact nl_lines x
    · rw [if_neg hv] at h; cases h

end Go.Proofs.YtgelfefoiplekaaDoor.PN
