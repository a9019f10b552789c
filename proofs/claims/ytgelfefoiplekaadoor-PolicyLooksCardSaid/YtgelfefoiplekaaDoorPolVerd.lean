/-
  Chapter 44: the verdict of a policy; a plain law.
-/
import Derived.Test.YtgelfefoiplekaaDoorPolCount
import Derived.Test.YtgelfefoiplekaaDoorPolText
namespace Go.Proofs.YtgelfefoiplekaaDoor.PN

abbrev Pr := Int × Int

def meas (n : Int) : Bool := decide (0 ≤ n) && decide (n ≤ 1099511627776)
def worseB (m : Int) (x : Pr) : Bool := decide ((1000 + m) * x.1 < 1000 * x.2)
def betterB (m : Int) (x : Pr) : Bool := decide ((1000 + m) * x.2 < 1000 * x.1)
def nw (m : Int) (l : List Pr) : Nat := l.countP (worseB m)
def nb (m : Int) (l : List Pr) : Nat := l.countP (betterB m)
def okPr (x : Pr) : Bool := meas x.1 && meas x.2
/-- The numbers of better and worse pairs, or none. -/
def signs (m : Int) (l : List Pr) : Option (Nat × Nat) :=
  if decide (0 ≤ m) && decide (m ≤ 1000) && decide (l.length ≤ 60) && l.all okPr then some (nb m l, nw m l) else none

theorem not_both {m : Int} {x : Pr} (hm : 0 ≤ m) (hx : okPr x = true) (hw : worseB m x = true) : betterB m x = false := by
  simp only [okPr, meas, Bool.and_eq_true, decide_eq_true_eq] at hx
  simp only [worseB, decide_eq_true_eq] at hw
  simp only [betterB, decide_eq_false_iff_not]
  have h1 : 0 ≤ m * x.1 := Int.mul_nonneg hm hx.1.1
  have h2 : 0 ≤ m * x.2 := Int.mul_nonneg hm hx.2.1
  rw [Int.add_mul] at *
  omega
theorem nb_nw_le {m : Int} (hm : 0 ≤ m) : ∀ (l : List Pr), l.all okPr = true → nb m l + nw m l ≤ l.length
  | [], _ => by simp [nb, nw]
  | x :: l, h => by
    simp only [List.all_cons, Bool.and_eq_true] at h
    have ih := nb_nw_le hm l h.2
    unfold nb nw at *
    rw [List.countP_cons, List.countP_cons, List.length_cons]
    cases hw : worseB m x with
    | true => rw [not_both hm h.1 hw]; simp; omega
    | false => cases betterB m x <;> simp <;> omega

/-- What is seen at a look: whether the first k pairs are significantly worse. -/
def lookB (p : Pol) (l : List Pr) (k : Nat) : Bool := sig (nb p.margin (l.take k) + nw p.margin (l.take k)) (nw p.margin (l.take k)) p.num.toNat (p.den.toNat * p.st.length)

def verd (look : Nat → Bool) (len : Nat) : List (Int × Int) → Nat → Int × Nat
  | [], i => (3, i)
  | s :: r, i => if len < s.2.toNat then (1, i) else if look s.2.toNat then (2, i) else verd look len r (i + 1)

/-- The verdict: the verdict, the stage, the error. -/
def verdict (p : Pol) (l : List Pr) : Int × Int × Int :=
  if validB p = false then (0, 0, 43) else if signs p.margin l = none then (0, 0, 1) else ((verd (lookB p l) l.length p.st 0).1, (verd (lookB p l) l.length p.st 0).2, 0)

theorem verd_ge (look : Nat → Bool) (len : Nat) : ∀ (st : List (Int × Int)) (i : Nat), i ≤ (verd look len st i).2 ∧ 1 ≤ (verd look len st i).1 ∧ (verd look len st i).1 ≤ 3
  | [], i => by simp [verd]
  | s :: r, i => by
    unfold verd
    split
    · simp
    · split
      · simp
      · have := verd_ge look len r (i + 1)
        omega

/-- More pairs never change a verdict that is final. -/
theorem verd_stays {look look' : Nat → Bool} {k n : Nat} (hk : k ≤ n) (hl : ∀ j, j ≤ k → look j = look' j) : ∀ (st : List (Int × Int)) (i : Nat),
    (verd look k st i).2 ≤ (verd look' n st i).2 ∧ ((verd look k st i).1 = 1 ∨ verd look k st i = verd look' n st i)
  | [], i => by simp [verd]
  | s :: r, i => by
    have hge := verd_ge look' n (s :: r) i
    by_cases h1 : k < s.2.toNat
    · have e : verd look k (s :: r) i = (1, i) := by rw [verd, if_pos h1]
      rw [e]
      exact ⟨hge.1, .inl rfl⟩
    · have h2 : ¬ n < s.2.toNat := by omega
      rw [verd, verd, if_neg h1, if_neg h2, hl _ (by omega)]
      by_cases h3 : look' s.2.toNat = true
      · rw [if_pos h3, if_pos h3]; exact ⟨Nat.le_refl _, .inr rfl⟩
      · rw [if_neg h3, if_neg h3]; exact verd_stays hk hl r (i + 1)

/-- Worse measurements. -/
theorem verd_worse {look look' : Nat → Bool} {n : Nat} (hl : ∀ j, look j = true → look' j = true) : ∀ (st : List (Int × Int)) (i : Nat),
    ((verd look n st i).1 = 2 → (verd look' n st i).1 = 2 ∧ (verd look' n st i).2 ≤ (verd look n st i).2) ∧ ((verd look' n st i).1 = 3 → (verd look n st i).1 = 3) ∧
    ((verd look' n st i).1 = 1 → (verd look n st i).1 = 1 ∧ (verd look n st i).2 = (verd look' n st i).2)
  | [], i => by simp [verd]
  | s :: r, i => by
    have hge := verd_ge look n r (i + 1)
    rw [verd, verd]
    by_cases h1 : n < s.2.toNat
    · rw [if_pos h1, if_pos h1]; simp
    · rw [if_neg h1, if_neg h1]
      by_cases h2 : look s.2.toNat = true
      · rw [if_pos h2, if_pos (hl _ h2)]; simp
      · rw [if_neg h2]
        by_cases h3 : look' s.2.toNat = true
        · rw [if_pos h3]
          refine ⟨fun _ => ⟨rfl, by simp only; omega⟩, fun h => by simp at h, fun h => by simp at h⟩
        · rw [if_neg h3]; exact verd_worse hl r (i + 1)

/-- Pairs of which the new ones are greater. -/
def Worse : List Pr → List Pr → Prop
  | [], [] => True
  | x :: l, y :: m => x.1 = y.1 ∧ x.2 ≤ y.2 ∧ Worse l m
  | _, _ => False
theorem Worse.take : ∀ {l m : List Pr}, Worse l m → ∀ k, Worse (l.take k) (m.take k)
  | [], [], _, _ => by simp [Worse]
  | _ :: _, _ :: _, _, 0 => by simp [Worse]
  | _ :: _, _ :: _, h, k + 1 => ⟨h.1, h.2.1, h.2.2.take k⟩
theorem Worse.refl : ∀ (l : List Pr), Worse l l
  | [] => trivial
  | _ :: l => ⟨rfl, Int.le_refl _, Worse.refl l⟩
theorem Worse.len : ∀ {l m : List Pr}, Worse l m → l.length = m.length
  | [], [], _ => rfl
  | _ :: _, _ :: _, h => by simp [h.2.2.len]
theorem Worse.count {g : Int} (hg : 0 ≤ g) : ∀ {l m : List Pr}, Worse l m → nb g m ≤ nb g l ∧ nw g l ≤ nw g m
  | [], [], _ => ⟨Nat.le_refl _, Nat.le_refl _⟩
  | x :: l, y :: m, h => by
    obtain ⟨h1, h2, h3⟩ := h
    have ih := Worse.count hg h3
    have a : betterB g y = true → betterB g x = true := by
      simp only [betterB, decide_eq_true_eq]
      intro hb
      have : (1000 + g) * x.2 ≤ (1000 + g) * y.2 := Int.mul_le_mul_of_nonneg_left h2 (by omega)
      omega
    have b : worseB g x = true → worseB g y = true := by
      simp only [worseB, decide_eq_true_eq]
      rw [h1]
      omega
    unfold nb nw at *
    simp only [List.countP_cons]
    cases hbx : betterB g x <;> cases hby : betterB g y <;> cases hwx : worseB g x <;> cases hwy : worseB g y <;> simp_all <;> omega
theorem look_worse {p : Pol} {l m : List Pr} (hm : 0 ≤ p.margin) (h : Worse l m) (k : Nat) (hl : lookB p l k = true) : lookB p m k = true := by
  unfold lookB at *
  obtain ⟨h1, h2⟩ := Worse.count hm (h.take k)
  generalize nb p.margin (l.take k) = b at *
  generalize nw p.margin (l.take k) = w at *
  generalize nb p.margin (m.take k) = b' at *
  generalize nw p.margin (m.take k) = w' at *
  obtain ⟨i, rfl⟩ : ∃ i, b = b' + i := ⟨b - b', by omega⟩
  obtain ⟨j, rfl⟩ : ∃ j, w' = w + j := ⟨w' - w, by omega⟩
  rw [show b' + i + w = b' + w + i by omega] at hl
  have := sig_worses (sig_fewers i hl) j
  rwa [Nat.add_assoc] at this
theorem look_take {p : Pol} {l : List Pr} {n k : Nat} (h : k ≤ n) : lookB p (l.take n) k = lookB p l k := by
  unfold lookB
  rw [List.take_take, Nat.min_eq_left h]

end Go.Proofs.YtgelfefoiplekaaDoor.PN
