/-
  Chapter 43, 44: how many subsets have at least some elements; a plain law of numbers.
-/
namespace Go.Proofs.YtgelfefoiplekaaDoor.PN

def ch : Nat → Nat → Nat
  | _, 0 => 1
  | 0, _ + 1 => 0
  | n + 1, k + 1 => ch n k + ch n (k + 1)

theorem ch_zero (n : Nat) : ch n 0 = 1 := by cases n <;> rfl
theorem ch_succ (n k : Nat) : ch (n + 1) (k + 1) = ch n k + ch n (k + 1) := rfl
theorem ch_big : ∀ (n k : Nat), n < k → ch n k = 0
  | 0, 0, h => by omega
  | 0, k + 1, _ => rfl
  | n + 1, 0, h => by omega
  | n + 1, k + 1, h => by rw [ch_succ, ch_big n k (by omega), ch_big n (k + 1) (by omega)]
theorem ch_self : ∀ n : Nat, ch n n = 1
  | 0 => rfl
  | n + 1 => by rw [ch_succ, ch_self n, ch_big n (n + 1) (by omega)]

/-- The sum of m binomials from k on. -/
def up (n k : Nat) : Nat → Nat
  | 0 => 0
  | m + 1 => up n k m + ch n (k + m)

theorem up_shift (n k : Nat) : ∀ m, up n k (m + 1) = ch n k + up n (k + 1) m
  | 0 => by simp [up]
  | m + 1 => by
    have h := up_shift n k m
    rw [up, h, up, show k + (m + 1) = k + 1 + m by omega]
    omega
theorem up_pascal (n k : Nat) : ∀ m, up (n + 1) (k + 1) m = up n k m + up n (k + 1) m
  | 0 => rfl
  | m + 1 => by
    rw [up, up_pascal n k m, up, up, show k + 1 + m = k + m + 1 by omega, ch_succ]
    omega
theorem up_more (n k m : Nat) (h : n + 1 ≤ k + m) : ∀ j, up n k (m + j) = up n k m
  | 0 => rfl
  | j + 1 => by
    rw [← Nat.add_assoc, up, up_more n k m h j, ch_big n (k + (m + j)) (by omega)]; rfl
theorem up_mono (n k m : Nat) : ∀ j, up n k m ≤ up n k (m + j)
  | 0 => Nat.le_refl _
  | j + 1 => by rw [← Nat.add_assoc, up]; have := up_mono n k m j; omega

/-- How many subsets of n have at least k elements. -/
def tl (n k : Nat) : Nat := up n k (n + 1 - k)

theorem tl_ge (n k m : Nat) (h : n + 1 ≤ k + m) : up n k m = tl n k := by
  unfold tl
  obtain ⟨j, hj⟩ : ∃ j, m = n + 1 - k + j := ⟨m - (n + 1 - k), by omega⟩
  rw [hj, up_more n k _ (by omega)]
theorem tl_succ (n k : Nat) : tl (n + 1) (k + 1) = tl n k + tl n (k + 1) := by
  rw [← tl_ge (n + 1) (k + 1) (n + 2) (by omega), up_pascal, tl_ge n k _ (by omega), tl_ge n (k + 1) _ (by omega)]
theorem tl_head (n k : Nat) : tl n k = ch n k + tl n (k + 1) := by
  rw [← tl_ge n k (n + 2) (by omega), up_shift, tl_ge n (k + 1) _ (by omega)]
theorem tl_all : ∀ n, tl n 0 = 2 ^ n
  | 0 => rfl
  | n + 1 => by
    have h1 := tl_head (n + 1) 0
    have h2 := tl_head n 0
    rw [ch_zero] at h1 h2
    rw [h1, Nat.pow_succ, ← tl_all n, tl_succ]
    omega
theorem tl_none (n k : Nat) (h : n < k) : tl n k = 0 := by
  unfold tl; rw [show n + 1 - k = 0 by omega]; rfl
theorem tl_mono (n k : Nat) : tl n (k + 1) ≤ tl n k := by rw [tl_head n k]; omega
theorem tl_anti (n k : Nat) : ∀ j, tl n (k + j) ≤ tl n k
  | 0 => Nat.le_refl _
  | j + 1 => Nat.le_trans (tl_mono n (k + j)) (tl_anti n k j)
theorem tl_le (n k : Nat) : tl n k ≤ 2 ^ n := by rw [← tl_all n]; simpa using tl_anti n 0 k
theorem up_le (n k m : Nat) : up n k m ≤ 2 ^ n := by
  refine Nat.le_trans (up_mono n k m (n + 1)) ?_
  rw [tl_ge n k _ (by omega)]; exact tl_le n k
theorem ch_le (n k : Nat) : ch n k ≤ 2 ^ n := by
  have := tl_head n k; have := tl_le n k; omega

/-- A tail that is at most a level of all subsets. -/
def sig (n k num den : Nat) : Bool := decide (tl n k * den ≤ 2 ^ n * num)

theorem sig_iff {n k num den : Nat} : sig n k num den = true ↔ tl n k * den ≤ 2 ^ n * num := by simp [sig]
theorem sig_more {n k num den : Nat} (j : Nat) (h : sig n k num den = true) : sig n (k + j) num den = true := by
  rw [sig_iff] at *
  exact Nat.le_trans (Nat.mul_le_mul_right _ (tl_anti n k j)) h
theorem sig_worse {n k num den : Nat} (h : sig n k num den = true) : sig (n + 1) (k + 1) num den = true := by
  rw [sig_iff] at *
  rw [tl_succ, Nat.pow_succ]
  have h1 := Nat.mul_le_mul_right den (tl_mono n k)
  rw [Nat.add_mul, show 2 ^ n * 2 * num = 2 ^ n * num + 2 ^ n * num by rw [Nat.mul_comm (2 ^ n) 2, Nat.mul_assoc]; omega]
  omega
theorem sig_fewer {n k num den : Nat} (h : sig (n + 1) k num den = true) : sig n k num den = true := by
  rw [sig_iff] at *
  have h2 : 2 * tl n k ≤ tl (n + 1) k := by
    cases k with
    | zero => rw [tl_all, tl_all, Nat.pow_succ]; omega
    | succ k => rw [tl_succ]; have := tl_mono n k; omega
  have h3 := Nat.mul_le_mul_right den h2
  rw [Nat.pow_succ, show 2 ^ n * 2 * num = 2 * (2 ^ n * num) by rw [Nat.mul_comm (2 ^ n) 2, Nat.mul_assoc]] at h
  rw [Nat.mul_assoc] at h3
  omega
theorem sig_worses {n k num den : Nat} (h : sig n k num den = true) : ∀ j, sig (n + j) (k + j) num den = true
  | 0 => h
  | j + 1 => sig_worse (sig_worses h j)
theorem sig_fewers {k num den : Nat} {n : Nat} : ∀ (j : Nat), sig (n + j) k num den = true → sig n k num den = true
  | 0, h => h
  | j + 1, h => sig_fewers j (sig_fewer h)

/-! ### Counting outcomes -/

def bit (s i : Nat) : Nat := s / 2 ^ i % 2
def pop (s : Nat) : Nat → Nat
  | 0 => 0
  | m + 1 => pop s m + bit s m

/-- How many numbers below m have a property. -/
def cnt (p : Nat → Bool) : Nat → Nat
  | 0 => 0
  | m + 1 => cnt p m + if p m then 1 else 0

theorem cnt_add (p : Nat → Bool) (m : Nat) : ∀ j, cnt p (m + j) = cnt p m + cnt (fun s => p (m + s)) j
  | 0 => rfl
  | j + 1 => by rw [← Nat.add_assoc, cnt, cnt_add p m j, cnt]; omega
theorem cnt_congr {p q : Nat → Bool} : ∀ m, (∀ s, s < m → p s = q s) → cnt p m = cnt q m
  | 0, _ => rfl
  | m + 1, h => by rw [cnt, cnt, cnt_congr m (fun s hs => h s (by omega)), h m (by omega)]
theorem cnt_or (p q r : Nat → Bool) : ∀ m, (∀ s, s < m → r s = true → p s = true ∨ q s = true) → cnt r m ≤ cnt p m + cnt q m
  | 0, _ => Nat.le_refl _
  | m + 1, h => by
    have h1 := cnt_or p q r m (fun s hs => h s (by omega))
    have h2 := h m (by omega)
    rw [cnt, cnt, cnt]
    cases hr : r m with
    | false => simp; omega
    | true =>
      rcases h2 hr with h3 | h3
      · simp [h3]; omega
      · simp [h3]; omega

theorem bit_low {s b i : Nat} (h : i < b) : bit (2 ^ b + s) i = bit s i := by
  unfold bit
  obtain ⟨j, rfl⟩ : ∃ j, b = i + (j + 1) := ⟨b - i - 1, by omega⟩
  rw [show 2 ^ (i + (j + 1)) + s = s + 2 ^ i * (2 ^ j * 2) by rw [Nat.pow_add, Nat.pow_succ, Nat.add_comm]]
  rw [Nat.add_mul_div_left _ _ (Nat.two_pow_pos i)]
  omega
theorem pop_low {s b : Nat} : ∀ m, m ≤ b → pop (2 ^ b + s) m = pop s m
  | 0, _ => rfl
  | m + 1, h => by rw [pop, pop, pop_low m (by omega), bit_low (by omega)]
theorem bit_top {s b : Nat} (h : s < 2 ^ b) : bit (2 ^ b + s) b = 1 := by
  unfold bit
  rw [Nat.add_comm, Nat.add_div_right _ (Nat.two_pow_pos b), Nat.div_eq_of_lt h]
theorem bit_none {s b : Nat} (h : s < 2 ^ b) : bit s b = 0 := by
  unfold bit
  rw [Nat.div_eq_of_lt h]

theorem cnt_two (p : Nat → Bool) (b : Nat) : cnt p (2 ^ (b + 1)) = cnt p (2 ^ b) + cnt (fun s => p (2 ^ b + s)) (2 ^ b) := by
  rw [Nat.pow_succ, Nat.mul_two, cnt_add]
theorem cnt_true : ∀ m, cnt (fun _ => true) m = m
  | 0 => rfl
  | m + 1 => by rw [cnt, cnt_true m]; simp
theorem cnt_tail : ∀ (b k : Nat), cnt (fun s => decide (k ≤ pop s b)) (2 ^ b) = tl b k
  | 0, k => by
    cases k with
    | zero => rfl
    | succ k => rw [tl_none _ _ (by omega)]; rfl
  | b + 1, 0 => by
    rw [tl_all, cnt_congr (q := fun _ => true) _ (fun s _ => by simp)]; exact cnt_true _
  | b + 1, k + 1 => by
    rw [cnt_two, tl_succ, ← cnt_tail b k, ← cnt_tail b (k + 1), Nat.add_comm]
    congr 1
    · refine cnt_congr _ fun s hs => ?_
      rw [pop, pop_low b (Nat.le_refl _), bit_top hs]
      simp
    · refine cnt_congr _ fun s hs => ?_
      rw [pop, bit_none hs]; rfl
theorem cnt_early (a k : Nat) : ∀ j, cnt (fun s => decide (k ≤ pop s a)) (2 ^ (a + j)) = 2 ^ j * tl a k
  | 0 => by rw [Nat.add_zero, cnt_tail]; omega
  | j + 1 => by
    have h := cnt_congr (p := fun s => decide (k ≤ pop (2 ^ (a + j) + s) a)) (q := fun s => decide (k ≤ pop s a)) (2 ^ (a + j)) (fun s _ => by simp only [pop_low (s := s) (b := a + j) a (by omega)])
    rw [← Nat.add_assoc, cnt_two, h, cnt_early a k j, Nat.pow_succ, Nat.mul_comm (2 ^ j) 2, Nat.mul_assoc]
    omega

/-- The least number that is significant. -/
theorem least (n num den : Nat) : ∃ K, sig n K num den = true ∧ ∀ k, k < K → sig n k num den = false := by
  have h : ∀ m, (∃ K, sig n K num den = true ∧ ∀ k, k < K → sig n k num den = false) ∨ ∀ k, k < m → sig n k num den = false := by
    intro m
    induction m with
    | zero => exact .inr (fun k hk => by omega)
    | succ m ih =>
      rcases ih with ih | ih
      · exact .inl ih
      · cases hm : sig n m num den with
        | true => exact .inl ⟨m, hm, ih⟩
        | false =>
          refine .inr fun k hk => ?_
          by_cases e : k = m
          · subst e; exact hm
          · exact ih k (by omega)
  rcases h (n + 2) with h | h
  · exact h
  · have := h (n + 1) (by omega)
    have h2 : sig n (n + 1) num den = true := by rw [sig_iff, tl_none _ _ (by omega)]; omega
    rw [h2] at this; cases this
theorem sig_least {n num den K : Nat} (h1 : sig n K num den = true) (h2 : ∀ k, k < K → sig n k num den = false) (k : Nat) : sig n k num den = decide (K ≤ k) := by
  by_cases h : K ≤ k
  · obtain ⟨j, rfl⟩ : ∃ j, k = K + j := ⟨k - K, by omega⟩
    rw [sig_more j h1]; simp
  · rw [h2 k (by omega)]; simp [h]

/-- The law of the level: two looks, of which each has half of it. -/
theorem level_law (a b num : Nat) (hab : a ≤ b) (r : Nat → Bool) (hr : ∀ s, s < 2 ^ b → r s = true → sig a (pop s a) num 80 = true ∨ sig b (pop s b) num 80 = true) :
    cnt r (2 ^ b) * 40 ≤ num * 2 ^ b := by
  obtain ⟨K, hK, hK2⟩ := least a num 80
  obtain ⟨M, hM, hM2⟩ := least b num 80
  have h1 := cnt_or (fun s => decide (K ≤ pop s a)) (fun s => decide (M ≤ pop s b)) r (2 ^ b) (fun s hs hrs => by
    rcases hr s hs hrs with h | h
    · rw [sig_least hK hK2] at h; exact .inl h
    · rw [sig_least hM hM2] at h; exact .inr h)
  obtain ⟨j, rfl⟩ : ∃ j, b = a + j := ⟨b - a, by omega⟩
  rw [cnt_early, cnt_tail] at h1
  rw [sig_iff] at hK hM
  have h3 : 2 ^ j * tl a K * 80 ≤ 2 ^ (a + j) * num := by
    rw [Nat.mul_assoc, Nat.pow_add, Nat.mul_comm (2 ^ a), Nat.mul_assoc]
    exact Nat.mul_le_mul_left _ hK
  rw [Nat.mul_comm num]
  omega

end Go.Proofs.YtgelfefoiplekaaDoor.PN
