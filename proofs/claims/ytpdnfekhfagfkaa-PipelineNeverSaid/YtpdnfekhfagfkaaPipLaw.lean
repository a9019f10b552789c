/-
  Chapter 19: what fetches cost; a plain law.
-/
import Derived.Test.YtpdnfekhfagfkaaBase
namespace Go.Proofs.Ytpdnfekhfagfkaa.PI

/-- A fetch. -/
structure Fe where
  addr : Int
  size : Int
  kind : Int
/-- A model. -/
structure Mod where
  step : Int
  mis : Int
  miss : Int
  fault : Int
  call : Int
  ind : Int
  line : Int
  sets : Int
  ways : Int
  page : Int
  res : Int
  pred : Int

/-! ### Branches -/
def prNew (n : Int) : List Int := if 1 ≤ n ∧ n ≤ 4096 then List.replicate n.toNat 1 else []
def after (n : Int) (taken : Bool) : Int := if taken then min (n + 1) 3 else max (n - 1) 0
def isBr (f : Fe) : Bool := f.kind == 1 || f.kind == 2
def prStep (t : List Int) (f : Fe) : List Int × Bool :=
  if t.length ≠ 0 ∧ isBr f = true then
    (t.set (f.addr.toNat % t.length) (after (t.getD (f.addr.toNat % t.length) 0) (f.kind == 1)), (decide (2 ≤ t.getD (f.addr.toNat % t.length) 0)) != (f.kind == 1))
  else (t, false)
def prRun : List Int → List Fe → List Int × List Bool
  | t, [] => (t, [])
  | t, f :: l => ((prRun (prStep t f).1 l).1, (prStep t f).2 :: (prRun (prStep t f).1 l).2)
def wrongs (n : Int) (l : List Fe) : List Bool := (prRun (prNew n) l).2

/-! ### Lines and pages -/
/-- The numbers of the lines, or pages, of some size that a fetch touches. -/
def touched (most size : Int) (f : Fe) : List Int :=
  if 1 ≤ size ∧ size ≤ most ∧ 1 ≤ f.size ∧ f.size ≤ 1048576 ∧ 0 ≤ f.addr ∧ f.addr ≤ 1048576 then
    (List.range (((f.addr + f.size - 1) / size - f.addr / size + 1).toNat)).map fun k : Nat => f.addr / size + (k : Int)
  else []
/-- A list after the use of a number. -/
def useL (ways : Int) (s : List Int) (x : Int) : List Int := (x :: s.erase x).take ways.toNat

/-- The sets after lines, and how many were not there. -/
def caLines (ways : Int) : List (List Int) → List Int → List (List Int) × Int
  | S, [] => (S, 0)
  | S, x :: r =>
    ((caLines ways (S.set (x.toNat % S.length) (useL ways (S.getD (x.toNat % S.length) []) x)) r).1,
     (if x ∈ S.getD (x.toNat % S.length) [] then 0 else 1) + (caLines ways (S.set (x.toNat % S.length) (useL ways (S.getD (x.toNat % S.length) []) x)) r).2)
def caNew (n : Int) : List (List Int) := if 1 ≤ n ∧ n ≤ 1024 then List.replicate n.toNat [] else []
def caStep (line ways : Int) (S : List (List Int)) (f : Fe) : List (List Int) × Int :=
  if S.length = 0 then (S, 0) else caLines ways S (touched 4096 line f)
def caRun (line ways : Int) : List (List Int) → List Fe → List (List Int) × List Int
  | S, [] => (S, [])
  | S, f :: l => ((caRun line ways (caStep line ways S f).1 l).1, (caStep line ways S f).2 :: (caRun line ways (caStep line ways S f).1 l).2)
def misses (m : Mod) (l : List Fe) : List Int := (caRun m.line m.ways (caNew m.sets) l).2

/-- The pages that fetches touch, each with the number of the fetch. -/
def touches (size : Int) : Nat → List Fe → List (Nat × Int)
  | _, [] => []
  | i, f :: l => (touched 65536 size f).map (fun p => (i, p)) ++ touches size (i + 1) l
def pgStep (res : Int) (s : List Int × List Int) (x : Nat × Int) : List Int × List Int :=
  (useL res s.1 x.2, if x.2 ∈ s.1 then s.2 else s.2.set x.1 (s.2.getD x.1 0 + 1))
def pgRun (res : Int) (n : Nat) (ts : List (Nat × Int)) : List Int × List Int := ts.foldl (pgStep res) ([], List.replicate n 0)
def faults (m : Mod) (l : List Fe) : List Int := if m.res < 1 then List.replicate l.length 0 else (pgRun m.res l.length (touches m.page 0 l)).2

/-! ### Cycles -/
def isCall (f : Fe) : Bool := f.kind == 3 || f.kind == 5
def cyc (m : Mod) (f : Fe) (w : Bool) (ms fa : Int) : Int :=
  m.step + (if w then m.mis else 0) + ms * m.miss + fa * m.fault + (if isCall f then m.call else 0) + (if f.kind == 5 then m.ind else 0)
def cycles (m : Mod) : List Fe → List Bool → List Int → List Int → Int
  | f :: l, w :: ws, a :: as, b :: bs => cyc m f w a b + cycles m l ws as bs
  | _, _, _, _ => 0
def cost (m : Mod) (l : List Fe) : Int := cycles m l (wrongs m.pred l) (misses m l) (faults m l)

/-! ### Bounds -/
theorem prRun_len : ∀ (l : List Fe) (t : List Int), (prRun t l).2.length = l.length
  | [], _ => rfl
  | f :: l, t => by rw [prRun, List.length_cons, prRun_len l, List.length_cons]
theorem caRun_len (line ways : Int) : ∀ (l : List Fe) (S : List (List Int)), (caRun line ways S l).2.length = l.length
  | [], _ => rfl
  | f :: l, t => by rw [caRun, List.length_cons, caRun_len line ways l, List.length_cons]
theorem pgStep_len (res : Int) (s : List Int × List Int) (x : Nat × Int) : (pgStep res s x).2.length = s.2.length := by
  unfold pgStep
  split <;> simp
theorem pgFold_len (res : Int) : ∀ (ts : List (Nat × Int)) (s : List Int × List Int), (ts.foldl (pgStep res) s).2.length = s.2.length
  | [], _ => rfl
  | x :: ts, s => by rw [List.foldl_cons, pgFold_len res ts, pgStep_len]
theorem wrongs_len (n : Int) (l : List Fe) : (wrongs n l).length = l.length := prRun_len _ _
theorem misses_len (m : Mod) (l : List Fe) : (misses m l).length = l.length := caRun_len _ _ _ _
theorem faults_len (m : Mod) (l : List Fe) : (faults m l).length = l.length := by
  unfold faults
  split
  · simp
  · unfold pgRun; rw [pgFold_len]; simp

theorem caLines_nn (ways : Int) : ∀ (r : List Int) (S : List (List Int)), 0 ≤ (caLines ways S r).2 ∧ (caLines ways S r).2 ≤ r.length
  | [], _ => by simp [caLines]
  | x :: r, S => by
    have ih := caLines_nn ways r (S.set (x.toNat % S.length) (useL ways (S.getD (x.toNat % S.length) []) x))
    rw [caLines, List.length_cons]
    simp only
    split <;> omega
theorem touched_len (most size : Int) (f : Fe) : (touched most size f).length ≤ f.size.toNat := by
  unfold touched
  split
  · rename_i h
    rw [List.length_map, List.length_range]
    have h1 : (f.addr + f.size - 1) / size ≤ f.addr / size + (f.size - 1) := by
      have h2 : f.addr + f.size - 1 < size * (f.addr / size + 1 + (f.size - 1)) := by
        have h3 : f.addr < size * (f.addr / size + 1) := by
          have h5 : f.addr % size < size := Int.emod_lt_of_pos _ (by omega)
          have h6 := Int.mul_ediv_add_emod f.addr size
          rw [Int.mul_add]; omega
        rw [Int.mul_add]
        have h4 : f.size - 1 ≤ size * (f.size - 1) := by
          have := Int.mul_le_mul_of_nonneg_right (show (1 : Int) ≤ size by omega) (show 0 ≤ f.size - 1 by omega)
          omega
        omega
      have h7 := Int.ediv_lt_of_lt_mul (show 0 < size by omega) (by rw [Int.mul_comm]; exact h2)
      omega
    omega
  · simp
theorem caStep_nn (line ways : Int) (S : List (List Int)) (f : Fe) : 0 ≤ (caStep line ways S f).2 ∧ (caStep line ways S f).2 ≤ f.size.toNat := by
  unfold caStep
  split
  · simp only; omega
  · have h1 := caLines_nn ways (touched 4096 line f) S
    have h2 := touched_len 4096 line f
    omega
theorem caRun_nn (line ways : Int) (B : Nat) : ∀ (l : List Fe) (S : List (List Int)), (∀ f ∈ l, f.size ≤ B) → ∀ x ∈ (caRun line ways S l).2, 0 ≤ x ∧ x ≤ B
  | [], _, _, x, hx => by simp [caRun] at hx
  | f :: l, S, h, x, hx => by
    rw [caRun] at hx
    rcases List.mem_cons.1 hx with rfl | hx
    · have h1 := caStep_nn line ways S f
      have h2 := h f (by simp)
      omega
    · exact caRun_nn line ways B l _ (fun g hg => h g (by simp [hg])) x hx
theorem misses_nn {m : Mod} {l : List Fe} {B : Nat} (h : ∀ f ∈ l, f.size ≤ B) : ∀ x ∈ misses m l, 0 ≤ x ∧ x ≤ B := caRun_nn _ _ B l _ h

theorem touches_len (size : Int) (B : Nat) : ∀ (l : List Fe) (i : Nat), (∀ f ∈ l, f.size ≤ B) → (touches size i l).length ≤ l.length * B
  | [], _, _ => by simp [touches]
  | f :: l, i, h => by
    rw [touches, List.length_append, List.length_map, List.length_cons]
    have h1 := touches_len size B l (i + 1) (fun g hg => h g (by simp [hg]))
    have h2 := touched_len 65536 size f
    have h3 := h f (by simp)
    rw [Nat.add_mul]
    omega
theorem pgFold_nn (res : Int) : ∀ (ts : List (Nat × Int)) (s : List Int × List Int) (B : Nat), (∀ x ∈ s.2, 0 ≤ x ∧ x ≤ B) → ∀ x ∈ (ts.foldl (pgStep res) s).2, 0 ≤ x ∧ x ≤ B + ts.length
  | [], _, _, h, x, hx => by have := h x hx; simp; omega
  | t :: ts, s, B, h, x, hx => by
    have h1 : ∀ y ∈ (pgStep res s t).2, 0 ≤ y ∧ y ≤ ((B + 1 : Nat) : Int) := by
      intro y hy
      unfold pgStep at hy
      simp only at hy
      split at hy
      · have := h y hy; omega
      · rcases List.mem_or_eq_of_mem_set hy with hy | rfl
        · have := h y hy; omega
        · by_cases hi : t.1 < s.2.length
          · have := h (s.2.getD t.1 0) (by rw [List.getD_eq_getElem?_getD, List.getElem?_eq_getElem hi]; simp)
            omega
          · rw [List.getD_eq_getElem?_getD, List.getElem?_eq_none (by omega)]; simp; omega
    have h2 := pgFold_nn res ts (pgStep res s t) (B + 1) h1 x hx
    rw [List.length_cons]
    omega
theorem faults_nn {m : Mod} {l : List Fe} {B : Nat} (h : ∀ f ∈ l, f.size ≤ B) : ∀ x ∈ faults m l, 0 ≤ x ∧ x ≤ (l.length * B : Nat) := by
  unfold faults
  split
  · intro x hx
    have := (List.mem_replicate.1 hx).2
    omega
  · intro x hx
    have h1 := pgFold_nn m.res (touches m.page 0 l) ([], List.replicate l.length 0) 0 (fun y hy => by have := (List.mem_replicate.1 hy).2; omega) x hx
    have h2 := touches_len m.page B l 0 h
    omega

/-! ### The laws -/
theorem cyc_free (m m' : Mod) (f : Fe) (w : Bool) (a a' b : Int) (h1 : m.miss = 0) (h2 : m'.miss = 0) (h3 : m.step = m'.step) (h4 : m.mis = m'.mis) (h5 : m.fault = m'.fault) (h6 : m.call = m'.call) (h7 : m.ind = m'.ind) :
    cyc m f w a b = cyc m' f w a' b := by
  unfold cyc
  rw [h1, h2, h3, h4, h5, h6, h7]
  simp
theorem cycles_free (m m' : Mod) (h1 : m.miss = 0) (h2 : m'.miss = 0) (h3 : m.step = m'.step) (h4 : m.mis = m'.mis) (h5 : m.fault = m'.fault) (h6 : m.call = m'.call) (h7 : m.ind = m'.ind) :
    ∀ (l : List Fe) (ws : List Bool) (as as' bs : List Int), as.length = l.length → as'.length = l.length → cycles m l ws as bs = cycles m' l ws as' bs
  | [], ws, as, as', bs, _, _ => by cases ws <;> cases as <;> cases as' <;> cases bs <;> rfl
  | f :: l, [], as, as', bs, _, _ => by cases as <;> cases as' <;> cases bs <;> rfl
  | f :: l, w :: ws, [], _, _, h, _ => by simp at h
  | f :: l, w :: ws, _ :: _, [], _, _, h => by simp at h
  | f :: l, w :: ws, a :: as, a' :: as', [], _, _ => rfl
  | f :: l, w :: ws, a :: as, a' :: as', b :: bs, ha, ha' => by
    rw [cycles, cycles, cyc_free m m' f w a a' b h1 h2 h3 h4 h5 h6 h7, cycles_free m m' h1 h2 h3 h4 h5 h6 h7 l ws as as' bs (by simpa using ha) (by simpa using ha')]

/-- What costs nothing does not matter. -/
theorem cost_free {m m' : Mod} (l : List Fe) (h1 : m.miss = 0) (h2 : m'.miss = 0) (h3 : m.step = m'.step) (h4 : m.mis = m'.mis) (h5 : m.fault = m'.fault) (h6 : m.call = m'.call) (h7 : m.ind = m'.ind)
    (h8 : m.page = m'.page) (h9 : m.res = m'.res) (h10 : m.pred = m'.pred) : cost m l = cost m' l := by
  unfold cost
  have e : faults m l = faults m' l := by unfold faults; rw [h8, h9]
  rw [e, h10]
  exact cycles_free m m' h1 h2 h3 h4 h5 h6 h7 l _ _ _ _ (misses_len m l) (misses_len m' l)

theorem cyc_more {m m' : Mod} (f : Fe) (w : Bool) {a b : Int} (ha : 0 ≤ a) (hb : 0 ≤ b) (h1 : m.step ≤ m'.step) (h2 : m.mis ≤ m'.mis) (h3 : m.miss ≤ m'.miss) (h4 : m.fault ≤ m'.fault) (h5 : m.call ≤ m'.call) (h6 : m.ind ≤ m'.ind) :
    cyc m f w a b ≤ cyc m' f w a b := by
  have g1 := Int.mul_le_mul_of_nonneg_left h3 ha
  have g2 := Int.mul_le_mul_of_nonneg_left h4 hb
  unfold cyc
  split <;> split <;> split <;> omega
theorem cycles_more {m m' : Mod} (h1 : m.step ≤ m'.step) (h2 : m.mis ≤ m'.mis) (h3 : m.miss ≤ m'.miss) (h4 : m.fault ≤ m'.fault) (h5 : m.call ≤ m'.call) (h6 : m.ind ≤ m'.ind) :
    ∀ (l : List Fe) (ws : List Bool) (as bs : List Int), (∀ a ∈ as, 0 ≤ a) → (∀ b ∈ bs, 0 ≤ b) → cycles m l ws as bs ≤ cycles m' l ws as bs
  | [], ws, as, bs, _, _ => by cases ws <;> cases as <;> cases bs <;> exact Int.le_refl _
  | f :: l, [], as, bs, _, _ => by cases as <;> cases bs <;> exact Int.le_refl _
  | f :: l, w :: ws, [], bs, _, _ => by cases bs <;> exact Int.le_refl _
  | f :: l, w :: ws, a :: as, [], _, _ => Int.le_refl _
  | f :: l, w :: ws, a :: as, b :: bs, ha, hb => by
    rw [cycles, cycles]
    have g1 := cyc_more (m := m) (m' := m') f w (ha a (by simp)) (hb b (by simp)) h1 h2 h3 h4 h5 h6
    have g2 := cycles_more h1 h2 h3 h4 h5 h6 l ws as bs (fun x hx => ha x (by simp [hx])) (fun x hx => hb x (by simp [hx]))
    omega
/-- A model in which everything costs at least as much. -/
theorem cost_more {m m' : Mod} (l : List Fe) {B : Nat} (hl : ∀ f ∈ l, f.size ≤ B) (h1 : m.step ≤ m'.step) (h2 : m.mis ≤ m'.mis) (h3 : m.miss ≤ m'.miss) (h4 : m.fault ≤ m'.fault) (h5 : m.call ≤ m'.call) (h6 : m.ind ≤ m'.ind)
    (h7 : m.line = m'.line) (h8 : m.sets = m'.sets) (h9 : m.ways = m'.ways) (h10 : m.page = m'.page) (h11 : m.res = m'.res) (h12 : m.pred = m'.pred) : cost m l ≤ cost m' l := by
  unfold cost
  have e1 : misses m l = misses m' l := by unfold misses; rw [h7, h8, h9]
  have e2 : faults m l = faults m' l := by unfold faults; rw [h10, h11]
  rw [← e1, ← e2, ← h12]
  exact cycles_more h1 h2 h3 h4 h5 h6 l _ _ _ (fun a ha => (misses_nn hl a ha).1) (fun b hb => (faults_nn hl b hb).1)

end Go.Proofs.Ytpdnfekhfagfkaa.PI
