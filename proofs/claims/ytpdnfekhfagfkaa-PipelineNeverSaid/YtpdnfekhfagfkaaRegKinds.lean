/-
  A region that draws its order, by kinds of values: what each operation leaves, whatever the order is. No program in sight.
-/
import Derived.Test.YtpdnfekhfagfkaaRegInv
import Derived.Deep.DeepCutAuto
namespace Go.Proofs.Ytpdnfekhfagfkaa
open Go.RowKit

/-- A kind of a value. -/
inductive VK (S : Nat → Prop) where
  | is (v : Value)
  | int
  | below (n : Int)
  | row (n : Nat)
  | cell
  | any
  | sat (f : World → Value → Prop) (hf : ∀ w w' v, Keep S w w' → f w v → f w' v)

def VK.holds (S : Nat → Prop) (w : World) (v : Value) : VK S → Prop
  | .is u => v = u
  | .int => ∃ n, v = .int .i64 n
  | .below n => ∃ m, v = .int .i64 m ∧ 0 ≤ m ∧ m < n
  | .row n => ∃ (h : Nat) (l : List Int) (t : TypeId), v = .slice (some ⟨h, 0, none⟩) n n ∧ l.length = n ∧ ¬ S h ∧ w.heap[h]? = some (.cells (l.map (Value.int .i64)).toArray t (0, 0))
  | .cell => ∃ (h j : Nat) (m : Int), v = .pointer (some ⟨h, j, none⟩) ∧ ¬ S h ∧ w.cell? ⟨h, j, none⟩ = some (.int .i64 m)
  | .any => True
  | .sat f _ => f w v

theorem VK.keep {S : Nat → Prop} {w w' : World} (hk : Keep S w w') {v : Value} : ∀ {k : VK S}, k.holds S w v → k.holds S w' v
  | .is _, h => h
  | .int, h => h
  | .below _, h => h
  | .row _, ⟨h, l, t, h1, h2, h3, h4⟩ => ⟨h, l, t, h1, h2, h3, hk.obj h4 h3⟩
  | .cell, ⟨h, j, m, h1, h2, h3⟩ => ⟨h, j, m, h1, h2, hk.cell h3 h2⟩
  | .any, h => h
  | .sat _ hf, h => hf _ _ _ hk h

def kindOf {S : Nat → Prop} (ks : List (VK S)) (i : Nat) : VK S := ks.getD i .any
def Kinds (S : Nat → Prop) (ks : List (VK S)) (i : Nat) (w : World) (v : Value) : Prop := (kindOf ks i).holds S w v

/-- The steps, one after the other. -/
def StepsFrom (F : Nat → Oper → Prop) : Nat → List Oper → Prop
  | _, [] => True
  | i, o :: r => F i o ∧ StepsFrom F (i + 1) r

theorem StepsFrom.get {F : Nat → Oper → Prop} : ∀ (l : List Oper) (k : Nat), StepsFrom F k l → ∀ i o, l[i]? = some o → F (k + i) o
  | [], _, _, _, _, h => by simp at h
  | x :: r, k, ⟨h, _⟩, 0, o, ho => by simp at ho; subst ho; exact h
  | x :: r, k, ⟨_, h⟩, i + 1, o, ho => by
    have := StepsFrom.get r (k + 1) h i o (by simpa using ho)
    rw [show k + (i + 1) = k + 1 + i from by omega]; exact this

theorem steps_of {F : Nat → Oper → Prop} {ops : Array Oper} (h : StepsFrom F 0 ops.toList) : ∀ i o, ops[i]? = some o → F i o := fun i o ho => by
  have := StepsFrom.get _ 0 h i o (by simpa using ho)
  simpa using this

variable {P : Program} {ops : Array Oper} {Q : Exit → Act → World → Prop} {S : Nat → Prop} {ks : List (VK S)} {Inv : World → Prop} {a0 : Act} {i : Nat} {o : Oper}

abbrev KStep (P : Program) (ops : Array Oper) (Q : Exit → Act → World → Prop) (S : Nat → Prop) (ks : List (VK S)) (Inv : World → Prop) (a0 : Act) (i : Nat) (o : Oper) : Prop :=
  InvStep P ops Q (Kinds S ks) Inv (Keep S) a0 i o

/-- What an edge tells. -/
theorem tells {a : Act} {w : World} (hV : ∀ e ∈ o.after, Region.binds .any e = true → ∀ oj, ops[e.on]? = some oj → Kinds S ks e.on w (valOf a oj)) (j t : Nat)
    (he : o.after.toList.any (fun e => e.on == j && Region.binds .any e) = true) (hj : (ops[j]?.bind (·.dst)) = some t) : (kindOf ks j).holds S w (a.eval (.tmp t)) := by
  obtain ⟨e, hm, h2⟩ := List.any_eq_true.1 he
  simp only [Bool.and_eq_true, beq_iff_eq] at h2
  obtain ⟨rfl, hb⟩ := h2
  cases hoj : ops[e.on]? with
  | none => simp [hoj] at hj
  | some oj =>
    have := hV e (by simpa using hm) hb oj hoj
    simp [hoj] at hj
    have h3 : valOf a oj = a.eval (.tmp t) := by simp [valOf, hj]
    rw [h3] at this
    exact this

theorem stays {a : Act} (hF : ∀ t, (∀ o ∈ ops, o.dst ≠ some t) → a.eval (.tmp t) = a0.eval (.tmp t)) (t : Nat) (h : ops.toList.all (fun o => o.dst != some t) = true) : a.eval (.tmp t) = a0.eval (.tmp t) :=
  hF t fun o ho => by have := List.all_eq_true.1 h o (by simpa using ho); simpa using this

theorem st_frame (t : Nat) (v : Value) (ho : o.op = .move (.tmp t)) (ht : ops.toList.all (fun o => o.dst != some t) = true) (hv : a0.eval (.tmp t) = v) (hk : kindOf ks i = .is v) : KStep P ops Q S ks Inv a0 i o := by
  intro a w K hI hV hF hK
  unfold Oper.wp execOp
  simp only [ho, Sem.run_pure, Oper.upon_value]
  refine hK _ _ hI (Keep.refl _ _) ?_
  unfold Kinds
  rw [hk, stays hF t ht, hv]
  rfl

theorem st_nil (j t : Nat) (ad : Addr) (ho : o.op = .nilCheck (.tmp t)) (he : o.after.toList.any (fun e => e.on == j && Region.binds .any e) = true) (hj : (ops[j]?.bind (·.dst)) = some t)
    (hkj : kindOf ks j = .is (.pointer (some ad))) (hk : kindOf ks i = .is (.pointer (some ad))) : KStep P ops Q S ks Inv a0 i o := by
  intro a w K hI hV hF hK
  have h := tells hV j t he hj
  rw [hkj] at h
  have h' : a.eval (.tmp t) = .pointer (some ad) := h
  unfold Oper.wp execOp
  simp only [ho, h', Sem.run_pure, Oper.upon_value]
  refine hK _ _ hI (Keep.refl _ _) ?_
  unfold Kinds
  rw [hk]
  rfl

theorem st_field (j t s f : Nat) (ad ad' : Addr) (ho : o.op = .fieldAddr s (.tmp t) f) (he : o.after.toList.any (fun e => e.on == j && Region.binds .any e) = true) (hj : (ops[j]?.bind (·.dst)) = some t)
    (hkj : kindOf ks j = .is (.pointer (some ad))) (hrun : ∀ w, (Instr.fieldAt s (.pointer (some ad)) f).run P w = .ok (.pointer (some ad')) w) (hk : kindOf ks i = .is (.pointer (some ad'))) : KStep P ops Q S ks Inv a0 i o := by
  intro a w K hI hV hF hK
  have h := tells hV j t he hj
  rw [hkj] at h
  have h' : a.eval (.tmp t) = .pointer (some ad) := h
  unfold Oper.wp execOp
  simp only [ho, h', Sem.run_bind, hrun, Result.andThen_ok, Sem.run_pure, Oper.upon_value]
  refine hK _ _ hI (Keep.refl _ _) ?_
  unfold Kinds
  rw [hk]
  rfl

/-- A load of a number: behind an address that an earlier operation left. -/
theorem st_load (j t ty : Nat) (ho : o.op = .load ty (.tmp t)) (he : o.after.toList.any (fun e => e.on == j && Region.binds .any e) = true) (hj : (ops[j]?.bind (·.dst)) = some t)
    (hld : ∀ w ad n, w.cell? ad = some (.int .i64 n) → (Instr.loadAt ty (.pointer (some ad))).run P w = .ok (.int .i64 n) w)
    (hkj : kindOf ks j = .cell ∨ ∃ ad, kindOf ks j = .is (.pointer (some ad)) ∧ ∀ w, Inv w → ∃ n, w.cell? ad = some (.int .i64 n)) (hk : kindOf ks i = .int) : KStep P ops Q S ks Inv a0 i o := by
  intro a w K hI hV hF hK
  have h := tells hV j t he hj
  obtain ⟨ad, n, h1, h2⟩ : ∃ ad n, a.eval (.tmp t) = .pointer (some ad) ∧ w.cell? ad = some (.int .i64 n) := by
    rcases hkj with hkj | ⟨ad, hkj, hc⟩
    · rw [hkj] at h
      obtain ⟨g, j, m, h1, h2, h3⟩ := h
      exact ⟨_, m, h1, h3⟩
    · rw [hkj] at h
      obtain ⟨n, hn⟩ := hc w hI
      exact ⟨ad, n, h, hn⟩
  unfold Oper.wp execOp
  simp only [ho, h1, Sem.run_bind, hld w ad n h2, Result.andThen_ok, Sem.run_pure, Oper.upon_value]
  refine hK _ _ hI (Keep.refl _ _) ?_
  unfold Kinds
  rw [hk]
  exact ⟨n, rfl⟩

theorem st_index (j k t u ty n : Nat) (ho : o.op = .indexAddr ty (.tmp t) (.tmp u)) (he : o.after.toList.any (fun e => e.on == j && Region.binds .any e) = true) (hj : (ops[j]?.bind (·.dst)) = some t)
    (he' : o.after.toList.any (fun e => e.on == k && Region.binds .any e) = true) (hj' : (ops[k]?.bind (·.dst)) = some u)
    (hld : ∀ w h (m : Nat), m < n → (Instr.indexAt ty (.slice (some ⟨h, 0, none⟩) n n) (.int .i64 m)).run P w = .ok (.pointer (some ⟨h, m, none⟩)) w)
    (hkj : kindOf ks j = .row n) (hkk : kindOf ks k = .below n) (hk : kindOf ks i = .cell) : KStep P ops Q S ks Inv a0 i o := by
  intro a w K hI hV hF hK
  have h := tells hV j t he hj
  have h' := tells hV k u he' hj'
  rw [hkj] at h
  rw [hkk] at h'
  obtain ⟨g, l, ty', h1, h2, h3, h4⟩ := h
  obtain ⟨m, h5, h6, h7⟩ := h'
  obtain ⟨m, rfl⟩ : ∃ k : Nat, m = k := ⟨m.toNat, by omega⟩
  unfold Oper.wp execOp
  simp only [ho, h1, h5, Sem.run_bind, hld w g m (by omega), Result.andThen_ok, Sem.run_pure, Oper.upon_value]
  refine hK _ _ hI (Keep.refl _ _) ?_
  unfold Kinds
  rw [hk]
  exact ⟨g, m, l[m]'(by omega), rfl, h3, by simp [World.cell?, h4, show m < l.length by omega]⟩

/-- A store of a number to an address that an earlier operation left. -/
theorem st_store (j k t u ty : Nat) (ad : Addr) (ho : o.op = .store ty (.tmp t) (.tmp u)) (he : o.after.toList.any (fun e => e.on == j && Region.binds .any e) = true) (hj : (ops[j]?.bind (·.dst)) = some t)
    (he' : o.after.toList.any (fun e => e.on == k && Region.binds .any e) = true) (hj' : (ops[k]?.bind (·.dst)) = some u)
    (hkj : kindOf ks j = .is (.pointer (some ad))) (hkk : kindOf ks k = .int)
    (hst : ∀ w n, Inv w → (Instr.storeAt ty (.pointer (some ad)) (.int .i64 n)).run P w = .ok () (w.setCell ad (.int .i64 n)) ∧ Inv (w.setCell ad (.int .i64 n)) ∧ Keep S w (w.setCell ad (.int .i64 n))) (hk : kindOf ks i = .any) : KStep P ops Q S ks Inv a0 i o := by
  intro a w K hI hV hF hK
  have h := tells hV j t he hj
  have h' := tells hV k u he' hj'
  rw [hkj] at h
  rw [hkk] at h'
  obtain ⟨n, h5⟩ := h'
  have h1 : a.eval (.tmp t) = .pointer (some ad) := h
  obtain ⟨q1, q2, q3⟩ := hst w n hI
  unfold Oper.wp execOp
  simp only [ho, h1, h5, Sem.run_bind, q1, Result.andThen_ok, Sem.run_pure, Oper.upon_skip]
  refine hK _ _ q2 q3 ?_
  unfold Kinds
  rw [hk]
  trivial

/-- A slice literal of numbers. -/
theorem st_build (ty n : Nat) (parts : Array (Nat × Operand)) (ho : o.op = .buildSlice ty n parts) (hS : ∀ w, Inv w → ∀ k, S k → k < w.heap.size)
    (hparts : ∀ a w, (∀ e ∈ o.after, Region.binds .any e = true → ∀ oj, ops[e.on]? = some oj → Kinds S ks e.on w (valOf a oj)) → ∃ (l : List Int) (e : TypeId), l.length = n ∧ (Instr.buildSlice ty n (parts.map fun (i, x) => (i, a.eval x))).run P w = .ok (.slice (some ⟨w.heap.size, 0, none⟩) n n) (w.alloc (.cells (l.map (Value.int .i64)).toArray e)))
    (hinv : ∀ w ob, Inv w → Inv (w.alloc ob)) (hk : kindOf ks i = .row n) : KStep P ops Q S ks Inv a0 i o := by
  intro a w K hI hV hF hK
  obtain ⟨l, e, h1, h2⟩ := hparts a w hV
  unfold Oper.wp execOp
  simp only [ho, Sem.run_bind, h2, Result.andThen_ok, Sem.run_pure, Oper.upon_value]
  refine hK _ _ (hinv _ _ hI) ((Keep.refl _ _).alloc _) ?_
  unfold Kinds
  rw [hk]
  exact ⟨w.heap.size, l, e, rfl, h1, fun hs => by have := hS w hI _ hs; omega, heap_alloc_new _ _⟩

/-- A call of a function of the program. -/
theorem st_call1 (j t f : Nat) (v : Value) (k : VK S) (ho : ∃ ty, o.op = .call { callee := .value (.func f), args := #[.tmp t], argTypes := ty }) (he : o.after.toList.any (fun e => e.on == j && Region.binds .any e) = true) (hj : (ops[j]?.bind (·.dst)) = some t)
    (hkj : kindOf ks j = .is v) (hc : ∀ w, Inv w → Calls P f #[v] w fun e w' => ∃ u, e = .returned u ∧ k.holds S w' u ∧ Inv w' ∧ Keep S w w')
    (hf : ∀ w, (callFunc f #[v]).run P w = .ok (.enter f #[v]) w) (hk : kindOf ks i = k) : KStep P ops Q S ks Inv a0 i o := by
  intro a w K hI hV hF hK
  have h := tells hV j t he hj
  rw [hkj] at h
  have h' : a.eval (.tmp t) = v := h
  obtain ⟨ty, ho⟩ := ho
  unfold Oper.wp execOp
  have e1 : a.eval (.func f) = .func (.func f) #[] #[] := rfl
  simp only [ho, resolve, invoke, Deferred.ofValue, Sem.run_bind, Sem.run_pure, Result.andThen_ok, List.map_toArray, List.map_cons, List.map_nil, h', e1, Array.append_empty, Array.empty_append, hf, Oper.upon_enter]
  refine (hc w hI).mono ?_
  rintro e w' ⟨u, rfl, h2, h3, h4⟩
  refine hK _ _ h3 h4 ?_
  unfold Kinds
  rw [hk]
  exact h2

theorem st_call2 (j t f : Nat) (v c : Value) (k : VK S) (ho : ∃ ty, o.op = .call { callee := .value (.func f), args := #[.tmp t, .const c], argTypes := ty }) (he : o.after.toList.any (fun e => e.on == j && Region.binds .any e) = true) (hj : (ops[j]?.bind (·.dst)) = some t)
    (hkj : kindOf ks j = .is v) (hc : ∀ w, Inv w → Calls P f #[v, c] w fun e w' => ∃ u, e = .returned u ∧ k.holds S w' u ∧ Inv w' ∧ Keep S w w')
    (hf : ∀ w, (callFunc f #[v, c]).run P w = .ok (.enter f #[v, c]) w) (hk : kindOf ks i = k) : KStep P ops Q S ks Inv a0 i o := by
  intro a w K hI hV hF hK
  have h := tells hV j t he hj
  rw [hkj] at h
  have h' : a.eval (.tmp t) = v := h
  obtain ⟨ty, ho⟩ := ho
  unfold Oper.wp execOp
  have e1 : a.eval (.func f) = .func (.func f) #[] #[] := rfl
  have e2 : a.eval (.const c) = c := rfl
  simp only [ho, resolve, invoke, Deferred.ofValue, Sem.run_bind, Sem.run_pure, Result.andThen_ok, List.map_toArray, List.map_cons, List.map_nil, h', e1, e2, Array.append_empty, Array.empty_append, hf, Oper.upon_enter]
  refine (hc w hI).mono ?_
  rintro e w' ⟨u, rfl, h2, h3, h4⟩
  refine hK _ _ h3 h4 ?_
  unfold Kinds
  rw [hk]
  exact h2

/-- The frame behind the region. -/
def putsOf (f : Nat → Value) : Act → List Oper → Act
  | a, [] => a
  | a, o :: r => putsOf f (match o.dst with | some d => a.put (some d) (f d) | none => a) r

theorem act_ext {a b : Act} (h : a.tmps.size = b.tmps.size) (hd : a.defers = b.defers) (he : ∀ t, t < a.tmps.size → a.eval (.tmp t) = b.eval (.tmp t)) : a = b := by
  obtain ⟨x, d⟩ := a
  obtain ⟨y, d'⟩ := b
  simp only at h hd
  subst hd
  congr 1
  apply Array.ext h
  intro k h1 h2
  have := he k h1
  simpa [Act.eval, h1, h2] using this

theorem putsOf_size (f : Nat → Value) : ∀ (l : List Oper) (a : Act), (putsOf f a l).tmps.size = a.tmps.size ∧ (putsOf f a l).defers = a.defers
  | [], a => ⟨rfl, rfl⟩
  | o :: r, a => by
    have := putsOf_size f r (match o.dst with | some d => a.put (some d) (f d) | none => a)
    rw [putsOf, this.1, this.2]
    cases o.dst with
    | none => exact ⟨rfl, rfl⟩
    | some d => exact ⟨put_size _ _ _, put_defers' _ _ _⟩

theorem putsOf_eval (f : Nat → Value) : ∀ (l : List Oper) (a : Act) (t : Nat), t < a.tmps.size → (putsOf f a l).eval (.tmp t) = if l.any (fun o => o.dst == some t) then f t else a.eval (.tmp t)
  | [], a, t, _ => by simp [putsOf]
  | o :: r, a, t, ht => by
    have hs : (match o.dst with | some d => a.put (some d) (f d) | none => a).tmps.size = a.tmps.size := by cases o.dst <;> simp [put_size]
    rw [putsOf, putsOf_eval f r _ t (by rw [hs]; exact ht)]
    cases hd : o.dst with
    | none => simp [hd]
    | some d =>
      by_cases h : d = t
      · subst h
        simp only [List.any_cons, hd, beq_self_eq_true, Bool.true_or, if_true]
        split
        · rfl
        · exact put_eval_same _ ht
      · have h1 : (some d == some t) = false := by simpa using h
        simp only [List.any_cons, hd, h1, Bool.false_or]
        split
        · rfl
        · exact put_eval_other _ (by simpa using h)

theorem frame_behind {a' : Act} {n : Nat} (hn : a0.tmps.size = n) (h1 : a'.tmps.size = n) (h2 : a'.defers = a0.defers) (h3 : ∀ t, (∀ o ∈ ops, o.dst ≠ some t) → a'.eval (.tmp t) = a0.eval (.tmp t)) : a' = putsOf (fun d => a'.eval (.tmp d)) a0 ops.toList := by
  have hs := putsOf_size (fun d => a'.eval (.tmp d)) ops.toList a0
  refine act_ext (by rw [hs.1, h1, hn]) (by rw [hs.2, h2]) fun t ht => ?_
  rw [putsOf_eval _ _ _ _ (by omega)]
  split
  · rfl
  · rename_i h
    refine h3 t fun o ho he => h ?_
    simp only [List.any_eq_true]
    exact ⟨o, by simpa using ho, by simp [he]⟩

/-- The region, by kinds. -/
theorem region_kinds {P : Program} {id : Nat} {ops : Array Oper} {Q : Exit → Act → World → Prop} {a : Act} {w : World} (S : Nat → Prop) (ks : List (VK S)) (Inv : World → Prop) (n : Nat)
    (hm : P.follows .mixedOrders = true) (hB : invB n ops = true) (hn : a.tmps.size = n)
    (hnone : (List.range ops.size).all (fun i => match ops[i]? with | some o => o.dst.isSome || (match kindOf ks i with | .any => true | _ => false) | none => true) = true) (h0 : Inv w.drew)
    (hstep : StepsFrom (KStep P ops Q S ks Inv a) 0 ops.toList)
    (hdone : ∀ f w', (∀ i o d, ops[i]? = some o → o.dst = some d → Kinds S ks i w' (f d)) → Inv w' → Q .normal (putsOf f a ops.toList) w') :
    (Code.region id ops true).wp P Q a w := by
  refine region_inv (Kinds S ks) Inv (Keep S) n hm hB hn (fun i w w' v h hk => VK.keep hk h) ?_ h0 (steps_of hstep) ?_
  · intro i w o ho hd
    have hi : i < ops.size := (Array.getElem?_eq_some_iff.1 ho).1
    have h1 := List.all_eq_true.1 hnone i (List.mem_range.2 hi)
    simp only [ho, hd, Option.isSome_none, Bool.false_or] at h1
    unfold Kinds
    cases hk : kindOf ks i <;> simp [hk] at h1
    trivial
  · intro a' w' h1 h2 h3 h4 h5
    rw [frame_behind (ops := ops) hn h1 h2 h3]
    refine hdone _ w' (fun i o d ho hd => ?_) h5
    have := h4 i o ho (by simp [hd])
    simpa [valOf, hd] using this

/-- The address of a field of what a slot of the frame points to. -/
theorem st_fieldF (t s f : Nat) (ad ad' : Addr) (ho : o.op = .fieldAddr s (.tmp t) f) (ht : ops.toList.all (fun o => o.dst != some t) = true) (hv : a0.eval (.tmp t) = .pointer (some ad))
    (hrun : ∀ w, (Instr.fieldAt s (.pointer (some ad)) f).run P w = .ok (.pointer (some ad')) w) (hk : kindOf ks i = .is (.pointer (some ad'))) : KStep P ops Q S ks Inv a0 i o := by
  intro a w K hI hV hF hK
  have h' : a.eval (.tmp t) = .pointer (some ad) := by rw [stays hF t ht, hv]
  unfold Oper.wp execOp
  simp only [ho, h', Sem.run_bind, hrun, Result.andThen_ok, Sem.run_pure, Oper.upon_value]
  refine hK _ _ hI (Keep.refl _ _) ?_
  unfold Kinds
  rw [hk]
  rfl

/-- A load of a cell whose value is known. -/
theorem st_loadV (j t ty : Nat) (v : Value) (ad : Addr) (ho : o.op = .load ty (.tmp t)) (he : o.after.toList.any (fun e => e.on == j && Region.binds .any e) = true) (hj : (ops[j]?.bind (·.dst)) = some t)
    (hkj : kindOf ks j = .is (.pointer (some ad))) (hld : ∀ w, Inv w → (Instr.loadAt ty (.pointer (some ad))).run P w = .ok v w) (hk : kindOf ks i = .is v) : KStep P ops Q S ks Inv a0 i o := by
  intro a w K hI hV hF hK
  have h := tells hV j t he hj
  rw [hkj] at h
  have h1 : a.eval (.tmp t) = .pointer (some ad) := h
  unfold Oper.wp execOp
  simp only [ho, h1, Sem.run_bind, hld w hI, Result.andThen_ok, Sem.run_pure, Oper.upon_value]
  refine hK _ _ hI (Keep.refl _ _) ?_
  unfold Kinds
  rw [hk]
  rfl

/-- The region, by kinds: a head in any order, a tail in its own. -/
theorem region_kinds_tail {P : Program} {id : Nat} {ops : Array Oper} {Q : Exit → Act → World → Prop} {a : Act} {w : World} (S : Nat → Prop) (ks : List (VK S)) (Inv : World → Prop) (n k : Nat)
    (hm : P.follows .mixedOrders = true) (hk : k ≤ ops.size) (hB : invB n ops = true) (hW : waitB k ops = true) (hS : Region.seqB .any ops (ops.size - k) k (headDone k ops.size) = true) (hn : a.tmps.size = n)
    (hnone : (List.range ops.size).all (fun i => match ops[i]? with | some o => o.dst.isSome || (match kindOf ks i with | .any => true | _ => false) | none => true) = true) (h0 : Inv w.drew)
    (hstep : StepsFrom (KStep P ops Q S ks Inv a) 0 (ops.toList.take k))
    (hdone : ∀ f w', (∀ i o d, i < k → ops[i]? = some o → o.dst = some d → Kinds S ks i w' (f d)) → Inv w' → wpList P ops Q (ops.toList.drop k) (putsOf f a (ops.toList.take k)) w') :
    (Code.region id ops true).wp P Q a w := by
  refine region_inv_tail (Kinds S ks) Inv (Keep S) n k hm hk hB hW hS hn (fun i w w' v h hk => VK.keep hk h) ?_ h0 ?_ ?_
  · intro i w o ho hd
    have hi : i < ops.size := (Array.getElem?_eq_some_iff.1 ho).1
    have h1 := List.all_eq_true.1 hnone i (List.mem_range.2 hi)
    simp only [ho, hd, Option.isSome_none, Bool.false_or] at h1
    unfold Kinds
    cases hk : kindOf ks i <;> simp [hk] at h1
    trivial
  · intro i o hi ho
    have := StepsFrom.get _ 0 hstep i o (by rw [List.getElem?_take, if_pos hi]; simpa using ho)
    simpa using this
  · intro a' w' h1 h2 h3 h4 h5
    have h3' : ∀ t, (∀ o ∈ (ops.toList.take k).toArray, o.dst ≠ some t) → a'.eval (.tmp t) = a.eval (.tmp t) := by
      intro t ht
      refine h3 t fun i o hi ho => ht o ?_
      simp only [List.mem_toArray]
      rw [List.mem_take_iff_getElem]
      have hil : i < ops.toList.length := by have := (Array.getElem?_eq_some_iff.1 ho).1; simpa using this
      refine ⟨i, by omega, ?_⟩
      have : ops.toList[i]? = some o := by simpa using ho
      rw [List.getElem?_eq_getElem hil] at this
      exact Option.some.inj this
    have := frame_behind (ops := (ops.toList.take k).toArray) hn h1 h2 h3'
    simp only at this
    rw [this]
    refine hdone _ w' (fun i o d hi ho hd => ?_) h5
    have := h4 i o hi ho (by simp [hd])
    simpa [valOf, hd] using this

end Go.Proofs.Ytpdnfekhfagfkaa
