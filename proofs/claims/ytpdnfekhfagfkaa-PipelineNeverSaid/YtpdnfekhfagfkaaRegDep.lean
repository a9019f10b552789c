/-
  Steps of a region that draws its order, by what an operation depends on. No program in sight.
-/
import Derived.Test.YtpdnfekhfagfkaaRegInvG
namespace Go.Proofs.Ytpdnfekhfagfkaa
open Go.RowKit

/-- Slot t holds u when operation o runs, whatever the order is. -/
def Dep (ops : Array Oper) (S : Nat → Prop) (ks : List (VK S)) (a0 : Act) (o : Oper) (t : Nat) (u : Value) : Prop :=
  ∀ (a : Act) (w : World), (∀ e ∈ o.after, Region.binds .any e = true → ∀ oj, ops[e.on]? = some oj → Kinds S ks e.on w (valOf a oj)) →
    (∀ t, (∀ o ∈ ops, o.dst ≠ some t) → a.eval (.tmp t) = a0.eval (.tmp t)) → a.eval (.tmp t) = u

def DepS (ops : Array Oper) (S : Nat → Prop) (ks : List (VK S)) (a0 : Act) (o : Oper) (t : Nat) (f : World → Value → Prop) : Prop :=
  ∀ (a : Act) (w : World), (∀ e ∈ o.after, Region.binds .any e = true → ∀ oj, ops[e.on]? = some oj → Kinds S ks e.on w (valOf a oj)) →
    (∀ t, (∀ o ∈ ops, o.dst ≠ some t) → a.eval (.tmp t) = a0.eval (.tmp t)) → f w (a.eval (.tmp t))

variable {P : Program} {ops : Array Oper} {Q : Exit → Act → World → Prop} {S : Nat → Prop} {ks : List (VK S)} {Inv : World → Prop} {a0 : Act} {i : Nat} {o : Oper}

theorem eval_tmp (a : Act) (t : Nat) : a.eval (.tmp t) = (a.tmps[t]?).getD undef := by simp [Act.eval]

theorem dep_e (j : Nat) {t : Nat} {u : Value} (he : o.after.toList.any (fun e => e.on == j && Region.binds .any e) = true) (hj : (ops[j]?.bind (·.dst)) = some t) (hkj : kindOf ks j = .is u) : Dep ops S ks a0 o t u := by
  intro a w hV hF
  have h := tells hV j t he hj
  rw [hkj] at h
  exact h

theorem dep_f {t : Nat} {u : Value} (ht : ops.toList.all (fun o => o.dst != some t) = true) (hv : a0.eval (.tmp t) = u) : Dep ops S ks a0 o t u := by
  intro a w hV hF
  rw [stays hF t ht, hv]

theorem dep_s (j : Nat) {t : Nat} {f : World → Value → Prop} {hf : ∀ w w' v, Keep S w w' → f w v → f w' v} (he : o.after.toList.any (fun e => e.on == j && Region.binds .any e) = true) (hj : (ops[j]?.bind (·.dst)) = some t) (hkj : kindOf ks j = .sat f hf) : DepS ops S ks a0 o t f := by
  intro a w hV hF
  have h := tells hV j t he hj
  rw [hkj] at h
  exact h

theorem dep_k (j : Nat) {t : Nat} (k : VK S) (he : o.after.toList.any (fun e => e.on == j && Region.binds .any e) = true) (hj : (ops[j]?.bind (·.dst)) = some t) (hkj : kindOf ks j = k) : DepS ops S ks a0 o t (fun w v => k.holds S w v) := by
  intro a w hV hF
  have h := tells hV j t he hj
  rw [hkj] at h
  exact h

theorem st_ev0 (v : Value) (hx : ∀ (a : Act) (w : World), Inv w → (execOp a.eval o).run P w = .ok (.value v) w) (hk : kindOf ks i = .is v) : KStep P ops Q S ks Inv a0 i o := by
  intro a w K hI hV hF hK
  unfold Oper.wp
  rw [hx a w hI]
  refine hK _ _ hI (Keep.refl _ _) ?_
  unfold Kinds
  rw [hk]
  rfl

theorem st_ev1 {t : Nat} {u : Value} (d : Dep ops S ks a0 o t u) (v : Value) (hx : ∀ (a : Act) (w : World), (a.tmps[t]?).getD undef = u → Inv w → (execOp a.eval o).run P w = .ok (.value v) w) (hk : kindOf ks i = .is v) : KStep P ops Q S ks Inv a0 i o := by
  intro a w K hI hV hF hK
  unfold Oper.wp
  rw [hx a w ((eval_tmp _ _).symm.trans (d a w hV hF)) hI]
  refine hK _ _ hI (Keep.refl _ _) ?_
  unfold Kinds
  rw [hk]
  rfl

theorem st_ev2 {t t' : Nat} {u u' : Value} (d : Dep ops S ks a0 o t u) (d' : Dep ops S ks a0 o t' u') (v : Value) (hx : ∀ (a : Act) (w : World), (a.tmps[t]?).getD undef = u → (a.tmps[t']?).getD undef = u' → Inv w → (execOp a.eval o).run P w = .ok (.value v) w) (hk : kindOf ks i = .is v) : KStep P ops Q S ks Inv a0 i o := by
  intro a w K hI hV hF hK
  unfold Oper.wp
  rw [hx a w ((eval_tmp _ _).symm.trans (d a w hV hF)) ((eval_tmp _ _).symm.trans (d' a w hV hF)) hI]
  refine hK _ _ hI (Keep.refl _ _) ?_
  unfold Kinds
  rw [hk]
  rfl

/-- A step whose value is of a kind, read out of memory or made of what came in. -/
theorem st_evS {t : Nat} {f : World → Value → Prop} (d : DepS ops S ks a0 o t f) (hx : ∀ (a : Act) (w : World), f w ((a.tmps[t]?).getD undef) → Inv w → ∃ v, (execOp a.eval o).run P w = .ok (.value v) w ∧ (kindOf ks i).holds S w v) : KStep P ops Q S ks Inv a0 i o := by
  intro a w K hI hV hF hK
  obtain ⟨v, h1, h2⟩ := hx a w ((eval_tmp a t) ▸ d a w hV hF) hI
  unfold Oper.wp
  rw [h1]
  exact hK _ _ hI (Keep.refl _ _) h2

theorem st_evES {t t' : Nat} {u : Value} {f : World → Value → Prop} (d' : Dep ops S ks a0 o t' u) (d : DepS ops S ks a0 o t f) (hx : ∀ (a : Act) (w : World), (a.tmps[t']?).getD undef = u → f w ((a.tmps[t]?).getD undef) → Inv w → ∃ v, (execOp a.eval o).run P w = .ok (.value v) w ∧ (kindOf ks i).holds S w v) : KStep P ops Q S ks Inv a0 i o := by
  intro a w K hI hV hF hK
  obtain ⟨v, h1, h2⟩ := hx a w ((eval_tmp _ _).symm.trans (d' a w hV hF)) ((eval_tmp a t) ▸ d a w hV hF) hI
  unfold Oper.wp
  rw [h1]
  exact hK _ _ hI (Keep.refl _ _) h2

theorem st_evSS {t t' : Nat} {f f' : World → Value → Prop} (d' : DepS ops S ks a0 o t' f') (d : DepS ops S ks a0 o t f) (hx : ∀ (a : Act) (w : World), f' w ((a.tmps[t']?).getD undef) → f w ((a.tmps[t]?).getD undef) → Inv w → ∃ v, (execOp a.eval o).run P w = .ok (.value v) w ∧ (kindOf ks i).holds S w v) : KStep P ops Q S ks Inv a0 i o := by
  intro a w K hI hV hF hK
  obtain ⟨v, h1, h2⟩ := hx a w ((eval_tmp a t') ▸ d' a w hV hF) ((eval_tmp a t) ▸ d a w hV hF) hI
  unfold Oper.wp
  rw [h1]
  exact hK _ _ hI (Keep.refl _ _) h2

/-- A call of a function of the program, with arguments that are known. -/
theorem st_callD1 {t : Nat} {u : Value} (d : Dep ops S ks a0 o t u) (f : FuncId) (args : Array Value) (hx : ∀ (a : Act) (w : World), (a.tmps[t]?).getD undef = u → (execOp a.eval o).run P w = .ok (.enter f args) w)
    (hc : ∀ w, Inv w → Calls P f args w fun e w' => ∃ u, e = .returned u ∧ (kindOf ks i).holds S w' u ∧ Inv w' ∧ Keep S w w') : KStep P ops Q S ks Inv a0 i o := by
  intro a w K hI hV hF hK
  unfold Oper.wp
  rw [hx a w ((eval_tmp _ _).symm.trans (d a w hV hF))]
  simp only [Oper.upon_enter]
  refine (hc w hI).mono ?_
  rintro e w' ⟨u, rfl, h2, h3, h4⟩
  exact hK _ _ h3 h4 h2

theorem st_callD2 {t t' : Nat} {u u' : Value} (d : Dep ops S ks a0 o t u) (d' : Dep ops S ks a0 o t' u') (f : FuncId) (args : Array Value) (hx : ∀ (a : Act) (w : World), (a.tmps[t]?).getD undef = u → (a.tmps[t']?).getD undef = u' → (execOp a.eval o).run P w = .ok (.enter f args) w)
    (hc : ∀ w, Inv w → Calls P f args w fun e w' => ∃ u, e = .returned u ∧ (kindOf ks i).holds S w' u ∧ Inv w' ∧ Keep S w w') : KStep P ops Q S ks Inv a0 i o := by
  intro a w K hI hV hF hK
  unfold Oper.wp
  rw [hx a w ((eval_tmp _ _).symm.trans (d a w hV hF)) ((eval_tmp _ _).symm.trans (d' a w hV hF))]
  simp only [Oper.upon_enter]
  refine (hc w hI).mono ?_
  rintro e w' ⟨u, rfl, h2, h3, h4⟩
  exact hK _ _ h3 h4 h2

theorem st_callES {t t' : Nat} {u : Value} {f : World → Value → Prop} (d : Dep ops S ks a0 o t u) (d' : DepS ops S ks a0 o t' f) (F : FuncId) (args : Value → Array Value)
    (hx : ∀ (a : Act) (w : World) (v' : Value), (a.tmps[t]?).getD undef = u → (a.tmps[t']?).getD undef = v' → (execOp a.eval o).run P w = .ok (.enter F (args v')) w)
    (hc : ∀ w v', Inv w → f w v' → Calls P F (args v') w fun e w' => ∃ u, e = .returned u ∧ (kindOf ks i).holds S w' u ∧ Inv w' ∧ Keep S w w') : KStep P ops Q S ks Inv a0 i o := by
  intro a w K hI hV hF hK
  unfold Oper.wp
  have hs := d' a w hV hF
  rw [eval_tmp] at hs
  rw [hx a w _ ((eval_tmp _ _).symm.trans (d a w hV hF)) rfl]
  simp only [Oper.upon_enter]
  refine (hc w _ hI hs).mono ?_
  rintro e w' ⟨u, rfl, h2, h3, h4⟩
  exact hK _ _ h3 h4 h2

/-- An allocation. -/
theorem st_alloc (e : TypeId) (cs : Array Value) (hx : ∀ (a : Act) (w : World), (execOp a.eval o).run P w = .ok (.value (.pointer (some ⟨w.heap.size, 0, none⟩))) (w.alloc (.cells cs e)))
    (hk : ∀ w, Inv w → (kindOf ks i).holds S (w.alloc (.cells cs e)) (.pointer (some ⟨w.heap.size, 0, none⟩)) ∧ Inv (w.alloc (.cells cs e))) : KStep P ops Q S ks Inv a0 i o := by
  intro a w K hI hV hF hK
  unfold Oper.wp
  rw [hx a w]
  exact hK _ _ (hk w hI).2 ((Keep.refl _ _).alloc _) (hk w hI).1

/-- The load of a struct out of cells that stay. -/
theorem st_loadD {t : Nat} (ty : TypeId) (b off : Nat) (cs : List Value) (ho : o.op = .load ty (.tmp t)) (dp : Dep ops S ks a0 o t (.pointer (some ⟨b, off, none⟩))) (hc : ∀ w, Inv w → w.rangeAt b off cs) (d : TypeDesc) (hu : P.underlying ty = some d) (hd : d.isRow = true)
    (size : Nat) (hi : (P.info? ty).map (·.size) = some size) (hl : cs.length = size) (hk : kindOf ks i = .is (.agg cs.toArray)) : KStep P ops Q S ks Inv a0 i o := by
  subst hl
  intro a w K hI hV hF hK
  have hx := dp a w hV hF
  have hrun := run_loadVar_mid (P := P) w b off ty cs d (hc w hI) hu hd hi
  unfold Oper.wp execOp
  simp only [ho, hx, Instr.loadAt, Instr.sureAddr, Sem.run_bind, Sem.run_pure, Result.andThen_ok, hrun]
  refine hK _ _ hI (Keep.refl _ _) ?_
  unfold Kinds
  rw [hk]
  rfl

/-- A step by hand. -/
theorem st_any (h : ∀ (a : Act) (w : World) (K : Act → World → Prop), Inv w → (∀ e ∈ o.after, Region.binds .any e = true → ∀ oj, ops[e.on]? = some oj → Kinds S ks e.on w (valOf a oj)) →
    (∀ t, (∀ o ∈ ops, o.dst ≠ some t) → a.eval (.tmp t) = a0.eval (.tmp t)) → (∀ v w', Inv w' → Keep S w w' → (kindOf ks i).holds S w' v → K (a.put o.dst v) w') → o.wp P a w K Q) : KStep P ops Q S ks Inv a0 i o := h

/-- 'make([]T, n)' as one operation. -/
theorem wp_makeArr {α : Type} {enc : α → List Value} {size : Nat} {K : Act → World → Prop} {a : Act} (w : World)
    (l c : Operand) (t : TypeId) (hop : o.op = Op.makeSlice t l c)
    (e : TypeId) (i : TypeInfo) (z : Value) (bytes : Nat) (h1 : P.underlying t = some (.slice e)) (h2 : P.info? e = some i) (h3 : i.zero = some z) (h4 : i.size = size) (h5 : i.bytes = bytes)
    (zero : α) (hsz : ∀ x, (enc x).length = size) (hz : enc zero = z.cells.toList) (hpos : 0 < size)
    (kl kc : IntKind) (L C : Int) (n : Nat) (hl : a.eval l = .int kl L) (hc : a.eval c = .int kc C) (hL : L = (n : Int)) (hC : C = (n : Int)) (b2 : bytes * n ≤ 140737488355328) (b3 : n ≤ 140737488355328)
    (hK : ∀ w', Arr enc e w' w.heap.size (List.replicate n zero) → Keep None w w' → w'.heap.size = w.heap.size + 1 → K (a.put o.dst (.slice (some ⟨w.heap.size, 0, none⟩) n n)) w') :
    o.wp P a w K Q := by
  subst hL
  subst hC
  have hb : i.bytes * n ≤ 140737488355328 := by rw [h5]; exact b2
  have hb' : ((i.bytes * n : Nat) : Int) ≤ 281474976710656 := by omega
  have hrun := run_make (P := P) w t e i z h1 h2 h3 kl kc n n (by omega) (by omega) (by rw [Int.natCast_mul] at hb'; exact hb') (by omega)
  simp only [Int.toNat_natCast] at hrun
  unfold Oper.wp
  simp [execOp, hop, hl, hc, hrun, Result.andThen]
  refine hK _ ?_ ((Keep.refl _ _).alloc _) (by simp)
  have : madeCells z.cells (n * i.size) = ((List.replicate n zero).flatMap enc).toArray := by
    subst h4
    have hzs : z.cells.size = i.size := by rw [← hsz zero, hz]; simp
    rw [← Array.toList_inj]
    apply List.ext_getElem?
    intro j
    by_cases hj : j < n * i.size
    · have hq : j / i.size < n := Nat.div_lt_of_lt_mul (by rw [Nat.mul_comm]; exact hj)
      have hm := Nat.mod_lt j hpos
      have e1 : (List.replicate n zero)[j / i.size]? = some zero := by simp [hq]
      have e2 : (enc zero)[j % i.size]? = some (z.cells[j % i.size]'(by omega)) := by rw [hz]; simp
      have := flat_get hsz (List.replicate n zero) (j / i.size) zero e1 (j % i.size) _ e2
      rw [Nat.mul_comm, Nat.div_add_mod] at this
      simp only [this]
      simp [madeCells, hj, hzs, getElem!_pos, hm]
    · rw [List.getElem?_eq_none (by simp [size_madeCells]; omega), List.getElem?_eq_none (by rw [flat_len hsz]; simp; omega)]
  unfold Arr
  rw [← this]
  exact heap_alloc_new _ _

theorem wpList_makeBig {α : Type} {enc : α → List Value} {size : Nat} (w : World) {rest : List Oper} {a : Act}
    (hg : o.guard = none) (l c : Operand) (t : TypeId) (hop : o.op = Op.makeSlice t l c)
    (e : TypeId) (i : TypeInfo) (z : Value) (bytes : Nat) (h1 : P.underlying t = some (.slice e)) (h2 : P.info? e = some i) (h3 : i.zero = some z) (h4 : i.size = size) (h5 : i.bytes = bytes)
    (zero : α) (hsz : ∀ x, (enc x).length = size) (hz : enc zero = z.cells.toList) (hpos : 0 < size)
    (kl kc : IntKind) (L C : Int) (n : Nat) (hl : a.eval l = .int kl L) (hc : a.eval c = .int kc C) (hL : L = (n : Int)) (hC : C = (n : Int)) (b2 : bytes * n ≤ 140737488355328) (b3 : n ≤ 140737488355328)
    (hK : ∀ w', Arr enc e w' w.heap.size (List.replicate n zero) → Keep None w w' → w'.heap.size = w.heap.size + 1 → wpList P ops Q rest (a.put o.dst (.slice (some ⟨w.heap.size, 0, none⟩) n n)) w') :
    wpList P ops Q (o :: rest) a w :=
  wpList_plain hg fun K hK' => wp_makeArr w l c t hop e i z bytes h1 h2 h3 h4 h5 zero hsz hz hpos kl kc L C n hl hc hL hC b2 b3 (fun w' x1 x2 x3 => hK' _ _ (hK w' x1 x2 x3))

end Go.Proofs.Ytpdnfekhfagfkaa
