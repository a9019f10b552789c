/-
  Runs that the kernel carries out: a region that draws its order, in any order. No program in sight.
-/
import Derived.Test.YtgkbjdphkmmmhaaDoorEvL
namespace Go.Proofs.YtgkbjdphkmmmhaaDoor.Ev
open Go
noncomputable section

/-! ### Which operation waits for which -/
theorem masksOf_length : ∀ (ops : List Oper) (ms : List Nat), (masksOf ops ms).length = ms.length + ops.length
  | [], ms => by simp [masksOf]
  | o :: os, ms => by rw [masksOf, masksOf_length]; simp; omega
theorem masksOf_take : ∀ (ops : List Oper) (ms : List Nat), (masksOf ops ms).take ms.length = ms
  | [], ms => by simp [masksOf]
  | o :: os, ms => by
    rw [masksOf]
    have := masksOf_take os (ms ++ [maskOf ms o])
    have h2 : ((masksOf os (ms ++ [maskOf ms o])).take (ms ++ [maskOf ms o]).length).take ms.length = ms := by rw [this]; simp
    rw [List.take_take] at h2
    simpa using h2
theorem masksOf_get : ∀ (ops : List Oper) (ms : List Nat) (k : Nat) (o : Oper), ops[k]? = some o → (masksOf ops ms)[ms.length + k]? = some (maskOf ((masksOf ops ms).take (ms.length + k)) o)
  | [], ms, k, o, h => by simp at h
  | x :: os, ms, 0, o, h => by
    simp at h; subst h
    rw [masksOf]
    have h1 := masksOf_take os (ms ++ [maskOf ms x])
    have h2 := masksOf_length os (ms ++ [maskOf ms x])
    have e : (masksOf os (ms ++ [maskOf ms x]))[ms.length]? = some (maskOf ms x) := by
      have := congrArg (fun l => l[ms.length]?) h1
      simp only [List.length_append, List.length_cons, List.length_nil] at this
      rw [List.getElem?_take] at this
      rw [if_pos (by omega)] at this
      rw [this]
      simp
    have e2 : (masksOf os (ms ++ [maskOf ms x])).take ms.length = ms := by
      have := congrArg (fun l => l.take ms.length) h1
      simp only [List.take_take, List.length_append, List.length_cons, List.length_nil] at this
      rw [Nat.min_eq_left (by omega)] at this
      rw [this]
      simp
    rw [Nat.add_zero, e, e2]
  | x :: os, ms, k + 1, o, h => by
    simp at h
    have := masksOf_get os (ms ++ [maskOf ms x]) k o h
    rw [masksOf]
    simp only [List.length_append, List.length_cons, List.length_nil] at this
    rw [show ms.length + (k + 1) = ms.length + (0 + 1) + k by omega]
    exact this
theorem maskOf_bit {ms : List Nat} {o : Oper} {i : Nat} (h : (maskOf ms o).testBit i = true) : ∃ e ∈ o.after, Region.binds .any e = true ∧ (i = e.on ∨ (ms.getD e.on 0).testBit i = true) := by
  unfold maskOf at h
  have key : ∀ (l : List Edge) (s : Nat), (l.foldl (fun s e => if Region.binds .any e then s ||| 2 ^ e.on ||| ms.getD e.on 0 else s) s).testBit i = true → s.testBit i = true ∨ ∃ e ∈ l, Region.binds .any e = true ∧ (i = e.on ∨ (ms.getD e.on 0).testBit i = true) := by
    intro l
    induction l with
    | nil => intro s h; exact .inl h
    | cons e l ih =>
      intro s h
      rw [List.foldl_cons] at h
      rcases ih _ h with h1 | ⟨e', h1, h2⟩
      · by_cases hb : Region.binds .any e = true
        · rw [if_pos hb, Nat.testBit_or, Nat.testBit_or, Nat.testBit_two_pow] at h1
          simp only [Bool.or_eq_true, decide_eq_true_eq] at h1
          rcases h1 with (h1 | h1) | h1
          · exact .inl h1
          · exact .inr ⟨e, List.mem_cons_self .., hb, .inl h1.symm⟩
          · exact .inr ⟨e, List.mem_cons_self .., hb, .inr h1⟩
        · rw [if_neg hb] at h1; exact .inl h1
      · exact .inr ⟨e', List.mem_cons_of_mem _ h1, h2⟩
  rcases key _ _ h with h1 | ⟨e, h1, h2⟩
  · simp at h1
  · exact ⟨e, by simpa using h1, h2⟩

/-- The mask of an operation. -/
def maskAt (ops : List Oper) (k : Nat) : Nat := (masksOf ops []).getD k 0
theorem maskAt_bit {ops : List Oper} {k i : Nat} {o : Oper} (ho : ops[k]? = some o) (hon : ∀ e ∈ o.after, Region.binds .any e = true → e.on < k) (h : (maskAt ops k).testBit i = true) :
    ∃ e ∈ o.after, Region.binds .any e = true ∧ (i = e.on ∨ (maskAt ops e.on).testBit i = true) := by
  have hg := masksOf_get ops [] k o ho
  simp only [List.length_nil, Nat.zero_add] at hg
  unfold maskAt at h
  rw [List.getD_eq_getElem?_getD, hg, Option.getD_some] at h
  obtain ⟨e, h1, h2, h3⟩ := maskOf_bit h
  refine ⟨e, h1, h2, h3.imp id fun h3 => ?_⟩
  have := hon e h1 h2
  unfold maskAt
  rw [List.getD_eq_getElem?_getD] at h3 ⊢
  rw [List.getElem?_take, if_pos this] at h3
  exact h3
theorem statOk_some {ops : List Oper} (h : statOk ops = true) {j : Nat} {oj : Oper} (hj : ops[j]? = some oj) :
    (∀ e ∈ oj.after, Region.binds .any e = true → e.on < j) ∧ ∀ (i : Nat) (oi : Oper), i < j → ops[i]? = some oi → (maskAt ops j).testBit i = true ∨ ((∀ d, oi.dst = some d → d ∉ namesOf ops oj ∧ oj.dst ≠ some d) ∧ ∀ d, oj.dst = some d → d ∉ namesOf ops oi) := by
  unfold statOk at h
  have hjl : j < ops.length := (List.getElem?_eq_some_iff.1 hj).1
  have h1 := List.all_eq_true.1 h j (List.mem_range.2 hjl)
  rw [hj] at h1
  simp only [Bool.and_eq_true] at h1
  refine ⟨fun e he hb => ?_, fun i oi hi hoi => ?_⟩
  · have := List.all_eq_true.1 h1.1 e (by simpa using he)
    simpa [hb] using this
  · have := List.all_eq_true.1 h1.2 i (List.mem_range.2 hi)
    rw [Bool.or_eq_true, hasBit_eq] at this
    rcases this with h2 | h2
    · exact .inl h2
    · rw [hoi] at h2
      simp only [Bool.and_eq_true] at h2
      refine .inr ⟨fun d hd => ?_, fun d hd => ?_⟩
      · have := List.all_eq_true.1 h2.1 d (by rw [hd]; simp)
        simp only [Bool.and_eq_true, Bool.not_eq_true', List.contains_eq_mem, decide_eq_false_iff_not, beq_eq_false_iff_ne, ne_eq] at this
        exact this
      · have := List.all_eq_true.1 h2.2 d (by rw [hd]; simp)
        simpa using this

/-! ### What an operation reads of the slots -/
def tmpsOf (xs : List Operand) : List Nat := xs.filterMap fun | .tmp t => some t | _ => .none
def SameAt (T U : Tm) (l : List Nat) : Prop := ∀ t ∈ l, tget T t = tget U t
theorem opdC_same {x : Operand} {g : GetC} (h : opdC x = ⟨some g⟩) {T U : Tm} (hn : SameAt T U (tmpsOf [x])) : g.g T = g.g U := by
  unfold opdC at h
  split at h
  · rename_i t; cases h; exact hn t (by simp [tmpsOf])
  · split at h
    · cases h; rfl
    · cases h
  · cases h; rfl
  · split at h
    · cases h; rfl
    · cases h
theorem SameAt.mono {T U : Tm} {l l' : List Nat} (h : SameAt T U l) (hs : ∀ t ∈ l', t ∈ l) : SameAt T U l' := fun t ht => h t (hs t ht)
theorem tmps_sub {xs ys : List Operand} (h : ∀ x ∈ ys, x ∈ xs) : ∀ t ∈ tmpsOf ys, t ∈ tmpsOf xs := by
  intro t ht
  unfold tmpsOf at ht ⊢
  rw [List.mem_filterMap] at ht ⊢
  obtain ⟨x, h1, h2⟩ := ht
  exact ⟨x, h x h1, h2⟩
theorem evO_same {β : Type} {T U : Tm} {x : Operand} (hn : SameAt T U (tmpsOf [x])) {k k' : Value → Option β} (hk : ∀ v, k v = k' v) : evO T x k = evO U x k' := by
  unfold evO
  split
  · rename_i t; rw [hn t (by simp [tmpsOf])]; exact hk _
  · split
    · exact hk _
    · rfl
  · exact hk _
  · split
    · exact hk _
    · rfl
theorem evOs_same {β : Type} {T U : Tm} : ∀ {xs : List Operand}, SameAt T U (tmpsOf xs) → ∀ {k k' : List Value → Option β}, (∀ v, k v = k' v) → evOs T xs k = evOs U xs k'
  | [], _, k, k', hk => hk _
  | x :: xs, hn, k, k', hk => evO_same (hn.mono (tmps_sub (by simp))) fun v => evOs_same (hn.mono (tmps_sub (by intro y hy; simp [hy]))) fun vs => hk _
theorem evPs_same {β : Type} {T U : Tm} : ∀ {xs : List (Nat × Operand)}, SameAt T U (tmpsOf (xs.map (·.2))) → ∀ {k k' : List (Nat × Value) → Option β}, (∀ v, k v = k' v) → evPs T xs k = evPs U xs k'
  | [], _, k, k', hk => hk _
  | (n, x) :: xs, hn, k, k', hk => evO_same (hn.mono (tmps_sub (by simp))) fun v => evPs_same (hn.mono (tmps_sub (by intro y hy; simp at hy ⊢; exact .inr hy))) fun vs => hk _
theorem evI_same {β : Type} {T U : Tm} {x : Operand} (hn : SameAt T U (tmpsOf [x])) {k k' : IntKind → Int → Option β} (hk : ∀ a b, k a b = k' a b) : evI T x k = evI U x k' :=
  evO_same hn fun v => by cases v <;> first | exact hk _ _ | rfl
theorem evB_same {β : Type} {T U : Tm} {x : Option Operand} (hn : SameAt T U (tmpsOf x.toList)) {d : Nat} {k k' : Nat → Option β} (hk : ∀ a, k a = k' a) : evB T x d k = evB U x d k' := by
  unfold evB
  split
  · exact hk _
  · exact evI_same hn fun a b => by cases b <;> first | exact hk _ | rfl
theorem getsV_same {T U : Tm} : ∀ {xs : List Operand} {gs : List GetC}, getsC xs = some gs → SameAt T U (tmpsOf xs) → getsV T gs = getsV U gs
  | [], gs, h, _ => by cases h; rfl
  | x :: xs, gs, h, hn => by
    unfold getsC at h
    split at h
    · rename_i g gs' hg hgs
      cases h
      unfold getsV
      rw [opdC_same hg (hn.mono (tmps_sub (by simp))), getsV_same hgs (hn.mono (tmps_sub (by intro y hy; simp [hy])))]
    · cases h
theorem getPv_same {T U : Tm} : ∀ {xs : List (Nat × Operand)} {gs : List (Nat × GetC)}, getPs xs = some gs → SameAt T U (tmpsOf (xs.map (·.2))) → getPv T gs = getPv U gs
  | [], gs, h, _ => by cases h; rfl
  | (n, x) :: xs, gs, h, hn => by
    unfold getPs at h
    split at h
    · rename_i g gs' hg hgs
      cases h
      unfold getPv
      rw [opdC_same hg (hn.mono (tmps_sub (by simp))), getPv_same hgs (hn.mono (tmps_sub (by intro y hy; simp at hy ⊢; exact .inr hy)))]
    · cases h

section
variable {P : Program}
theorem un_same {x : Operand} {f : Value → St → Option (Value × St)} {call : CallF} {T U : Tm} {S : St} (hn : SameAt T U (tmpsOf [x])) : (un x f).r call T S = (un x f).r call U S := by
  unfold un
  split
  · rename_i g hg
    dsimp only
    rw [opdC_same hg hn]
  · rfl
theorem bi_same {x y : Operand} {f : Value → Value → St → Option (Value × St)} {call : CallF} {T U : Tm} {S : St} (hn : SameAt T U (tmpsOf [x, y])) : (bi x y f).r call T S = (bi x y f).r call U S := by
  unfold bi
  split
  · rename_i g h hg hh
    dsimp only
    rw [opdC_same hg (hn.mono (tmps_sub (by simp))), opdC_same hh (hn.mono (tmps_sub (by simp)))]
  · rfl
theorem slow_same {o : Oper} {call : CallF} {T U : Tm} {S : St} (hn : SameAt T U (tmpsOf o.op.operands.toList)) : (slowC P o).r call T S = (slowC P o).r call U S := by
  unfold slowC
  dsimp only
  congr 1
  obtain ⟨dst, op, ty, pos, after, guard⟩ := o
  unfold aOp
  cases op <;> dsimp only <;> try rfl
  case move x => exact evO_same hn fun v => rfl
  case assign x => exact evO_same hn fun v => rfl
  case pick c x y =>
    refine evO_same (hn.mono (tmps_sub (by simp [Op.operands]))) fun v => ?_
    split
    · exact evO_same (hn.mono (tmps_sub (by simp [Op.operands]))) fun v => rfl
    · exact evO_same (hn.mono (tmps_sub (by simp [Op.operands]))) fun v => rfl
    · rfl
  case box e x => exact evO_same hn fun v => rfl
  case build t ps => exact evPs_same (hn.mono (tmps_sub (by intro y hy; simpa [Op.operands] using hy))) fun v => rfl
  case buildSlice t len ps => exact evPs_same (hn.mono (tmps_sub (by intro y hy; simpa [Op.operands] using hy))) fun v => rfl
  case load t x => exact evO_same hn fun v => rfl
  case store t x y => exact evO_same (hn.mono (tmps_sub (by simp [Op.operands]))) fun v => evO_same (hn.mono (tmps_sub (by simp [Op.operands]))) fun v => rfl
  case nilCheck x => exact evO_same hn fun v => rfl
  case binOp op t x y yt => exact evO_same (hn.mono (tmps_sub (by simp [Op.operands]))) fun v => evO_same (hn.mono (tmps_sub (by simp [Op.operands]))) fun v => rfl
  case unOp op t x => exact evO_same hn fun v => rfl
  case convert s d x => exact evO_same hn fun v => rfl
  case makeFunc fn f c => exact evOs_same (hn.mono (tmps_sub (by intro y hy; simp [Op.operands] at hy ⊢; exact .inl hy))) fun v => evOs_same (hn.mono (tmps_sub (by intro y hy; simp [Op.operands] at hy ⊢; exact .inr hy))) fun v => rfl
  case makeMap t r => cases r <;> rfl
  case makeSlice t l c => exact evO_same (hn.mono (tmps_sub (by simp [Op.operands]))) fun v => evO_same (hn.mono (tmps_sub (by simp [Op.operands]))) fun v => rfl
  case slice t x lo hi mx =>
    cases mx with
    | some y => rfl
    | none =>
      refine evO_same (hn.mono (tmps_sub (by simp [Op.operands]))) fun v => ?_
      split
      · exact evB_same (hn.mono (tmps_sub (by intro y hy; simp [Op.operands] at hy ⊢; exact .inr (.inl hy)))) fun a => evB_same (hn.mono (tmps_sub (by intro y hy; simp [Op.operands] at hy ⊢; exact .inr (.inr hy)))) fun b => rfl
      · exact evB_same (hn.mono (tmps_sub (by intro y hy; simp [Op.operands] at hy ⊢; exact .inr (.inl hy)))) fun a => evB_same (hn.mono (tmps_sub (by intro y hy; simp [Op.operands] at hy ⊢; exact .inr (.inr hy)))) fun b => rfl
      · rfl
  case fieldAddr s x f => exact evO_same hn fun v => rfl
  case field t x f => exact evO_same hn fun v => rfl
  case indexAddr t x i => exact evO_same (hn.mono (tmps_sub (by simp [Op.operands]))) fun v => evI_same (hn.mono (tmps_sub (by simp [Op.operands]))) fun a b => rfl
  case index t x i => exact evO_same (hn.mono (tmps_sub (by simp [Op.operands]))) fun v => evI_same (hn.mono (tmps_sub (by simp [Op.operands]))) fun a b => rfl
  case lookup t x i ok => exact evO_same (hn.mono (tmps_sub (by simp [Op.operands]))) fun v => evO_same (hn.mono (tmps_sub (by simp [Op.operands]))) fun v => rfl
  case mapUpdate t x k y => exact evO_same (hn.mono (tmps_sub (by simp [Op.operands]))) fun v => evO_same (hn.mono (tmps_sub (by simp [Op.operands]))) fun v => evO_same (hn.mono (tmps_sub (by simp [Op.operands]))) fun v => rfl
  case extract x i => exact evO_same hn fun v => rfl
  case range t x => exact evO_same hn fun v => rfl
  case next x b => exact evO_same hn fun v => rfl
  case call c =>
    obtain ⟨callee, args, ts⟩ := c
    cases callee with
    | builtin b => exact evOs_same (hn.mono (tmps_sub (by intro y hy; simpa [Op.operands, Call.operands] using hy))) fun v => rfl
    | value f => rfl
    | invoke r n => rfl
theorem opC_same {o : Oper} {call : CallF} {T U : Tm} {S : St} (hn : SameAt T U (tmpsOf o.op.operands.toList)) : (opC P o).r call T S = (opC P o).r call U S := by
  have hslow := slow_same (P := P) (call := call) (S := S) hn
  obtain ⟨dst, op, ty, pos, after, guard⟩ := o
  unfold opC
  cases op <;> dsimp only
  case move x => exact un_same hn
  case assign x => exact un_same hn
  case pick c x y =>
    unfold pickC
    split
    · rename_i g1 g2 g3 h1 h2 h3
      dsimp only
      rw [opdC_same h1 (hn.mono (tmps_sub (by simp [Op.operands])))]
      unfold pickF
      rw [opdC_same h2 (hn.mono (tmps_sub (by simp [Op.operands]))), opdC_same h3 (hn.mono (tmps_sub (by simp [Op.operands])))]
    · rfl
  case box e x => exact un_same hn
  case load t x => exact un_same hn
  case store t x y => exact bi_same (hn.mono (tmps_sub (by simp [Op.operands])))
  case nilCheck x => exact un_same hn
  case binOp op t x y yt => exact bi_same (hn.mono (tmps_sub (by simp [Op.operands])))
  case fieldAddr s x f => exact un_same hn
  case extract x i => exact un_same hn
  case indexAddr t x i => exact bi_same (hn.mono (tmps_sub (by simp [Op.operands])))
  case build t ps =>
    unfold buildC
    split
    · rename_i gs hg
      dsimp only
      rw [getPv_same hg (hn.mono (tmps_sub (by intro y hy; simpa [Op.operands] using hy)))]
    · rfl
  case buildSlice t len ps =>
    unfold buildC
    split
    · rename_i gs hg
      dsimp only
      rw [getPv_same hg (hn.mono (tmps_sub (by intro y hy; simpa [Op.operands] using hy)))]
    · rfl
  case makeSlice t l c => exact bi_same (hn.mono (tmps_sub (by simp [Op.operands])))
  case unOp op t x =>
    cases op
    case not => exact un_same hn
    all_goals exact hslow
  case call c =>
    obtain ⟨callee, args, ts⟩ := c
    cases callee with
    | builtin b =>
      dsimp only
      unfold builtinC
      split
      · rename_i x hx
        exact un_same (hn.mono (tmps_sub (by intro y hy; simp [Op.operands, Call.operands]; rw [← Array.mem_toList_iff, hx]; exact hy)))
      · dsimp only
        rw [evOs_same (hn.mono (tmps_sub (by intro y hy; simpa [Op.operands, Call.operands] using hy))) fun v => rfl]
    | value f =>
      dsimp only
      unfold callC
      split
      · rename_i g gs hgs
        dsimp only
        rw [getsV_same hgs (hn.mono (tmps_sub (by intro y hy; simp [Op.operands, Call.operands] at hy ⊢; exact .inr hy)))]
      · rename_i f' o' gs hnf hgs
        split
        · rename_i h hop
          dsimp only
          rw [getsV_same hgs (hn.mono (tmps_sub (by intro y hy; simp [Op.operands, Call.operands] at hy ⊢; exact .inr hy))), opdC_same hop (hn.mono (tmps_sub (by intro y hy; simp [Op.operands, Call.operands] at hy ⊢; exact .inl hy)))]
        · rfl
      · rfl
    | invoke r n => exact hslow
  all_goals exact hslow
end

def gen16 {α : Type} (g : Nat → α) : N16 α := ⟨g 0, g 1, g 2, g 3, g 4, g 5, g 6, g 7, g 8, g 9, g 10, g 11, g 12, g 13, g 14, g 15⟩
theorem get16_gen {α : Type} (g : Nat → α) {i : Nat} (hi : i < 16) : (get16 i).g (gen16 g) = g i := by
  have h : i = 0 ∨ i = 1 ∨ i = 2 ∨ i = 3 ∨ i = 4 ∨ i = 5 ∨ i = 6 ∨ i = 7 ∨ i = 8 ∨ i = 9 ∨ i = 10 ∨ i = 11 ∨ i = 12 ∨ i = 13 ∨ i = 14 ∨ i = 15 := by omega
  rcases h with rfl | rfl | rfl | rfl | rfl | rfl | rfl | rfl | rfl | rfl | rfl | rfl | rfl | rfl | rfl | rfl <;> rfl
/-- Slots with given values. -/
def mkTm (f : Nat → Value) : Tm := ⟨gen16 fun i => gen16 fun j => f (16 * i + j), gen16 fun i => gen16 fun j => f (256 + 16 * i + j)⟩
theorem tget_mk (f : Nat → Value) (t : Nat) : tget (mkTm f) t = if t < 512 then f t else undef := by
  rw [tget_eq]
  by_cases h : t < 256
  · rw [if_pos h, if_pos (by omega)]
    unfold mkTm
    dsimp only
    rw [get16_gen _ (by omega), get16_gen _ (by omega)]
    congr 1
    omega
  · rw [if_neg h]
    by_cases h1 : t < 512
    · rw [if_pos h1, if_pos h1]
      unfold mkTm
      dsimp only
      rw [get16_gen _ (by omega), get16_gen _ (by omega)]
      congr 1
      omega
    · rw [if_neg h1, if_neg h1]

end
end Go.Proofs.YtgkbjdphkmmmhaaDoor.Ev
