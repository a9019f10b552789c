/-
  Chapter 23: attribute.Add.
-/
import Derived.Test.YtlhmajjmhkjcoaaAddLaw
import Derived.Test.YtlhmajjmhkjcoaaRowsOwn
import Derived.Test.YtlhmajjmhkjcoaaNumbers
import Derived.Test.YtlhmajjmhkjcoaaHitSame
import Derived.Test.YtlhmajjmhkjcoaaConcat
import Derived.BigFrame
namespace Go.Proofs.Ytlhmajjmhkjcoaa
open Go.RowKit

/-- Results: a struct in memory and a value. -/
theorem results_obj_tmp {P : Program} {fn : Func} {t u : Tmp} {ty : TypeId} {tmps : Array Value} {w : World} {g : Nat} (h : fn.results = #[.cell t ty, .tmp u]) (ht : tmps.getD t undef = .pointer (some ⟨g, 0, none⟩)) (cs : List Value) (d : TypeDesc) (hc : w.rangeAt g 0 cs)
    (hu : P.underlying ty = some d) (hd : d.isRow = true) (size : Nat) (hi : (P.info? ty).map (·.size) = some size) (hcl : cs.length = size) : (results fn tmps).run P w = .ok (.tuple #[.agg cs.toArray, tmps.getD u undef]) w := by
  subst hcl
  have hl := run_loadVar_mid (P := P) w g 0 ty cs d hc hu hd hi
  have ht' : tmps[t]?.getD undef = .pointer (some ⟨g, 0, none⟩) := by simpa using ht
  simp [results, h, asAddr, ht', hl]

/-- The load of a struct, behind a guard that says yes. -/
theorem wpList_loadElG {P : Program} {α : Type} {enc : α → List Value} {size : Nat} {ops : Array Oper} {rest : List Oper} {op : Oper} {a : Act} {w : World} {Q : Exit → Act → World → Prop} (hgd : Region.wanted op (yielded ops a.tmps) = true) (ty : TypeId) (x : Operand) (ho : op.op = .load ty x)
    (b o : Nat) (hx : a.eval x = .pointer (some ⟨b, o, none⟩)) (y : α) (d : TypeDesc) (hc : w.rangeAt b o (enc y)) (hl : (enc y).length = size)
    (hu : P.underlying ty = some d) (hd : d.isRow = true) (hi : (P.info? ty).map (·.size) = some size) (v : Value) (hv : v = .agg (enc y).toArray)
    (h : wpList P ops Q rest (a.put op.dst v) w) : wpList P ops Q (op :: rest) a w := by
  subst hv
  have hrun := run_loadVar_mid (P := P) w b o ty (enc y) d hc hu hd (by rw [hl]; exact hi)
  refine BigFrame.wpList_want hgd fun K hK => ?_
  unfold Oper.wp execOp
  simp only [ho, hx, Instr.loadAt, Instr.sureAddr, Sem.run_bind, Sem.run_pure, Result.andThen_ok, hrun]
  exact hK _ _ h

def AddPost (a b : Hits) (w : World) (e : Ending) (w' : World) : Prop :=
  ∃ p c q d, e = .returned (.tuple #[hitsVal p c q d (addR a b).1, .int .i64 (addR a b).2]) ∧ HitsAt (w.heap.size ≤ ·) w' p q (addR a b).1 ∧ Keep None w w'

theorem zero_at (ok : Nat → Prop) (w : World) : HitsAt ok w none none zeroH :=
  ⟨.inl rfl, .inl rfl, .inl rfl, by simp [zeroH], by simp [zeroH], by simp [zeroH]⟩

theorem add_err1 {a b : Hits} (h : decide (lens a.blocks = lens b.blocks) = false) : addR a b = (zeroH, 21) := by
  have : ¬ lens a.blocks = lens b.blocks := by simpa using h
  simp [addR, this]
theorem add_err2 {a b : Hits} (h : decide (lens a.blocks = lens b.blocks) = true) (h2 : addOk a b = false) : addR a b = (zeroH, 5) := by
  have : lens a.blocks = lens b.blocks := by simpa using h
  simp [addR, this, h2]
theorem add_err3 {a b : Hits} (h : decide (lens a.blocks = lens b.blocks) = true) (h2 : addOk a b = true) (h3 : allB smallB (addH a b) = false) : addR a b = (zeroH, 5) := by
  have : lens a.blocks = lens b.blocks := by simpa using h
  simp [addR, this, h2, h3]
theorem add_fine {a b : Hits} (h : decide (lens a.blocks = lens b.blocks) = true) (h2 : addOk a b = true) (h3 : allB smallB (addH a b) = true) : addR a b = (addH a b, 0) := by
  have : lens a.blocks = lens b.blocks := by simpa using h
  simp [addR, this, h2, h3]

theorem heap_setCell {w : World} {g j : Nat} {C : Array Value} {e : TypeId} {fr : Nat × Nat} {v : Value} (h : w.heap[g]? = some (.cells C e fr)) : (w.setCell ⟨g, j, none⟩ v).heap[g]? = some (.cells (C.setIfInBounds j v) e fr) := by
  simp [World.setCell, Array.getElem?_modify, h]

theorem lens_at {xs ys : List (List Int)} (h : decide (lens xs = lens ys) = true) {k : Nat} {x : List Int} (hx : xs[k]? = some x) : ∃ y, ys[k]? = some y ∧ x.length = y.length := by
  have he : lens xs = lens ys := by simpa using h
  have h1 : (lens xs)[k]? = some x.length := by simp [lens, hx]
  rw [he] at h1
  simp only [lens, List.getElem?_map, Option.map_eq_some_iff] at h1
  obtain ⟨y, hy, e⟩ := h1
  exact ⟨y, hy, e.symm⟩

theorem addRows_take {xs ys : List (List Int)} {k : Nat} {x y : List Int} (hx : xs[k]? = some x) (hy : ys[k]? = some y) : (addRows xs ys).take (k + 1) = (addRows xs ys).take k ++ [addRow x y] := by
  rw [List.take_add_one]
  have : (addRows xs ys)[k]? = some (addRow x y) := by simp [addRows, List.getElem?_zipWith, hx, hy]
  rw [this]; rfl

theorem addRow_len {x y : List Int} (h : x.length = y.length) : (addRow x y).length = x.length := by simp [addRow, h]

theorem small_at {h : Hits} (hs : allB smallB h = true) {k j : Nat} {r : List Int} {x : Int} (hr : h.blocks[k]? = some r) (hx : r[j]? = some x) : 0 ≤ x ∧ x ≤ 1099511627776 := by
  simp only [allB, Bool.and_eq_true] at hs
  have h1 := List.all_eq_true.1 hs.1.1.1 r (List.mem_of_getElem? hr)
  have h2 := List.all_eq_true.1 h1 x (List.mem_of_getElem? hx)
  simpa [smallB] using h2

/-- The links so far: the struct's two slices, the rows below a bound, the list above it. -/
def LinkInv (B NL : Nat) (xs : List Lk) (pv : Option Addr) (cv nr : Nat) (rows : List (List Int)) (u l : Int) (w0 : World) (i : Value) (w : World) : Prop :=
  ∃ (k : Nat) (pl : Option Addr) (cl : Nat) (done : List Lk), i = .int .i64 k ∧ k ≤ xs.length ∧ done = (xs.take k).foldl addLink [] ∧ w.heap[B]? = some (.cells #[.slice pv nr cv, .slice pl done.length cl, .int .i64 u, .int .i64 l] 40 (0, 0)) ∧ RowsV (fun b => B + 1 ≤ b ∧ b < NL) w pv rows ∧
    Own Lk.enc 4 72 NL w (.slice pl done.length cl) done ∧ Keep (fun b => B = b ∨ NL ≤ b) w0 w

theorem links_take {xs : List Lk} {k : Nat} {x : Lk} (hx : xs[k]? = some x) : (xs.take (k + 1)).foldl addLink [] = addLink ((xs.take k).foldl addLink []) x := by
  rw [List.take_add_one, hx]; simp

def AddInv (B : Nat) (ab bb : List (List Int)) (u l : Int) (w0 : World) (i : Value) (w : World) : Prop :=
  ∃ (k : Nat) (pv : Option Addr) (cv : Nat), i = .int .i64 k ∧ k ≤ ab.length ∧ w.heap[B]? = some (.cells #[.slice pv k cv, .slice none 0 0, .int .i64 u, .int .i64 l] 40 (0, 0)) ∧ OwnRows (B + 1) w (.slice pv k cv) ((addRows ab bb).take k) ∧ Keep (B ≤ ·) w0 w

def mixRow (ra rb : List Int) (j : Nat) : List Int := (addRow ra rb).take j ++ ra.drop j

def SumInv2 (base : Nat) (ra rb : List Int) (ps : Option Addr) (cs : Nat) (w0 : World) (i : Value) (w : World) : Prop :=
  ∃ j : Nat, i = .int .i64 j ∧ j ≤ ra.length ∧ Own intEnc 1 3 base w (.slice ps ra.length cs) (mixRow ra rb j) ∧ Keep (base ≤ ·) w0 w

theorem mix_len {ra rb : List Int} (h : ra.length = rb.length) {j : Nat} (hj : j ≤ ra.length) : (mixRow ra rb j).length = ra.length := by
  simp [mixRow, addRow]; omega
theorem mix_zero (ra rb : List Int) : mixRow ra rb 0 = ra := by simp [mixRow]
theorem mix_end {ra rb : List Int} (h : ra.length = rb.length) : mixRow ra rb ra.length = addRow ra rb := by
  simp [mixRow]; rw [List.take_of_length_le (by simp [addRow, h])]
theorem mix_at {ra rb : List Int} (h : ra.length = rb.length) {j : Nat} {x : Int} (hx : ra[j]? = some x) : (mixRow ra rb j)[j]? = some x := by
  have hj := (List.getElem?_eq_some_iff.1 hx).1
  unfold mixRow
  rw [List.getElem?_append_right (by simp; omega)]
  have : ((addRow ra rb).take j).length = j := by simp [addRow]; omega
  rw [this]; simpa using hx
theorem mix_step {ra rb : List Int} (h : ra.length = rb.length) {j : Nat} {x y : Int} (hx : ra[j]? = some x) (hy : rb[j]? = some y) : (mixRow ra rb j).set j (x + y) = mixRow ra rb (j + 1) := by
  have hj := (List.getElem?_eq_some_iff.1 hx).1
  have hl : ((addRow ra rb).take j).length = j := by simp [addRow]; omega
  have ha : (addRow ra rb)[j]? = some (x + y) := by simp [addRow, List.getElem?_zipWith, hx, hy]
  unfold mixRow
  rw [List.set_append_right _ _ (by omega), hl, Nat.sub_self, drop_cons hx, List.set_cons_zero, List.take_add_one, ha]
  simp

set_option maxRecDepth 100000 in
set_option maxHeartbeats 8000000 in
theorem add_calls (ok ok' : Nat → Prop) (p q p' q' : Option Addr) (c d c' d' : Nat) (a b : Hits) (w : World) (ha : HitsAt ok w p q a) (hb : HitsAt ok' w p' q' b) (hlk : a.links.length + b.links.length ≤ 100) :
    Calls Try.prog 12 #[hitsVal p c q d a, hitsVal p' c' q' d' b] w (AddPost a b w) := by
  obtain ⟨i4, hi4, hz0, hz1, hz2⟩ := info_parts Try.infoRow
  obtain ⟨ab, al, au, ao⟩ := a
  obtain ⟨bb, bl, bu, bo⟩ := b
  have HA0 := Lib.hid ha
  have HB0 := Lib.hid hb
  have nb := ha.nb
  have nb' := hb.nb
  clear ha hb
  simp only [hitsVal] at *
  have HBX : Hid (∃ W : World, Keep None w W ∧ W = ((w.alloc (.cells #[.slice p ab.length c, .slice q al.length d, .int .i64 au, .int .i64 ao] 40)).alloc (.cells #[.slice p' bb.length c', .slice q' bl.length d', .int .i64 bu, .int .i64 bo] 40)).alloc (.cells #[.slice none 0 0, .slice none 0 0, .int .i64 0, .int .i64 0] 40) ∧
      W.heap[w.heap.size]? = some (.cells #[.slice p ab.length c, .slice q al.length d, .int .i64 au, .int .i64 ao] 40 (0, 0)) ∧
      W.heap[w.heap.size + 1]? = some (.cells #[.slice p' bb.length c', .slice q' bl.length d', .int .i64 bu, .int .i64 bo] 40 (0, 0)) ∧
      W.heap[w.heap.size + 2]? = some (.cells #[.slice none 0 0, .slice none 0 0, .int .i64 0, .int .i64 0] 40 (0, 0)) ∧ W.heap.size = w.heap.size + 3) :=
    Lib.hid ⟨_, (((Keep.refl None w).alloc _).alloc _).alloc _, rfl, (((Keep.refl None _).alloc _).alloc _).obj (heap_alloc_new _ _) id, ((Keep.refl None _).alloc _).obj (alloc_at (by simp)) id, alloc_at (by simp), by simp⟩
  obtain ⟨W, hKW, hWe, ho1, ho2, ho3, hsW⟩ := HBX.out
  have HK := Lib.hid hKW
  have O1 := Lib.hid ho1
  have O2 := Lib.hid ho2
  have O3 := Lib.hid ho3
  have HWE := Lib.hid hWe.symm
  have HA := Lib.hid (HA0.out.still hKW)
  have HB := Lib.hid (HB0.out.still hKW)
  clear HBX hKW ho1 ho2 ho3 hWe HA0 HB0
  cases hsh : decide (lens ab = lens bb) with
  | false =>
    have HSH := Lib.hid hsh
    have HR := Lib.hid (add_err1 (a := ⟨ab, al, au, ao⟩) (b := ⟨bb, bl, bu, bo⟩) hsh)
    clear hsh
    go_enter Try.func12, Try.ntmps12
    go_wp2_with (first
      | (go_at_call 26; rw [HWE.out]; refine (equalRows_calls ok ok' p p' c c' ab bb W HA.out.rows HB.out.rows HA.out.nb HB.out.nb).mono ?_; rintro e w1 ⟨rfl, hk1⟩; rw [HSH.out]; have HK1 := Lib.hid hk1; clear hk1)
      | ((with_reducible (show wpList _ _ _ (⟨_, .store 40 _ _, _, _, _, none⟩ :: _) _ _)); (refine wpList_storeObj rfl 40 _ _ rfl _ rfl [.slice none 0 0, .slice none 0 0, .int .i64 0, .int .i64 0] [.slice none 0 0, .slice none 0 0, .int .i64 0, .int .i64 0] rfl _ (by simp) (HK1.out.obj O3.out id) 4 Try.sizeHits rfl (by simp [Value.oneCell']) ?_); intro w6 hres hk6 hs6; have HRES := Lib.hid hres; have HK6 := Lib.hid hk6; clear hres hk6 hs6))
    refine bodyPost_ret (results_obj_tmp rfl rfl _ _ (range_of_obj HRES.out) Try.underlying40 rfl 4 Try.sizeHits rfl) rfl ?_
    show AddPost _ _ _ _ _
    unfold AddPost
    rw [HR.out]
    refine ⟨none, 0, none, 0, rfl, zero_at _ _, ?_⟩
    exact (HK.out.trans HK1.out).andThen HK6.out (by intro k h1 h2; omega)
  | true =>
    cases hn1 : allB smallB ⟨ab, al, au, ao⟩ with
    | false =>
    have HR := Lib.hid (add_err2 (a := ⟨ab, al, au, ao⟩) (b := ⟨bb, bl, bu, bo⟩) hsh (by simp [addOk, hn1]))
    have HSH := Lib.hid hsh
    have HN1 := Lib.hid hn1
    clear hsh hn1
    go_enter Try.func12, Try.ntmps12
    go_wp2_with (first
      | (go_at_call 26; rw [HWE.out]; refine (equalRows_calls ok ok' p p' c c' ab bb W HA.out.rows HB.out.rows HA.out.nb HB.out.nb).mono ?_; rintro e w1 ⟨rfl, hk1⟩; rw [HSH.out]; have HK1 := Lib.hid hk1; clear hk1)
      | ((with_reducible (show wpList _ _ _ (⟨_, .load 40 (.tmp 2), _, _, _, _⟩ :: _) _ _)); refine wpList_loadEl (enc := listEnc) (size := 4) rfl 40 _ rfl _ _ rfl _ _ (range_of_obj ((HK1.out).obj O1.out id)) rfl Try.underlying40 rfl Try.sizeHits (.agg #[.slice p ab.length c, .slice q al.length d, .int .i64 au, .int .i64 ao]) rfl ?_)
      | (go_at_call 28; refine (numbers_calls smallB 29 (.inl rfl) counted_calls ok p q c d ⟨ab, al, au, ao⟩ w1 (HA.out.still HK1.out)).mono ?_; rintro e w2 ⟨rfl, hk2⟩; rw [HN1.out]; have HK2 := Lib.hid (HK1.out.trans hk2); clear hk2)
      | ((with_reducible (show wpList _ _ _ (⟨_, .store 40 (.tmp 4) _, _, _, _, none⟩ :: _) _ _)); (refine wpList_storeObj rfl 40 _ _ rfl _ rfl [.slice none 0 0, .slice none 0 0, .int .i64 0, .int .i64 0] [.slice none 0 0, .slice none 0 0, .int .i64 0, .int .i64 0] rfl _ (by simp) ((HK2.out).obj O3.out id) 4 Try.sizeHits rfl (by simp [Value.oneCell']) ?_); intro w6 hres hk6 hs6; have HRES := Lib.hid hres; have HK6 := Lib.hid hk6; clear hres hk6 hs6))
    refine bodyPost_ret (results_obj_tmp rfl rfl _ _ (range_of_obj HRES.out) Try.underlying40 rfl 4 Try.sizeHits rfl) rfl ?_
    show AddPost _ _ _ _ _
    unfold AddPost
    rw [HR.out]
    refine ⟨none, 0, none, 0, rfl, zero_at _ _, ?_⟩
    exact (HK.out.trans HK2.out).andThen HK6.out (by intro k h1 h2; omega)

    | true =>
    cases hn2 : allB smallB ⟨bb, bl, bu, bo⟩ with
    | false =>
    have HR := Lib.hid (add_err2 (a := ⟨ab, al, au, ao⟩) (b := ⟨bb, bl, bu, bo⟩) hsh (by simp [addOk, hn2]))
    have HSH := Lib.hid hsh
    have HN1 := Lib.hid hn1
    have HN2 := Lib.hid hn2
    clear hsh hn1 hn2
    go_enter Try.func12, Try.ntmps12
    go_wp2_with (first
      | (go_at_call 26; rw [HWE.out]; refine (equalRows_calls ok ok' p p' c c' ab bb W HA.out.rows HB.out.rows HA.out.nb HB.out.nb).mono ?_; rintro e w1 ⟨rfl, hk1⟩; rw [HSH.out]; have HK1 := Lib.hid hk1; clear hk1)
      | ((with_reducible (show wpList _ _ _ (⟨_, .load 40 (.tmp 2), _, _, _, _⟩ :: _) _ _)); refine wpList_loadEl (enc := listEnc) (size := 4) rfl 40 _ rfl _ _ rfl _ _ (range_of_obj ((HK1.out).obj O1.out id)) rfl Try.underlying40 rfl Try.sizeHits (.agg #[.slice p ab.length c, .slice q al.length d, .int .i64 au, .int .i64 ao]) rfl ?_)
      | ((with_reducible (show wpList _ _ _ (⟨_, .load 40 (.tmp 3), _, _, _, _⟩ :: _) _ _)); refine wpList_loadElG (enc := listEnc) (size := 4) rfl 40 _ rfl _ _ rfl _ _ (range_of_obj ((HK2.out).obj O2.out id)) rfl Try.underlying40 rfl Try.sizeHits (.agg #[.slice p' bb.length c', .slice q' bl.length d', .int .i64 bu, .int .i64 bo]) rfl ?_)
      | (go_at_call 28; refine (numbers_calls smallB 29 (.inl rfl) counted_calls ok' p' q' c' d' ⟨bb, bl, bu, bo⟩ w2 (HB.out.still HK2.out)).mono ?_; rintro e w3 ⟨rfl, hk3⟩; rw [HN2.out]; have HK3 := Lib.hid (HK2.out.trans hk3); clear hk3)
      | (go_at_call 28; refine (numbers_calls smallB 29 (.inl rfl) counted_calls ok p q c d ⟨ab, al, au, ao⟩ w1 (HA.out.still HK1.out)).mono ?_; rintro e w2 ⟨rfl, hk2⟩; rw [HN1.out]; have HK2 := Lib.hid (HK1.out.trans hk2); clear hk2)
      | ((with_reducible (show wpList _ _ _ (⟨_, .store 40 (.tmp 4) _, _, _, _, none⟩ :: _) _ _)); (refine wpList_storeObj rfl 40 _ _ rfl _ rfl [.slice none 0 0, .slice none 0 0, .int .i64 0, .int .i64 0] [.slice none 0 0, .slice none 0 0, .int .i64 0, .int .i64 0] rfl _ (by simp) ((HK3.out).obj O3.out id) 4 Try.sizeHits rfl (by simp [Value.oneCell']) ?_); intro w6 hres hk6 hs6; have HRES := Lib.hid hres; have HK6 := Lib.hid hk6; clear hres hk6 hs6))
    refine bodyPost_ret (results_obj_tmp rfl rfl _ _ (range_of_obj HRES.out) Try.underlying40 rfl 4 Try.sizeHits rfl) rfl ?_
    show AddPost _ _ _ _ _
    unfold AddPost
    rw [HR.out]
    refine ⟨none, 0, none, 0, rfl, zero_at _ _, ?_⟩
    exact (HK.out.trans HK3.out).andThen HK6.out (by intro k h1 h2; omega)

    | true =>
    have hsm := hn1
    have hsm2 := hn2
    simp only [allB, Bool.and_eq_true, smallB, decide_eq_true_eq] at hsm hsm2
    obtain ⟨⟨-, hu0, hu1⟩, hl0, hl1⟩ := hsm
    obtain ⟨⟨-, hu2, hu3⟩, hl2, hl3⟩ := hsm2
    have q1 : IntKind.i64.wrap (au + bu) = au + bu := IntWalk.i64_in _ (by omega)
    have q2 : IntKind.i64.wrap (ao + bo) = ao + bo := IntWalk.i64_in _ (by omega)
    have HSH := Lib.hid hsh
    have HN1 := Lib.hid hn1
    have HN2 := Lib.hid hn2
    clear hsh hn1 hn2
    go_enter Try.func12, Try.ntmps12
    have b1 : Hid (∀ W' : World, Keep None W W' → W'.cell? ⟨w.heap.size, 2, none⟩ = some (.int .i64 au) ∧ W'.cell? ⟨w.heap.size, 3, none⟩ = some (.int .i64 ao) ∧ W'.cell? ⟨w.heap.size + 1, 2, none⟩ = some (.int .i64 bu) ∧ W'.cell? ⟨w.heap.size + 1, 3, none⟩ = some (.int .i64 bo) ∧ W'.cell? ⟨w.heap.size, 0, none⟩ = some (.slice p ab.length c) ∧ W'.cell? ⟨w.heap.size + 1, 0, none⟩ = some (.slice p' bb.length c') ∧ W'.cell? ⟨w.heap.size, 1, none⟩ = some (.slice q al.length d) ∧ W'.cell? ⟨w.heap.size + 1, 1, none⟩ = some (.slice q' bl.length d')) := Lib.hid (fun W' hk => by
      have h1 := hk.obj O1.out id
      have h2 := hk.obj O2.out id
      simp [World.cell?, h1, h2])
    go_wp2_with (first
      | (go_at_call 26; rw [HWE.out]; refine (equalRows_calls ok ok' p p' c c' ab bb W HA.out.rows HB.out.rows HA.out.nb HB.out.nb).mono ?_; rintro e w1 ⟨rfl, hk1⟩; rw [HSH.out]; have HK1 := Lib.hid hk1; clear hk1)
      | ((with_reducible (show wpList _ _ _ (⟨_, .load 40 (.tmp 2), _, _, _, _⟩ :: _) _ _)); refine wpList_loadEl (enc := listEnc) (size := 4) rfl 40 _ rfl _ _ rfl _ _ (range_of_obj ((HK1.out).obj O1.out id)) rfl Try.underlying40 rfl Try.sizeHits (.agg #[.slice p ab.length c, .slice q al.length d, .int .i64 au, .int .i64 ao]) rfl ?_)
      | ((with_reducible (show wpList _ _ _ (⟨_, .load 40 (.tmp 3), _, _, _, _⟩ :: _) _ _)); refine wpList_loadElG (enc := listEnc) (size := 4) rfl 40 _ rfl _ _ rfl _ _ (range_of_obj ((HK2.out).obj O2.out id)) rfl Try.underlying40 rfl Try.sizeHits (.agg #[.slice p' bb.length c', .slice q' bl.length d', .int .i64 bu, .int .i64 bo]) rfl ?_)
      | (go_at_call 28; refine (numbers_calls smallB 29 (.inl rfl) counted_calls ok' p' q' c' d' ⟨bb, bl, bu, bo⟩ w2 (HB.out.still HK2.out)).mono ?_; rintro e w3 ⟨rfl, hk3⟩; rw [HN2.out]; have HK3 := Lib.hid (HK2.out.trans hk3); clear hk3; obtain ⟨e1, e2, e3, e4, -, -, -, -⟩ := b1.out _ HK3.out; have HS3 : Hid (w.heap.size + 3 ≤ w3.heap.size) := Lib.hid (hsW ▸ HK3.out.size))
      | (go_at_call 28; refine (numbers_calls smallB 29 (.inl rfl) counted_calls ok p q c d ⟨ab, al, au, ao⟩ w1 (HA.out.still HK1.out)).mono ?_; rintro e w2 ⟨rfl, hk2⟩; rw [HN1.out]; have HK2 := Lib.hid (HK1.out.trans hk2); clear hk2)
      | ((with_reducible (show wpList _ _ _ (⟨_, .store 40 (.tmp 6) _, _, _, _, none⟩ :: _) _ _)); (refine wpList_storeObj rfl 40 _ _ rfl w3.heap.size rfl [.slice none 0 0, .slice none 0 0, .int .i64 0, .int .i64 0] [.slice none 0 0, .slice none 0 0, .int .i64 (au + bu), .int .i64 (ao + bo)] rfl _ (by simp) (heap_alloc_new _ _) 4 Try.sizeHits rfl (by simp [Value.oneCell']) ?_); intro w4 hres hk4 hs4; have HRES := Lib.hid hres; have HK4 := Lib.hid (((Keep.refl None _).alloc _).andThen hk4 (by intro k h1 h2; omega)); have HS4 : Hid (w3.heap.size < w4.heap.size) := Lib.hid (heap_lt hres); clear hres hk4 hs4; obtain ⟨-, -, -, -, e5, -, -, -⟩ := b1.out _ (HK3.out.trans HK4.out)))
    clear e1 e2 e3 e4 e5
    go_loopw [43] (AddInv w3.heap.size ab bb (au + bu) (ao + bo) w4) (fun i _ => ab.length - (intOf i).toNat)
    case atStart => exact ⟨0, none, 0, rfl, by omega, HRES.out, by simpa using OwnRows.nil _ _, Keep.refl _ _⟩
    case round =>
      obtain ⟨k, pv, cv, rfl, hk, hbox, hrows, hkp⟩ := hrel
      obtain ⟨wo, rfl⟩ : ∃ wo : World, wo = wr := ⟨_, rfl⟩
      have HBO := Lib.hid hbox
      have HRW := Lib.hid hrows
      have HKW : Hid (Keep None W wo) := Lib.hid ((HK3.out.trans HK4.out).andThen hkp (fun k h1 h2 => by have h3 : w3.heap.size ≤ k := h2; have := HS3.out; omega))
      have HKP := Lib.hid hkp
      clear hbox hrows hkp
      by_cases hlt : k < ab.length
      · obtain ⟨ra, hra⟩ : ∃ ra, ab[k]? = some ra := ⟨ab[k], by simp [hlt]⟩
        obtain ⟨rb, hrb, hlen⟩ := lens_at HSH.out hra
        have hnr := HA.out.nr ra (List.mem_of_getElem? hra)
        obtain ⟨oa, fa, rfl, qa, ca, g1, hsa⟩ := (HA.out.still HKW.out).rows.at hra
        obtain ⟨ob, fb, rfl, qb, cb, g2, hsb⟩ := (HB.out.still HKW.out).rows.at hrb
        have HRA := Lib.hid hra
        have HRB := Lib.hid hrb
        have HSA := Lib.hid hsa
        have HSB := Lib.hid hsb
        have hBo : w3.heap.size < wo.heap.size := heap_lt HBO.out
        have HLEN := Lib.hid hlen
        clear hra hrb hsa hsb hlen
        go_wp2_with (go_at_call 30; refine (clone_calls qa ra ca wo HSA.out hnr).mono ?_; rintro e w5 ⟨ps, cs, rfl, hown5, hk5⟩; have HO5 := Lib.hid hown5; have HK5 := Lib.hid hk5; clear hown5 hk5)
        have G2 := Lib.hid g2
        clear g1 g2
        go_loopw [52] (SumInv2 wo.heap.size ra rb ps cs w5) (fun i _ => ra.length - (intOf i).toNat)
        case atStart => exact ⟨0, rfl, by omega, by rw [mix_zero]; exact HO5.out, Keep.refl _ _⟩
        case round =>
          obtain ⟨j, rfl, hj, hown, hkp⟩ := hrel
          have HO := Lib.hid hown
          have HKI := Lib.hid hkp
          have HKR : Hid (Keep None wo wr) := Lib.hid (HK5.out.andThen hkp (fun k h1 h2 => by have h3 : wo.heap.size ≤ k := h2; omega))
          clear hown hkp
          have hml := mix_len HLEN.out hj
          by_cases hjl : j < ra.length
          · obtain ⟨x, hx⟩ : ∃ x, ra[j]? = some x := ⟨ra[j], by simp [hjl]⟩
            obtain ⟨y, hy⟩ : ∃ y, rb[j]? = some y := ⟨rb[j]'(by have := HLEN.out; omega), by simp⟩
            obtain ⟨hx0, hx1⟩ := small_at HN1.out HRA.out hx
            obtain ⟨hy0, hy1⟩ := small_at HN2.out HRB.out hy
            have HMS := Lib.hid (mix_step HLEN.out hx hy)
            have HMA := Lib.hid (mix_at HLEN.out hx)
            have hO' : Own intEnc 1 3 wo.heap.size wr (.slice ps (mixRow ra rb j).length cs) (mixRow ra rb j) := by rw [hml]; exact HO.out
            obtain ⟨g, rfl, hg⟩ := hO'.row intEnc_len (by omega)
            have hs1 : wr.cell? ⟨g, j, none⟩ = some (.int .i64 x) := by
              obtain ⟨_, _, _, hsl, _⟩ := hO'.reads intEnc_len
              rcases hsl with h | ⟨_, _, he, h⟩
              · rw [h] at hml; simp at hml; omega
              · cases he; have := h.int HMA.out; simpa using this
            have hs2 : wr.frozen? ⟨g, j, none⟩ = false := by
              rcases hO'.2 with ⟨hv, _⟩ | ⟨g', c', cur, hv, hbg, hg', _⟩
              · cases hv
              · cases hv; simp [World.frozen?, hg']
            obtain ⟨b2, o2, rfl, hs3⟩ : ∃ b2 o2, qb = some ⟨b2, o2, none⟩ ∧ wr.cell? ⟨b2, o2 + j, none⟩ = some (.int .i64 y) := by
              rcases HSB.out.still' HKR.out with h | ⟨b2, o2, he, h⟩
              · subst h; simp at hy
              · exact ⟨b2, o2, he, h.int hy⟩
            have g2 := HKR.out.cell G2.out id
            obtain ⟨-, -, -, -, -, e6, -, -⟩ := b1.out _ (HKW.out.trans HKR.out)
            have q3 : IntKind.i64.wrap (x + y) = x + y := IntWalk.i64_in _ (by omega)
            have HO2 := Lib.hid hO'
            have hjb : j < rb.length := by have := HLEN.out; omega
            have hkb : k < bb.length := (List.getElem?_eq_some_iff.1 HRB.out).1
            clear hx hy hO'
            go_wp2_with (fail)
            refine region_tail 13 (by kernel_rfl) (by kernel_rfl) ?_
            simp only [List.take_succ_cons, List.take_zero, List.drop_succ_cons, List.drop_zero]
            have hd1 : (World.drew wr).cell? ⟨g, j, none⟩ = some (.int .i64 x) := hs1
            have hd2 : (World.drew wr).frozen? ⟨g, j, none⟩ = false := hs2
            repeat still_step
            refine wpStill_nil ?_
            clear hs1 hs2 hs3 g2 e6
            go_wp2_with (fail)
            go_roundw
            case rel =>
              have hset := (HO2.out.setField intEnc_len HMA.out (j := 0) (by omega) (v := .int .i64 (x + y)) (c := x + y) rfl).keep (Keep.refl None _).drew (fun _ _ => id)
              rw [HMS.out, hml] at hset
              refine ⟨j + 1, by go_num, by omega, by simpa using hset, HKI.out.trans ?_⟩
              exact ((Keep.refl (wo.heap.size ≤ ·) wr).setCell (p := ⟨g, j, none⟩) (.inl hg) _).drew
            case measure => simp [intOf]; omega
          · have hje : j = ra.length := by omega
            subst hje
            have hO' : Own intEnc 1 3 wo.heap.size wr (.slice ps ra.length cs) (addRow ra rb) := by rw [← mix_end HLEN.out]; exact HO.out
            have HSUM := Lib.hid hO'
            have HBR := Lib.hid (HKR.out.obj HBO.out id)
            have hc6 : wr.cell? ⟨w3.heap.size, 0, none⟩ = some (.slice pv k cv) := by simp [World.cell?, HBR.out]
            obtain ⟨vals, ho, hvl, hvr⟩ := HRW.out.keep HKR.out (fun _ _ => id)
            have hkv : vals.length = k := by rw [hvl]; simp [addRows, List.length_zipWith]; have := (List.getElem?_eq_some_iff.1 HRB.out).1; omega
            have hO6 : Own valEnc 1 25 (w3.heap.size + 1) wr (.slice pv vals.length cv) vals := by rw [hkv]; exact ho
            have HO6 := Lib.hid hO6
            have HVR := Lib.hid hvr
            have HVL := Lib.hid hvl
            have hwo : wo.heap.size ≤ wr.heap.size := HKR.out.size
            have HNB : Hid (¬ ((Value.slice pv vals.length cv).ownBlock = some w3.heap.size)) := Lib.hid (fun h => by have := (World.ownsRow.lt hO6 _ h).1; omega)
            clear hO' ho hO6 hvr hvl
            subst hkv
            go_wp2_with (at_builtin; go_loud (refine wpList_pushAt rfl _ _ 37 rfl (w3.heap.size + 1) _ i4 _ 24 Try.underlying37 hi4 hz0 hz1 hz2 rfl (by decide) valEnc_len (.slice pv vals.length cv) vals rfl (HO6.out.keep (S := None) ((Keep.refl _ _).alloc _) (fun _ _ => id)) (.slice ps ra.length cs) wr.heap.size _ rfl _ (heap_alloc_new _ _) rfl rfl (by simp [Value.oneCell']) (by omega) (by omega) (Nat.le_trans (by omega) ((Keep.refl None _).alloc _).size) ?_; intro p7 c7 w7 hown7 hk7 hk7' hb7; have HO7 := Lib.hid hown7; have HK7 := Lib.hid (show Keep (fun k => (Value.slice pv vals.length cv).ownBlock = some k) _ w7 from ⟨hk7.os, hk7.tape, hk7.output, hk7.size, fun k hk hs => hk7' k (fun e => hs e.symm) hk⟩); have HB7 := Lib.hid hb7; have hx7 := HK7.out.obj (((Keep.refl None wr).alloc _).obj HBR.out id) HNB.out; have k71 : w7.cell? ⟨w3.heap.size, 0, none⟩ = some (.slice pv vals.length cv) := cell_of_row w7 _ 0 _ _ _ hx7; have k72 : w7.frozen? ⟨w3.heap.size, 0, none⟩ = false := (by unfold World.frozen?; rw [hx7]; rfl); have HX7 := Lib.hid hx7; clear hown7 hk7 hk7' hb7 hx7))
            go_roundw
            case rel =>
              have hpush := OwnRows.push (W := (wr.alloc (.cells #[.slice ps ra.length cs] 25)).heap.size) HVL.out HVR.out (q := ps) (row := addRow ra rb) (c := cs) (RowIn.ofOwn HSUM.out (by omega) (fun b hb => by have := (World.ownsRow.lt HRW.out.choose_spec.1 b hb).2; omega)) (((Keep.refl _ wr).alloc _).trans HK7.out) (by rw [addRow_len HLEN.out]; exact HO7.out) HB7.out ((Keep.refl None wr).alloc _).size
              have hob7 : ∀ k, (Value.slice pv vals.length cv).ownBlock = some k → w3.heap.size + 1 ≤ k := fun k hk => (World.ownsRow.lt HO6.out k hk).1
              have hk67 : Keep (w3.heap.size ≤ ·) wr w7 := (((Keep.refl _ wr).alloc _).trans HK7.out).weaken (fun k _ hs => by have := hob7 k hs; show w3.heap.size ≤ k; omega)
              refine ⟨vals.length + 1, p7, c7, by go_num, by omega, by simpa using heap_setCell (j := 0) (v := .slice p7 (vals.length + 1) c7) HX7.out, ?_, ?_⟩
              · rw [addRows_take HRA.out HRB.out]
                exact hpush.keep (S := (· = w3.heap.size)) ((Keep.refl (· = w3.heap.size) w7).setCell (p := ⟨w3.heap.size, 0, none⟩) (.inl rfl) _) (fun b h1 h2 => by have : b = w3.heap.size := h2; omega)
              · exact (HKP.out.trans ((HKR.out.weaken (fun _ _ q => q.elim)).trans hk67)).setCell (p := ⟨w3.heap.size, 0, none⟩) (.inl (Nat.le_refl _)) _
            case measure => simp [intOf]; omega
      · have hke : k = ab.length := by omega
        subst hke
        have hbo : w3.heap.size < wo.heap.size := heap_lt HBO.out
        have HRV := Lib.hid (show RowsV (fun b => w3.heap.size + 1 ≤ b ∧ b < wo.heap.size) wo pv (addRows ab bb) from by
          have := HRW.out.rowsV2
          rwa [List.take_of_length_le (by simp [addRows]; omega)] at this)
        obtain ⟨-, -, -, -, -, -, e7, e8⟩ := b1.out _ HKW.out
        go_wp2_with (go_at_call 31; go_loud (refine (concat_calls wo.heap.size q q' d d' al bl _ (heap_alloc_new _ _) ((HA.out.still HKW.out).links.still' ((Keep.refl _ _).alloc _)) ((HB.out.still HKW.out).links.still' ((Keep.refl _ _).alloc _)) HA.out.nl HB.out.nl).mono ?_; rintro e w5 ⟨px, cx, rfl, hown5, hk5⟩; have HO5 := Lib.hid hown5; have HK5 := Lib.hid (((Keep.refl _ _).alloc _).trans hk5); clear hown5 hk5))
        have hxs : (al ++ bl).length ≤ 100 := by simp; exact hlk
        have HNX : Hid (∀ x ∈ al ++ bl, 0 ≤ x.count ∧ x.count ≤ 1099511627776) := Lib.hid (fun x hx => by
          have h1 := HN1.out
          have h2 := HN2.out
          simp only [allB, Bool.and_eq_true] at h1 h2
          rcases List.mem_append.1 hx with h | h
          · simpa [smallB] using List.all_eq_true.1 h1.1.1.2 x h
          · simpa [smallB] using List.all_eq_true.1 h2.1.1.2 x h)
        have HL5 : Hid (SliceV Lk.enc 4 w5 px (al ++ bl) ∧ ∀ g o, px = some ⟨g, o, none⟩ → wo.heap.size ≤ g) := Lib.hid (by
          obtain ⟨p', c', he, _, _, hsl, hfr⟩ := HO5.out.slice Lk.enc_len
          cases he
          exact ⟨hsl, fun g o h => by have := hfr _ h; simp at this; omega⟩)
        have hNL : wo.heap.size ≤ w5.heap.size := HK5.out.size
        have HB5 := Lib.hid (HK5.out.obj HBO.out id)
        have HR5 := Lib.hid ((HRV.out.keep HK5.out (fun _ _ => id)).weaken (ok' := fun b => w3.heap.size + 1 ≤ b ∧ b < w5.heap.size) (fun b hb => ⟨hb.1, by omega⟩))
        have HKW5 := Lib.hid (HKW.out.trans HK5.out)
        have hxl : (al ++ bl).length = al.length + bl.length := by simp
        generalize hxg : al ++ bl = xs at *
        obtain ⟨i3, hi3, hx0, hx1, hx2⟩ := info_parts Try.infoLk
        clear e7 e8 HO5 HRV
        go_loopw [84] (LinkInv w3.heap.size w5.heap.size xs pv cv ab.length (addRows ab bb) (au + bu) (ao + bo) w5) (fun i _ => xs.length - (intOf i).toNat)
        case atStart => exact ⟨0, none, 0, [], rfl, by omega, by simp, HB5.out, HR5.out, Own.nil _ _ _ _ _, Keep.refl _ _⟩
        case round =>
          obtain ⟨k, pl, cl, done, rfl, hk, hdone, hbox, hrows, hown, hkp⟩ := hrel
          have HBX := Lib.hid hbox
          have HRR := Lib.hid hrows
          have HOL := Lib.hid hown
          have HKL := Lib.hid hkp
          have hwr : w5.heap.size ≤ wr.heap.size := hkp.size
          clear hbox hrows hown hkp
          obtain ⟨hso, hco, hln⟩ := addLinks_ok (xs.take k) [] 0 (by simp [sorted]) (by simp) (by omega) (fun x hx => (HNX.out x (List.mem_of_mem_take hx)).2)
          rw [← hdone] at hso hco hln
          have HDN := Lib.hid hdone
          clear hdone
          have hdl : done.length ≤ 100 := by simp at hln; omega
          have HSO := Lib.hid hso
          have HCO : Hid (∀ y ∈ done, 0 ≤ y.count ∧ y.count ≤ 1000000000000000000) := Lib.hid (fun y hy => by have := hco y hy; simp at this; omega)
          clear hso hco hln
          by_cases hlt2 : k < xs.length
          · obtain ⟨x, hx⟩ : ∃ x, xs[k]? = some x := ⟨xs[k], by simp [hlt2]⟩
            obtain ⟨hy0, hy1⟩ := HNX.out x (List.mem_of_getElem? hx)
            have HT := Lib.hid (links_take hx)
            obtain ⟨x0, x1, x2, x3⟩ := x
            obtain ⟨g, o, rfl, hsl⟩ : ∃ g o, px = some ⟨g, o, none⟩ ∧ wr.rangeAt g (o + k * 4) (Lk.enc ⟨x0, x1, x2, x3⟩) := by
              rcases HL5.out.1 with h | ⟨g, o, he, h⟩
              · subst h; simp at hx
              · have hg := HL5.out.2 g o he
                have hg5 := World.block_lt_of_cell? w5 _ (h k _ hx 0 _ rfl)
                have hg5' : g < w5.heap.size := hg5
                exact ⟨g, o, he, (h.keep HKL.out (by show ¬ (w3.heap.size = g ∨ w5.heap.size ≤ g); omega)).range hx⟩
            have HSL := Lib.hid hsl
            clear hx hsl
            simp only at hy0 hy1
            have hlt3 : (k : Int) < (al.length : Int) + (bl.length : Int) := by omega
            have hlt4 : k < al.length + bl.length := by omega
            by_cases hp : 0 < x3
            · have hBw : w3.heap.size < wr.heap.size := heap_lt HBX.out
              have hc61 : ∀ ob, (wr.alloc ob).cell? ⟨w3.heap.size, 1, none⟩ = some (.slice pl done.length cl) := fun ob => by
                have := ((Keep.refl None wr).alloc ob).obj HBX.out id
                exact cell_of_row _ _ 1 _ _ _ this
              have HNB : Hid (¬ ((Value.slice pl done.length cl).ownBlock = some w3.heap.size)) := Lib.hid (fun h => by have := (World.ownsRow.lt HOL.out _ h).1; omega)
              have HOB : Hid (∀ g, (Value.slice pl done.length cl).ownBlock = some g → w5.heap.size ≤ g) := Lib.hid (fun g h => (World.ownsRow.lt HOL.out _ h).1)
              have HW8 : Hid (w5.heap.size ≤ (wr.alloc (.cells #[.int .i64 x0, .int .i64 x1, .int .i64 x2, .int .i64 x3] 72)).heap.size) := Lib.hid (Nat.le_trans hwr ((Keep.refl None wr).alloc _).size)
              have HO8 : Hid (Own Lk.enc 4 72 w5.heap.size (wr.alloc (.cells #[.int .i64 x0, .int .i64 x1, .int .i64 x2, .int .i64 x3] 72)) (.slice pl done.length cl) done) := Lib.hid (HOL.out.keep (S := None) ((Keep.refl _ _).alloc _) (fun _ _ => id))
              have HLK := Lib.hid (linked_calls pl done cl w5.heap.size x0 x1 x2 x3 _ HO8.out (by omega) HW8.out HSO.out HCO.out (by omega) (by omega))
              have HB8 : Hid _ := Lib.hid (((Keep.refl None wr).alloc (.cells #[.int .i64 x0, .int .i64 x1, .int .i64 x2, .int .i64 x3] 72)).obj HBX.out id)
              go_wp2_with (first
                | ((with_reducible (show wpList _ _ _ (⟨_, .load 72 (.tmp 86), _, _, _, none⟩ :: _) _ _)); refine wpList_loadEl rfl 72 _ rfl _ _ rfl _ _ HSL.out (Lk.enc_len _) Try.underlying72 rfl Try.sizeLk (.agg #[.int .i64 x0, .int .i64 x1, .int .i64 x2, .int .i64 x3]) rfl ?_)
                | ((with_reducible (show wpList _ _ _ (⟨_, .load 72 (.tmp 12), _, _, _, none⟩ :: _) _ _)); refine wpList_loadEl (enc := listEnc) (size := 4) rfl 72 _ rfl wr.heap.size 0 rfl [.int .i64 x0, .int .i64 x1, .int .i64 x2, .int .i64 x3] _ (range_of_obj (heap_alloc_new wr _)) rfl Try.underlying72 rfl Try.sizeLk (.agg #[.int .i64 x0, .int .i64 x1, .int .i64 x2, .int .i64 x3]) rfl ?_)
                | (go_at_call 32; (refine HLK.out.mono ?_; rintro e w7 ⟨p7, c7, rfl, hown7, hk7, hb7⟩; have hx7 := hk7.obj HB8.out HNB.out; have k71 : w7.cell? ⟨w3.heap.size, 1, none⟩ = some (.slice pl done.length cl) := cell_of_row _ _ 1 _ _ _ hx7; have k72 : w7.frozen? ⟨w3.heap.size, 1, none⟩ = false := (by unfold World.frozen?; rw [hx7]; rfl); have HX7 := Lib.hid hx7; have HO7 := Lib.hid hown7; have HK7 := Lib.hid hk7; clear hx7 hown7 hk7 hb7)))
              go_roundw
              case rel =>
                have hkk : Keep (fun b => w3.heap.size = b ∨ w5.heap.size ≤ b) wr w7 := (((Keep.refl _ wr).alloc _).trans HK7.out).weaken (fun g _ hs => .inr (HOB.out g hs))
                have hst := (Keep.refl (· = w3.heap.size) w7).setCell (p := ⟨w3.heap.size, 1, none⟩) (.inl rfl) (.slice p7 (linkedL done ⟨x0, x1, x2, x3⟩).length c7)
                refine ⟨k + 1, p7, c7, linkedL done ⟨x0, x1, x2, x3⟩, by go_num, by omega, by rw [HT.out, ← HDN.out]; simp [addLink, hp], by simpa using heap_setCell (j := 1) (v := .slice p7 (linkedL done ⟨x0, x1, x2, x3⟩).length c7) HX7.out, ?_, ?_, ?_⟩
                · exact (HRR.out.keep hkk (fun b hb h => by rcases h with h | h <;> omega)).keep hst (fun b hb h => by have : b = w3.heap.size := h; omega)
                · exact HO7.out.keepOld hst (fun g hg => by omega)
                · exact (HKL.out.trans hkk).setCell (p := ⟨w3.heap.size, 1, none⟩) (.inl (.inl rfl)) _
              case measure => simp [intOf]; omega
            · go_wp2_with ((with_reducible (show wpList _ _ _ (⟨_, .load 72 _, _, _, _, none⟩ :: _) _ _)); refine wpList_loadEl rfl 72 _ rfl _ _ rfl _ _ HSL.out (Lk.enc_len _) Try.underlying72 rfl Try.sizeLk (.agg #[.int .i64 x0, .int .i64 x1, .int .i64 x2, .int .i64 x3]) rfl ?_)
              go_roundw
              case rel => exact ⟨k + 1, pl, cl, done, by go_num, by omega, by rw [HT.out, ← HDN.out]; simp [addLink, hp], ((Keep.refl None wr).alloc _).obj HBX.out id, HRR.out.keep ((Keep.refl None wr).alloc _) (fun _ _ => id), HOL.out.keep ((Keep.refl None wr).alloc _) (fun _ _ => id), HKL.out.alloc _⟩
              case measure => simp [intOf]; omega
          · have hke : k = xs.length := by omega
            have hR : addH ⟨ab, al, au, ao⟩ ⟨bb, bl, bu, bo⟩ = ⟨addRows ab bb, done, au + bu, ao + bo⟩ := by
              rw [HDN.out, hke, List.take_length, ← hxg]; rfl
            have hlab : (addRows ab bb).length = ab.length := by
              have he : lens ab = lens bb := by simpa using HSH.out
              have := congrArg List.length he
              simp [lens] at this
              simp [addRows]; omega
            have HLAB := Lib.hid hlab
            have HKE : Hid (Keep None W wr) := Lib.hid (HKW5.out.andThen HKL.out (fun b h1 h2 => by have h3 := HS3.out; rcases h2 with h | h <;> omega))
            have HH : Hid (HitsAt (fun b => w3.heap.size + 1 ≤ b) wr pv pl ⟨addRows ab bb, done, au + bu, ao + bo⟩) := Lib.hid (by
              obtain ⟨p', c', he, _, _, hsl, hfr⟩ := HOL.out.slice Lk.enc_len
              cases he
              refine ⟨HRR.out.weaken (fun b hb => hb.1), hsl, .inr (fun a ha => by have := hfr a ha; omega), by rw [hlab]; exact nb, ?_, hdl⟩
              intro row hrow
              obtain ⟨i, hi⟩ := List.mem_iff_getElem?.1 hrow
              simp only [addRows, List.getElem?_zipWith] at hi
              cases ha : ab[i]? with
              | none => simp [ha] at hi
              | some ra =>
                cases hb : bb[i]? with
                | none => simp [ha, hb] at hi
                | some rb =>
                  simp [ha, hb] at hi
                  subst hi
                  have := HA.out.nr ra (List.mem_of_getElem? ha)
                  simp [addRow]; omega)
            have HNC : Hid _ := Lib.hid (numbers_calls smallB 29 (.inl rfl) counted_calls _ pv pl cv cl ⟨addRows ab bb, done, au + bu, ao + bo⟩ wr HH.out)
            simp only [hitsVal, HLAB.out] at HNC
            cases hn3 : allB smallB ⟨addRows ab bb, done, au + bu, ao + bo⟩ with
            | false =>
              have HR := Lib.hid (add_err3 (a := ⟨ab, al, au, ao⟩) (b := ⟨bb, bl, bu, bo⟩) HSH.out (by simp [addOk, HN1.out, HN2.out]) (by rw [hR]; exact hn3))
              have HN3 := Lib.hid hn3
              clear hn3 hR hlab hke hxg
              go_wp2_with (first
                | ((with_reducible (show wpList _ _ _ (⟨_, .load 40 (.tmp 6), _, _, _, none⟩ :: _) _ _)); refine wpList_loadEl (enc := listEnc) (size := 4) rfl 40 _ rfl w3.heap.size 0 rfl [.slice pv ab.length cv, .slice pl done.length cl, .int .i64 (au + bu), .int .i64 (ao + bo)] _ (range_of_obj HBX.out) rfl Try.underlying40 rfl Try.sizeHits (.agg #[.slice pv ab.length cv, .slice pl done.length cl, .int .i64 (au + bu), .int .i64 (ao + bo)]) rfl ?_)
                | (go_at_call 28; refine HNC.out.mono ?_; rintro e w7 ⟨rfl, hk7⟩; rw [HN3.out]; have HB6 := Lib.hid (hk7.obj HBX.out id); have HO6 := Lib.hid ((HKE.out.trans hk7).obj O3.out id); have HK7 := Lib.hid hk7; clear hk7)
                | ((with_reducible (show wpList _ _ _ (⟨_, .store 40 (.tmp 4) _, _, _, _, none⟩ :: _) _ _)); (refine wpList_storeObj rfl 40 _ _ rfl _ rfl [.slice none 0 0, .slice none 0 0, .int .i64 0, .int .i64 0] [.slice none 0 0, .slice none 0 0, .int .i64 0, .int .i64 0] rfl _ (by simp) HO6.out 4 Try.sizeHits rfl (by simp [Value.oneCell']) ?_); intro w8 hres hk8 hs8; have HRES2 := Lib.hid hres; have HK8 := Lib.hid hk8; clear hres hk8 hs8))
              refine bodyPost_ret (results_obj_tmp rfl rfl _ _ (range_of_obj HRES2.out) Try.underlying40 rfl 4 Try.sizeHits rfl) rfl ?_
              show AddPost _ _ _ _ _
              unfold AddPost
              rw [HR.out]
              refine ⟨none, 0, none, 0, rfl, zero_at _ _, ?_⟩
              exact (HK.out.trans (HKE.out.trans HK7.out)).andThen HK8.out (by intro k h1 h2; omega)
            | true =>
              have HR := Lib.hid (add_fine (a := ⟨ab, al, au, ao⟩) (b := ⟨bb, bl, bu, bo⟩) HSH.out (by simp [addOk, HN1.out, HN2.out]) (by rw [hR]; exact hn3))
              rw [hR] at HR
              have HN3 := Lib.hid hn3
              clear hn3 hR hlab hke hxg
              go_wp2_with (first
                | ((with_reducible (show wpList _ _ _ (⟨_, .load 40 (.tmp 6), _, _, _, none⟩ :: _) _ _)); refine wpList_loadEl (enc := listEnc) (size := 4) rfl 40 _ rfl w3.heap.size 0 rfl [.slice pv ab.length cv, .slice pl done.length cl, .int .i64 (au + bu), .int .i64 (ao + bo)] _ (range_of_obj HB6.out) rfl Try.underlying40 rfl Try.sizeHits (.agg #[.slice pv ab.length cv, .slice pl done.length cl, .int .i64 (au + bu), .int .i64 (ao + bo)]) rfl ?_)
                | ((with_reducible (show wpList _ _ _ (⟨_, .load 40 (.tmp 6), _, _, _, none⟩ :: _) _ _)); refine wpList_loadEl (enc := listEnc) (size := 4) rfl 40 _ rfl w3.heap.size 0 rfl [.slice pv ab.length cv, .slice pl done.length cl, .int .i64 (au + bu), .int .i64 (ao + bo)] _ (range_of_obj HBX.out) rfl Try.underlying40 rfl Try.sizeHits (.agg #[.slice pv ab.length cv, .slice pl done.length cl, .int .i64 (au + bu), .int .i64 (ao + bo)]) rfl ?_)
                | (go_at_call 28; refine HNC.out.mono ?_; rintro e w7 ⟨rfl, hk7⟩; rw [HN3.out]; have HB6 := Lib.hid (hk7.obj HBX.out id); have HO6 := Lib.hid ((HKE.out.trans hk7).obj O3.out id); have HK7 := Lib.hid hk7; clear hk7)
                | ((with_reducible (show wpList _ _ _ (⟨_, .store 40 (.tmp 4) _, _, _, _, none⟩ :: _) _ _)); (refine wpList_storeObj rfl 40 _ _ rfl _ rfl [.slice none 0 0, .slice none 0 0, .int .i64 0, .int .i64 0] [.slice pv ab.length cv, .slice pl done.length cl, .int .i64 (au + bu), .int .i64 (ao + bo)] rfl _ (by simp) HO6.out 4 Try.sizeHits rfl (by simp [Value.oneCell']) ?_); intro w8 hres hk8 hs8; have HRES2 := Lib.hid hres; have HK8 := Lib.hid hk8; clear hres hk8 hs8))
              refine bodyPost_ret (results_obj_tmp rfl rfl _ _ (range_of_obj HRES2.out) Try.underlying40 rfl 4 Try.sizeHits rfl) rfl ?_
              show AddPost _ _ _ _ _
              unfold AddPost
              rw [HR.out]
              refine ⟨pv, cv, pl, cl, by simp only [hitsVal, HLAB.out]; rfl, ?_, ?_⟩
              · have hs3 := HS3.out
                exact ((HH.out.still HK7.out).keep HK8.out (fun b h1 h2 => by have : b = w.heap.size + 1 + 1 := h2; omega)).weaken (fun b hb => by show w.heap.size ≤ b; omega)
              · exact (HK.out.trans (HKE.out.trans HK7.out)).andThen HK8.out (by intro k h1 h2; omega)

end Go.Proofs.Ytlhmajjmhkjcoaa
