/-
  Runs that the kernel carries out: what stands for flow.before (a range over a function in it).
-/
import Derived.Test.YtgkbjdphkmmmhaaDoorEvTop
import Derived.Test.YtgkbjdphkmmmhaaDoorBef
namespace Go.Proofs.YtgkbjdphkmmmhaaDoor.Ev
open Go Go.RowKit
noncomputable section

def boolsOf : List Value → Option (List Bool)
  | [] => some []
  | .bool b :: r => match boolsOf r with
    | some l => some (b :: l)
    | .none => .none
  | _ => .none
def intsOf : List Value → Option (List Int)
  | [] => some []
  | .int .i64 b :: r => match intsOf r with
    | some l => some (b :: l)
    | .none => .none
  | _ => .none
theorem boolsOf_some : ∀ {cs : List Value} {l : List Bool}, boolsOf cs = some l → cs = l.map Value.bool
  | [], l, h => by cases h; rfl
  | v :: r, l, h => by
    unfold boolsOf at h
    split at h
    · rename_i he; cases he
    · rename_i b r' he
      cases he
      split at h
      · rename_i l' h'
        cases h
        rw [List.map_cons, boolsOf_some h']
      · cases h
    · cases h
theorem intsOf_some : ∀ {cs : List Value} {l : List Int}, intsOf cs = some l → cs = l.map (Value.int .i64)
  | [], l, h => by cases h; rfl
  | v :: r, l, h => by
    unfold intsOf at h
    split at h
    · rename_i he; cases he
    · rename_i b r' he
      cases he
      split at h
      · rename_i l' h'
        cases h
        rw [List.map_cons, intsOf_some h']
      · cases h
    · cases h

/-- Numbers read, out of another block than bl. -/
def rdInts (bl : Nat) (v : Value) (S : St) : Option (List Int × St) :=
  match v with
  | .slice .none 0 0 => some ([], S)
  | .slice (some ⟨b, o, .none⟩) n _ => match S.heap.get b with
    | some (.cells cs _) => match !(Nat.beq b bl) && Nat.ble (Nat.add o n) cs.length && Nat.ble n 1000000 with
      | true => match intsOf ((cs.drop o).take n) with
        | some l => S.rd b fun S => some (l, S)
        | .none => .none
      | false => .none
    | _ => .none
  | _ => .none
/-- Instructions read. -/
def rdIns (bl : Nat) : List Value → St → Option (List InsD × St)
  | [], S => some ([], S)
  | .int .i64 k :: .int .i64 _ :: .int .i64 d :: .int .i64 a :: .int .i64 b :: v :: s :: rest, S => match okI v with
    | true => match rdInts bl s S with
      | some (l, S) => match rdIns bl rest S with
        | some (xs, S) => some (⟨k, d, a, b, l⟩ :: xs, S)
        | .none => .none
      | .none => .none
    | false => .none
  | _, _ => .none
def rdRow (bl : Nat) (v : Value) (S : St) : Option (List InsD × St) :=
  match v with
  | .slice .none 0 0 => some ([], S)
  | .slice (some ⟨b, o, .none⟩) n _ => match S.heap.get b with
    | some (.cells cs _) => match !(Nat.beq b bl) && Nat.ble (Nat.add o (Nat.mul n 7)) cs.length && Nat.ble n 1000000 with
      | true => S.rd b fun S => rdIns bl ((cs.drop o).take (Nat.mul n 7)) S
      | false => .none
    | _ => .none
  | _ => .none
def befOv (E : TypeId) : List Value → St → Option (Value × St)
  | [.agg ⟨[pI, .int .i64 tk, .int .i64 ta, .int .i64 _, .int .i64 _, .int .i64 _, .int .i64 _, .int .i64 _]⟩, .slice (some ⟨bl, 0, .none⟩) n c], S =>
    match S.heap.get bl with
    | some (.cells cs e) => match Nat.beq e E && Nat.beq n cs.length && Nat.ble 1 n with
      | true => match boolsOf cs with
        | some live => match rdRow bl pI S with
          | some (ins, S) => match befB tk ta ins live with
            | some live' => forceVs (live'.map .bool) fun xs => S.putK bl (some (.cells xs E)) fun S => some (.slice (some ⟨bl, 0, .none⟩) n c, S)
            | .none => .none
          | .none => .none
        | .none => .none
      | false => .none
    | _ => .none
  | _, _ => .none

/-- The heap stays, only marks come. -/
structure Marked (S S' : St) : Prop where
  grown : Grown S S'
  heap : S'.heap = S.heap
  next : S'.next = S.next
theorem Marked.refl (S : St) : Marked S S := ⟨Grown.refl S, rfl, rfl⟩
theorem Marked.rd (S : St) (b : Nat) : Marked S ⟨S.heap, S.next, bit S.acc b, S.wr⟩ := ⟨Grown.rd S b, rfl, rfl⟩
theorem Marked.trans {a b c : St} (h : Marked a b) (k : Marked b c) : Marked a c := ⟨h.grown.trans k.grown, k.heap.trans h.heap, k.next.trans h.next⟩

/-- What a real world must be like for what was read. -/
structure Sees (P : Program) (V : Nat → Prop) (m : BMap) (S : St) (w : World) (bl : Nat) (q : Img) : Prop where
  rel : Rel P V m S w
  vb : V bl
  hb : (S.heap.get bl).isSome = true
  mb : m bl = some q
theorem Sees.ne {P : Program} {V : Nat → Prop} {m : BMap} {S : St} {w : World} {bl : Nat} {q : Img} (h : Sees P V m S w bl q) {b : Nat} {p : Img} (hv : V b) (hs : (S.heap.get b).isSome = true) (hm : m b = some p) (hne : b ≠ bl) : p.blk ≠ q.blk :=
  fun he => hne (h.rel.inj b bl hv h.vb hs h.hb p q hm h.mb he)

theorem rdInts_ok {P : Program} {bl : Nat} {v : Value} {S S' : St} {l : List Int} (h : rdInts bl v S = some (l, S')) : Marked S S' ∧
    ∀ (V : Nat → Prop) (m : BMap) (w : World) (q : Img) (v' : Value), Sees P V m S w bl q → VRel m v v' → (∀ X, X < S.next → S'.acc.testBit X = true → V X) → l.length ≤ 1000000 ∧ ∃ p c, v' = .slice p l.length c ∧ SlOff intEnc 1 q.blk w p l := by
  unfold rdInts at h
  split at h
  · cases h
    refine ⟨Marked.refl _, fun V m w q v' hS hv hacc => ?_⟩
    cases hv
    exact ⟨by simp, none, 0, rfl, .inl rfl⟩
  · rename_i b o n c
    split at h
    · rename_i cs e hget
      split at h
      · rename_i hck
        simp only [Bool.and_eq_true, Bool.not_eq_true'] at hck
        split at h
        · rename_i l' hl
          rw [St.rd_eq] at h
          cases h
          have hbb : b ≠ bl := fun h => by subst h; rw [Nat.beq_refl] at hck; cases hck.1.1
          have hle : o + n ≤ cs.length := Nat.le_of_ble_eq_true hck.1.2
          have hn6 := Nat.le_of_ble_eq_true hck.2
          have hcs := intsOf_some hl
          have hll : l.length = n := by have := congrArg List.length hcs; simp at this; omega
          refine ⟨Marked.rd S b, fun V m w q v' hS hv hacc => ?_⟩
          cases hv with
          | @slice _ a' _ _ c' hc hA hf =>
          refine ⟨by omega, some a', c', by rw [hll], ?_⟩
          by_cases hn : l = []
          · exact .inl hn
          · right
            have hn0 : n ≠ 0 := fun h => hn (List.eq_nil_of_length_eq_zero (by omega))
            obtain ⟨p, h1, h2, h3, -, h5⟩ := hA.resolve_right fun h => hn0 h.1
            have hVb : V b := hacc b (hS.rel.lt hget) (by simp [bit_eq])
            obtain ⟨p', C, k1, ⟨fr, k2, -⟩, -, -, k5⟩ := hS.rel.blk b hVb _ hget
            rw [show (⟨b, o, none⟩ : Addr).block = b from rfl] at h1
            rw [h1] at k1
            cases k1
            obtain ⟨B, O, Sp⟩ := a'
            simp only at h2 h3 h5
            subst h2 h3 h5
            refine ⟨p.blk, o + p.off, rfl, hS.ne hVb (by rw [hget]; rfl) h1 hbb, fun i x hx j u hu => ?_⟩
            have hj : j = 0 := by have := (List.getElem?_eq_some_iff.1 hu).1; simp [intEnc] at this; exact this
            subst hj
            simp [intEnc] at hu
            subst hu
            have hi : i < n := by have := (List.getElem?_eq_some_iff.1 hx).1; omega
            have hx2 : cs[o + i]? = some (.int .i64 x) := by
              have h6 := congrArg (·[i]?) hcs
              simp only [List.getElem?_map, hx, Option.map_some] at h6
              rw [List.getElem?_take, if_pos hi, List.getElem?_drop] at h6
              exact h6
            obtain ⟨u', g1, g2⟩ := k5 _ _ hx2
            cases g2
            rw [show o + p.off + i * 1 + 0 = o + i + p.off from by omega]
            simp only [World.cell?, k2]
            exact g1
        · cases h
      · cases h
    · cases h
  · cases h

/-- The real cells of an instruction. -/
def InsCells (g : Nat) (w : World) (x : InsD) (cs : List Value) : Prop := ∃ y : Ins, y.data = x ∧ cs = y.enc ∧ SlOff intEnc 1 g w y.p y.args
theorem rdIns_ok {P : Program} {bl : Nat} : ∀ {cs : List Value} {S S' : St} {l : List InsD}, rdIns bl cs S = some (l, S') → cs.length = l.length * 7 ∧ Marked S S' ∧
    ∀ (V : Nat → Prop) (m : BMap) (w : World) (q : Img) (cs' : List Value), Sees P V m S w bl q → VRels m cs cs' → (∀ X, X < S.next → S'.acc.testBit X = true → V X) →
      ∃ ys : List Ins, ys.map Ins.data = l ∧ cs' = ys.flatMap Ins.enc ∧ ∀ y ∈ ys, SlOff intEnc 1 q.blk w y.p y.args ∧ y.args.length ≤ 1000000
  | [], S, S', l, h => by
    cases h
    exact ⟨rfl, Marked.refl _, fun V m w q cs' _ hv _ => by cases hv; exact ⟨[], rfl, rfl, by simp⟩⟩
  | cs, S, S', l, h => by
    unfold rdIns at h
    split at h
    · cases h
      exact ⟨rfl, Marked.refl _, fun V m w q cs' _ hv _ => by cases hv; exact ⟨[], rfl, rfl, by simp⟩⟩
    · skip
      rename_i k op d a b v s rest
      split at h
      case h_2 => cases h
      rename_i hok
      split at h
      · rename_i l1 S1 h1
        split at h
        · rename_i xs S2 h2
          cases h
          obtain ⟨m1, f1⟩ := rdInts_ok (P := P) h1
          obtain ⟨e2, m2, f2⟩ := rdIns_ok (P := P) h2
          refine ⟨by simp only [List.length_cons, e2]; omega, m1.trans m2, fun V m w q cs' hS hv hacc => ?_⟩
          have hacc1 : ∀ X, X < S.next → S1.acc.testBit X = true → V X := fun X hX hb => hacc X hX (m2.grown.acc X hb)
          have hS1 : Sees P V m S1 w bl q := ⟨⟨fun X hx y hy => hS.rel.blk X hx y (by rw [← m1.heap]; exact hy), fun X Y hX hY gX gY => hS.rel.inj X Y hX hY (by rw [← m1.heap]; exact gX) (by rw [← m1.heap]; exact gY), fun X hX => by rw [m1.heap]; exact hS.rel.low X (by rw [← m1.next]; exact hX), by rw [m1.next]; exact hS.rel.bnd⟩, hS.vb, by rw [m1.heap]; exact hS.hb, hS.mb⟩
          cases hv with
          | cons v0 hv =>
          cases hv with
          | cons v1 hv =>
          cases hv with
          | cons v2 hv =>
          cases hv with
          | cons v3 hv =>
          cases hv with
          | cons v4 hv =>
          cases hv with
          | cons v5 hv =>
          cases hv with
          | cons v6 hv =>
          cases v0; cases v1; cases v2; cases v3; cases v4
          obtain ⟨vz, rfl⟩ := okI_rel hok v5
          obtain ⟨hl1, p, c, rfl, hp⟩ := f1 V m w q _ hS v6 hacc1
          obtain ⟨ys, rfl, rfl, hys⟩ := f2 V m w q _ hS1 hv (fun X hX hb => hacc X (by rw [← m1.next]; exact hX) hb)
          refine ⟨⟨k, op, d, a, b, vz, p, c, l1⟩ :: ys, rfl, rfl, fun y hy => ?_⟩
          rcases List.mem_cons.1 hy with rfl | hy
          · exact ⟨hp, hl1⟩
          · exact hys y hy
        · cases h
      · cases h
    · cases h
  termination_by cs => cs.length

/-- The cells of a real block that some abstract ones stand for. -/
theorem crel_sub {m : BMap} {cs : List Value} {d : Nat} {c : Array Value} (h : CRel m cs d c) (o n : Nat) (hl : o + n ≤ cs.length) (h0 : n ≠ 0) :
    VRels m ((cs.drop o).take n) ((c.toList.drop (o + d)).take n) ∧ o + d + n ≤ c.size := by
  have hs : o + d + n ≤ c.size := by
    obtain ⟨v', h1, _⟩ := h (o + n - 1) _ (List.getElem?_eq_getElem (by omega))
    have := (Array.getElem?_eq_some_iff.1 h1).1
    omega
  refine ⟨VRels.of_get (by simp; omega) fun i v v' hv hv' => ?_, hs⟩
  rw [List.getElem?_take] at hv hv'
  split at hv
  · rename_i hi
    rw [if_pos hi] at hv'
    rw [List.getElem?_drop] at hv hv'
    obtain ⟨u, h1, h2⟩ := h _ _ hv
    rw [Array.getElem?_toList, show o + d + i = o + i + d by omega, h1] at hv'
    cases hv'
    exact h2
  · cases hv

theorem rdRow_ok {P : Program} {bl : Nat} {v : Value} {S S' : St} {l : List InsD} (h : rdRow bl v S = some (l, S')) : Marked S S' ∧
    ∀ (V : Nat → Prop) (m : BMap) (w : World) (q : Img) (v' : Value), Sees P V m S w bl q → VRel m v v' → (∀ X, X < S.next → S'.acc.testBit X = true → V X) →
      ∃ (p : Option Addr) (c : Nat) (ys : List Ins), v' = .slice p ys.length c ∧ ys.map Ins.data = l ∧ ys.length ≤ 1000000 ∧ SlOff Ins.enc 7 q.blk w p ys ∧ ∀ y ∈ ys, SlOff intEnc 1 q.blk w y.p y.args ∧ y.args.length ≤ 1000000 := by
  unfold rdRow at h
  split at h
  · cases h
    refine ⟨Marked.refl _, fun V m w q v' hS hv hacc => ?_⟩
    cases hv
    exact ⟨none, 0, [], rfl, rfl, by simp, .inl rfl, by simp⟩
  · rename_i b o n c
    split at h
    · rename_i cs e hget
      split at h
      · rename_i hck
        simp only [Bool.and_eq_true, Bool.not_eq_true'] at hck
        rw [St.rd_eq] at h
        have hbb : b ≠ bl := fun h => by subst h; rw [Nat.beq_refl] at hck; cases hck.1.1
        have hle : o + n * 7 ≤ cs.length := Nat.le_of_ble_eq_true hck.1.2
        have hn6 := Nat.le_of_ble_eq_true hck.2
        obtain ⟨e1, m1, f1⟩ := rdIns_ok (P := P) h
        have hll : l.length = n := by
          simp only [List.length_take, List.length_drop] at e1
          have : n.mul 7 = n * 7 := rfl
          omega
        refine ⟨(Marked.rd S b).trans m1, fun V m w q v' hS hv hacc => ?_⟩
        cases hv with
        | @slice _ a' _ _ c' hc hA hf =>
        by_cases hn : n = 0
        · subst hn
          have hl0 : l = [] := List.eq_nil_of_length_eq_zero hll
          exact ⟨some a', c', [], rfl, hl0.symm, by simp, .inl rfl, by simp⟩
        · obtain ⟨p, h1, h2, h3, -, h5⟩ := hA.resolve_right fun h => hn h.1
          have hVb : V b := hacc b (hS.rel.lt hget) (m1.grown.acc b (by simp [bit_eq]))
          obtain ⟨p', C, k1, ⟨fr, k2, -⟩, -, -, k5⟩ := hS.rel.blk b hVb _ hget
          rw [show (⟨b, o, none⟩ : Addr).block = b from rfl] at h1
          rw [h1] at k1
          cases k1
          obtain ⟨B, O, Sp⟩ := a'
          simp only at h2 h3 h5
          subst h2 h3 h5
          obtain ⟨r1, z1⟩ := crel_sub k5 o (n * 7) hle (by omega)
          have hS1 : Sees P V m ⟨S.heap, S.next, bit S.acc b, S.wr⟩ w bl q := ⟨⟨hS.rel.blk, hS.rel.inj, hS.rel.low, hS.rel.bnd⟩, hS.vb, hS.hb, hS.mb⟩
          obtain ⟨ys, d1, d2, d3⟩ := f1 V m w q _ hS1 r1 hacc
          have hyl : ys.length = n := by rw [← hll, ← d1]; simp
          refine ⟨some ⟨p.blk, o + p.off, none⟩, c', ys, by rw [hyl], d1, by omega, .inr ⟨p.blk, o + p.off, rfl, hS.ne hVb (by rw [hget]; rfl) h1 hbb, fun i x hx j u hu => ?_⟩, d3⟩
          have h6 := flat_get Ins.enc_len ys i x hx j u hu
          rw [← d2, List.getElem?_take] at h6
          split at h6
          · rw [List.getElem?_drop, Array.getElem?_toList] at h6
            rw [show o + p.off + i * 7 + j = o + p.off + (i * 7 + j) from by omega]
            simp only [World.cell?, k2]
            exact h6
          · cases h6
      · cases h
    · cases h
  · cases h

/-- A block written, others made. -/
theorem Rel.of_putK {P : Program} {V : Nat → Prop} {m : BMap} {S : St} {w w1 : World} (h : Rel P V m S w) {b : Nat} {p : Img} {old x : ABlk} (hb : V b) (hm : m b = some p) (hold : S.heap.get b = some old)
    (k : Keep (· = p.blk) w w1) (hx : BR P m b x w1) :
    Out P V m S w m (S.put b (some x)) w1 := by
  have hlt : b < S.next := h.lt hold
  have hget : (S.put b (some x)).heap.get b = some x := Tr.get_set_eq 33 _ _ _ (by have := h.bnd; omega)
  have hne : ∀ X, X ≠ b → (S.put b (some x)).heap.get X = S.heap.get X := fun X hX => Tr.get_set_ne 33 _ _ _ _ hX
  have hnext : (S.put b (some x)).next = S.next := rfl
  have hsome : ∀ X, ((S.put b (some x)).heap.get X).isSome = (S.heap.get X).isSome := fun X => by
    by_cases hX : X = b
    · subst hX; rw [hget, hold]; rfl
    · rw [hne X hX]
  refine ⟨Ext.refl m, fun X h1 h2 => absurd h1 h2, ⟨?_, ?_, ?_, h.bnd⟩, Grown.put S b _ (by rw [hold]; rfl), k.size, k.os, k.tape, k.output, ?_, fun X p h1 h2 _ => by rw [hnext] at h2; omega⟩
  · intro X hv y hy
    have hv : V X := hv.resolve_right (fun h => by rw [hnext] at h; omega)
    by_cases hX : X = b
    · subst hX
      rw [hget] at hy
      cases hy
      exact hx
    · rw [hne X hX] at hy
      have hB := h.blk X hv y hy
      obtain ⟨q, hc, hl⟩ := hB.block
      refine hB.same hc (k.block q.blk hl ?_)
      intro he
      exact hX (h.inj X b hv hb (by rw [hy]; rfl) (by rw [hold]; rfl) _ _ hc hm he)
  · intro X Y hX hY gX gY
    rw [hsome] at gX gY
    exact h.inj X Y (hX.resolve_right (fun h => by rw [hnext] at h; omega)) (hY.resolve_right (fun h => by rw [hnext] at h; omega)) gX gY
  · intro X hX
    rw [hnext] at hX
    rw [hne X (by omega)]
    exact h.low X hX
  · intro j hj hw
    refine k.block j hj ?_
    intro he
    exact hw b p (by simp [St.put, bit_eq]) hm he.symm

theorem befOv_ok (args : List Value) (S : St) (v : Value) (S' : St) (he : befOv 4 args S = some (v, S')) (hS : Tidy S) : Grown S S' ∧
    ∀ (m : BMap) (V : Nat → Prop) (w : World) (args' : List Value), Gl m → VRels m args args' → Rel Tryd.prog V m S w → (∀ X, X < S.next → S'.acc.testBit X = true → V X) → (∀ X, S.next ≤ X → X < S'.next → m X = .none) →
      ∃ fn, Tryd.prog.funcs[41]? = some fn ∧ fn.body.isSome = true ∧ Calls Tryd.prog 41 ⟨args'⟩ w (CPost Tryd.prog V m S w v S') := by
  unfold befOv at he
  split at he
  rotate_left
  · cases he
  rename_i pI tk ta u1 u2 u3 u4 u5 bl n c
  split at he
  rotate_left
  · cases he
  rename_i cs e hget
  split at he
  rotate_left
  · cases he
  rename_i hck
  simp only [Bool.and_eq_true] at hck
  obtain rfl := Nat.eq_of_beq_eq_true hck.1.1
  obtain hnc := Nat.eq_of_beq_eq_true hck.1.2
  have hn1 : 1 ≤ n := Nat.le_of_ble_eq_true hck.2
  split at he
  rotate_left
  · cases he
  rename_i live hlive
  split at he
  rotate_left
  · cases he
  rename_i ins S1 hrow
  split at he
  rotate_left
  · cases he
  rename_i live' hbef
  rw [forceVs_eq, St.putK_eq] at he
  cases he
  obtain ⟨m1, f1⟩ := rdRow_ok (P := Tryd.prog) hrow
  have hget1 : S1.heap.get bl = some (.cells cs 4) := by rw [m1.heap]; exact hget
  have g2 : Grown S1 (S1.put bl (some (.cells (live'.map Value.bool) 4))) := Grown.put _ _ _ (by rw [hget1]; rfl)
  refine ⟨m1.grown.trans g2, fun m V w args' _ hargs hr ha hf => ⟨_, Tryd.func41, rfl, ?_⟩⟩
  have hVb : V bl := ha bl (hr.lt hget) (by simp [St.put, bit_eq])
  have hlc := boolsOf_some hlive
  have hln : live.length = n := by have := congrArg List.length hlc; simp at this; omega
  cases hargs with
  | cons v0 hargs =>
  cases hargs with
  | cons v1 hargs =>
  cases hargs
  cases v1 with
  | @slice _ a' _ _ c' hc hA hfit =>
  cases v0 with
  | agg v0 =>
  cases v0 with
  | cons b0 v0 =>
  cases v0 with
  | cons b1 v0 =>
  cases v0 with
  | cons b2 v0 =>
  cases v0 with
  | cons b3 v0 =>
  cases v0 with
  | cons b4 v0 =>
  cases v0 with
  | cons b5 v0 =>
  cases v0 with
  | cons b6 v0 =>
  cases v0 with
  | cons b7 v0 =>
  cases v0
  cases b1; cases b2; cases b3; cases b4; cases b5; cases b6; cases b7
  obtain ⟨q, C, k1, ⟨fr, k2, k3⟩, k4, k5, k6⟩ := hr.blk bl hVb _ hget
  have noU : fr = (0, 0) := by
    rcases k3 with ⟨e1, e2⟩ | ⟨_, e2⟩
    · exact Prod.ext e1 e2
    · have e3 : (match Tryd.prog.underlying 4 with | some (.int _) => true | _ => false) = false := by kernel_rfl
      rw [e2] at e3
      cases e3
  subst noU
  have hSees : Sees Tryd.prog V m S w bl q := ⟨hr, hVb, by rw [hget]; rfl, k1⟩
  obtain ⟨p, c1, ys, rfl, d1, d2, d3, d4⟩ := f1 V m w q _ hSees b0 (fun X hX hb => ha X hX (g2.acc X hb))
  obtain ⟨q', z1, z2, z3, -, z5⟩ := hA.resolve_right fun h => by omega
  obtain ⟨B, O, Sp⟩ := a'
  rw [show (⟨bl, 0, none⟩ : Addr).block = bl from rfl] at z1
  rw [k1] at z1
  cases z1
  simp only at z2 z3 z5
  subst z2 z3 z5
  have hat : ∀ i b, live[i]? = some b → C[0 + q.off + i]? = some (.bool b) := by
    intro i b hi
    have h1 : cs[i]? = some (.bool b) := by rw [hlc, List.getElem?_map, hi]; rfl
    obtain ⟨v', h2, h3⟩ := k6 _ _ h1
    cases h3
    rw [← h2]
    congr 1
    omega
  have hBA : BoolsAt w q.blk (0 + q.off) q.tot 4 live := by
    refine ⟨C, k2, k4, ?_, hat⟩
    obtain ⟨b, hb⟩ : ∃ b, live[live.length - 1]? = some b := ⟨live[live.length - 1]'(by omega), List.getElem?_eq_getElem _⟩
    have := (Array.getElem?_eq_some_iff.1 (hat _ b hb)).1
    omega
  have hcall := before_calls ys p c1 tk ta u1 u2 u3 u4 u5 q.blk (0 + q.off) q.tot c' live live' w hBA d2 d3 d4 (by rw [d1]; exact hbef)
  rw [hln] at hcall
  refine hcall.mono fun e w' hp => ?_
  obtain ⟨rfl, ⟨C', y1, y2, y3, y4⟩, hk⟩ := hp
  have hr1 : Rel Tryd.prog V m S1 w := ⟨fun X hx y hy => hr.blk X hx y (by rw [← m1.heap]; exact hy), fun X Y hX hY gX gY => hr.inj X Y hX hY (by rw [← m1.heap]; exact gX) (by rw [← m1.heap]; exact gY), fun X hX => by rw [m1.heap]; exact hr.low X (by rw [← m1.next]; exact hX), by rw [m1.next]; exact hr.bnd⟩
  have hl' : live'.length = n := by
    have := befB_len hbef
    omega
  have o2 := Rel.of_putK (x := .cells (live'.map Value.bool) 4) (w1 := w') hr1 hVb k1 hget1 hk ⟨q, C', k1, ⟨(0, 0), y1, .inl ⟨rfl, rfl⟩⟩, y2, k5, fun i v hv => by
    rw [List.getElem?_map] at hv
    obtain ⟨b, hb, rfl⟩ := Option.map_eq_some_iff.1 hv
    refine ⟨.bool b, ?_, .bool b⟩
    rw [← y4 i b hb]
    congr 1
    omega⟩
  have o1 : Out Tryd.prog V m S w m S1 w := by
    have h0 := Out.refl hr1
    refine ⟨h0.ext, fun X h1 h2 => absurd h1 h2, ?_, m1.grown, Nat.le_refl _, rfl, rfl, rfl, fun _ _ _ => rfl, fun X p h1 h2 _ => by rw [m1.next] at h2; omega⟩
    rw [show (fun X => V X ∨ S.next ≤ X ∧ X < S1.next) = (fun X => V X ∨ S1.next ≤ X ∧ X < S1.next) from by rw [m1.next]]
    exact h0.rel
  exact ⟨m, _, rfl, .slice hc hA hfit, o1.trans (by rw [show (fun X => V X ∨ (S.next ≤ X ∧ X < S1.next)) = V from funext fun X => propext ⟨fun h => h.resolve_right (fun h => by rw [m1.next] at h; omega), .inl⟩]; exact o2)⟩

end
end Go.Proofs.YtgkbjdphkmmmhaaDoor.Ev
