/-
  Chapter 30: a piece that came in, read as lists (slices in structs in slices), with the bounds that the row's reach gives.
-/
import Derived.Test.YtcdophocpheadaaGreatDoorSvTop
import Derived.Test.YtcdophocpheadaaGreatDoorOpenId
import Derived.Test.YtcdophocpheadaaGreatDoorOpenDecG
import Derived.Lib.SmallJoins
import Derived.SizedLaws
namespace Go.Proofs.YtcdophocpheadaaGreatDoor
open Go.RowKit Go.ChangeShapes Go.WideShapes Go.Deep

section
variable {H : Type} {enc : TypeId × Value → H} {w : World} {base : Nat} {held : Bool}

theorem weightsAll_mem {P : Program} {e : TypeId} {n : Nat} {d : DataW H} : ∀ {l : List (DataW H)}, d ∈ l → n ∈ d.weights P e → n ∈ DataW.weightsAll P e l
  | x :: r, h, hn => by
    simp only [DataW.weightsAll, List.mem_append]
    rcases List.mem_cons.1 h with rfl | h
    · exact .inl hn
    · exact .inr (weightsAll_mem h hn)

/-- A slice, its elements opened by a law of their own. -/
theorem slice_in {α : Type} (encA : α → List Value) {size : Nat} (hsz : ∀ x, (encA x).length = size) (hpos : 0 < size) {P : Program} {t e : TypeId} {R : α → Prop} {fuel : Nat} {cs : List Value} {x : DataW H × List MemPlace}
    (ht : P.underlying t = some (.slice e)) (hC : P.cellsOf e = size) (hby : 0 < P.bytesOf e)
    (hop : ∀ (fuel : Nat) (cs : List Value) (x : DataW H × List MemPlace), DataW.trod enc P w base (fun _ => true) held fuel e cs = some x → (∀ n ∈ x.1.weights P e, n ≤ reachBytes) → ∃ a : α, cs = encA a ∧ R a)
    (h : DataW.trod enc P w base (fun _ => true) held fuel t cs = some x) (hw : ∀ n ∈ x.1.weights P t, n ≤ reachBytes) :
    ∃ (p : Option Addr) (l : List α) (cap : Nat), cs = [.slice p l.length cap] ∧ l.length ≤ cap ∧ l.length ≤ 4000000000000000000 ∧ SliceV encA size w p l ∧ ∀ a ∈ l, R a := by
  rcases open_slice ht h with ⟨h0, -⟩ | ⟨a, len, cap, m, n, D, Pl, hcs, hb, hl, hm, hmm, rfl, hi⟩
  · exact ⟨none, [], 0, by simpa using h0, by simp, by simp, .inl rfl, by simp⟩
  · simp only [if_true] at hmm
    simp only [DataW.weights, ht] at hw
    obtain ⟨l, hll, hlq⟩ := list_of_all (Q := fun i y => R y ∧ ∀ j u, (encA y)[j]? = some u → w.cell? (a.add (i * size + j)) = some u) len (fun i hi' => by
      obtain ⟨cs', hc, ht'⟩ := hi i (by omega)
      obtain ⟨y, rfl, hr⟩ := hop _ _ _ ht' (fun k hk => hw k (List.mem_cons_of_mem _ (List.mem_append.2 (.inl (weightsAll_mem (List.mem_map.2 ⟨i, by simpa using hi', rfl⟩) hk)))))
      obtain ⟨-, hcl, hat⟩ := World.cells?_some hc
      refine ⟨y, hr, fun j u hu => ?_⟩
      have hj : j < size := by have := (List.getElem?_eq_some_iff.1 hu).1; rw [hsz] at this; exact this
      rw [hC] at hat
      have h3 := hat j hj
      rw [Go.Deep.add_add] at h3
      rw [h3, hu])
    have hbound : len ≤ 4000000000000000000 := by
      have h4 := hw _ List.mem_cons_self
      simp only [List.length_map, List.length_range] at h4
      have h5 : len + (m - len) ≤ (len + (m - len)) * P.bytesOf e := Nat.le_mul_of_pos_right _ hby
      have := reachBytes_lt
      omega
    refine ⟨some a, l, cap, by rw [hll]; exact hcs, by omega, by omega, ?_, fun y hy => ?_⟩
    · cases hrows : l with
      | nil => exact .inl rfl
      | cons r0 rr =>
        right
        obtain ⟨b, off, spot⟩ := a
        have h00 := (hlq 0 r0 (by rw [hrows]; rfl)).2
        obtain ⟨n0, hn0⟩ : ∃ n, (encA r0)[0]? = some n := ⟨(encA r0)[0]'(by rw [hsz]; exact hpos), List.getElem?_eq_getElem _⟩
        have hsp : spot = none := by simpa [Addr.add] using World.cell?_spot (h00 0 n0 hn0)
        subst hsp
        refine ⟨b, off, rfl, fun i x hx j u hu => ?_⟩
        rw [← hrows] at hx
        have := (hlq i x hx).2 j u hu
        rw [Go.WideShapes.add_plain] at this
        rw [Nat.add_assoc]
        exact this
    · obtain ⟨i, hi2⟩ := List.mem_iff_getElem?.1 hy
      exact (hlq i y hi2).1

theorem int_el {P : Program} {e : TypeId} (he : P.underlying e = some (.int .i64)) (fuel : Nat) (cs : List Value) (x : DataW H × List MemPlace) (h : DataW.trod enc P w base (fun _ => true) held fuel e cs = some x) (_ : ∀ n ∈ x.1.weights P e, n ≤ reachBytes) : ∃ a : Int, cs = intEnc a ∧ True := by
  obtain ⟨n, h1, -, -⟩ := DataW.trod_int he h
  exact ⟨n, h1, trivial⟩

theorem Tryz.cellsPr : Tryz.prog.cellsOf 97 = 2 := by kernel_rfl
theorem Tryz.cellsTg : Tryz.prog.cellsOf 48 = 2 := by kernel_rfl
theorem Tryz.cellsSt : Tryz.prog.cellsOf 51 = 3 := by kernel_rfl
theorem Tryz.cellsFc : Tryz.prog.cellsOf 45 = 4 := by kernel_rfl
theorem Tryz.cellsPc : Tryz.prog.cellsOf 35 = 5 := by kernel_rfl
theorem Tryz.cellsCt : Tryz.prog.cellsOf 33 = 1 := by kernel_rfl
theorem Tryz.cellsU64 : Tryz.prog.cellsOf 28 = 1 := by kernel_rfl
theorem Tryz.cellsS1 : Tryz.prog.cellsOf 41 = 1 := by kernel_rfl
theorem Tryz.cellsS2 : Tryz.prog.cellsOf 42 = 1 := by kernel_rfl
theorem Tryz.cellsS3 : Tryz.prog.cellsOf 43 = 1 := by kernel_rfl
theorem Tryz.cellsS4 : Tryz.prog.cellsOf 49 = 1 := by kernel_rfl
theorem Tryz.cellsS5 : Tryz.prog.cellsOf 31 = 1 := by kernel_rfl

set_option maxRecDepth 100000 in
theorem pr_el (fuel : Nat) (cs : List Value) (x : DataW H × List MemPlace) (h : DataW.trod enc Tryz.prog w base (fun _ => true) held fuel 97 cs = some x) (_ : ∀ n ∈ x.1.weights Tryz.prog 97, n ≤ reachBytes) : ∃ a : Int × Int, cs = prEnc a ∧ True := by
  obtain ⟨xs, m, -, -, hl, hlen, hel⟩ := DataW.trod_array Tryz.underlying97 h
  rw [Tryz.cellsPr] at hl
  match xs, hlen, cs, hl with
  | [y0, y1], _, [c0, c1], _ =>
  have g0 := hel 0 (by omega)
  have g1 := hel 1 (by omega)
  rw [Tryz.cellsInt1] at g0 g1
  obtain ⟨n0, h0, -, -⟩ := DataW.trod_int Tryz.underlying3 (show DataW.trod enc Tryz.prog w base (fun _ => true) held m 3 [c0] = some y0 from g0)
  obtain ⟨n1, h1, -, -⟩ := DataW.trod_int Tryz.underlying3 (show DataW.trod enc Tryz.prog w base (fun _ => true) held m 3 [c1] = some y1 from g1)
  cases h0; cases h1
  exact ⟨(n0, n1), rfl, trivial⟩

set_option maxRecDepth 100000 in
theorem tg_el (fuel : Nat) (cs : List Value) (x : DataW H × List MemPlace) (h : DataW.trod enc Tryz.prog w base (fun _ => true) held fuel 48 cs = some x) (_ : ∀ n ∈ x.1.weights Tryz.prog 48, n ≤ reachBytes) : ∃ a : Int × Int, cs = prEnc a ∧ True := by
  obtain ⟨xs, m, -, -, hl, hlen, hel⟩ := DataW.trod_struct Tryz.underlying48 h
  rw [Tryz.cellsTg] at hl
  match xs, hlen, cs, hl with
  | [y0, y1], _, [c0, c1], _ =>
  have g0 : DataW.trod enc Tryz.prog w base (fun _ => true) held m 3 (List.take (Tryz.prog.cellsOf 3) (List.drop 0 [c0, c1])) = some y0 := hel 0 _ rfl
  rw [Tryz.cellsInt1] at g0
  have g1 : DataW.trod enc Tryz.prog w base (fun _ => true) held m 3 (List.take (Tryz.prog.cellsOf 3) (List.drop 1 [c0, c1])) = some y1 := hel 1 _ rfl
  rw [Tryz.cellsInt1] at g1
  obtain ⟨n0, h0, -, -⟩ := DataW.trod_int Tryz.underlying3 (show DataW.trod enc Tryz.prog w base (fun _ => true) held m 3 [c0] = some y0 from g0)
  obtain ⟨n1, h1, -, -⟩ := DataW.trod_int Tryz.underlying3 (show DataW.trod enc Tryz.prog w base (fun _ => true) held m 3 [c1] = some y1 from g1)
  cases h0; cases h1
  exact ⟨(n0, n1), rfl, trivial⟩

set_option maxRecDepth 100000 in
theorem st_el (fuel : Nat) (cs : List Value) (x : DataW H × List MemPlace) (h : DataW.trod enc Tryz.prog w base (fun _ => true) held fuel 51 cs = some x) (hw : ∀ n ∈ x.1.weights Tryz.prog 51, n ≤ reachBytes) : ∃ a : SiteM, cs = a.enc ∧ a.ok w := by
  obtain ⟨xs, m, -, hx, hl, hlen, hel⟩ := DataW.trod_struct Tryz.underlying51 h
  rw [Tryz.cellsSt] at hl
  match xs, hlen, cs, hl with
  | [y0, y1, y2], _, [c0, c1, c2], _ =>
  subst hx
  have g0 : DataW.trod enc Tryz.prog w base (fun _ => true) held m 3 (List.take (Tryz.prog.cellsOf 3) (List.drop 0 [c0, c1, c2])) = some y0 := hel 0 _ rfl
  rw [Tryz.cellsInt1] at g0
  have g1 : DataW.trod enc Tryz.prog w base (fun _ => true) held m 3 (List.take (Tryz.prog.cellsOf 3) (List.drop 1 [c0, c1, c2])) = some y1 := hel 1 _ rfl
  rw [Tryz.cellsInt1] at g1
  have g2 : DataW.trod enc Tryz.prog w base (fun _ => true) held m 49 (List.take (Tryz.prog.cellsOf 49) (List.drop 2 [c0, c1, c2])) = some y2 := hel 2 _ rfl
  rw [Tryz.cellsS4] at g2
  obtain ⟨n0, h0, -, -⟩ := DataW.trod_int Tryz.underlying3 (show DataW.trod enc Tryz.prog w base (fun _ => true) held m 3 [c0] = some y0 from g0)
  obtain ⟨n1, h1, -, -⟩ := DataW.trod_int Tryz.underlying3 (show DataW.trod enc Tryz.prog w base (fun _ => true) held m 3 [c1] = some y1 from g1)
  obtain ⟨p, l, cap, h2, -, hln, hsl, -⟩ := slice_in (w := w) prEnc prEnc_len (by decide) Tryz.underlying49 Tryz.cellsTg (by decide +kernel) tg_el (show DataW.trod enc Tryz.prog w base (fun _ => true) held m 49 [c2] = some y2 from g2) (fun n hn => hw n (by
    simp only [DataW.weights, Tryz.underlying51]
    simp only [List.map_cons, DataW.weightsEach, List.mem_append]
    exact .inr (.inr (.inl hn))))
  cases h0; cases h1; cases h2
  exact ⟨⟨n0, n1, p, cap, l⟩, rfl, hsl, hln⟩

set_option maxRecDepth 100000 in
theorem fc_el (fuel : Nat) (cs : List Value) (x : DataW H × List MemPlace) (h : DataW.trod enc Tryz.prog w base (fun _ => true) held fuel 45 cs = some x) (hw : ∀ n ∈ x.1.weights Tryz.prog 45, n ≤ reachBytes) : ∃ a : FcM, cs = a.enc ∧ a.ok w := by
  obtain ⟨xs, m, -, hx, hl, hlen, hel⟩ := DataW.trod_struct Tryz.underlying45 h
  rw [Tryz.cellsFc] at hl
  match xs, hlen, cs, hl with
  | [y0, y1, y2, y3], _, [c0, c1, c2, c3], _ =>
  subst hx
  have g0 : DataW.trod enc Tryz.prog w base (fun _ => true) held m 3 (List.take (Tryz.prog.cellsOf 3) (List.drop 0 [c0, c1, c2, c3])) = some y0 := hel 0 _ rfl
  rw [Tryz.cellsInt1] at g0
  have g1 : DataW.trod enc Tryz.prog w base (fun _ => true) held m 41 (List.take (Tryz.prog.cellsOf 41) (List.drop 1 [c0, c1, c2, c3])) = some y1 := hel 1 _ rfl
  rw [Tryz.cellsS1] at g1
  have g2 : DataW.trod enc Tryz.prog w base (fun _ => true) held m 42 (List.take (Tryz.prog.cellsOf 42) (List.drop 2 [c0, c1, c2, c3])) = some y2 := hel 2 _ rfl
  rw [Tryz.cellsS2] at g2
  have g3 : DataW.trod enc Tryz.prog w base (fun _ => true) held m 43 (List.take (Tryz.prog.cellsOf 43) (List.drop 3 [c0, c1, c2, c3])) = some y3 := hel 3 _ rfl
  rw [Tryz.cellsS3] at g3
  obtain ⟨n0, h0, -, -⟩ := DataW.trod_int Tryz.underlying3 (show DataW.trod enc Tryz.prog w base (fun _ => true) held m 3 [c0] = some y0 from g0)
  have hm : ∀ n, n ∈ y1.1.weights Tryz.prog 41 ∨ n ∈ y2.1.weights Tryz.prog 42 ∨ n ∈ y3.1.weights Tryz.prog 43 → n ≤ reachBytes := fun n hn => hw n (by
    simp only [DataW.weights, Tryz.underlying45]
    simp only [List.map_cons, DataW.weightsEach, List.mem_append]
    rcases hn with hn | hn | hn
    · exact .inr (.inl hn)
    · exact .inr (.inr (.inl hn))
    · exact .inr (.inr (.inr (.inl hn))))
  obtain ⟨p1, l1, q1, h1, -, ln1, sl1, -⟩ := slice_in (w := w) intEnc intEnc_len (by decide) Tryz.underlying41 Tryz.cellsInt1 (by decide +kernel) (int_el Tryz.underlying3) (show DataW.trod enc Tryz.prog w base (fun _ => true) held m 41 [c1] = some y1 from g1) (fun n hn => hm n (.inl hn))
  obtain ⟨p2, l2, q2, h2, -, ln2, sl2, -⟩ := slice_in (w := w) prEnc prEnc_len (by decide) Tryz.underlying42 Tryz.cellsPr (by decide +kernel) pr_el (show DataW.trod enc Tryz.prog w base (fun _ => true) held m 42 [c2] = some y2 from g2) (fun n hn => hm n (.inr (.inl hn)))
  obtain ⟨p3, l3, q3, h3, -, ln3, sl3, ok3⟩ := slice_in (w := w) SiteM.enc SiteM.enc_len (by decide) Tryz.underlying43 Tryz.cellsSt (by decide +kernel) st_el (show DataW.trod enc Tryz.prog w base (fun _ => true) held m 43 [c3] = some y3 from g3) (fun n hn => hm n (.inr (.inr hn)))
  cases h0; cases h1; cases h2; cases h3
  exact ⟨⟨n0, p1, q1, l1, p2, q2, l2, p3, q3, l3⟩, rfl, sl1, sl2, sl3, ok3, ln1, ln2, ln3⟩

theorem five_of {cs : Array Value} (h : cs.size = 5) : ∃ a b c d e, cs = #[a, b, c, d, e] := by
  match cs, h with
  | ⟨[a, b, c, d, e]⟩, _ => exact ⟨a, b, c, d, e, rfl⟩

set_option maxRecDepth 100000 in
theorem piece_in {r : Reach} {b0 : Nat} {v : Value} {d : DataW H} {p : List MemPlace} (hv : Value.okWide Tryz.prog w r b0 35 v) (h : DataW.Trod enc Tryz.prog w base (fun _ => true) held 35 v d p) (hw : ∀ n ∈ d.weights Tryz.prog 35, n ≤ reachBytes) :
    ∃ x : PcM, v = x.val ∧ FcsOk w x.p x.l := by
  obtain ⟨cs, rfl, hsz⟩ := okWide_struct Tryz.underlying35 hv
  obtain ⟨c0, c1, c2, c3, c4, rfl⟩ := five_of (hsz.trans Tryz.cellsPc)
  obtain ⟨fuel, hf⟩ := h
  obtain ⟨xs, m, -, hx, hl, hlen, hel⟩ := DataW.trod_struct Tryz.underlying35 hf
  match xs, hlen with
  | [y0, y1, y2, y3, y4], _ =>
  cases hx
  have g0 : DataW.trod enc Tryz.prog w base (fun _ => true) held m 3 (List.take (Tryz.prog.cellsOf 3) (List.drop 0 [c0, c1, c2, c3, c4])) = some y0 := hel 0 _ rfl
  have g1 : DataW.trod enc Tryz.prog w base (fun _ => true) held m 3 (List.take (Tryz.prog.cellsOf 3) (List.drop 1 [c0, c1, c2, c3, c4])) = some y1 := hel 1 _ rfl
  have g2 : DataW.trod enc Tryz.prog w base (fun _ => true) held m 3 (List.take (Tryz.prog.cellsOf 3) (List.drop 2 [c0, c1, c2, c3, c4])) = some y2 := hel 2 _ rfl
  have g3 : DataW.trod enc Tryz.prog w base (fun _ => true) held m 28 (List.take (Tryz.prog.cellsOf 28) (List.drop 3 [c0, c1, c2, c3, c4])) = some y3 := hel 3 _ rfl
  have g4 : DataW.trod enc Tryz.prog w base (fun _ => true) held m 33 (List.take (Tryz.prog.cellsOf 33) (List.drop 4 [c0, c1, c2, c3, c4])) = some y4 := hel 4 _ rfl
  rw [Tryz.cellsInt1] at g0 g1 g2
  rw [Tryz.cellsU64] at g3
  rw [Tryz.cellsCt] at g4
  obtain ⟨n0, h0, -, -⟩ := DataW.trod_int Tryz.underlying3 g0
  obtain ⟨n1, h1, -, -⟩ := DataW.trod_int Tryz.underlying3 g1
  obtain ⟨n2, h2, -, -⟩ := DataW.trod_int Tryz.underlying3 g2
  obtain ⟨n3, h3, -, -⟩ := DataW.trod_int Tryz.underlying28 g3
  obtain ⟨zs, m', -, hz, -, hlen', hel'⟩ := DataW.trod_struct Tryz.underlying33 g4
  match zs, hlen' with
  | [z0], _ =>
  subst hz
  have k0 : DataW.trod enc Tryz.prog w base (fun _ => true) held m' 31 (List.take (Tryz.prog.cellsOf 31) (List.drop 0 [c4])) = some z0 := hel' 0 _ rfl
  rw [Tryz.cellsS5] at k0
  obtain ⟨pp, l, cap, h4, -, ln, sl, ok⟩ := slice_in (w := w) FcM.enc FcM.enc_len (by decide) Tryz.underlying31 Tryz.cellsFc (by decide +kernel) fc_el k0 (fun n hn => hw n (by
    simp only [DataW.weights, Tryz.underlying35]
    simp only [List.map_cons, DataW.weightsEach, List.mem_append]
    refine .inr (.inr (.inr (.inr (.inl ?_))))
    simp only [DataW.weights, Tryz.underlying33]
    simp only [List.map_cons, DataW.weightsEach, List.mem_append]
    exact .inl hn))
  obtain rfl : c0 = _ := (List.cons.inj h0).1
  obtain rfl : c1 = _ := (List.cons.inj h1).1
  obtain rfl : c2 = _ := (List.cons.inj h2).1
  obtain rfl : c3 = _ := (List.cons.inj h3).1
  obtain rfl : c4 = _ := (List.cons.inj h4).1
  exact ⟨⟨n0, n1, n2, n3, pp, cap, l⟩, rfl, sl, ok, ln⟩
end

end Go.Proofs.YtcdophocpheadaaGreatDoor
