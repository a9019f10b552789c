/-
  DecideBest: the whole law, walked.
-/
import Derived.Test.YtiojoheenjkphaaRegKinds
import Derived.Test.YtiojoheenjkphaaCodeInt
import Derived.Test.YtiojoheenjkphaaOwnMore
import Derived.Test.YtiojoheenjkphaaRefBest
import Derived.Test.YtiojoheenjkphaaBudgetsMain
namespace Go.Proofs.Ytiojoheenjkphaa
open Go.RowKit

theorem ref_calls (p : Option Addr) (l : List Dec) (cap : Nat) (budget : Int) (w : World) (h : SliceV Dec.enc 7 w p l) :
    Calls Try.prog 12 #[.slice p l.length cap, .int .i64 budget] w (BestPost (best l budget) w) := by
  by_cases h1 : budget < 0 ∨ 4096 < budget ∨ 64 < l.length
  · exact ref_bad1 p l cap budget w h1
  · obtain ⟨m, rfl⟩ : ∃ m : Nat, budget = m := ⟨budget.toNat, by omega⟩
    exact ref_good p l cap m w h (by omega) (by omega)

/-- What holds in the region that changes one decision. -/
def OddInv (b bl g base n cap : Nat) (w0 w : World) : Prop :=
  (∃ r, CodesAt w b bl r) ∧ (∃ xs : List Dec, xs.length = n ∧ Own Dec.enc 7 30 base w (.slice (some ⟨g, 0, none⟩) n cap) xs) ∧ Keep (fun k => k = b ∨ k = g) w0 w

theorem OddInv.alloc {b bl g base n cap : Nat} {w0 w : World} (h : OddInv b bl g base n cap w0 w) (o : Obj) : OddInv b bl g base n cap w0 (w.alloc o) := by
  obtain ⟨⟨r, h1⟩, ⟨xs, h2, h3⟩, h4⟩ := h
  have hk : Keep None w (w.alloc o) := (Keep.refl _ _).alloc o
  exact ⟨⟨r, h1.keep hk id id⟩, ⟨xs, h2, h3.keep hk (fun _ _ => id)⟩, h4.alloc o⟩

theorem OddInv.drew {b bl g base n cap : Nat} {w0 w : World} (h : OddInv b bl g base n cap w0 w) : OddInv b bl g base n cap w0 w.drew := by
  obtain ⟨⟨r, h1⟩, ⟨xs, h2, h3⟩, h4⟩ := h
  have hk : Keep None w w.drew := (Keep.refl _ _).drew
  exact ⟨⟨r, h1.keep hk id id⟩, ⟨xs, h2, h3.keep hk (fun _ _ => id)⟩, h4.drew⟩

theorem OddInv.int {b bl g base n cap : Nat} (hbase : b < base) {w0 w : World} (h : OddInv b bl g base n cap w0 w) :
    Calls Try.prog 10 #[.pointer (some ⟨b, 0, none⟩)] w fun e w' => ∃ u, e = .returned u ∧ VK.int.holds (fun k => k = b ∨ k = g) w' u ∧ OddInv b bl g base n cap w0 w' ∧ Keep (fun k => k = b ∨ k = g) w w' := by
  obtain ⟨⟨r, h1⟩, ⟨xs, h2, h3⟩, h4⟩ := h
  refine (int_any b bl r w h1).mono ?_
  rintro e w' ⟨m, r', rfl, h5, h6⟩
  have hk : Keep (fun k => k = b ∨ k = g) w w' := h6.weaken (fun _ _ q => .inl q)
  exact ⟨_, rfl, ⟨m, rfl⟩, ⟨⟨r', h5⟩, ⟨xs, h2, h3.keepOld h6 (by rintro g rfl; exact hbase)⟩, h4.trans hk⟩, hk⟩

theorem OddInv.next {b bl g base n cap : Nat} (m : Int) (hm : m ≤ 100000) (hm0 : 1 ≤ m) (hbase : b < base) {w0 w : World} (h : OddInv b bl g base n cap w0 w) :
    Calls Try.prog 9 #[.pointer (some ⟨b, 0, none⟩), .int .i64 m] w fun e w' => ∃ u, e = .returned u ∧ (VK.below m).holds (fun k => k = b ∨ k = g) w' u ∧ OddInv b bl g base n cap w0 w' ∧ Keep (fun k => k = b ∨ k = g) w w' := by
  obtain ⟨⟨r, h1⟩, ⟨xs, h2, h3⟩, h4⟩ := h
  refine (next_in b bl m r w h1 hm hm0).mono ?_
  rintro e w' ⟨rfl, h5, h6, h7, h8⟩
  have hk : Keep (fun k => k = b ∨ k = g) w w' := h6.weaken (fun _ _ q => .inl q)
  exact ⟨_, rfl, ⟨_, rfl, h7, h8⟩, ⟨⟨_, h5⟩, ⟨xs, h2, h3.keepOld h6 (by rintro g rfl; exact hbase)⟩, h4.trans hk⟩, hk⟩

theorem ev_const (a : Act) (c : Value) : a.eval (.const c) = c := rfl

theorem idx3 (w : World) (h m : Nat) (hm : m < 3) : (Instr.indexAt 33 (.slice (some ⟨h, 0, none⟩) 3 3) (.int .i64 m)).run Try.prog w = .ok (.pointer (some ⟨h, m, none⟩)) w := by
  go_simp
  intro h3
  omega
theorem idx2 (w : World) (h m : Nat) (hm : m < 2) : (Instr.indexAt 33 (.slice (some ⟨h, 0, none⟩) 2 2) (.int .i64 m)).run Try.prog w = .ok (.pointer (some ⟨h, m, none⟩)) w := by
  go_simp
  intro h3
  omega

theorem odd_cell {g base n cap k j : Nat} {w : World} {xs : List Dec} (h2 : xs.length = n) (h3 : Own Dec.enc 7 30 base w (.slice (some ⟨g, 0, none⟩) n cap) xs) (hk : k < n) (hj1 : j < 7) (hj2 : j ≥ 5) : ∃ m, w.cell? ⟨g, k * 7 + j, none⟩ = some (.int .i64 m) := by
  obtain ⟨p, c, he, _, _, h, _⟩ := h3.slice Dec.enc_len
  have hx : xs[k]? = some (xs[k]'(by omega)) := List.getElem?_eq_getElem _
  rcases h with h | ⟨b, off, rfl, h⟩
  · subst h; simp at h2; omega
  · cases he
    have := h k _ hx j
    rcases (by omega : j = 5 ∨ j = 6) with rfl | rfl
    · exact ⟨_, by simpa using this _ rfl⟩
    · exact ⟨_, by simpa using this _ rfl⟩

theorem odd_run {b bl g base n cap k j : Nat} {w0 w : World} {m : Int} (h : OddInv b bl g base n cap w0 w) (hk : k < n) (hj1 : j < 7) (hj2 : j ≥ 5) :
    (Instr.storeAt 3 (.pointer (some ⟨g, k * 7 + j, none⟩)) (.int .i64 m)).run Try.prog w = .ok () (w.setCell ⟨g, k * 7 + j, none⟩ (.int .i64 m)) := by
  obtain ⟨_, ⟨xs, h2, h3⟩, _⟩ := h
  obtain ⟨u, hc⟩ := odd_cell h2 h3 hk hj1 hj2
  have hf : w.frozen? ⟨g, k * 7 + j, none⟩ = false := by
    rcases h3.2 with ⟨hn, _⟩ | ⟨g', cap', cur, hv, hb, hg, _⟩
    · cases hn
    · cases hv
      simp [World.frozen?, hg]
  go_simp

theorem OddInv.store {b bl g base n cap k j : Nat} {w0 w : World} {m : Int} (h : OddInv b bl g base n cap w0 w) (hk : k < n) (hbs : b < base) (hg : base ≤ g) (hbl : bl ≤ b) (hj1 : j < 7) (hj2 : j ≥ 5) :
    OddInv b bl g base n cap w0 (w.setCell ⟨g, k * 7 + j, none⟩ (.int .i64 m)) := by
  obtain ⟨⟨r, h1⟩, ⟨xs, h2, h3⟩, h4⟩ := h
  subst h2
  have hk1 : Keep (· = g) w (w.setCell ⟨g, k * 7 + j, none⟩ (.int .i64 m)) := (Keep.refl (· = g) w).setCell (p := ⟨g, k * 7 + j, none⟩) (.inl rfl) _
  refine ⟨⟨r, h1.keep hk1 (by omega) (by omega)⟩, ?_, h4.trans (hk1.weaken (fun _ _ q => .inr q))⟩
  have hx : xs[k]? = some (xs[k]'(by omega)) := List.getElem?_eq_getElem _
  rcases (by omega : j = 5 ∨ j = 6) with rfl | rfl
  · refine ⟨xs.set k { xs[k]'(by omega) with benefit := m }, by simp, ?_⟩
    exact Own.setField Dec.enc_len h3 hx (by omega) rfl
  · refine ⟨xs.set k { xs[k]'(by omega) with size := m }, by simp, ?_⟩
    exact Own.setField Dec.enc_len h3 hx (by omega) rfl

/-- Behind the change of one decision: the codes, some list of as many decisions. -/
def OddPost (b bl : Nat) (po : Option Addr) (m : List Dec) (w0 w : World) : Prop :=
  ∃ (r : List Int) (xs : List Dec), xs.length = m.length ∧ CodesAt w b bl r ∧ SliceV Dec.enc 7 w po xs ∧ Keep (fun k => k = b ∨ ∃ a, po = some a ∧ k = a.block) w0 w

/-- The three lists. -/
def Three (g : Nat) (p1 pl po : Option Addr) (l m xs : List Dec) (c1 cl co : Nat) (w : World) : Prop :=
  w.heap[g]? = some (.cells #[.slice p1 l.length c1, .slice pl m.length cl, .slice po m.length co] 23 (0, 0)) ∧ SliceV Dec.enc 7 w p1 l ∧ SliceV Dec.enc 7 w pl m ∧ SliceV Dec.enc 7 w po xs ∧ l.length ≤ 80 ∧ m.length ≤ 80 ∧ xs.length = m.length

theorem Three.get {g b : Nat} {p1 pl po : Option Addr} {l m xs : List Dec} {c1 cl co : Nat} {w : World} (h : Three g p1 pl po l m xs c1 cl co w) (o1 : OffS (· = b) p1 ∨ l = []) (o2 : OffS (· = b) pl) (o3 : OffS (· = b) po) {k : Nat} (hk : k < 3) :
    ∃ (p : Option Addr) (x : List Dec) (c : Nat), w.cell? ⟨g, k, none⟩ = some (.slice p x.length c) ∧ SliceV Dec.enc 7 w p x ∧ (OffS (· = b) p ∨ x = []) ∧ x.length ≤ 80 := by
  obtain ⟨h0, h1, h2, h3, h4, h5, h6⟩ := h
  rcases (by omega : k = 0 ∨ k = 1 ∨ k = 2) with rfl | rfl | rfl
  · exact ⟨p1, l, c1, by simp [World.cell?, h0], h1, o1, h4⟩
  · exact ⟨pl, m, cl, by simp [World.cell?, h0], h2, .inl o2, h5⟩
  · exact ⟨po, xs, co, by rw [h6]; simp [World.cell?, h0], h3, .inl o3, by omega⟩

theorem SliceV.keepOr {α : Type} {enc : α → List Value} {size : Nat} {w w' : World} {p : Option Addr} {xs : List α} {S : Nat → Prop} (h : SliceV enc size w p xs) (k : Keep S w w') (hb : OffS S p ∨ xs = []) : SliceV enc size w' p xs := by
  rcases hb with hb | hb
  · exact h.keep k hb
  · exact .inl hb

/-- Where it lies, if it holds anything. -/
theorem SliceV.off {α : Type} {enc : α → List Value} {size : Nat} (hsz : ∀ x, (enc x).length = size) (hpos : 0 < size) {w : World} {p : Option Addr} {xs : List α} (h : SliceV enc size w p xs) {b : Nat} (hb : w.heap.size ≤ b) : OffS (· = b) p ∨ xs = [] := by
  rcases h with h | ⟨g, off, rfl, h⟩
  · exact .inr h
  · cases xs with
    | nil => exact .inr rfl
    | cons x r =>
      refine .inl ?_
      intro a ha he
      cases ha
      have hx : 0 < (enc x).length := by rw [hsz]; exact hpos
      have := World.block_lt_of_cell? w _ (h 0 x rfl 0 _ (List.getElem?_eq_getElem hx))
      simp only at he this
      omega

/-- The four budgets. -/
def InnerInv (w0 : World) (i : Value) (w : World) : Prop := ∃ k : Nat, i = .int .i64 k ∧ k ≤ 4 ∧ Keep None w0 w

theorem best_len (l : List Dec) (n : Int) (h : l.length ≤ 1000000) : (best l n).1.length ≤ 1000000 := by
  unfold best
  split
  · simp
  · split
    · simp
    · have := (picks_in l 0 n.toNat).1
      simp only
      omega

def LawInv (b bl : Nat) (w0 : World) (i : Value) (w : World) : Prop :=
  ∃ (k : Nat) (r : List Int), i = .int .i64 k ∧ k ≤ 3 ∧ CodesAt w b bl r ∧ Keep (· = b) w0 w

set_option maxHeartbeats 4000000 in
set_option maxRecDepth 100000 in
theorem law_calls (p : Option Addr) (bs : List Int) (cap : Nat) (p1 : Option Addr) (l : List Dec) (c1 : Nat) (B : Int) (w : World) (h : SliceV byteEnc 1 w p bs) (hv : valid bs) (hcap : bs.length ≤ cap) (h1 : SliceV Dec.enc 7 w p1 l) (hl : l.length ≤ 80) :
    Calls Try.prog 3 #[.slice p bs.length cap, .slice p1 l.length c1, .int .i64 B] w (Gives None (.bool true) w) := by
  have hl0 : decide ((80 : Int) < (l.length : Int)) = false := by simp; omega
  obtain ⟨i0, hi, hz0, hz1, hz2⟩ := info_parts Try.infoDec
  go_enter Try.func3, Try.ntmps3
  go_wp2_with (fail)
  refine (awake_calls _).mono ?_
  rintro e w1 ⟨rfl, hk1⟩
  have H : Hid _ := Lib.hid (h.keep hk1 (fun _ _ => id))
  have HL0 := Lib.hid h1
  have hz1s := hk1.size
  clear h h1
  go_wp2_with (fail)
  refine (new_calls p bs cap 200 _ H.out hv (by omega) hcap).mono ?_
  rintro e w2 ⟨b, bl, rfl, hb, hc, hk2, -⟩
  go_wp2_with (fail)
  refine (decs_any b bl 14 _ _ hc (by omega) (by omega)).mono ?_
  rintro e w3 ⟨pl, cl, rfl, hl1, hl2, hl3, hl4, hc3, hk3⟩
  have hok := decs_ok 14 (bs.take 200) (valid_take hv 200)
  generalize decs 14 (bs.take 200) = dd at *
  obtain ⟨m, r'⟩ := dd
  simp only at hl1 hl3 hc3 hok
  have hkA : Keep None w w3 := (hk1.trans hk2).andThen hk3 (by intro k q1 q2; have := hk1.size; omega)
  have HKA : Hid _ := Lib.hid hkA
  have HL : Hid _ := Lib.hid hl3
  have HC : Hid _ := Lib.hid hc3
  have hbs := hc3.lt.1
  have hb2 := hc.lt.1
  have HFR := Lib.hid hl4
  have hkn := hkA.size
  have hk2s := hk2.size
  clear hkA hl3 hc3 hk1 hk2 hk3 hc hl4
  have H1 : ∀ x, ∀ u ∈ Dec.enc x, u.oneCell' = true := by
    intro x u hu; simp [Dec.enc] at hu; rcases hu with h | h | h | h | h | h | h <;> subst h <;> simp [Value.oneCell']
  have HL1 : m.length ≤ 1000000 := by omega
  go_wp2_with (at_builtin; refine wpList_copyAll rfl _ _ 23 rfl 30 i0 _ 56 Try.underlying23 hi hz0 hz1 hz2 rfl (by decide) Dec.enc_len rfl pl m cl rfl HL.out H1 HL1 (by omega) ?_)
  intro v4 w4 hown hk4
  have HO : Hid _ := Lib.hid hown
  have HK4 := Lib.hid (HKA.out.trans hk4)
  have HC4 := Lib.hid (HC.out.keep hk4 id id)
  have HK34 := Lib.hid hk4
  clear hown hk4 HKA HC
  obtain ⟨po, co, rfl, ho1, ho2, ho3, ho4⟩ := HO.out.slice Dec.enc_len
  go_upto_if 37 with (fail)
  go_cut [] (fun wx => OddPost b bl po m w4 wx)
  case first =>
    go_wp2_with (fail)
    rotate_left
    · go_meet
      case rel => exact ⟨_, m, rfl, HC4.out, ho3, Keep.refl _ _⟩
    · have hm : 0 < m.length := by assumption
      obtain ⟨g, rfl, hg0⟩ := HO.out.row Dec.enc_len hm
      refine (next_in b bl _ r' _ HC4.out (by omega) (by omega)).mono ?_
      rintro e w5 ⟨rfl, hc5, hk5, hb0, hb1⟩
      have HC5 := Lib.hid hc5
      have HK5 := Lib.hid hk5
      clear hc5 hk5
      generalize next (m.length : Int) r' = q at *
      obtain ⟨k, hk⟩ : ∃ k : Nat, q.1 = k := ⟨q.1.toNat, by omega⟩
      obtain ⟨q1, q2⟩ := q
      simp only at hk hb0 hb1 HC5
      subst hk
      go_upto_region 8 with (fail)
      have hbl := HC5.out.lt
      have hkm : k < m.length := by omega
      have hk45 := HK5.out
      have hown5 : Own Dec.enc 7 30 w3.heap.size w5 (.slice (some ⟨g, 0, none⟩) m.length co) m := HO.out.keepOld hk45 (by rintro x rfl; exact hbs)
      have hinv : OddInv b bl g w3.heap.size m.length co w4 w5 := ⟨⟨_, HC5.out⟩, ⟨m, rfl, hown5⟩, hk45.weaken (fun _ _ q => .inl q)⟩
      have hcell : ∀ j, j < 7 → j ≥ 5 → ∀ w, OddInv b bl g w3.heap.size m.length co w4 w → ∃ n, w.cell? ⟨g, k * 7 + j, none⟩ = some (.int .i64 n) := by
        rintro j hj1 hj2 w ⟨_, ⟨xs, h2, h3⟩, _⟩
        exact odd_cell h2 h3 hkm hj1 hj2
      have hstore : ∀ j, j < 7 → j ≥ 5 → ∀ w n, OddInv b bl g w3.heap.size m.length co w4 w → (Instr.storeAt 3 (.pointer (some ⟨g, k * 7 + j, none⟩)) (.int .i64 n)).run Try.prog w = .ok () (w.setCell ⟨g, k * 7 + j, none⟩ (.int .i64 n)) ∧ OddInv b bl g w3.heap.size m.length co w4 (w.setCell ⟨g, k * 7 + j, none⟩ (.int .i64 n)) ∧ Keep (fun k => k = b ∨ k = g) w (w.setCell ⟨g, k * 7 + j, none⟩ (.int .i64 n)) := by
        intro j hj1 hj2 w n h
        exact ⟨odd_run h hkm hj1 hj2, h.store hkm hbs hg0 hbl.2 hj1 hj2, (Keep.refl _ _).setCell (.inl (.inr rfl)) _⟩
      have hbg : b < g := by omega
      have hlg : bl < g := by omega
      refine region_kinds (fun k => k = b ∨ k = g) [.is (.pointer (some ⟨g, k * 7, none⟩)), .is (.pointer (some ⟨g, k * 7, none⟩)), .is (.pointer (some ⟨b, 0, none⟩)), .int, .row 3, .is (.pointer (some ⟨b, 0, none⟩)), .below 3, .cell, .int,
        .is (.pointer (some ⟨b, 0, none⟩)), .int, .is (.pointer (some ⟨g, k * 7, none⟩)), .is (.pointer (some ⟨g, k * 7, none⟩)), .is (.pointer (some ⟨g, k * 7 + 6, none⟩)), .int, .row 2, .is (.pointer (some ⟨b, 0, none⟩)), .below 2, .cell, .int,
        .is (.pointer (some ⟨g, k * 7, none⟩)), .is (.pointer (some ⟨g, k * 7 + 5, none⟩)), .any, .is (.pointer (some ⟨g, k * 7, none⟩)), .is (.pointer (some ⟨g, k * 7 + 6, none⟩)), .any]
        (OddInv b bl g w3.heap.size m.length co w4) 125 rfl (by kernel_rfl) rfl (by rfl) hinv.drew ?_ ?_
      · refine ⟨?_, ?_, ?_, ?_, ?_, ?_, ?_, ?_, ?_, ?_, ?_, ?_, ?_, ?_, ?_, ?_, ?_, ?_, ?_, ?_, ?_, ?_, ?_, ?_, ?_, ?_, trivial⟩
        · exact st_frame 10 _ rfl rfl rfl rfl
        · exact st_frame 10 _ rfl rfl rfl rfl
        · exact st_frame 7 _ rfl rfl rfl rfl
        · exact st_call1 2 46 10 _ _ ⟨_, rfl⟩ rfl rfl rfl (fun w h => OddInv.int hbs h) (fun w => by kernel_rfl) rfl
        · refine st_build 33 3 _ rfl ?_ ?_ (fun w o h => h.alloc o) rfl
          · rintro w ⟨⟨r, h1⟩, ⟨xs, h2, h3⟩, h4⟩ x (rfl | rfl)
            · exact h1.lt.1
            · exact (World.ownsRow.lt h3 _ rfl).2
          · intro a w hV
            obtain ⟨n, hn⟩ := tells hV 3 47 rfl rfl
            refine ⟨[n, 1125899906842624, 1125899906842625], 3, rfl, ?_⟩
            simp only [List.map_toArray, List.map_cons, List.map_nil, hn, ev_const]
            go_simp
        · exact st_frame 7 _ rfl rfl rfl rfl
        · exact st_call2 5 49 9 _ _ _ ⟨_, rfl⟩ rfl rfl rfl (fun w h => OddInv.next 3 (by omega) (by omega) hbs h) (fun w => by kernel_rfl) rfl
        · exact st_index 4 6 48 50 33 3 rfl rfl rfl rfl rfl idx3 rfl rfl rfl
        · exact st_load 7 51 3 rfl rfl rfl (by intro w ad n hn; go_simp) (.inl rfl) rfl
        · exact st_frame 7 _ rfl rfl rfl rfl
        · exact st_call1 9 53 10 _ _ ⟨_, rfl⟩ rfl rfl rfl (fun w h => OddInv.int hbs h) (fun w => by kernel_rfl) rfl
        · exact st_frame 10 _ rfl rfl rfl rfl
        · exact st_nil 11 55 _ rfl rfl rfl rfl rfl
        · exact st_field 12 56 30 6 _ _ rfl rfl rfl rfl (by intro w; go_simp) rfl
        · exact st_load 13 57 3 rfl rfl rfl (by intro w ad n hn; go_simp) (.inr ⟨_, rfl, hcell 6 (by omega) (by omega)⟩) rfl
        · refine st_build 33 2 _ rfl ?_ ?_ (fun w o h => h.alloc o) rfl
          · rintro w ⟨⟨r, h1⟩, ⟨xs, h2, h3⟩, h4⟩ x (rfl | rfl)
            · exact h1.lt.1
            · exact (World.ownsRow.lt h3 _ rfl).2
          · intro a w hV
            obtain ⟨n, hn⟩ := tells hV 10 54 rfl rfl
            obtain ⟨n', hn'⟩ := tells hV 14 58 rfl rfl
            refine ⟨[n, n'], 3, rfl, ?_⟩
            simp only [List.map_toArray, List.map_cons, List.map_nil, hn, hn']
            go_simp
        · exact st_frame 7 _ rfl rfl rfl rfl
        · exact st_call2 16 60 9 _ _ _ ⟨_, rfl⟩ rfl rfl rfl (fun w h => OddInv.next 2 (by omega) (by omega) hbs h) (fun w => by kernel_rfl) rfl
        · exact st_index 15 17 59 61 33 2 rfl rfl rfl rfl rfl idx2 rfl rfl rfl
        · exact st_load 18 62 3 rfl rfl rfl (by intro w ad n hn; go_simp) (.inl rfl) rfl
        · exact st_nil 0 44 _ rfl rfl rfl rfl rfl
        · exact st_field 20 64 30 5 _ _ rfl rfl rfl rfl (by intro w; go_simp) rfl
        · exact st_store 21 8 65 52 3 _ rfl rfl rfl rfl rfl rfl rfl (hstore 5 (by omega) (by omega)) rfl
        · exact st_nil 1 45 _ rfl rfl rfl rfl rfl
        · exact st_field 23 66 30 6 _ _ rfl rfl rfl rfl (by intro w; go_simp) rfl
        · exact st_store 24 19 67 63 3 _ rfl rfl rfl rfl rfl rfl rfl (hstore 6 (by omega) (by omega)) rfl
      · intro f w' _ hI
        simp only [putsOf, Act.put, Exit.then, List.setIfInBounds_toArray, List.set_cons_zero, List.set_cons_succ]
        refine ‹∀ a' w', Met _ a' w' → _› _ _ ?_
        go_meet
        case rel =>
          obtain ⟨⟨r, i1⟩, ⟨xs, i2, i3⟩, i4⟩ := hI
          obtain ⟨_, _, he, _, _, i5, _⟩ := i3.slice Dec.enc_len
          obtain ⟨rfl, -, -⟩ : some (⟨g, 0, none⟩ : Addr) = _ ∧ _ ∧ _ := by simpa using he
          refine ⟨r, xs, i2, i1, i5, i4.weaken ?_⟩
          rintro x _ (rfl | rfl)
          · exact .inl rfl
          · exact .inr ⟨_, rfl, rfl⟩
  case rest =>
    obtain ⟨r0, xs, hxl, hc5, hs5, hk5⟩ := hcut
    have hKN : Keep None w wc := HK4.out.andThen hk5 (by
      intro x q1 q2
      rcases q2 with rfl | ⟨a, ha, rfl⟩
      · omega
      · have := ho4 a ha; omega)
    have hK3 : Keep (· = b) w3 wc := (HK34.out.weaken (fun _ _ q => q.elim)).andThen hk5 (by
      intro x q1 q2
      rcases q2 with rfl | ⟨a, ha, rfl⟩
      · rfl
      · have := ho4 a ha; omega)
    have hA : SliceV Dec.enc 7 wc p1 l := HL0.out.keep hKN (fun _ _ => id)
    have hB : SliceV Dec.enc 7 wc pl m := HL.out.keep hK3 (by
      intro a ha he
      have := HFR.out a ha
      omega)
    have HA := Lib.hid hA
    have HB := Lib.hid hB
    have HC := Lib.hid hs5
    have HCW := Lib.hid hc5
    have HKW := Lib.hid hKN
    clear hA hB hs5 hc5 hk5 hKN hK3
    go_wp2_with (fail)
    generalize hW : World.alloc wc _ = W0
    have hk6 : Keep None wc W0 := by rw [← hW]; exact (Keep.refl _ _).alloc _
    have hthree : Three wc.heap.size p1 pl po l m xs c1 cl co W0 := by rw [← hW]; exact ⟨heap_alloc_new _ _, HA.out.keep (S := None) ((Keep.refl _ _).alloc _) (fun _ _ => id), HB.out.keep (S := None) ((Keep.refl _ _).alloc _) (fun _ _ => id), HC.out.keep (S := None) ((Keep.refl _ _).alloc _) (fun _ _ => id), hl, by omega, by omega⟩
    have hgb : wc.heap.size ≠ b := by have := HCW.out.lt.1; omega
    have HO1 := Lib.hid (HL0.out.off Dec.enc_len (by omega) (show w.heap.size ≤ b by omega))
    have HO2 : Hid (OffS (· = b) pl) := Lib.hid (fun a ha he => by have := HFR.out a ha; omega)
    have HO3 : Hid (OffS (· = b) po) := Lib.hid (fun a ha he => by have := ho4 a ha; omega)
    have hcw : CodesAt W0 b bl r0 := HCW.out.keep hk6 id id
    have H3 := Lib.hid hthree
    have HCW0 := Lib.hid hcw
    have HK0 := Lib.hid (HKW.out.trans hk6)
    clear hW hk6 hthree hcw
    go_loopw [73] (LawInv b bl W0) (fun i _ => 3 - (intOf i).toNat)
    case atStart => exact ⟨0, _, rfl, by omega, HCW0.out, Keep.refl _ _⟩
    case round =>
      obtain ⟨k, r, rfl, hk, hcr, hkr⟩ := hrel
      have HKR := Lib.hid hkr
      have HCR := Lib.hid hcr
      clear hkr hcr
      obtain ⟨wo, rfl⟩ : ∃ wo : World, wo = wr := ⟨_, rfl⟩
      by_cases hlt : k < 3
      · obtain ⟨px, x, cx, hcx, hsx, hox, hlx⟩ := H3.out.get HO1.out HO2.out HO3.out hlt
        have hg0 : wc.heap.size ≠ b := hgb
        have hcx' := HKR.out.cell hcx hg0
        have HSX : Hid (SliceV Dec.enc 7 wo px x) := Lib.hid (hsx.keepOr HKR.out hox)
        clear hcx hsx
        go_wp2_with (fail)
        refine (next_in b bl _ r _ HCR.out (by omega) (by omega)).mono ?_
        rintro e v1 ⟨rfl, hc1, hk1, ha0, ha1⟩
        generalize next 60 r = q1 at *
        obtain ⟨n1, r1⟩ := q1
        simp only at hc1 ha0 ha1
        go_wp2_with (fail)
        refine (next_in b bl _ r1 _ hc1 (by omega) (by omega)).mono ?_
        rintro e v2 ⟨rfl, hc2, hk2, hb0, hb1⟩
        generalize next 200 r1 = q2 at *
        obtain ⟨n2, r2⟩ := q2
        simp only at hc2 hb0 hb1
        go_wp2_with (fail)
        refine (next_in b bl _ r2 _ hc2 (by omega) (by omega)).mono ?_
        rintro e v3 ⟨rfl, hc3, hk3, hd0, hd1⟩
        generalize next 2 r2 = q3 at *
        obtain ⟨n3, r3⟩ := q3
        simp only at hc3 hd0 hd1
        have HKV := Lib.hid ((hk1.trans hk2).trans hk3)
        have HCV := Lib.hid hc3
        clear hc1 hc2 hc3 hk1 hk2 hk3
        go_wp2_with (fail)
        generalize hV : World.alloc v3 _ = V0
        have hkv : Keep None v3 V0 := by rw [← hV]; exact (Keep.refl _ _).alloc _
        have hbud : ∀ j, j < 4 → ∃ n, V0.cell? ⟨v3.heap.size, j, none⟩ = some (.int .i64 n) := by
          intro j hj
          rw [← hV]
          rcases (by omega : j = 0 ∨ j = 1 ∨ j = 2 ∨ j = 3) with rfl | rfl | rfl | rfl
          · exact ⟨B, by simp⟩
          · exact ⟨n1, by simp⟩
          · exact ⟨n2, by simp⟩
          · exact ⟨4096 + n3, by simp⟩
        have HBUD := Lib.hid hbud
        have HSV := Lib.hid ((HSX.out.keepOr HKV.out hox).keep hkv (fun _ _ => id))
        have HCV0 := Lib.hid (HCV.out.keep hkv id id)
        have HKV0 := Lib.hid (HKV.out.trans (hkv.weaken (fun _ _ q => q.elim)))
        clear hV hkv hbud HCV HKV
        go_loopw [87] (InnerInv V0) (fun i _ => 4 - (intOf i).toNat)
        case atStart => exact ⟨0, rfl, by omega, Keep.refl _ _⟩
        case round =>
          obtain ⟨q, rfl, hq, hkq⟩ := hrel
          have HKQ := Lib.hid hkq
          clear hkq
          by_cases hql : q < 4
          · obtain ⟨n, hn⟩ := HBUD.out q hql
            have hn' := HKQ.out.cell hn id
            have HSQ := Lib.hid (HSV.out.keep HKQ.out (fun _ _ => id))
            clear hn
            by_cases hskip : 300 < n ∧ n ≤ 4096 ∧ 4 < x.length
            · obtain ⟨s1, s2, s3⟩ := hskip
              go_wp2
              go_roundw
              case rel => exact ⟨q + 1, by go_num, by omega, HKQ.out⟩
              case measure => simp [intOf]; omega
            · rcases (by omega : n ≤ 300 ∨ (300 < n ∧ 4096 < n) ∨ (300 < n ∧ n ≤ 4096 ∧ x.length ≤ 4)) with s1 | ⟨s1, s2⟩ | ⟨s1, s2, s3⟩
              all_goals
                clear hskip
                go_wp2_with (fail)
                refine (best_calls px x cx n _ HSQ.out (by omega)).mono ?_
                have HREF := fun w h => Lib.hid (ref_calls px x cx n w h)
                have HYL := best_len x n (by omega)
                generalize best x n = y at *
                rintro e u1 ⟨pa, ca, rfl, d1, d2, d3, d4, d5⟩
                have HD3 := Lib.hid d3
                have HK1 := Lib.hid d5
                have HS1 := Lib.hid (HSQ.out.keep d5 (fun _ _ => id))
                clear d3 d4 d5
                go_wp2_with (fail)
                refine (HREF u1 HS1.out).out.mono ?_
                rintro e u2 ⟨pb, cb, rfl, e1, e2, e3, e4, e5⟩
                have HE3 := Lib.hid e3
                have HD32 := Lib.hid (HD3.out.keep e5 (fun _ _ => id))
                have HK2 := Lib.hid ((HKQ.out.trans HK1.out).trans e5)
                clear e3 e4 e5 HREF
                go_wp2_with (fail)
                refine (ints_calls pa pb y.1 y.1 ca cb _ HD32.out HE3.out HYL HYL).mono ?_
                simp only [decide_true]
                rintro e u3 ⟨rfl, g5⟩
                have HK3 := Lib.hid (HK2.out.trans g5)
                clear g5
                go_wp2
                go_roundw
                case rel => exact ⟨q + 1, by go_num, by omega, HK3.out⟩
                case measure => simp [intOf]; omega
          · go_wp2
            go_roundw
            case rel => exact ⟨k + 1, r3, by go_num, by omega, HCV0.out.keep HKQ.out id id, HKR.out.trans (HKV0.out.trans (HKQ.out.weaken (fun _ _ q => q.elim)))⟩
            case measure => simp [intOf]; omega
      · have HKE := Lib.hid (HK0.out.andThen HKR.out (by intro x q1 q2; omega))
        go_wp2
        go_ret
        exact ⟨rfl, HKE.out⟩

set_option maxRecDepth 100000 in
theorem law_long (p : Option Addr) (bs : List Int) (cap : Nat) (p1 : Option Addr) (l : List Dec) (c1 : Nat) (B : Int) (w : World) (hl : 80 < l.length) (hl2 : l.length ≤ 9223372036854775807) :
    Calls Try.prog 3 #[.slice p bs.length cap, .slice p1 l.length c1, .int .i64 B] w (Gives None (.bool true) w) := by
  go_enter Try.func3, Try.ntmps3
  go_wp2_with (fail)
  refine (awake_calls _).mono ?_
  rintro e w1 ⟨rfl, hk1⟩
  have HK := Lib.hid hk1
  clear hk1
  go_wp2_with (fail)
  go_ret
  exact ⟨rfl, HK.out⟩

end Go.Proofs.Ytiojoheenjkphaa
