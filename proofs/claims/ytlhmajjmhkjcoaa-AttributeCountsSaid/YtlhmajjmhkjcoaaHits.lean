/-
  Chapter 23: hits by value, the numbers in them, their shape.
-/
import Derived.Test.YtlhmajjmhkjcoaaLinks
import Derived.Test.YtlhmajjmhkjcoaaOwnMore
namespace Go.Proofs.Ytlhmajjmhkjcoaa
open Go.RowKit

structure Hits where
  blocks : List (List Int)
  links : List Lk
  unk : Int
  lost : Int

/-- Rows of numbers, each in a block of a kind. -/
def RowsV (ok : Nat → Prop) (w : World) (p : Option Addr) (rows : List (List Int)) : Prop :=
  rows = [] ∨ ∃ b off, p = some ⟨b, off, none⟩ ∧ ok b ∧ ∀ i row, rows[i]? = some row → ∃ q cap, w.cell? ⟨b, off + i, none⟩ = some (.slice q row.length cap) ∧ SliceV intEnc 1 w q row ∧ (row = [] ∨ ∀ a, q = some a → ok a.block)

theorem RowsV.keep {ok : Nat → Prop} {w w' : World} {p : Option Addr} {rows : List (List Int)} {S : Nat → Prop} (h : RowsV ok w p rows) (k : Keep S w w') (hs : ∀ b, ok b → ¬ S b) : RowsV ok w' p rows := by
  rcases h with h | ⟨b, off, h, h1, h2⟩
  · exact .inl h
  · refine .inr ⟨b, off, h, h1, fun i row hr => ?_⟩
    obtain ⟨q, cap, c1, c2, c3⟩ := h2 i row hr
    refine ⟨q, cap, k.cell c1 (hs _ h1), ?_, c3⟩
    rcases c3 with c3 | c3
    · exact .inl c3
    · exact c2.keep k (fun a ha => hs _ (c3 a ha))

theorem RowsV.weaken {ok ok' : Nat → Prop} {w : World} {p : Option Addr} {rows : List (List Int)} (h : RowsV ok w p rows) (hs : ∀ b, ok b → ok' b) : RowsV ok' w p rows := by
  rcases h with h | ⟨b, off, h, h1, h2⟩
  · exact .inl h
  · refine .inr ⟨b, off, h, hs _ h1, fun i row hr => ?_⟩
    obtain ⟨q, cap, c1, c2, c3⟩ := h2 i row hr
    exact ⟨q, cap, c1, c2, c3.imp id fun c3 a ha => hs _ (c3 a ha)⟩

structure HitsAt (ok : Nat → Prop) (w : World) (p q : Option Addr) (h : Hits) : Prop where
  rows : RowsV ok w p h.blocks
  links : SliceV Lk.enc 4 w q h.links
  off : h.links = [] ∨ ∀ a, q = some a → ok a.block
  nb : h.blocks.length ≤ 100
  nr : ∀ row ∈ h.blocks, row.length ≤ 17592186044416
  nl : h.links.length ≤ 100

theorem HitsAt.keep {ok : Nat → Prop} {w w' : World} {p q : Option Addr} {h : Hits} {S : Nat → Prop} (a : HitsAt ok w p q h) (k : Keep S w w') (hs : ∀ b, ok b → ¬ S b) : HitsAt ok w' p q h :=
  ⟨a.rows.keep k hs, by
    rcases a.off with c | c
    · exact .inl c
    · exact a.links.keep k (fun x hx => hs _ (c x hx)), a.off, a.nb, a.nr, a.nl⟩
theorem HitsAt.still {ok : Nat → Prop} {w w' : World} {p q : Option Addr} {h : Hits} (a : HitsAt ok w p q h) (k : Keep None w w') : HitsAt ok w' p q h := a.keep k (fun _ _ => id)
theorem HitsAt.weaken {ok ok' : Nat → Prop} {w : World} {p q : Option Addr} {h : Hits} (a : HitsAt ok w p q h) (hs : ∀ b, ok b → ok' b) : HitsAt ok' w p q h :=
  ⟨a.rows.weaken hs, a.links, a.off.imp id fun c x hx => hs _ (c x hx), a.nb, a.nr, a.nl⟩

def hitsVal (p : Option Addr) (c : Nat) (q : Option Addr) (d : Nat) (h : Hits) : Value := .agg #[.slice p h.blocks.length c, .slice q h.links.length d, .int .i64 h.unk, .int .i64 h.lost]

def smallB (n : Int) : Bool := decide (0 ≤ n) && decide (n ≤ 1099511627776)

theorem small_calls (n : Int) (w : World) : Calls Try.prog 49 #[.int .i64 n] w (fun e w' => e = .returned (.bool (smallB n)) ∧ w' = w) := by
  by_cases h0 : 0 ≤ n
  · by_cases h1 : n ≤ 1099511627776
    · have hf : smallB n = true := by simp [smallB, h0, h1]
      rw [hf]
      go_enter Try.func49, Try.ntmps49
      go_wp2
      go_ret
      exact ⟨rfl, rfl⟩
    · have hf : smallB n = false := by simp [smallB, h1]
      rw [hf]
      go_enter Try.func49, Try.ntmps49
      go_wp2
      go_ret
      exact ⟨rfl, rfl⟩
  · have hf : smallB n = false := by simp [smallB, h0]
    rw [hf]
    go_enter Try.func49, Try.ntmps49
    go_wp2
    go_ret
    exact ⟨rfl, rfl⟩

theorem counted_calls (n : Int) (w : World) : Calls Try.prog 29 #[.int .i64 n] w (fun e w' => e = .returned (.bool (smallB n)) ∧ w' = w) := by
  by_cases h0 : 0 ≤ n
  · by_cases h1 : n ≤ 1099511627776
    · have hf : smallB n = true := by simp [smallB, h0, h1]
      rw [hf]
      go_enter Try.func29, Try.ntmps29
      go_wp2
      go_ret
      exact ⟨rfl, rfl⟩
    · have hf : smallB n = false := by simp [smallB, h1]
      rw [hf]
      go_enter Try.func29, Try.ntmps29
      go_wp2
      go_ret
      exact ⟨rfl, rfl⟩
  · have hf : smallB n = false := by simp [smallB, h0]
    rw [hf]
    go_enter Try.func29, Try.ntmps29
    go_wp2
    go_ret
    exact ⟨rfl, rfl⟩

def allB (P : Int → Bool) (h : Hits) : Bool := h.blocks.all (·.all P) && h.links.all (fun y => P y.count) && P h.unk && P h.lost

def RowAll (P : Int → Bool) (rows : List (List Int)) (w0 : World) (i : Value) (w : World) : Prop :=
  ∃ k : Nat, i = .int .i64 k ∧ k ≤ rows.length ∧ (rows.drop k).all (·.all P) = rows.all (·.all P) ∧ Keep None w0 w
def CellAll (P : Int → Bool) (row : List Int) (w0 : World) (i : Value) (w : World) : Prop :=
  ∃ k : Nat, i = .int .i64 k ∧ k ≤ row.length ∧ (row.drop k).all P = row.all P ∧ Keep None w0 w
def LinkAll (P : Int → Bool) (l : List Lk) (w0 : World) (i : Value) (w : World) : Prop :=
  ∃ k : Nat, i = .int .i64 k ∧ k ≤ l.length ∧ (l.drop k).all (fun y => P y.count) = l.all (fun y => P y.count) ∧ Keep None w0 w

theorem all_step {α : Type} {P : α → Bool} {l : List α} {k : Nat} {x : α} (hx : l[k]? = some x) (h : (l.drop k).all P = l.all P) (hp : P x = true) : (l.drop (k + 1)).all P = l.all P := by
  rw [← h, drop_cons hx]; simp [hp]
theorem all_stop {α : Type} {P : α → Bool} {l : List α} {k : Nat} {x : α} (hx : l[k]? = some x) (h : (l.drop k).all P = l.all P) (hp : P x = false) : l.all P = false := by
  rw [← h, drop_cons hx]; simp [hp]
theorem all_end {α : Type} {P : α → Bool} {l : List α} (h : (l.drop l.length).all P = l.all P) : l.all P = true := by
  rw [← h]; simp

set_option maxRecDepth 100000 in
set_option maxHeartbeats 4000000 in
theorem right_calls (ok : Nat → Prop) (p q : Option Addr) (c d : Nat) (h : Hits) (w : World) (hh : HitsAt ok w p q h) :
    Calls Try.prog 34 #[hitsVal p c q d h] w (Gives None (.bool (allB smallB h)) w) := by
  obtain ⟨rows, links, u, l⟩ := h
  obtain ⟨hr, hl, _, nb, nr, nl⟩ := hh
  simp only [hitsVal] at *
  have hfu : smallB u = false → allB smallB ⟨rows, links, u, l⟩ = false := by intro h; simp [allB, h]
  have hfl : smallB l = false → allB smallB ⟨rows, links, u, l⟩ = false := by intro h; simp [allB, h]
  have hfr : rows.all (·.all smallB) = false → allB smallB ⟨rows, links, u, l⟩ = false := by intro h; simp only [allB, h]; rfl
  have hfk : links.all (fun y => smallB y.count) = false → allB smallB ⟨rows, links, u, l⟩ = false := by intro h; simp only [allB, h]; simp
  have HFU := Lib.hid hfu
  have HFL := Lib.hid hfl
  have HFR := Lib.hid hfr
  have HFK := Lib.hid hfk
  clear hfu hfl hfr hfk
  cases hu : smallB u with
  | false =>
    have HR := Lib.hid (HFU.out hu)
    have HU := Lib.hid hu
    clear hu
    go_enter Try.func34, Try.ntmps34
    go_wp2_with (go_at_call 49; refine (small_calls _ _).mono ?_; rintro e w' ⟨rfl, rfl⟩; rw [HU.out])
    go_ret
    rw [HR.out]
    exact ⟨rfl, (Keep.refl _ _).alloc _⟩
  | true =>
  cases hlo : smallB l with
  | false =>
    have HR := Lib.hid (HFL.out hlo)
    have HU := Lib.hid hu
    have HL := Lib.hid hlo
    clear hu hlo
    go_enter Try.func34, Try.ntmps34
    go_wp2_with (go_at_call 49; refine (small_calls _ _).mono ?_; rintro e w' ⟨rfl, rfl⟩; first | rw [HU.out] | rw [HL.out])
    go_ret
    rw [HR.out]
    exact ⟨rfl, (Keep.refl _ _).alloc _⟩
  | true =>
  have HT : Hid (rows.all (·.all smallB) = true → links.all (fun y => smallB y.count) = true → allB smallB ⟨rows, links, u, l⟩ = true) := Lib.hid (fun h1 h2 => by simp only [allB, h1, h2, hu, hlo]; rfl)
  have HU := Lib.hid hu
  have HL := Lib.hid hlo
  clear hu hlo
  go_enter Try.func34, Try.ntmps34
  go_wp2_with (go_at_call 49; refine (small_calls _ _).mono ?_; rintro e w' ⟨rfl, rfl⟩; first | rw [HU.out] | rw [HL.out])
  generalize hW : World.alloc w _ = W
  have hk0 : Keep None w W := by rw [← hW]; exact (Keep.refl _ _).alloc _
  have HB : Hid (W.heap[w.heap.size]? = some (.cells #[.slice p rows.length c, .slice q links.length d, .int .i64 u, .int .i64 l] 40 (0, 0))) := Lib.hid (by rw [← hW]; exact heap_alloc_new _ _)
  have HROWS := Lib.hid (hr.keep hk0 (fun _ _ => id))
  have HLINKS := Lib.hid (hl.keep hk0 (fun _ _ => id))
  have HK := Lib.hid hk0
  clear hW hk0 hr hl
  go_loopw [3] (RowAll smallB rows W) (fun i _ => rows.length - (intOf i).toNat)
  case atStart => exact ⟨0, rfl, by omega, by simp, Keep.refl _ _⟩
  case round =>
    obtain ⟨k, rfl, hk, hdr, hkp⟩ := hrel
    obtain ⟨wo, rfl⟩ : ∃ wo : World, wo = wr := ⟨_, rfl⟩
    have HDR := Lib.hid hdr
    have HKP := Lib.hid hkp
    have c0 : wo.cell? ⟨w.heap.size, 0, none⟩ = some (.slice p rows.length c) := by simp [World.cell?, hkp.obj HB.out id]
    clear hdr hkp
    by_cases hlt : k < rows.length
    · obtain ⟨row, hrow⟩ : ∃ row, rows[k]? = some row := ⟨rows[k], by simp [hlt]⟩
      obtain ⟨b, off, rfl, q2, cap, hc, hsl⟩ : ∃ b off, p = some ⟨b, off, none⟩ ∧ ∃ q2 cap, wo.cell? ⟨b, off + k, none⟩ = some (.slice q2 row.length cap) ∧ SliceV intEnc 1 wo q2 row := by
        rcases HROWS.out.keep HKP.out (fun _ _ => id) with h | ⟨b, off, h, _, h2⟩
        · subst h; simp at hlt
        · obtain ⟨q2, cap, c1, c2, _⟩ := h2 k row hrow
          exact ⟨b, off, h, q2, cap, c1, c2⟩
      have hrl := nr row (List.mem_of_getElem? hrow)
      have HROW := Lib.hid hrow
      have HSL := Lib.hid hsl
      clear hrow hsl
      go_wp2_with (fail)
      go_loopw [4] (CellAll smallB row wo) (fun i _ => row.length - (intOf i).toNat)
      case atStart => exact ⟨0, rfl, by omega, by simp, Keep.refl _ _⟩
      case round =>
        obtain ⟨j, rfl, hj, hdj, hkj⟩ := hrel
        have HDJ := Lib.hid hdj
        have HKJ := Lib.hid hkj
        have e0 := hkj.cell c0 id
        have e1 := hkj.cell hc id
        have HSL2 := Lib.hid (HSL.out.keep hkj (fun _ _ => id))
        clear hdj hkj c0 hc
        by_cases hjl : j < row.length
        · obtain ⟨x, hx⟩ : ∃ x, row[j]? = some x := ⟨row[j], by simp [hjl]⟩
          obtain ⟨b2, o2, rfl, e2⟩ : ∃ b2 o2, q2 = some ⟨b2, o2, none⟩ ∧ wr.cell? ⟨b2, o2 + j, none⟩ = some (.int .i64 x) := by
            rcases HSL2.out with h | ⟨b2, o2, h, h2⟩
            · subst h; simp at hjl
            · exact ⟨b2, o2, h, h2.int hx⟩
          cases hs : smallB x with
          | true =>
            have HN := Lib.hid (all_step hx HDJ.out hs)
            have HS := Lib.hid hs
            clear hs hx
            go_wp2_with (go_at_call 49; refine (small_calls _ _).mono ?_; rintro e w' ⟨rfl, rfl⟩; rw [HS.out])
            go_roundw
            case rel => exact ⟨j + 1, by go_num, by omega, HN.out, HKJ.out⟩
            case measure => simp [intOf]; omega
          | false =>
            have HR := Lib.hid (HFR.out (all_stop HROW.out HDR.out (all_stop hx HDJ.out hs)))
            have HS := Lib.hid hs
            clear hs hx
            go_wp2_with (go_at_call 49; refine (small_calls _ _).mono ?_; rintro e w' ⟨rfl, rfl⟩; rw [HS.out])
            go_ret
            rw [HR.out]
            exact ⟨rfl, HK.out.trans (HKP.out.trans HKJ.out)⟩
        · have hje : j = row.length := by omega
          subst hje
          have HN := Lib.hid (all_step HROW.out HDR.out (all_end HDJ.out))
          go_wp2
          go_roundw
          case rel => exact ⟨k + 1, by go_num, by omega, HN.out, HKP.out.trans HKJ.out⟩
          case measure => simp [intOf]; omega
    · have hke : k = rows.length := by omega
      subst hke
      have HT2 := Lib.hid (HT.out (all_end HDR.out))
      have c1 : wo.cell? ⟨w.heap.size, 1, none⟩ = some (.slice q links.length d) := by simp [World.cell?, HKP.out.obj HB.out id]
      have HL2 := Lib.hid (HLINKS.out.keep HKP.out (fun _ _ => id))
      clear HT
      go_wp2_with (fail)
      go_loopw [5] (LinkAll smallB links wo) (fun i _ => links.length - (intOf i).toNat)
      case atStart => exact ⟨0, rfl, by omega, by simp, Keep.refl _ _⟩
      case round =>
        obtain ⟨j, rfl, hj, hdj, hkj⟩ := hrel
        have HDJ := Lib.hid hdj
        have HKJ := Lib.hid hkj
        have e1 := hkj.cell c1 id
        have HSL2 := Lib.hid (HL2.out.keep hkj (fun _ _ => id))
        clear hdj hkj c0 c1
        by_cases hjl : j < links.length
        · obtain ⟨x, hx⟩ : ∃ x, links[j]? = some x := ⟨links[j], by simp [hjl]⟩
          obtain ⟨b2, o2, rfl, e2⟩ : ∃ b2 o2, q = some ⟨b2, o2, none⟩ ∧ wr.cell? ⟨b2, o2 + j * 4 + 3, none⟩ = some (.int .i64 x.count) := by
            rcases HSL2.out with h | ⟨b2, o2, h, h2⟩
            · subst h; simp at hjl
            · exact ⟨b2, o2, h, h2 j x hx 3 _ rfl⟩
          cases hs : smallB x.count with
          | true =>
            have HN := Lib.hid (all_step (P := fun y : Lk => smallB y.count) hx HDJ.out hs)
            have HS := Lib.hid hs
            clear hs hx
            go_wp2_with (go_at_call 49; refine (small_calls _ _).mono ?_; rintro e w' ⟨rfl, rfl⟩; rw [HS.out])
            go_roundw
            case rel => exact ⟨j + 1, by go_num, by omega, HN.out, HKJ.out⟩
            case measure => simp [intOf]; omega
          | false =>
            have HR := Lib.hid (HFK.out (all_stop (P := fun y : Lk => smallB y.count) hx HDJ.out hs))
            have HS := Lib.hid hs
            clear hs hx
            go_wp2_with (go_at_call 49; refine (small_calls _ _).mono ?_; rintro e w' ⟨rfl, rfl⟩; rw [HS.out])
            go_ret
            rw [HR.out]
            exact ⟨rfl, HK.out.trans (HKP.out.trans HKJ.out)⟩
        · have hje : j = links.length := by omega
          subst hje
          have HN := Lib.hid (HT2.out (all_end HDJ.out))
          go_wp2
          go_ret
          rw [HN.out]
          exact ⟨rfl, HK.out.trans (HKP.out.trans HKJ.out)⟩

end Go.Proofs.Ytlhmajjmhkjcoaa
