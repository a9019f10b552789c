/-
  Chapter 30: shard.Valid, walked (with slices.ContainsFunc at its closure).
-/
import Derived.Test.YtcdophocpheadaaGreatDoorSvValid
namespace Go.Proofs.YtcdophocpheadaaGreatDoor
open Go.RowKit

structure PcM where
  r : Int
  m : Int
  n : Int
  dg : Int
  p : Option Addr
  c : Nat
  l : List FcM
def PcM.val (x : PcM) : Value := .agg #[.int .i64 x.r, .int .i64 x.m, .int .i64 x.n, .int .u64 x.dg, .slice x.p x.l.length x.c]
structure FcsOk (w : World) (p : Option Addr) (l : List FcM) : Prop where
  sl : SliceV FcM.enc 4 w p l
  fc : ∀ x ∈ l, x.ok w
  ln : l.length ≤ 4000000000000000000
theorem FcsOk.keep {w w' : World} {p : Option Addr} {l : List FcM} (h : FcsOk w p l) (k : Keep None w w') : FcsOk w' p l := ⟨h.sl.keep k (offNone _), fun x hx => (h.fc x hx).keep k, h.ln⟩
structure PcP (x : PcM) : Prop where
  r : numbP x.r
  m : numbP x.m
  n : numbP x.n
  l1 : 1 ≤ x.l.length
  l2 : x.l.length ≤ 64
  fc : ∀ f ∈ x.l, FcP x.l.length f

theorem SlAt.fc {w : World} {b off : Nat} {xs : List FcM} (h : SlAt FcM.enc 4 w b off xs) {i : Nat} {x : FcM} (hx : xs[i]? = some x) :
    w.cell? ⟨b, off + i * 4, none⟩ = some (.int .i64 x.ent) ∧ w.cell? ⟨b, off + i * 4 + 1, none⟩ = some (.slice x.pb x.bs.length x.cb) ∧ w.cell? ⟨b, off + i * 4 + 2, none⟩ = some (.slice x.pe x.es.length x.ce) ∧ w.cell? ⟨b, off + i * 4 + 3, none⟩ = some (.slice x.ps x.st.length x.cs) :=
  ⟨by simpa using h i _ hx 0 _ rfl, by simpa using h i _ hx 1 _ rfl, by simpa using h i _ hx 2 _ rfl, by simpa using h i _ hx 3 _ rfl⟩

theorem lit_calls (x : FcM) (n : Int) (B : Nat) (w : World) (h : x.ok w) (hb : w.cell? ⟨B, 0, none⟩ = some (.int .i64 n)) :
    Calls Tryz.prog 29 #[x.val, .pointer (some ⟨B, 0, none⟩)] w (Says (¬ FcP n x) w) := by
  have HH := Lib.hid h
  clear h
  obtain ⟨ent, pb, cb, bs, pe, ce, es, ps, cs, st⟩ := x
  have HV := Lib.hid fun w' h => svalid_calls ⟨ent, pb, cb, bs, pe, ce, es, ps, cs, st⟩ n w' h
  simp only [FcM.val] at HV ⊢
  go_enter Tryz.func29, Tryz.ntmps29
  have hk1 : ∀ o, (w.alloc o).cell? ⟨B, 0, none⟩ = some (.int .i64 n) := fun o => ((Keep.refl None w).alloc o).cell hb id
  go_wp2_with (go_at_call 30; refine (HV.out _ (HH.out.keep ((Keep.refl None w).alloc _))).mono ?_; rintro e w2 ⟨bo, rfl, hbo, hk2⟩)
  go_ret
  exact ⟨!bo, by simp, by rw [← hbo]; cases bo <;> simp, ((Keep.refl None w).alloc _).trans hk2⟩

/-- What IndexFunc answers. -/
def Found (l : List FcM) (n : Int) (w : World) (e : Ending) (w' : World) : Prop := ∃ r : Int, e = .returned (.int .i64 r) ∧ (0 ≤ r ↔ ¬ ∀ x ∈ l, FcP n x) ∧ Keep None w w'

set_option maxHeartbeats 2000000 in
theorem index_calls (l : List FcM) (p : Option Addr) (c : Nat) (n : Int) (B : Nat) (w : World) (h : FcsOk w p l) (hb : w.cell? ⟨B, 0, none⟩ = some (.int .i64 n)) :
    Calls Tryz.prog 61 #[.slice p l.length c, .func (.func 29) #[] #[.pointer (some ⟨B, 0, none⟩)]] w (Found l n w) := by
  have hln := h.ln
  have HH := Lib.hid h
  clear h
  go_enter Tryz.func61, Tryz.ntmps61
  go_wp2
  go_loopw [8] (fun i wr => ∃ k : Nat, i = .int .i64 k ∧ k ≤ l.length ∧ (∀ j x, j < k → l[j]? = some x → FcP n x) ∧ Keep None w wr) (fun i _ => l.length - (intOf i).toNat)
  case atStart => exact ⟨0, rfl, by omega, by intro j x hj; omega, Keep.refl _ _⟩
  case round =>
    obtain ⟨k, rfl, hk, hd, hkw⟩ := hrel
    have HD := Lib.hid hd
    have HH := Lib.hid (HH.out.keep hkw)
    have hb := hkw.cell hb id
    have HK := Lib.hid hkw
    clear hd hkw
    by_cases hlt : k < l.length
    · obtain ⟨x, hx⟩ : ∃ x, l[k]? = some x := ⟨l[k], by simp [hlt]⟩
      rcases HH.out.sl with h | ⟨b1, o1, rfl, hS⟩
      · subst h; simp at hlt
      obtain ⟨c1, c2, c3, c4⟩ := hS.fc hx
      have HX := Lib.hid hx
      have HOK := Lib.hid (HH.out.fc x (List.mem_of_getElem? hx))
      clear hx hS
      have HL := Lib.hid (lit_calls x n B wr HOK.out hb)
      obtain ⟨ent, pb, cb, bs, pe, ce, es, ps, cs, st⟩ := x
      simp only [FcM.val] at c1 c2 c3 c4 HL
      go_wp2_with (go_at_call 29; refine HL.out.mono ?_; rintro e w2 ⟨bo, rfl, hbo, hk2⟩; have HBO := Lib.hid hbo; have HK2 := Lib.hid hk2; clear hbo hk2; cases bo)
      · have HN : Hid (∀ j x, j < k + 1 → l[j]? = some x → FcP n x) := Lib.hid (by
          intro j x hj hx
          rcases Nat.lt_succ_iff_lt_or_eq.1 hj with hj | hj
          · exact HD.out j x hj hx
          · subst hj
            rw [HX.out] at hx; cases hx
            exact Classical.byContradiction fun hn => by have := HBO.out.2 hn; simp at this)
        go_wp2
        go_roundw
        case rel => exact ⟨k + 1, by go_num, by omega, HN.out, HK.out.trans HK2.out⟩
        case measure => simp [intOf]; omega
      · go_wp2
        go_ret
        exact ⟨k, rfl, ⟨fun _ ha => HBO.out.1 (by simp) (ha _ (List.mem_of_getElem? HX.out)), fun _ => by omega⟩, HK.out.trans HK2.out⟩
    · obtain rfl : k = l.length := by omega
      have hlt2 : decide ((l.length : Int) < (l.length : Int)) = false := by simp
      go_wp2
      go_ret
      refine ⟨-1, rfl, ⟨fun h => absurd h (by omega), fun h => absurd (fun x hx => ?_) h⟩, HK.out⟩
      obtain ⟨j, hj, hjx⟩ := List.mem_iff_getElem.1 hx
      exact HD.out j x hj (List.getElem?_eq_some_iff.2 ⟨hj, hjx⟩)

theorem contains_calls (l : List FcM) (p : Option Addr) (c : Nat) (n : Int) (B : Nat) (w : World) (h : FcsOk w p l) (hb : w.cell? ⟨B, 0, none⟩ = some (.int .i64 n)) :
    Calls Tryz.prog 28 #[.slice p l.length c, .func (.func 29) #[] #[.pointer (some ⟨B, 0, none⟩)]] w (Says (¬ ∀ x ∈ l, FcP n x) w) := by
  have HI := Lib.hid (index_calls l p c n B w h hb)
  clear h
  go_enter Tryz.func28, Tryz.ntmps28
  go_wp2_with (go_at_call 61; refine HI.out.mono ?_; rintro e w2 ⟨r, rfl, hr, hk2⟩; have HR := Lib.hid hr; clear hr)
  go_ret
  exact ⟨decide (0 ≤ r), by first | rfl | simp, by rw [decide_eq_true_iff]; exact HR.out, hk2⟩

set_option maxHeartbeats 4000000 in
theorem sValid_calls (x : PcM) (w : World) (h : FcsOk w x.p x.l) : Calls Tryz.prog 15 #[x.val] w (Says (PcP x) w) := by
  obtain ⟨r, m, n, dg, p, c, l⟩ := x
  simp only at h
  simp only [PcM.val]
  have hln := h.ln
  have HH := Lib.hid h
  clear h
  by_cases h1 : decide (numbP r) = true
  · by_cases h2 : decide (numbP m) = true
    · by_cases h3 : decide (numbP n) = true
      · by_cases h4 : (l.length : Int) < 1
        · have HN : Hid (¬ PcP ⟨r, m, n, dg, p, c, l⟩) := Lib.hid fun h => (by have := h.l1; simp only at this; omega)
          (go_enter Tryz.func15, Tryz.ntmps15)
          go_wp2_with (go_at_call 27; refine (numbered_calls _ _).mono ?_; rintro e w' ⟨rfl, rfl⟩)
          go_ret
          (exact Says.no HN.out (by repeat (first | exact Keep.refl _ _ | refine Keep.setCell ?_ (Or.inr (Nat.le_refl _)) _ | refine Keep.drew ?_ | refine Keep.alloc ?_ _)))
        · by_cases h5 : 64 < (l.length : Int)
          · have HN : Hid (¬ PcP ⟨r, m, n, dg, p, c, l⟩) := Lib.hid fun h => (by have := h.l2; simp only at this; omega)
            (go_enter Tryz.func15, Tryz.ntmps15)
            go_wp2_with (go_at_call 27; refine (numbered_calls _ _).mono ?_; rintro e w' ⟨rfl, rfl⟩)
            go_ret
            (exact Says.no HN.out (by repeat (first | exact Keep.refl _ _ | refine Keep.setCell ?_ (Or.inr (Nat.le_refl _)) _ | refine Keep.drew ?_ | refine Keep.alloc ?_ _)))
          · (go_enter Tryz.func15, Tryz.ntmps15)
            go_wp2_with (first | (go_at_call 27; refine (numbered_calls _ _).mono ?_; rintro e w' ⟨rfl, rfl⟩) | (go_at_call 28; refine (contains_calls l p c _ _ _ (HH.out.keep (((Keep.refl None w).alloc _).alloc _)) (cell_of_row _ _ 0 _ _ _ (alloc_at (by simp)))).mono ?_; rintro e w2 ⟨bo, rfl, hbo, hk2⟩; have HBO := Lib.hid hbo; have HK2 := Lib.hid hk2; clear hbo hk2))
            go_ret
            refine ⟨!bo, by simp, ?_, (((Keep.refl None w).alloc _).alloc _).trans HK2.out⟩
            have hb := HBO.out
            constructor
            · intro hq
              refine ⟨of_decide_eq_true h1, of_decide_eq_true h2, of_decide_eq_true h3, by simp only; omega, by simp only; omega, ?_⟩
              exact Classical.byContradiction fun hn => by have := hb.2 hn; subst this; simp at hq
            · intro hp
              cases bo with
              | false => rfl
              | true => exact absurd hp.fc (hb.1 rfl)
      · have h3' : decide (numbP n) = false := by simpa using h3
        have HN : Hid (¬ PcP ⟨r, m, n, dg, p, c, l⟩) := Lib.hid fun h => h3 (decide_eq_true h.n)
        clear h3
        (go_enter Tryz.func15, Tryz.ntmps15)
        go_wp2_with (go_at_call 27; refine (numbered_calls _ _).mono ?_; rintro e w' ⟨rfl, rfl⟩)
        go_ret
        (exact Says.no HN.out (by repeat (first | exact Keep.refl _ _ | refine Keep.setCell ?_ (Or.inr (Nat.le_refl _)) _ | refine Keep.drew ?_ | refine Keep.alloc ?_ _)))
    · have h3' : decide (numbP m) = false := by simpa using h2
      have HN : Hid (¬ PcP ⟨r, m, n, dg, p, c, l⟩) := Lib.hid fun h => h2 (decide_eq_true h.m)
      clear h2
      (go_enter Tryz.func15, Tryz.ntmps15)
      go_wp2_with (go_at_call 27; refine (numbered_calls _ _).mono ?_; rintro e w' ⟨rfl, rfl⟩)
      go_ret
      (exact Says.no HN.out (by repeat (first | exact Keep.refl _ _ | refine Keep.setCell ?_ (Or.inr (Nat.le_refl _)) _ | refine Keep.drew ?_ | refine Keep.alloc ?_ _)))
  · have h3' : decide (numbP r) = false := by simpa using h1
    have HN : Hid (¬ PcP ⟨r, m, n, dg, p, c, l⟩) := Lib.hid fun h => h1 (decide_eq_true h.r)
    clear h1
    (go_enter Tryz.func15, Tryz.ntmps15)
    go_wp2_with (go_at_call 27; refine (numbered_calls _ _).mono ?_; rintro e w' ⟨rfl, rfl⟩)
    go_ret
    (exact Says.no HN.out (by repeat (first | exact Keep.refl _ _ | refine Keep.setCell ?_ (Or.inr (Nat.le_refl _)) _ | refine Keep.drew ?_ | refine Keep.alloc ?_ _)))

end Go.Proofs.YtcdophocpheadaaGreatDoor
