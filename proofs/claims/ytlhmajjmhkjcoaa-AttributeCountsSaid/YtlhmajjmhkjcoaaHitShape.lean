/-
  Chapter 23: hits of the same shape, equal hits.
-/
import Derived.Test.YtlhmajjmhkjcoaaHits
namespace Go.Proofs.Ytlhmajjmhkjcoaa
open Go.RowKit

def lens (rows : List (List Int)) : List Nat := rows.map List.length

def ShapesInv (xs ys : List (List Int)) (w0 : World) (i : Value) (w : World) : Prop :=
  ∃ k : Nat, i = .int .i64 k ∧ k ≤ xs.length ∧ decide ((lens xs).drop k = (lens ys).drop k) = decide (lens xs = lens ys) ∧ Keep None w0 w

theorem RowsV.at {ok : Nat → Prop} {w : World} {p : Option Addr} {rows : List (List Int)} (h : RowsV ok w p rows) {k : Nat} {row : List Int} (hr : rows[k]? = some row) :
    ∃ b off, p = some ⟨b, off, none⟩ ∧ ∃ q cap, w.cell? ⟨b, off + k, none⟩ = some (.slice q row.length cap) ∧ SliceV intEnc 1 w q row := by
  rcases h with h | ⟨b, off, h, _, h2⟩
  · subst h; simp at hr
  · obtain ⟨q, cap, c1, c2, _⟩ := h2 k row hr
    exact ⟨b, off, h, q, cap, c1, c2⟩

set_option maxRecDepth 100000 in
set_option maxHeartbeats 4000000 in
theorem sameShape_calls (ok ok' : Nat → Prop) (p q p' q' : Option Addr) (c d c' d' : Nat) (h h' : Hits) (w : World) (hh : HitsAt ok w p q h) (hh' : HitsAt ok' w p' q' h') :
    Calls Try.prog 33 #[hitsVal p c q d h, hitsVal p' c' q' d' h'] w (Gives None (.bool (decide (lens h.blocks = lens h'.blocks))) w) := by
  obtain ⟨xs, links, u, l⟩ := h
  obtain ⟨ys, links', u', l'⟩ := h'
  have hr := hh.rows
  have hr' := hh'.rows
  have nb := hh.nb
  have nb' := hh'.nb
  simp only [hitsVal] at *
  clear hh hh'
  by_cases hlen : xs.length = ys.length
  · have e1 : (xs.length != ys.length) = false := by simp [hlen]
    have e2 : ((xs.length : Int) != (ys.length : Int)) = false := by simp [hlen]
    have HLEN := Lib.hid hlen
    clear hlen
    go_enter Try.func33, Try.ntmps33
    go_wp2
    generalize hW : World.alloc (World.alloc w _) _ = W
    have hk0 : Keep None w W := by rw [← hW]; exact ((Keep.refl _ _).alloc _).alloc _
    have b0 : W.cell? ⟨w.heap.size, 0, none⟩ = some (.slice p xs.length c) := by rw [← hW]; exact ((Keep.refl None _).alloc _).cell (by simp) id
    have b1 : W.cell? ⟨w.heap.size + 1, 0, none⟩ = some (.slice p' ys.length c') := by
      have := alloc_at (w := w.alloc (.cells #[.slice p xs.length c, .slice q links.length d, .int .i64 u, .int .i64 l] 40)) (o := .cells #[.slice p' ys.length c', .slice q' links'.length d', .int .i64 u', .int .i64 l'] 40) (n := w.heap.size + 1) (by simp)
      rw [← hW]; simp only [World.cell?, this]; rfl
    have B0 := Lib.hid b0
    have B1 := Lib.hid b1
    have HX := Lib.hid (hr.keep hk0 (fun _ _ => id))
    have HY := Lib.hid (hr'.keep hk0 (fun _ _ => id))
    have HK := Lib.hid hk0
    clear hW hk0 hr hr' b0 b1
    go_loopw [5] (ShapesInv xs ys W) (fun i _ => xs.length - (intOf i).toNat)
    case atStart => exact ⟨0, rfl, by omega, by simp, Keep.refl _ _⟩
    case round =>
      obtain ⟨k, rfl, hk, hdr, hkp⟩ := hrel
      have HDR := Lib.hid hdr
      have HKP := Lib.hid hkp
      have c0 := hkp.cell B0.out id
      have c1 := hkp.cell B1.out id
      clear hdr hkp
      by_cases hlt : k < xs.length
      · obtain ⟨x, hxk⟩ : ∃ x, xs[k]? = some x := ⟨xs[k], by simp [hlt]⟩
        have hlt' : k < ys.length := by have := HLEN.out; omega
        obtain ⟨y, hyk⟩ : ∃ y, ys[k]? = some y := ⟨ys[k], by simp [hlt']⟩
        obtain ⟨b, o, rfl, q1, cap1, f1, -⟩ := (HX.out.keep HKP.out (fun _ _ => id)).at hxk
        obtain ⟨b', o', rfl, q2, cap2, f2, -⟩ := (HY.out.keep HKP.out (fun _ _ => id)).at hyk
        have hdx : (lens xs).drop k = x.length :: (lens xs).drop (k + 1) := drop_cons (by simp [lens, hxk])
        have hdy : (lens ys).drop k = y.length :: (lens ys).drop (k + 1) := drop_cons (by simp [lens, hyk])
        by_cases hxy : x.length = y.length
        · have hnew : decide ((lens xs).drop (k + 1) = (lens ys).drop (k + 1)) = decide (lens xs = lens ys) := by rw [← HDR.out, hdx, hdy, hxy]; simp
          have HN := Lib.hid hnew
          have e3 : ((x.length : Int) != (y.length : Int)) = false := by simp [hxy]
          have e4 : (x.length != y.length) = false := by simp [hxy]
          clear hnew hdx hdy hxk hyk
          go_wp2
          go_quiet (fail)
          go_wp2
          go_roundw
          case rel => exact ⟨k + 1, by go_num, by omega, HN.out, HKP.out.drewN _⟩
          case measure => simp [intOf]; omega
        · have hfin : decide (lens xs = lens ys) = false := by rw [← HDR.out, hdx, hdy]; simp [hxy]
          have HF := Lib.hid hfin
          have e3 : ((x.length : Int) != (y.length : Int)) = true := by simp; omega
          have e4 : (x.length != y.length) = true := by simpa using hxy
          clear hfin hdx hdy hxk hyk hxy
          go_wp2
          go_quiet (fail)
          go_wp2
          go_ret
          rw [HF.out]
          exact ⟨rfl, (HK.out.trans HKP.out).drewN _⟩
      · have hke : k = xs.length := by omega
        subst hke
        have hfin : decide (lens xs = lens ys) = true := by
          rw [← HDR.out]
          have h1 : (lens xs).drop xs.length = [] := by simp [lens]
          have h2 : (lens ys).drop xs.length = [] := by rw [HLEN.out]; simp [lens]
          rw [h1, h2]; simp
        have HF := Lib.hid hfin
        clear hfin
        go_wp2
        go_ret
        rw [HF.out]
        exact ⟨rfl, HK.out.trans HKP.out⟩
  · have e1 : (xs.length != ys.length) = true := by simp [hlen]
    have hfin : decide (lens xs = lens ys) = false := by simp; intro h; exact hlen (by simpa [lens] using congrArg List.length h)
    have HF := Lib.hid hfin
    clear hfin hlen hr hr'
    go_enter Try.func33, Try.ntmps33
    go_wp2
    go_ret
    rw [HF.out]
    exact ⟨rfl, ((Keep.refl _ _).alloc _).alloc _⟩

end Go.Proofs.Ytlhmajjmhkjcoaa
