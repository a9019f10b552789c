/-
  Chapter 23: equal hits; the shapes are compared.
-/
import Derived.Test.YtlhmajjmhkjcoaaHitShape
import Derived.Test.YtlhmajjmhkjcoaaAwake23
namespace Go.Proofs.Ytlhmajjmhkjcoaa
open Go.RowKit

theorem add1_calls (p q : Option Addr) (m n c d : Nat) (w : World) : Calls Try.prog 27 #[.slice p m c, .slice q n d] w (fun e w' => e = .returned (.bool (decide (m = n))) ∧ w' = w) := by
  by_cases h : m = n
  · have hf : decide (m = n) = true := by simp [h]
    have e1 : ((m : Int) == (n : Int)) = true := by simp [h]
    have e2 : (m == n) = true := by simp [h]
    rw [hf]
    clear hf h
    go_enter Try.func27, Try.ntmps27
    go_wp2
    go_ret
    exact ⟨rfl, rfl⟩
  · have hf : decide (m = n) = false := by simp [h]
    have e1 : ((m : Int) == (n : Int)) = false := by simp; omega
    have e2 : (m == n) = false := by simp [h]
    rw [hf]
    clear hf h
    go_enter Try.func27, Try.ntmps27
    go_wp2
    go_ret
    exact ⟨rfl, rfl⟩

set_option maxRecDepth 100000 in
set_option maxHeartbeats 4000000 in
theorem equalRows_calls (ok ok' : Nat → Prop) (p p' : Option Addr) (c c' : Nat) (xs ys : List (List Int)) (w : World) (hr : RowsV ok w p xs) (hr' : RowsV ok' w p' ys) (nb : xs.length ≤ 100) (nb' : ys.length ≤ 100) :
    Calls Try.prog 26 #[.slice p xs.length c, .slice p' ys.length c', .func (.func 27) #[] #[]] w (Gives None (.bool (decide (lens xs = lens ys))) w) := by
  by_cases hlen : xs.length = ys.length
  · have e1 : (xs.length != ys.length) = false := by simp [hlen]
    have e2 : ((xs.length : Int) != (ys.length : Int)) = false := by simp [hlen]
    have HLEN := Lib.hid hlen
    have HX := Lib.hid hr
    have HY := Lib.hid hr'
    clear hlen hr hr'
    go_enter Try.func26, Try.ntmps26
    go_wp2
    go_loopw [17] (ShapesInv xs ys w) (fun i _ => xs.length - (intOf i).toNat)
    case atStart => exact ⟨0, rfl, by omega, by simp, Keep.refl _ _⟩
    case round =>
      obtain ⟨k, rfl, hk, hdr, hkp⟩ := hrel
      have HDR := Lib.hid hdr
      have HKP := Lib.hid hkp
      clear hdr hkp
      by_cases hlt : k < xs.length
      · obtain ⟨x, hxk⟩ : ∃ x, xs[k]? = some x := ⟨xs[k], by simp [hlt]⟩
        have hlt' : k < ys.length := by have := HLEN.out; omega
        obtain ⟨y, hyk⟩ : ∃ y, ys[k]? = some y := ⟨ys[k], by simp [hlt']⟩
        obtain ⟨b, o, rfl, q1, cap1, f1, -⟩ := (HX.out.keep HKP.out (fun _ _ => id)).at hxk
        obtain ⟨b', o', rfl, q2, cap2, f2, -⟩ := (HY.out.keep HKP.out (fun _ _ => id)).at hyk
        have hdx : (lens xs).drop k = x.length :: (lens xs).drop (k + 1) := drop_cons (by simp [lens, hxk])
        have hdy : (lens ys).drop k = y.length :: (lens ys).drop (k + 1) := drop_cons (by simp [lens, hyk])
        by_cases hxy : x.length = y.length
        · have hnew : decide ((lens xs).drop (k + 1) = (lens ys).drop (k + 1)) = decide (lens xs = lens ys) := by rw [← HDR.out, hdx, hdy, hxy]; simp
          have HN := Lib.hid hnew
          have HE : Hid (decide (x.length = y.length) = true) := Lib.hid (by simp [hxy])
          clear hnew hdx hdy hxk hyk hxy
          go_wp2_with (go_at_call 27; refine (add1_calls _ _ _ _ _ _ _).mono ?_; rintro e w' ⟨rfl, rfl⟩; rw [HE.out])
          go_roundw
          case rel => exact ⟨k + 1, by go_num, by omega, HN.out, HKP.out⟩
          case measure => simp [intOf]; omega
        · have hfin : decide (lens xs = lens ys) = false := by rw [← HDR.out, hdx, hdy]; simp [hxy]
          have HF := Lib.hid hfin
          have HE : Hid (decide (x.length = y.length) = false) := Lib.hid (by simp [hxy])
          clear hfin hdx hdy hxk hyk hxy
          go_wp2_with (go_at_call 27; refine (add1_calls _ _ _ _ _ _ _).mono ?_; rintro e w' ⟨rfl, rfl⟩; rw [HE.out])
          go_ret
          rw [HF.out]
          exact ⟨rfl, HKP.out⟩
      · have hke : k = xs.length := by omega
        subst hke
        have hfin : decide (lens xs = lens ys) = true := by
          rw [← HDR.out]
          have h1 : (lens xs).drop xs.length = [] := by simp [lens]
          have h2 : (lens ys).drop xs.length = [] := by rw [HLEN.out]; simp [lens]
          rw [h1, h2]; simp
        have HF := Lib.hid hfin
        clear hfin
        go_wp2
        go_ret
        rw [HF.out]
        exact ⟨rfl, HKP.out⟩
  · have e1 : (xs.length != ys.length) = true := by simp [hlen]
    have hfin : decide (lens xs = lens ys) = false := by simp; intro h; exact hlen (by simpa [lens] using congrArg List.length h)
    have HF := Lib.hid hfin
    clear hfin hlen hr hr'
    go_enter Try.func26, Try.ntmps26
    go_wp2
    go_ret
    rw [HF.out]
    exact ⟨rfl, Keep.refl _ _⟩

def UpTo (n : Nat) (w0 : World) (i : Value) (w : World) : Prop := ∃ k : Nat, i = .int .i64 k ∧ k ≤ n ∧ Keep None w0 w

set_option maxRecDepth 100000 in
set_option maxHeartbeats 8000000 in
theorem same_calls (ok ok' : Nat → Prop) (p q p' q' : Option Addr) (c d c' d' : Nat) (h : Hits) (w : World) (hh : HitsAt ok w p q h) (hh' : HitsAt ok' w p' q' h) :
    Calls Try.prog 14 #[hitsVal p c q d h, hitsVal p' c' q' d' h] w (Gives None (.bool true) w) := by
  obtain ⟨xs, links, u, l⟩ := h
  have HH := Lib.hid hh
  have HH' := Lib.hid hh'
  have nb := hh.nb
  have nl := hh.nl
  clear hh hh'
  simp only [hitsVal] at *
  go_enter Try.func14, Try.ntmps14
  have hu : ((u != u) : Bool) = false := by simp
  have hl : ((l != l) : Bool) = false := by simp
  have hn : ((links.length != links.length) : Bool) = false := by simp
  have hn' : (((links.length : Int) != (links.length : Int)) : Bool) = false := by simp
  have hal1 : Keep None w ((w.alloc (.cells #[.slice p xs.length c, .slice q links.length d, .int .i64 u, .int .i64 l] 40)).alloc (.cells #[.slice p' xs.length c', .slice q' links.length d', .int .i64 u, .int .i64 l] 40)) := ((Keep.refl _ _).alloc _).alloc _
  have ho1 : ((w.alloc (.cells #[.slice p xs.length c, .slice q links.length d, .int .i64 u, .int .i64 l] 40)).alloc (.cells #[.slice p' xs.length c', .slice q' links.length d', .int .i64 u, .int .i64 l] 40)).heap[w.heap.size]? = some (.cells #[.slice p xs.length c, .slice q links.length d, .int .i64 u, .int .i64 l] 40 (0, 0)) := ((Keep.refl None _).alloc _).obj (heap_alloc_new _ _) id
  have ho2 : ((w.alloc (.cells #[.slice p xs.length c, .slice q links.length d, .int .i64 u, .int .i64 l] 40)).alloc (.cells #[.slice p' xs.length c', .slice q' links.length d', .int .i64 u, .int .i64 l] 40)).heap[w.heap.size + 1]? = some (.cells #[.slice p' xs.length c', .slice q' links.length d', .int .i64 u, .int .i64 l] 40 (0, 0)) := alloc_at (by simp)
  have HK := Lib.hid hal1
  have HO1 := Lib.hid ho1
  have HO2 := Lib.hid ho2
  clear hal1 ho1 ho2
  go_upto_region 1 with (fail)
  generalize World.alloc (World.alloc w _) _ = W at *
  have c2 : W.cell? ⟨w.heap.size, 2, none⟩ = some (.int .i64 u) := by simp [World.cell?, HO1.out]
  have c3 : W.cell? ⟨w.heap.size, 3, none⟩ = some (.int .i64 l) := by simp [World.cell?, HO1.out]
  have c1 : W.cell? ⟨w.heap.size, 1, none⟩ = some (.slice q links.length d) := by simp [World.cell?, HO1.out]
  have c0 : W.cell? ⟨w.heap.size, 0, none⟩ = some (.slice p xs.length c) := by simp [World.cell?, HO1.out]
  have d2 : W.cell? ⟨w.heap.size + 1, 2, none⟩ = some (.int .i64 u) := by simp [World.cell?, HO2.out]
  have d3 : W.cell? ⟨w.heap.size + 1, 3, none⟩ = some (.int .i64 l) := by simp [World.cell?, HO2.out]
  have d1 : W.cell? ⟨w.heap.size + 1, 1, none⟩ = some (.slice q' links.length d') := by simp [World.cell?, HO2.out]
  have d0 : W.cell? ⟨w.heap.size + 1, 0, none⟩ = some (.slice p' xs.length c') := by simp [World.cell?, HO2.out]
  have HA := Lib.hid (HH.out.still HK.out)
  have HA' := Lib.hid (HH'.out.still HK.out)
  have C := Lib.hid (And.intro c0 (And.intro c1 (And.intro c2 c3)))
  have D := Lib.hid (And.intro d0 (And.intro d1 (And.intro d2 d3)))
  clear c0 c1 c2 c3 d0 d1 d2 d3 HH HH'
  go_wp2_with (first
    | ((with_reducible (show wpList _ _ _ (⟨_, .load 40 (.tmp 2), _, _, _, none⟩ :: _) _ _)); refine wpList_loadEl (enc := listEnc) (size := 4) rfl 40 _ rfl _ _ rfl _ _ (range_of_obj HO1.out) rfl Try.underlying40 rfl Try.sizeHits (.agg #[.slice p xs.length c, .slice q links.length d, .int .i64 u, .int .i64 l]) rfl ?_)
    | ((with_reducible (show wpList _ _ _ (⟨_, .load 40 (.tmp 3), _, _, _, none⟩ :: _) _ _)); refine wpList_loadEl (enc := listEnc) (size := 4) rfl 40 _ rfl _ _ rfl _ _ (range_of_obj HO2.out) rfl Try.underlying40 rfl Try.sizeHits (.agg #[.slice p' xs.length c', .slice q' links.length d', .int .i64 u, .int .i64 l]) rfl ?_)
    | (go_at_call 33; refine (sameShape_calls ok ok' p q p' q' c d c' d' ⟨xs, links, u, l⟩ ⟨xs, links, u, l⟩ _ HA.out HA'.out).mono ?_; rintro e w1 ⟨rfl, hk1⟩; rw [show decide (lens xs = lens xs) = true by simp]; have e0 := hk1.cell C.out.1 id; have e1 := hk1.cell C.out.2.1 id; have e2 := hk1.cell C.out.2.2.1 id; have e3 := hk1.cell C.out.2.2.2 id; have f0 := hk1.cell D.out.1 id; have f1 := hk1.cell D.out.2.1 id; have f2 := hk1.cell D.out.2.2.1 id; have f3 := hk1.cell D.out.2.2.2 id; have HK1 := Lib.hid hk1; clear hk1))
  have HB := Lib.hid (HA.out.still HK1.out)
  have HB' := Lib.hid (HA'.out.still HK1.out)
  have E := Lib.hid (And.intro e0 (And.intro e1 (And.intro f0 f1)))
  have HKK := Lib.hid (HK.out.trans HK1.out)
  clear HA HA' C D HK HK1 e0 e1 e2 e3 f0 f1 f2 f3 hu hl hn hn' HO1 HO2
  go_loopw [5] (UpTo xs.length w1) (fun i _ => xs.length - (intOf i).toNat)
  case atStart => exact ⟨0, rfl, by omega, Keep.refl _ _⟩
  case round =>
    obtain ⟨k, rfl, hk, hkp⟩ := hrel
    obtain ⟨wo, rfl⟩ : ∃ wo : World, wo = wr := ⟨_, rfl⟩
    have HKP := Lib.hid hkp
    have c0 := hkp.cell E.out.1 id
    have d0 := hkp.cell E.out.2.2.1 id
    clear hkp
    by_cases hlt : k < xs.length
    · obtain ⟨x, hxk⟩ : ∃ x, xs[k]? = some x := ⟨xs[k], by simp [hlt]⟩
      have hrl := HB.out.nr x (List.mem_of_getElem? hxk)
      obtain ⟨b, o, rfl, q1, cap1, g1, hs1⟩ := (HB.out.still HKP.out).rows.at hxk
      obtain ⟨b', o', rfl, q2, cap2, g2, hs2⟩ := (HB'.out.still HKP.out).rows.at hxk
      have HS1 := Lib.hid hs1
      have HS2 := Lib.hid hs2
      clear hs1 hs2 hxk
      go_wp2_with (fail)
      go_loopw [6] (UpTo x.length wo) (fun i _ => x.length - (intOf i).toNat)
      case atStart => exact ⟨0, rfl, by omega, Keep.refl _ _⟩
      case round =>
        obtain ⟨j, rfl, hj, hkj⟩ := hrel
        have HKJ := Lib.hid hkj
        have c0' := hkj.cell c0 id
        have d0' := hkj.cell d0 id
        have g1' := hkj.cell g1 id
        have g2' := hkj.cell g2 id
        have hs1 := HS1.out.keep hkj (fun _ _ => id)
        have hs2 := HS2.out.keep hkj (fun _ _ => id)
        clear hkj c0 d0 g1 g2
        by_cases hjl : j < x.length
        · obtain ⟨y, hy⟩ : ∃ y, x[j]? = some y := ⟨x[j], by simp [hjl]⟩
          obtain ⟨b1, o1, rfl, k1⟩ : ∃ b1 o1, q1 = some ⟨b1, o1, none⟩ ∧ wr.cell? ⟨b1, o1 + j, none⟩ = some (.int .i64 y) := by
            rcases hs1 with h | ⟨b1, o1, h, h2⟩
            · subst h; simp at hjl
            · exact ⟨b1, o1, h, h2.int hy⟩
          obtain ⟨b2, o2, rfl, k2⟩ : ∃ b2 o2, q2 = some ⟨b2, o2, none⟩ ∧ wr.cell? ⟨b2, o2 + j, none⟩ = some (.int .i64 y) := by
            rcases hs2 with h | ⟨b2, o2, h, h2⟩
            · subst h; simp at hjl
            · exact ⟨b2, o2, h, h2.int hy⟩
          have hyy : ((y != y) : Bool) = false := by simp
          clear hs1 hs2 hy
          go_wp2
          go_quiet (fail)
          go_wp2
          go_roundw
          case rel => exact ⟨j + 1, by go_num, by omega, HKJ.out.drewN _⟩
          case measure => simp [intOf]; omega
        · have hje : j = x.length := by omega
          subst hje
          clear hs1 hs2
          go_wp2
          go_roundw
          case rel => exact ⟨k + 1, by go_num, by omega, HKP.out.trans HKJ.out⟩
          case measure => simp [intOf]; omega
    · have hke : k = xs.length := by omega
      subst hke
      have c1 := HKP.out.cell E.out.2.1 id
      have d1 := HKP.out.cell E.out.2.2.2 id
      go_wp2_with (fail)
      go_loopw [7] (UpTo links.length wo) (fun i _ => links.length - (intOf i).toNat)
      case atStart => exact ⟨0, rfl, by omega, Keep.refl _ _⟩
      case round =>
        obtain ⟨j, rfl, hj, hkj⟩ := hrel
        have HKJ := Lib.hid hkj
        have c1' := hkj.cell c1 id
        have d1' := hkj.cell d1 id
        have hs1 := ((HB.out.still HKP.out).still hkj).links
        have hs2 := ((HB'.out.still HKP.out).still hkj).links
        clear hkj c0 d0 c1 d1
        by_cases hjl : j < links.length
        · obtain ⟨x, hx⟩ : ∃ x, links[j]? = some x := ⟨links[j], by simp [hjl]⟩
          obtain ⟨x0, x1, x2, x3⟩ := x
          obtain ⟨b1, o1, rfl, h1⟩ : ∃ b1 o1, q = some ⟨b1, o1, none⟩ ∧ wr.rangeAt b1 (o1 + j * 4) (Lk.enc ⟨x0, x1, x2, x3⟩) := by
            rcases hs1 with h | ⟨b1, o1, h, h2⟩
            · subst h; simp at hjl
            · exact ⟨b1, o1, h, h2.range hx⟩
          obtain ⟨b2, o2, rfl, h2⟩ : ∃ b2 o2, q' = some ⟨b2, o2, none⟩ ∧ wr.rangeAt b2 (o2 + j * 4) (Lk.enc ⟨x0, x1, x2, x3⟩) := by
            rcases hs2 with h | ⟨b2, o2, h, h2⟩
            · subst h; simp at hjl
            · exact ⟨b2, o2, h, h2.range hx⟩
          have m0 : wr.cell? ⟨b1, o1 + j * 4, none⟩ = some (.int .i64 x0) := h1 0 _ rfl
          have m1 : wr.cell? ⟨b1, o1 + j * 4 + 1, none⟩ = some (.int .i64 x1) := h1 1 _ rfl
          have m2 : wr.cell? ⟨b1, o1 + j * 4 + 2, none⟩ = some (.int .i64 x2) := h1 2 _ rfl
          have m3 : wr.cell? ⟨b1, o1 + j * 4 + 3, none⟩ = some (.int .i64 x3) := h1 3 _ rfl
          have n0 : wr.cell? ⟨b2, o2 + j * 4, none⟩ = some (.int .i64 x0) := h2 0 _ rfl
          have n1 : wr.cell? ⟨b2, o2 + j * 4 + 1, none⟩ = some (.int .i64 x1) := h2 1 _ rfl
          have n2 : wr.cell? ⟨b2, o2 + j * 4 + 2, none⟩ = some (.int .i64 x2) := h2 2 _ rfl
          have n3 : wr.cell? ⟨b2, o2 + j * 4 + 3, none⟩ = some (.int .i64 x3) := h2 3 _ rfl
          clear hs1 hs2 hx h1 h2
          go_wp2
          go_quiet (fail)
          go_wp2
          go_roundw
          case rel => exact ⟨j + 1, by go_num, by omega, HKJ.out.drewN _⟩
          case measure => simp [intOf]; omega
        · have hje : j = links.length := by omega
          subst hje
          clear hs1 hs2
          go_wp2
          go_ret
          exact ⟨rfl, HKK.out.trans (HKP.out.trans HKJ.out)⟩

end Go.Proofs.Ytlhmajjmhkjcoaa
