/-
  Chapter 30: the reference's Valid, walked.
-/
import Derived.Test.YtcdophocpheadaaGreatDoorSvSites
import Derived.Test.YtcdophocpheadaaGreatDoorSvTop
namespace Go.Proofs.YtcdophocpheadaaGreatDoor
open Go.RowKit

def pHead (r m n : Int) (k : Nat) : Prop := numbP r ∧ numbP m ∧ numbP n ∧ 1 ≤ k ∧ k ≤ 64
set_option maxHeartbeats 4000000 in
theorem rValid_head (r m n dg : Int) (p : Option Addr) (c : Nat) (l : List FcM) (w : World) (hln : l.length ≤ 4000000000000000000) (h : ¬ pHead r m n l.length) :
    Calls Tryz.prog 16 #[.agg #[.int .i64 r, .int .i64 m, .int .i64 n, .int .u64 dg, .slice p l.length c]] w (Says False w) := by
  have HN : Hid (¬ False) := Lib.hid id
  by_cases h1 : decide (numbP r) = true
  · by_cases h2 : decide (numbP m) = true
    · by_cases h3 : decide (numbP n) = true
      · by_cases h4 : (l.length : Int) < 1
        · clear h
          (go_enter Tryz.func16, Tryz.ntmps16)
          go_wp2_with (go_at_call 31; refine (number_calls _ _).mono ?_; rintro e w' ⟨rfl, rfl⟩)
          go_ret
          (exact Says.no HN.out (by repeat (first | exact Keep.refl _ _ | refine Keep.setCell ?_ (Or.inr (Nat.le_refl _)) _ | refine Keep.drew ?_ | refine Keep.alloc ?_ _)))
        · have h5 : 64 < (l.length : Int) := by
            refine Int.not_le.1 fun h5 => h ⟨of_decide_eq_true h1, of_decide_eq_true h2, of_decide_eq_true h3, by omega, by omega⟩
          clear h
          (go_enter Tryz.func16, Tryz.ntmps16)
          go_wp2_with (go_at_call 31; refine (number_calls _ _).mono ?_; rintro e w' ⟨rfl, rfl⟩)
          go_ret
          (exact Says.no HN.out (by repeat (first | exact Keep.refl _ _ | refine Keep.setCell ?_ (Or.inr (Nat.le_refl _)) _ | refine Keep.drew ?_ | refine Keep.alloc ?_ _)))
      · have h3' : decide (numbP n) = false := by simpa using h3
        clear h3 h
        (go_enter Tryz.func16, Tryz.ntmps16)
        go_wp2_with (go_at_call 31; refine (number_calls _ _).mono ?_; rintro e w' ⟨rfl, rfl⟩)
        go_ret
        (exact Says.no HN.out (by repeat (first | exact Keep.refl _ _ | refine Keep.setCell ?_ (Or.inr (Nat.le_refl _)) _ | refine Keep.drew ?_ | refine Keep.alloc ?_ _)))
    · have h3' : decide (numbP m) = false := by simpa using h2
      clear h2 h
      (go_enter Tryz.func16, Tryz.ntmps16)
      go_wp2_with (go_at_call 31; refine (number_calls _ _).mono ?_; rintro e w' ⟨rfl, rfl⟩)
      go_ret
      (exact Says.no HN.out (by repeat (first | exact Keep.refl _ _ | refine Keep.setCell ?_ (Or.inr (Nat.le_refl _)) _ | refine Keep.drew ?_ | refine Keep.alloc ?_ _)))
  · have h3' : decide (numbP r) = false := by simpa using h1
    clear h1 h
    (go_enter Tryz.func16, Tryz.ntmps16)
    go_wp2_with (go_at_call 31; refine (number_calls _ _).mono ?_; rintro e w' ⟨rfl, rfl⟩)
    go_ret
    (exact Says.no HN.out (by repeat (first | exact Keep.refl _ _ | refine Keep.setCell ?_ (Or.inr (Nat.le_refl _)) _ | refine Keep.drew ?_ | refine Keep.alloc ?_ _)))

set_option maxRecDepth 100000 in
set_option maxHeartbeats 8000000 in
theorem rValid_body (r m n dg : Int) (p : Option Addr) (c : Nat) (l : List FcM) (w : World) (h : FcsOk w p l) (g : pHead r m n l.length) :
    Calls Tryz.prog 16 #[.agg #[.int .i64 r, .int .i64 m, .int .i64 n, .int .u64 dg, .slice p l.length c]] w (Says (∀ f ∈ l, FcP l.length f) w) := by
  have hln := h.ln
  have HH := Lib.hid h
  obtain ⟨g1, g2, g3, g4, g5⟩ := g
  have h1 : decide (numbP r) = true := decide_eq_true g1
  have h2 : decide (numbP m) = true := decide_eq_true g2
  have h3 : decide (numbP n) = true := decide_eq_true g3
  have h4 : 1 ≤ (l.length : Int) := by omega
  have h5 : (l.length : Int) ≤ 64 := by omega
  clear h g1 g2 g3
  (go_enter Tryz.func16, Tryz.ntmps16)
  go_wp2_with (go_at_call 31; refine (number_calls _ _).mono ?_; rintro e w' ⟨rfl, rfl⟩)
  generalize hw1 : World.alloc _ _ = w1
  have hk1 : Keep None w w1 := by rw [← hw1]; exact (Keep.refl _ _).alloc _
  have x4 : w1.cell? ⟨w.heap.size, 4, none⟩ = some (.slice p l.length c) := by
    rw [← hw1]
    exact cell_of_row _ _ 4 _ _ _ (heap_alloc_new _ _)
  have HH := Lib.hid (HH.out.keep hk1)
  have HK := Lib.hid hk1
  clear hw1 hk1
  generalize w.heap.size = B at *
  go_loopw [4] (fun i wr => ∃ k : Nat, i = .int .i64 k ∧ k ≤ l.length ∧ (∀ j x, j < k → l[j]? = some x → FcP l.length x) ∧ Keep None w1 wr) (fun i _ => l.length - (intOf i).toNat)
  case atStart => exact ⟨0, rfl, by omega, by intro j x hj; omega, Keep.refl _ _⟩
  case round =>
    obtain ⟨k, rfl, hk, hd, hkw⟩ := hrel
    have HD := Lib.hid hd
    have HH := Lib.hid (HH.out.keep hkw)
    have x4 := hkw.cell x4 id
    have HKW := Lib.hid hkw
    clear hd hkw
    by_cases hlt : k < l.length
    · obtain ⟨x, hx⟩ : ∃ x, l[k]? = some x := ⟨l[k], by simp [hlt]⟩
      rcases HH.out.sl with h | ⟨b1, o1, rfl, hS⟩
      · subst h; simp at hlt
      obtain ⟨c1, c2, c3, c4⟩ := hS.fc hx
      have HX := Lib.hid hx
      have HOK := Lib.hid (HH.out.fc x (List.mem_of_getElem? hx))
      clear hx hS
      obtain ⟨ent, pb, cb, bs, pe, ce, es, ps, cs, st⟩ := x
      have lb := HOK.out.lb
      have le := HOK.out.le
      simp only at c1 c2 c3 c4 lb le
      go_upto_region 8 with (fail)
      generalize hw2 : World.alloc _ _ = w2
      have hk2 : Keep None wr w2 := by rw [← hw2]; exact (Keep.refl _ _).alloc _
      obtain ⟨x0, x1, x2, x3⟩ : w2.cell? ⟨wr.heap.size, 0, none⟩ = some (.int .i64 ent) ∧ w2.cell? ⟨wr.heap.size, 1, none⟩ = some (.slice pb bs.length cb) ∧ w2.cell? ⟨wr.heap.size, 2, none⟩ = some (.slice pe es.length ce) ∧ w2.cell? ⟨wr.heap.size, 3, none⟩ = some (.slice ps st.length cs) := by
        rw [← hw2]
        exact ⟨cell_of_row _ _ 0 _ _ _ (heap_alloc_new _ _), cell_of_row _ _ 1 _ _ _ (heap_alloc_new _ _), cell_of_row _ _ 2 _ _ _ (heap_alloc_new _ _), cell_of_row _ _ 3 _ _ _ (heap_alloc_new _ _)⟩
      have HOK := Lib.hid (HOK.out.keep hk2)
      have HK2 := Lib.hid (HK.out.trans (HKW.out.trans hk2))
      have HKR := Lib.hid (HKW.out.trans hk2)
      clear hw2 hk2 c1 c2 c3 c4
      generalize wr.heap.size = C at *
      by_cases e1 : (bs.length : Int) < 1
      · have HN : Hid (¬ ∀ f ∈ l, FcP l.length f) := Lib.hid fun h => (by have := (h _ (List.mem_of_getElem? HX.out)).head.1; simp only at this; omega)
        go_wp2_with (go_at_call 32; refine (known_calls _ _).mono ?_; rintro e w' ⟨rfl, rfl⟩)
        go_ret
        exact Says.no HN.out HK2.out
      · by_cases e2 : 256 < (bs.length : Int)
        · have HN : Hid (¬ ∀ f ∈ l, FcP l.length f) := Lib.hid fun h => (by have := (h _ (List.mem_of_getElem? HX.out)).head.2.1; simp only at this; omega)
          go_wp2_with (go_at_call 32; refine (known_calls _ _).mono ?_; rintro e w' ⟨rfl, rfl⟩)
          go_ret
          exact Says.no HN.out HK2.out
        · by_cases e3 : es.length = bs.length
          · rw [e3] at x2
            by_cases e4 : decide (knownP ent) = true
            · have HSI := Lib.hid (sites_calls st ps cs (bs.length : Int) (l.length : Int) w2 HOK.out.st HOK.out.tg HOK.out.ls)
              go_wp2_with (first | (go_at_call 32; refine (known_calls _ _).mono ?_; rintro e w' ⟨rfl, rfl⟩) | (go_at_call 33; refine HSI.out.mono ?_; rintro e w3 ⟨bo, rfl, hbo, hk3⟩; have HBO := Lib.hid hbo; have HK3 := Lib.hid hk3; have x1 := hk3.cell x1 id; have x2 := hk3.cell x2 id; have HOK := Lib.hid (HOK.out.keep hk3); clear hbo hk3; cases bo))
              · have HN : Hid (¬ ∀ f ∈ l, FcP l.length f) := Lib.hid fun h => (by have := HBO.out.2 (h _ (List.mem_of_getElem? HX.out)).sites; simp at this)
                go_wp2_with (fail)
                go_ret
                exact Says.no HN.out (HK2.out.trans HK3.out)
              · have HSP := Lib.hid (HBO.out.1 (by simp))
                go_wp2_with (fail)
                go_loop [6] (fun i => ∃ q : Nat, i = .int .i64 q ∧ q ≤ bs.length ∧ ∀ j n, j < q → bs[j]? = some n → blkP es j n) (fun i => bs.length - (intOf i).toNat)
                case atStart => exact ⟨0, rfl, by omega, by intro j n hj; omega⟩
                case round =>
                  obtain ⟨q, rfl, hq, hd⟩ := hrel
                  have HDQ := Lib.hid hd
                  clear hd
                  by_cases hlq : q < bs.length
                  · obtain ⟨x, hx⟩ : ∃ x, bs[q]? = some x := ⟨bs[q], by simp [hlq]⟩
                    obtain ⟨⟨y, z⟩, hy⟩ : ∃ e, es[q]? = some e := ⟨es[q]'(by omega), by simp⟩
                    rcases HOK.out.bs with h | ⟨b2, o2, h2, hB⟩
                    · exact absurd hlq (by rw [show bs = [] from h]; simp)
                    obtain rfl : pb = some ⟨b2, o2, none⟩ := h2
                    have d1 := hB.int hx
                    rcases HOK.out.es with h | ⟨b3, o3, h3, hE⟩
                    · rw [show es = [] from h] at hy; simp at hy
                    obtain rfl : pe = some ⟨b3, o3, none⟩ := h3
                    obtain ⟨d2, d3⟩ := hE.pr hy
                    have HX2 := Lib.hid hx
                    have HY2 := Lib.hid hy
                    clear hx hy hB hE
                    by_cases k1 : decide (knownP x) = true
                    · by_cases k2 : decide (knownP y) = true
                      · by_cases k3 : decide (knownP z) = true
                        · have HN : Hid (∀ j n, j < q + 1 → bs[j]? = some n → blkP es j n) := Lib.hid (by
                            intro j n hj hn
                            rcases Nat.lt_succ_iff_lt_or_eq.1 hj with hj | hj
                            · exact HDQ.out j n hj hn
                            · subst hj
                              rw [HX2.out] at hn; cases hn
                              refine ⟨of_decide_eq_true k1, fun e he => ?_⟩
                              rw [HY2.out] at he; cases he
                              exact ⟨of_decide_eq_true k2, of_decide_eq_true k3⟩)
                          go_wp2_with (go_at_call 32; refine (known_calls _ _).mono ?_; rintro e w' ⟨rfl, rfl⟩)
                          go_round
                          case rel => exact ⟨q + 1, by go_num, by omega, HN.out⟩
                          case measure => simp [intOf]; omega
                        · have k3' : decide (knownP z) = false := by simpa using k3
                          have HN : Hid (¬ ∀ f ∈ l, FcP l.length f) := Lib.hid fun h => k3 (decide_eq_true (((h _ (List.mem_of_getElem? HX.out)).blks q x HX2.out).2 _ HY2.out).2)
                          clear k3
                          go_wp2_with (go_at_call 32; refine (known_calls _ _).mono ?_; rintro e w' ⟨rfl, rfl⟩)
                          go_ret
                          exact Says.no HN.out (HK2.out.trans HK3.out)
                      · have k2' : decide (knownP y) = false := by simpa using k2
                        have HN : Hid (¬ ∀ f ∈ l, FcP l.length f) := Lib.hid fun h => k2 (decide_eq_true (((h _ (List.mem_of_getElem? HX.out)).blks q x HX2.out).2 _ HY2.out).1)
                        clear k2
                        go_wp2_with (go_at_call 32; refine (known_calls _ _).mono ?_; rintro e w' ⟨rfl, rfl⟩)
                        go_ret
                        exact Says.no HN.out (HK2.out.trans HK3.out)
                    · have k1' : decide (knownP x) = false := by simpa using k1
                      have HN : Hid (¬ ∀ f ∈ l, FcP l.length f) := Lib.hid fun h => k1 (decide_eq_true ((h _ (List.mem_of_getElem? HX.out)).blks q x HX2.out).1)
                      clear k1
                      go_wp2_with (go_at_call 32; refine (known_calls _ _).mono ?_; rintro e w' ⟨rfl, rfl⟩)
                      go_ret
                      exact Says.no HN.out (HK2.out.trans HK3.out)
                  · obtain rfl : q = bs.length := by omega
                    have hlt3 : decide ((bs.length : Int) < (bs.length : Int)) = false := by simp
                    have HN : Hid (∀ j x, j < k + 1 → l[j]? = some x → FcP l.length x) := Lib.hid (by
                      intro j x hj hx
                      rcases Nat.lt_succ_iff_lt_or_eq.1 hj with hj | hj
                      · exact HD.out j x hj hx
                      · subst hj
                        rw [HX.out] at hx; cases hx
                        exact ⟨⟨by simp only; omega, by simp only; omega, e3, of_decide_eq_true e4⟩, fun j n hn => HDQ.out j n (List.getElem?_eq_some_iff.1 hn).1 hn, HSP.out⟩)
                    go_wp2
                    go_roundw
                    case rel => exact ⟨k + 1, by go_num, by omega, HN.out, HKR.out.trans HK3.out⟩
                    case measure => simp [intOf]; omega
            · have e4' : decide (knownP ent) = false := by simpa using e4
              have HN : Hid (¬ ∀ f ∈ l, FcP l.length f) := Lib.hid fun h => e4 (decide_eq_true (h _ (List.mem_of_getElem? HX.out)).head.2.2.2)
              clear e4
              go_wp2_with (go_at_call 32; refine (known_calls _ _).mono ?_; rintro e w' ⟨rfl, rfl⟩)
              go_ret
              exact Says.no HN.out HK2.out
          · have e3' : ((es.length : Int) != (bs.length : Int)) = true := by simp; omega
            have HN : Hid (¬ ∀ f ∈ l, FcP l.length f) := Lib.hid fun h => e3 (h _ (List.mem_of_getElem? HX.out)).head.2.2.1
            clear e3
            go_wp2_with (go_at_call 32; refine (known_calls _ _).mono ?_; rintro e w' ⟨rfl, rfl⟩)
            go_ret
            exact Says.no HN.out HK2.out
    · obtain rfl : k = l.length := by omega
      have hlt2 : decide ((l.length : Int) < (l.length : Int)) = false := by simp
      go_wp2
      go_ret
      refine Says.yes (fun x hx => ?_) (HK.out.trans HKW.out)
      obtain ⟨j, hj, hjx⟩ := List.mem_iff_getElem.1 hx
      exact HD.out j x hj (List.getElem?_eq_some_iff.2 ⟨hj, hjx⟩)

theorem rValid_calls (x : PcM) (w : World) (h : FcsOk w x.p x.l) : Calls Tryz.prog 16 #[x.val] w (Says (PcP x) w) := by
  obtain ⟨r, m, n, dg, p, c, l⟩ := x
  by_cases g : pHead r m n l.length
  · exact (rValid_body r m n dg p c l w h g).mono fun e w' hs => hs.of ⟨fun h => ⟨g.1, g.2.1, g.2.2.1, g.2.2.2.1, g.2.2.2.2, h⟩, fun h => h.fc⟩
  · exact (rValid_head r m n dg p c l w h.ln g).mono fun e w' hs => hs.of ⟨fun h => h.elim, fun h => g ⟨h.r, h.m, h.n, h.l1, h.l2⟩⟩

end Go.Proofs.YtcdophocpheadaaGreatDoor
