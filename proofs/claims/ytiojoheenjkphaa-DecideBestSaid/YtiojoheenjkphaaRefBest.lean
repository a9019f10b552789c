/-
  The reference's Best: the same as what decide.Best computes.
-/
import Derived.Test.YtiojoheenjkphaaRefTable
import Derived.Test.YtiojoheenjkphaaLeastLaw
namespace Go.Proofs.Ytiojoheenjkphaa
open Go.RowKit

theorem empty_zero : ∀ (l : List Dec) (b : Nat), (cell l b).empty = true → (cell l b).benefit = 0 ∧ (cell l b).size = 0
  | [], _, _ => ⟨rfl, rfl⟩
  | d :: r, b, h => by
    rcases cell_cases d r b with ⟨_, _, h3⟩ | ⟨_, h3⟩
    · rw [h3] at h; cases h
    · rw [h3] at h ⊢
      exact empty_zero r b h

theorem zero_picks {l : List Dec} {i b : Nat} (hn : nonneg l) (h : val (cell l b) = ⟨0, 0⟩) : picks l i b = [] := by
  simp only [val, Vl.mk.injEq] at h
  have hz := set_zero l i
  have hl := best_least l i b 0 hn (by simp only [triSet, Tri.mk.injEq] at hz; omega)
  rw [hz] at hl
  rcases hl with hl | hl
  · unfold beats triOf at hl
    simp only [h.1, h.2] at hl
    rcases hl with hl | ⟨_, hl | ⟨_, hl⟩⟩
    · omega
    · omega
    · cases hp : picks l i b with
      | nil => rfl
      | cons x t => rw [hp] at hl; simp [beforeB] at hl
  · exact congrArg Tri.lst hl

/-- What the reference does at one decision is what the table says. -/
theorem ref_take {d : Dec} {r : List Dec} {b : Nat} (h0 : val (cell (d :: r) b) ≠ ⟨0, 0⟩) (hfit : ¬ (b : Int) < d.size) :
    (cell (d :: r) b).taken = decide ((cell r (b - d.size.toNat)).benefit + d.benefit = (cell (d :: r) b).benefit ∧ (cell r (b - d.size.toNat)).size + d.size = (cell (d :: r) b).size) := by
  rcases cell_cases d r b with ⟨h1, _, h3⟩ | ⟨h1, h3⟩
  · rw [h1, h3]; simp [withIt]
  · rw [h1, eq_comm, decide_eq_false_iff_not]
    rintro ⟨e1, e2⟩
    have hc : cell (d :: r) b = pick (without (cell r b)) (withIt (cell r (b - d.size.toNat)) d) := by simp only [cell, if_neg hfit]
    rw [h3] at e1 e2 h0
    rw [hc] at h1
    rcases pick_spec (without (cell r b)) (withIt (cell r (b - d.size.toNat)) d) with ⟨p1, _⟩ | ⟨_, p2⟩
    · rw [p1] at h1; cases h1
    · simp only [without, withIt] at p2 e1 e2
      have he : (cell r b).empty = true := by
        rcases p2 with p2 | ⟨p2, p3 | ⟨p3, p4⟩⟩
        · omega
        · omega
        · exact p4
      have := empty_zero r b he
      apply h0
      simp [val, without, this.1, this.2]

theorem ref_skip {d : Dec} {r : List Dec} {b : Nat} (h : (b : Int) < d.size) : (cell (d :: r) b).taken = false := by
  simp [cell, h, without]

set_option maxRecDepth 100000 in
set_option maxHeartbeats 1000000 in
theorem ref_bad1 (p : Option Addr) (l : List Dec) (cap : Nat) (budget : Int) (w : World) (hbad : budget < 0 ∨ 4096 < budget ∨ 64 < l.length) :
    Calls Try.prog 12 #[.slice p l.length cap, .int .i64 budget] w (BestPost (best l budget) w) := by
  by_cases h1 : budget < 0
  · have e : best l budget = ([], 40) := by simp [best, h1]
    rw [e]; clear e hbad
    go_enter Try.func12, Try.ntmps12
    go_wp2
    go_ret2
    exact best_nil _ _ _ (Keep.refl _ _)
  · by_cases h2 : 4096 < budget
    · have e : best l budget = ([], 40) := by simp [best, h2]
      rw [e]; clear e hbad
      go_enter Try.func12, Try.ntmps12
      go_wp2
      go_ret2
      exact best_nil _ _ _ (Keep.refl _ _)
    · have h3 : 64 < l.length := by omega
      have e : best l budget = ([], 41) := by simp [best, h1, h2, h3]
      rw [e]; clear e hbad
      go_enter Try.func12, Try.ntmps12
      go_wp2
      go_ret2
      exact best_nil _ _ _ (Keep.refl _ _)

def TakeInv (m : Nat) (l : List Dec) (wL : World) (bv out iv : Value) (w : World) : Prop :=
  ∃ (i b : Nat) (acc : List Int), iv = .int .i64 i ∧ bv = .int .i64 b ∧ i ≤ l.length ∧ b ≤ m ∧ acc.length ≤ i ∧ Own intEnc 1 3 wL.heap.size w out acc ∧ acc ++ picks (l.drop i) i b = picks l 0 m ∧ Keep None wL w

def CheckInv (l : List Dec) (w0 : World) (i : Value) (w : World) : Prop :=
  ∃ k : Nat, i = .int .i64 k ∧ k ≤ l.length ∧ (∀ j d, j < k → l[j]? = some d → bad d = false) ∧ Keep None w0 w

theorem any_of {l : List Dec} {k : Nat} {d : Dec} (hd : l[k]? = some d) (hb : bad d = true) : l.any bad = true := List.any_eq_true.2 ⟨d, List.mem_of_getElem? hd, hb⟩
theorem any_none {l : List Dec} (h : ∀ (j : Nat) (d : Dec), j < l.length → l[j]? = some d → bad d = false) : l.any bad = false := by
  rw [List.any_eq_false]
  intro d hd
  obtain ⟨j, hj⟩ := List.getElem?_of_mem hd
  rw [h j d (List.getElem?_eq_some_iff.1 hj).1 hj]; simp

theorem best_of_bad {l : List Dec} {m : Nat} (hm : m ≤ 4096) (h : l.any bad = true) : best l m = ([], 41) := by
  have b1 : ¬ ((m : Int) < 0 ∨ 4096 < (m : Int)) := by omega
  have b2 : (64 < l.length ∨ l.any bad = true) := .inr h
  simp only [best, if_neg b1, if_pos b2]

theorem best_of_good {l : List Dec} {m : Nat} (hl : l.length ≤ 64) (hm : m ≤ 4096) (h : l.any bad = false) : best l m = (picks l 0 m, 0) := by
  have b1 : ¬ ((m : Int) < 0 ∨ 4096 < (m : Int)) := by omega
  have b2 : ¬ (64 < l.length ∨ l.any bad = true) := by rw [h]; simp; omega
  simp only [best, if_neg b1, if_neg b2, Int.toNat_natCast]

set_option maxRecDepth 100000 in
set_option maxHeartbeats 4000000 in
theorem ref_good (p : Option Addr) (l : List Dec) (cap m : Nat) (w : World) (h : SliceV Dec.enc 7 w p l) (hl : l.length ≤ 64) (hm : m ≤ 4096) :
    Calls Try.prog 12 #[.slice p l.length cap, .int .i64 m] w (BestPost (best l m) w) := by
  obtain ⟨i2, hi2, hv0, hv1, hv2⟩ := info_parts Try.infoInt
  have hm0 : decide ((m : Int) < 0) = false := by simp
  have hm1 : decide ((4096 : Int) < (m : Int)) = false := by simp; omega
  have hm2 : decide ((64 : Int) < (l.length : Int)) = false := by simp; omega
  go_enter Try.func12, Try.ntmps12
  go_wp2
  go_loopw [25] (CheckInv l w) (fun i _ => l.length - (intOf i).toNat)
  case atStart => exact ⟨0, rfl, by omega, by intro j d hj; omega, Keep.refl _ _⟩
  case round =>
    obtain ⟨k, rfl, hk, hall, hkp⟩ := hrel
    have HALL := Lib.hid hall
    clear hall
    by_cases hlt : k < l.length
    · rcases h with h | ⟨bd, off, rfl, h⟩
      · subst h; simp at hlt
      obtain ⟨d, hd⟩ : ∃ d, l[k]? = some d := ⟨l[k], by simp [hlt]⟩
      obtain ⟨a1, a2, a3, a4, a5, be, sz⟩ := d
      have HC : Hid _ := Lib.hid ((h.keep hkp (by simp)).range hd)
      have HD : Hid _ := Lib.hid hd
      clear h hd
      by_cases t1 : be < -1125899906842624
      · have HB := Lib.hid (best_of_bad hm (any_of HD.out (by simp [bad, t1])))
        go_wp2_with (with_reducible (show wpList _ _ _ (⟨_, .load 30 _, _, _, _, none⟩ :: _) _ _); refine wpList_loadEl rfl 30 _ rfl _ _ rfl _ _ HC.out (Dec.enc_len _) Try.underlying30 rfl Try.sizeDec (.agg #[.int .i64 a1, .int .i64 a2, .int .i64 a3, .int .i64 a4, .int .i64 a5, .int .i64 be, .int .i64 sz]) rfl ?_)
        go_ret2
        rw [HB.out]
        exact best_nil _ _ _ (hkp.alloc _)
      · by_cases t2 : 1125899906842624 < be
        · have HB := Lib.hid (best_of_bad hm (any_of HD.out (by simp [bad, t2])))
          go_wp2_with (with_reducible (show wpList _ _ _ (⟨_, .load 30 _, _, _, _, none⟩ :: _) _ _); refine wpList_loadEl rfl 30 _ rfl _ _ rfl _ _ HC.out (Dec.enc_len _) Try.underlying30 rfl Try.sizeDec (.agg #[.int .i64 a1, .int .i64 a2, .int .i64 a3, .int .i64 a4, .int .i64 a5, .int .i64 be, .int .i64 sz]) rfl ?_)
          go_ret2
          rw [HB.out]
          exact best_nil _ _ _ (hkp.alloc _)
        · by_cases t3 : sz < 0
          · have HB := Lib.hid (best_of_bad hm (any_of HD.out (by simp [bad, t3])))
            go_wp2_with (with_reducible (show wpList _ _ _ (⟨_, .load 30 _, _, _, _, none⟩ :: _) _ _); refine wpList_loadEl rfl 30 _ rfl _ _ rfl _ _ HC.out (Dec.enc_len _) Try.underlying30 rfl Try.sizeDec (.agg #[.int .i64 a1, .int .i64 a2, .int .i64 a3, .int .i64 a4, .int .i64 a5, .int .i64 be, .int .i64 sz]) rfl ?_)
            go_ret2
            rw [HB.out]
            exact best_nil _ _ _ (hkp.alloc _)
          · by_cases t4 : 1048576 < sz
            · have HB := Lib.hid (best_of_bad hm (any_of HD.out (by simp [bad, t4])))
              go_wp2_with (with_reducible (show wpList _ _ _ (⟨_, .load 30 _, _, _, _, none⟩ :: _) _ _); refine wpList_loadEl rfl 30 _ rfl _ _ rfl _ _ HC.out (Dec.enc_len _) Try.underlying30 rfl Try.sizeDec (.agg #[.int .i64 a1, .int .i64 a2, .int .i64 a3, .int .i64 a4, .int .i64 a5, .int .i64 be, .int .i64 sz]) rfl ?_)
              go_ret2
              rw [HB.out]
              exact best_nil _ _ _ (hkp.alloc _)
            · have HN : Hid (∀ j d, j < k + 1 → l[j]? = some d → bad d = false) := Lib.hid (by
                intro j x hj hx
                by_cases e : j = k
                · subst e; rw [HD.out] at hx; cases hx; simp [bad]; omega
                · exact HALL.out j x (by omega) hx)
              go_wp2_with (with_reducible (show wpList _ _ _ (⟨_, .load 30 _, _, _, _, none⟩ :: _) _ _); refine wpList_loadEl rfl 30 _ rfl _ _ rfl _ _ HC.out (Dec.enc_len _) Try.underlying30 rfl Try.sizeDec (.agg #[.int .i64 a1, .int .i64 a2, .int .i64 a3, .int .i64 a4, .int .i64 a5, .int .i64 be, .int .i64 sz]) rfl ?_)
              go_roundw
              case rel => exact ⟨k + 1, by go_num, by omega, HN.out, hkp.alloc _⟩
              case measure => simp [intOf]; omega
    · have hke : k = l.length := by omega
      subst hke
      have hnb := any_none HALL.out
      have hfine := good_fine hnb
      have HF := Lib.hid hfine
      have HB := Lib.hid (best_of_good hl hm hnb)
      have H := Lib.hid (h.keep hkp (fun _ _ => id))
      have HKP := Lib.hid hkp
      clear h hnb hfine HALL hkp
      go_wp2_with (fail)
      refine (table_calls p l cap m wr H.out hl hm HF.out).mono ?_
      rintro e w2 ⟨g, rfl, hg, htab, hk2⟩
      have HT := Lib.hid htab
      have HKT := Lib.hid (HKP.out.trans hk2)
      have H2 := Lib.hid (H.out.keep hk2 (fun _ _ => id))
      clear htab hk2 HKP H
      go_wp2_with (fail)
      have hgw : w.heap.size ≤ w2.heap.size := HKT.out.size
      go_loopw [1, 9, 10] (TakeInv m l w2) (fun _ _ i _ => l.length - (intOf i).toNat)
      case atStart => exact ⟨0, m, [], rfl, rfl, by omega, by omega, by simp, Own.nil _ _ _ _ _, by simp, Keep.refl _ _⟩
      case round =>
        obtain ⟨i, b, acc, rfl, rfl, hil, hbm, hacc, hown, hpk, hkL⟩ := hrel
        have HPK : Hid _ := Lib.hid hpk
        have HOW : Hid _ := Lib.hid hown
        clear hpk hown
        by_cases hin : i < l.length
        · obtain ⟨d, hd⟩ : ∃ d, l[i]? = some d := ⟨l[i], by simp [hin]⟩
          have hdrop := drop_cons hd
          obtain ⟨tb, hA, hlen, hrows⟩ := HT.out.keep hkL
          obtain ⟨r, q1, q2, q3⟩ := hrows i (by omega) (by omega)
          obtain ⟨r', q1', q2', q3'⟩ := hrows (i + 1) (by omega) (by omega)
          have e1 : wr.cell? ⟨g, i, none⟩ = some (rowOf r m) := by
            have := hA.range valEnc_len (i := i) (x := rowOf r m) q1 0 _ rfl
            simpa using this
          have e2 : wr.cell? ⟨g, i + 1, none⟩ = some (rowOf r' m) := by
            have := hA.range valEnc_len (i := i + 1) (x := rowOf r' m) q1' 0 _ rfl
            simpa using this
          unfold rowOf at e1 e2
          have hc1 := q3.range Vl.enc_len (vRow_get (l.drop i) m (m + 1) b (by omega) hbm)
          rcases hcc : val (cell (l.drop i) b) with ⟨cb, cs⟩
          rw [hcc] at hc1
          have n0 : wr.cell? ⟨r, b * 2, none⟩ = some (.int .i64 cb) := hc1 0 _ rfl
          have n1 : wr.cell? ⟨r, b * 2 + 1, none⟩ = some (.int .i64 cs) := hc1 1 _ rfl
          rcases H2.out with h | ⟨bd, off, rfl, h⟩
          · subst h; simp at hin
          have hbd : bd < w2.heap.size := by have := h.range hd 0 _ rfl; exact World.block_lt_of_cell? w2 _ this
          have hdf := HF.out d (List.mem_of_getElem? hd)
          obtain ⟨sz, hsz⟩ : ∃ sz : Nat, d.size = sz := ⟨d.size.toNat, by rw [Int.toNat_of_nonneg hdf.2.2.1]⟩
          have e6 : wr.cell? ⟨bd, off + i * 7 + 6, none⟩ = some (.int .i64 (sz : Int)) := by rw [← hsz]; exact hkL.cell (h.range hd 6 _ rfl) id
          have e5 : wr.cell? ⟨bd, off + i * 7 + 5, none⟩ = some (.int .i64 d.benefit) := hkL.cell (h.range hd 5 _ rfl) id
          have HD : Hid _ := Lib.hid hdrop
          have HSZ : Hid _ := Lib.hid hsz
          have HKL : Hid _ := Lib.hid hkL
          have HCC : Hid _ := Lib.hid hcc
          have HQ3 : Hid _ := Lib.hid q3'
          have hb1 := hdf.1
          have hb2 := hdf.2.1
          have hnn : nonneg (l.drop i) := fun x hx => (HF.out x (List.mem_of_mem_drop hx)).2.2.1
          clear hdrop hA hlen hrows q1 q2 q3 q1' q2' q3' h hd hsz hdf hkL hc1 hcc
          by_cases hz0 : cb = 0 ∧ cs = 0
          · obtain ⟨rfl, rfl⟩ := hz0
            have hp := zero_picks (i := i) hnn HCC.out
            have hfin : picks l 0 m = acc := by rw [← HPK.out, hp]; simp
            have HFI := Lib.hid hfin
            clear hp hfin
            obtain ⟨po, co, rfl, c1, c2, c3, c4⟩ := HOW.out.slice intEnc_len
            go_wp2
            go_ret2
            rw [HB.out, HFI.out]
            exact ⟨po, co, rfl, c1, c2, c3.keep (((Keep.refl None _).alloc _).alloc _) (fun _ _ => id), fun a ha => Nat.le_trans HKT.out.size (c4 a ha), ((HKT.out.trans HKL.out).alloc _).alloc _⟩
          · have hne : (cb == 0) = false ∨ ((cb == 0) = true ∧ (cs == 0) = false) := by
              by_cases q : cb = 0
              · right; subst q; refine ⟨rfl, ?_⟩; simp only [beq_eq_false_iff_ne]; omega
              · left; simpa using q
            have hval0 : val (cell (l.drop i) b) ≠ ⟨0, 0⟩ := by rw [HCC.out]; simp only [ne_eq, Vl.mk.injEq]; exact hz0
            have HV0 := Lib.hid hval0
            have hal : Keep None wr ((wr.alloc (.cells #[.int .i64 cb, .int .i64 cs] 59)).alloc (.cells #[.int .i64 0, .int .i64 0] 59)) := ((Keep.refl _ _).alloc _).alloc _
            have f6 := hal.cell e6 id
            have HAL := Lib.hid hal
            clear hz0 hval0 hal
            by_cases hsb : b < sz
            · have htk : (cell (l.drop i) b).taken = false := by rw [HD.out]; exact ref_skip (by rw [HSZ.out]; omega)
              have hpk : picks (l.drop i) i b = picks (l.drop (i + 1)) (i + 1) b := by
                rw [HD.out] at htk ⊢; simp [picks, htk]
              have HPN := Lib.hid hpk
              clear htk hpk
              rcases hne with hA | ⟨hA, hB⟩
              all_goals
                go_wp2
                go_roundw
                case rel =>
                  refine ⟨i + 1, b, acc, by go_num, rfl, by omega, by omega, by omega, HOW.out.keep HAL.out (fun _ _ => id), ?_, HKL.out.trans HAL.out⟩
                  rw [← HPK.out, HPN.out]
                case measure => simp [intOf]; omega
            · rcases hne with hA | ⟨hA, hB⟩
              all_goals
                go_wp2_with (fail)
                have hal := HAL.out
                have hxb : ((wr.alloc (.cells #[.int .i64 cb, .int .i64 cs] 59)).alloc (.cells #[.int .i64 0, .int .i64 0] 59)).heap[wr.heap.size]? = some (.cells #[.int .i64 cb, .int .i64 cs] 59 (0, 0)) := by
                  rw [Below.heap_alloc _ _ _ (by simp)]; exact heap_alloc_new _ _
                have g1 := hal.cell e1 id
                have g2 := hal.cell e2 id
                have g5 := hal.cell e5 id
                have g6 := hal.cell e6 id
                have hq3 := HQ3.out.keep hal id
                have HOW5 := Lib.hid (HOW.out.keep hal (fun _ _ => id))
                have HKL5 := Lib.hid (HKL.out.trans hal)
                clear f6 HAL e1 e2 e5 e6
                generalize ((wr.alloc (.cells #[.int .i64 cb, .int .i64 cs] 59)).alloc (.cells #[.int .i64 0, .int .i64 0] 59)) = w5 at *
                have b0 : w5.cell? ⟨wr.heap.size, 0, none⟩ = some (.int .i64 cb) := by simp [World.cell?, hxb]
                have b1 : w5.cell? ⟨wr.heap.size, 1, none⟩ = some (.int .i64 cs) := by simp [World.cell?, hxb]
                have hwr5 : wr.heap.size < w5.heap.size := heap_lt hxb
                obtain ⟨q, hq⟩ : ∃ q, b = q + sz := ⟨b - sz, by omega⟩
                have hc2 := hq3.range Vl.enc_len (vRow_get (l.drop (i + 1)) m (m + 1) q (by omega) (by omega))
                rcases hcc2 : val (cell (l.drop (i + 1)) q) with ⟨db, ds⟩
                rw [hcc2] at hc2
                have z0 : w5.cell? ⟨r', q * 2, none⟩ = some (.int .i64 db) := hc2 0 _ rfl
                have z1 : w5.cell? ⟨r', q * 2 + 1, none⟩ = some (.int .i64 ds) := hc2 1 _ rfl
                have HCC2 : Hid _ := Lib.hid hcc2
                have i1' : IntKind.i64.wrap ((i : Int) + 1) = (i : Int) + 1 := IntWalk.i64_in _ (by omega)
                have i5 : (i : Int) + 1 < (l.length : Int) + 1 := by omega
                have i2' : ((i : Int) + 1).toNat = i + 1 := by omega
                have i4 : (0 : Int) ≤ (i : Int) + 1 := by omega
                have i3 : IntKind.i64.wrap ((b : Int) - (sz : Int)) = (q : Int) := by rw [IntWalk.i64_in _ (by omega)]; omega
                have i6 : (q : Int) < (m : Int) + 1 := by omega
                have i7 : (0 : Int) ≤ (q : Int) := by omega
                have hal6 : Keep None w5 (w5.alloc (.cells #[.int .i64 0, .int .i64 0] 59)) := (Keep.refl _ _).alloc _
                have j2 := hal6.cell g2 id
                have j6 := hal6.cell g6 id
                have j0 := hal6.cell z0 id
                have j1 := hal6.cell z1 id
                have hbnd := cell_bd (l.drop (i + 1)) q (fun x hx => HF.out x (List.mem_of_mem_drop hx))
                have HQ : Hid _ := Lib.hid hq
                have HBN : Hid _ := Lib.hid hbnd
                clear hq hbnd hcc2 hc2 hq3 hal hxb hal6
                go_region
                have hal8 : Keep None w5 (World.drew (w5.alloc (.cells #[.int .i64 db, .int .i64 ds] 59))) := ((Keep.refl _ _).alloc _).drew
                have hx8 : (World.drew (w5.alloc (.cells #[.int .i64 db, .int .i64 ds] 59))).heap[w5.heap.size]? = some (.cells #[.int .i64 db, .int .i64 ds] 59 (0, 0)) := heap_alloc_new _ _
                generalize World.drew (w5.alloc (.cells #[.int .i64 db, .int .i64 ds] 59)) = w8 at *
                have k5 := hal8.cell g5 id
                have k6 := hal8.cell g6 id
                have c0 := hal8.cell b0 id
                have c1 := hal8.cell b1 id
                have u0 : w8.cell? ⟨w5.heap.size, 0, none⟩ = some (.int .i64 db) := by simp [World.cell?, hx8]
                have u1 : w8.cell? ⟨w5.heap.size, 1, none⟩ = some (.int .i64 ds) := by simp [World.cell?, hx8]
                have m0 : w8.frozen? ⟨w5.heap.size, 0, none⟩ = false := by simp [World.frozen?, hx8]
                have m1 : w8.frozen? ⟨w5.heap.size, 1, none⟩ = false := by simp [World.frozen?, hx8]
                have i8 : IntKind.i64.wrap (db + d.benefit) = db + d.benefit := IntWalk.i64_in _ (by have := HBN.out; have h2 := HCC2.out; simp only [val, Vl.mk.injEq] at h2; rw [h2.1] at this; simp at this; omega)
                have i9 : IntKind.i64.wrap (ds + (sz : Int)) = ds + (sz : Int) := IntWalk.i64_in _ (by have := HBN.out; have h2 := HCC2.out; simp only [val, Vl.mk.injEq] at h2; rw [h2.2] at this; simp at this; omega)
                have HX8 : Hid _ := Lib.hid hx8
                have HAL8 : Hid _ := Lib.hid hal8
                clear hx8 hal8 g1 g2 g5 g6 z0 z1 j0 j1 j2 j6 b0 b1
                go_wp2
                go_region
                generalize hW : World.drew (World.setCell _ _ _) = w9
                have hk9 : Keep (· = w5.heap.size) w8 w9 := by
                  rw [← hW]
                  exact (((Keep.refl (· = w5.heap.size) w8).setCell (p := ⟨w5.heap.size, 0, none⟩) (.inl rfl) _).setCell (p := ⟨w5.heap.size, 1, none⟩) (.inl rfl) _).drew
                have hx9 : w9.heap[w5.heap.size]? = some (.cells #[.int .i64 (db + d.benefit), .int .i64 (ds + (sz : Int))] 59 (0, 0)) := by
                  rw [← hW]; simp [World.drew, World.setCell, Array.getElem?_modify, HX8.out]
                have o0 := hk9.cell c0 (by simp; omega)
                have o1 := hk9.cell c1 (by simp; omega)
                have o6 := hk9.cell k6 (by simp; have := HKL.out.size; omega)
                have v0 : w9.cell? ⟨w5.heap.size, 0, none⟩ = some (.int .i64 (db + d.benefit)) := by simp [World.cell?, hx9]
                have v1 : w9.cell? ⟨w5.heap.size, 1, none⟩ = some (.int .i64 (ds + (sz : Int))) := by simp [World.cell?, hx9]
                have hk59 : Keep None w5 w9 := HAL8.out.andThen hk9 (by intro k q1 q2; omega)
                have HOW9 := Lib.hid (HOW5.out.keep hk59 (fun _ _ => id))
                have HKL9 := Lib.hid (HKL5.out.trans hk59)
                clear hW hk9 hx9 k5 k6 c0 c1 u0 u1 m0 m1 i8 i9 i1' i2' i3 i4 i5 i6 i7 hk59 HOW5 HKL5 HAL8 HX8
                have htk : (cell (l.drop i) b).taken = decide (db + d.benefit = cb ∧ ds + (sz : Int) = cs) := by
                  have e := HV0.out
                  have ec := HCC.out
                  have ec2 := HCC2.out
                  simp only [val, Vl.mk.injEq] at ec ec2
                  rw [HD.out] at e ec ⊢
                  rw [ref_take e (by rw [HSZ.out]; omega), show b - d.size.toNat = q from by rw [HSZ.out]; have := HQ.out; simp; omega, ec.1, ec.2, ec2.1, ec2.2, HSZ.out]
                have HTK := Lib.hid htk
                clear htk
                by_cases p1 : db + d.benefit = cb
                · by_cases p2 : ds + (sz : Int) = cs
                  · have htrue : (cell (l.drop i) b).taken = true := by rw [HTK.out]; simp [p1, p2]
                    have hpn : acc ++ [(i : Int)] ++ picks (l.drop (i + 1)) (i + 1) q = picks l 0 m := by
                      rw [← HPK.out, HD.out]
                      rw [HD.out] at htrue
                      simp only [picks, htrue, if_true]
                      rw [show b - d.size.toNat = q from by rw [HSZ.out]; have := HQ.out; simp; omega]
                      simp
                    have HPN := Lib.hid hpn
                    have r1 : ((db + d.benefit) == cb) = true := by simpa using p1
                    have r2 : ((ds + (sz : Int)) == cs) = true := by simpa using p2
                    have i3 : IntKind.i64.wrap ((b : Int) - (sz : Int)) = (q : Int) := by rw [IntWalk.i64_in _ (by omega)]; have := HQ.out; omega
                    have hala : Keep None w9 (World.drew (w9.alloc (.cells #[.int .i64 (i : Int)] 3))) := ((Keep.refl _ _).alloc _).drew
                    have a6 := hala.cell o6 id
                    have hnew : (World.drew (w9.alloc (.cells #[.int .i64 (i : Int)] 3))).heap[w9.heap.size]? = some (.cells #[.int .i64 (i : Int)] 3 (0, 0)) := heap_alloc_new _ _
                    have HOWA := Lib.hid (HOW9.out.keep hala (fun _ _ => id))
                    have HNE := Lib.hid hnew
                    have HSA : Hid (w2.heap.size ≤ (World.drew (w9.alloc (.cells #[.int .i64 (i : Int)] 3))).heap.size) := Lib.hid (Nat.le_trans HKL9.out.size hala.size)
                    have HALA := Lib.hid hala
                    clear htrue hpn p1 p2 hala hnew
                    go_wp2
                    go_region_held3 (fun w' : World => w'.cell? ⟨bd, off + i * 7 + 6, none⟩ = some (.int .i64 (sz : Int))) (first | exact o6 | exact a6 | exact hk1.cell a6 (by simp; omega)) (first | (refine step_push rfl _ _ 33 rfl w2.heap.size _ i2 _ 8 Try.underlying33 hi2 hv0 hv1 hv2 rfl (by decide) _ acc rfl HOWA.out (i : Int) _ 1 rfl _ HNE.out rfl rfl (by simp [Value.oneCell']) (by omega) (by omega) HSA.out ?_; intro v' w1 hown1 hk1))
                    have HK1 := Lib.hid (HKL9.out.andThen (HALA.out.weaken (T := (w2.heap.size ≤ ·)) (fun _ _ z => z.elim) |>.trans hk1) (by intro z z1 z2; omega))
                    have HO1 := Lib.hid hown1
                    clear hown1 hk1
                    go_wp2
                    go_roundw
                    case rel =>
                      refine ⟨i + 1, q, acc ++ [(i : Int)], by go_num, rfl, by omega, by have := HQ.out; omega, by simp; omega, HO1.out, HPN.out, HK1.out⟩
                    case measure => simp [intOf]; omega
                  · have r2 : ((ds + (sz : Int)) == cs) = false := by simpa using p2
                    have r1 : ((db + d.benefit) == cb) = true := by simpa using p1
                    have hfalse : (cell (l.drop i) b).taken = false := by rw [HTK.out]; simp [p2]
                    have hpn : picks (l.drop i) i b = picks (l.drop (i + 1)) (i + 1) b := by
                      rw [HD.out] at hfalse ⊢; simp [picks, hfalse]
                    have HPN := Lib.hid hpn
                    clear hfalse hpn p1 p2
                    go_wp2
                    go_roundw
                    case rel =>
                      refine ⟨i + 1, b, acc, by go_num, rfl, by omega, by omega, by omega, HOW9.out, ?_, HKL9.out⟩
                      rw [← HPK.out, HPN.out]
                    case measure => simp [intOf]; omega
                · have r1 : ((db + d.benefit) == cb) = false := by simpa using p1
                  have hfalse : (cell (l.drop i) b).taken = false := by rw [HTK.out]; simp [p1]
                  have hpn : picks (l.drop i) i b = picks (l.drop (i + 1)) (i + 1) b := by
                    rw [HD.out] at hfalse ⊢; simp [picks, hfalse]
                  have HPN := Lib.hid hpn
                  clear hfalse hpn p1
                  go_wp2
                  go_roundw
                  case rel =>
                    refine ⟨i + 1, b, acc, by go_num, rfl, by omega, by omega, by omega, HOW9.out, ?_, HKL9.out⟩
                    rw [← HPK.out, HPN.out]
                  case measure => simp [intOf]; omega
        · have hie : i = l.length := by omega
          subst hie
          obtain ⟨po, co, rfl, c1, c2, c3, c4⟩ := HOW.out.slice intEnc_len
          have hfin : picks l 0 m = acc := by rw [← HPK.out, List.drop_length]; simp [picks]
          have HFI := Lib.hid hfin
          clear hfin
          go_wp2
          go_ret2
          rw [HB.out, HFI.out]
          exact ⟨po, co, rfl, c1, c2, c3, fun a ha => Nat.le_trans HKT.out.size (c4 a ha), HKT.out.trans hkL⟩

end Go.Proofs.Ytiojoheenjkphaa
