/-
  The reference's Locate.
-/
import Derived.Test.YtlhmajjmhkjcoaaImg
import Derived.Deep.Light
namespace Go.Proofs.Ytlhmajjmhkjcoaa
open Go.RowKit

set_option maxHeartbeats 1000000 in
theorem place_calls {p0 : Option Addr} {n0 c0 : Nat} {p1 : Option Addr} {n c1 : Nat} {p2 : Option Addr} {n2 c2 : Nat} {p3 : Option Addr} {n3 c3 : Nat} {k4 k5 : Int} {p6 : Option Addr} {n6 c6 : Nat} {p7 : Option Addr} {n7 c7 : Nat}
    {f b a s : Int} (w : World) :
    Calls Try.prog 23 #[.agg #[.slice p0 n0 c0, .slice p1 n c1, .slice p2 n2 c2, .slice p3 n3 c3, .int .i64 k4, .int .i64 k5, .slice p6 n6 c6, .slice p7 n7 c7], .agg #[.int .i64 f, .int .i64 b, .int .i64 a, .int .i64 s]] w (Gives None (.bool (knownB n ⟨f, b, a, s⟩)) w) := by
  by_cases h1 : 0 ≤ f
  · by_cases h2 : f < (n : Int)
    · by_cases h3 : 0 ≤ b
      · have hf : knownB n ⟨f, b, a, s⟩ = decide (b < 256) := by simp [knownB, h1, h2, h3]
        rw [hf]
        go_enter Try.func23, Try.ntmps23
        go_wp2
        go_ret
        exact ⟨rfl, ((Keep.refl _ _).alloc _).alloc _⟩
      · have hf : knownB n ⟨f, b, a, s⟩ = false := by simp [knownB, h3]
        rw [hf]
        go_enter Try.func23, Try.ntmps23
        go_wp2
        go_ret
        exact ⟨rfl, ((Keep.refl _ _).alloc _).alloc _⟩
    · have hf : knownB n ⟨f, b, a, s⟩ = false := by simp [knownB, h2]
      rw [hf]
      go_enter Try.func23, Try.ntmps23
      go_wp2
      go_ret
      exact ⟨rfl, ((Keep.refl _ _).alloc _).alloc _⟩
  · have hf : knownB n ⟨f, b, a, s⟩ = false := by simp [knownB, h1]
    rw [hf]
    go_enter Try.func23, Try.ntmps23
    go_wp2
    go_ret
    exact ⟨rfl, ((Keep.refl _ _).alloc _).alloc _⟩

theorem inB_true {a f b q s : Int} (h1 : q ≤ a) (h2 : 0 < s) (h3 : a - q < s) : inB a ⟨f, b, q, s⟩ = true := by simp [inB, h1, h2, h3]
theorem inB_false {a f b q s : Int} (h : a < q ∨ s ≤ 0 ∨ s ≤ a - q) : inB a ⟨f, b, q, s⟩ = false := by
  simp [inB]; omega

set_option maxHeartbeats 2000000 in
theorem refLocate_calls (v : Value) (n : Nat) (ps : List Pl) (a : Int) (w : World) (h : ImgV w v n ps) (ha : i64 a) :
    Calls Try.prog 10 #[v, .int .i64 a] w (LocPost (locate n a ps) w) := by
  obtain ⟨⟨p0, n0, c0, p1, c1, p2, n2, c2, p3, n3, c3, k4, k5, p6, n6, c6, p7, c7, rfl, hs⟩, ln, lp, hok⟩ := h
  obtain ⟨ha1, ha2⟩ := ha
  go_enter Try.func10, Try.ntmps10
  go_wp2
  generalize hW : World.alloc w _ = W
  have hk : Keep None w W := by rw [← hW]; exact (Keep.refl _ _).alloc _
  have hblk : W.heap[w.heap.size]? = some (.cells #[.slice p0 n0 c0, .slice p1 n c1, .slice p2 n2 c2, .slice p3 n3 c3, .int .i64 k4, .int .i64 k5, .slice p6 n6 c6, .slice p7 ps.length c7] 29 (0, 0)) := by rw [← hW]; exact heap_alloc_new _ _
  have HB := Lib.hid hblk
  have HS := Lib.hid (hs.keep hk (fun _ _ => id))
  have HK := Lib.hid hk
  clear hW hblk hs hk
  go_loopw [7] (LocInv n a ps W) (fun i _ => ps.length - (intOf i).toNat)
  case atStart => exact ⟨0, rfl, by omega, rfl, Keep.refl _ _⟩
  case round =>
    obtain ⟨k, rfl, hk, hlo, hkp⟩ := hrel
    have HLO := Lib.hid hlo
    have HKP := Lib.hid hkp
    have hc7 : wr.cell? ⟨w.heap.size, 7, none⟩ = some (.slice p7 ps.length c7) := by simpa using range_of_obj (hkp.obj HB.out id) 7 _ rfl
    have hwl : w.heap.size < wr.heap.size := World.block_lt_of_cell? wr _ hc7
    clear hlo hkp
    by_cases hlt : k < ps.length
    · obtain ⟨p, hp⟩ : ∃ p, ps[k]? = some p := ⟨ps[k], by simp [hlt]⟩
      obtain ⟨f, b, q, s⟩ := p
      rcases HS.out with h | ⟨bd, off, rfl, h⟩
      · subst h; simp at hlt
      have HC : Hid _ := Lib.hid ((h.keep HKP.out id).range hp)
      have HI : Hid _ := Lib.hid (fun o => range_of_obj (((Keep.refl None wr).alloc o).obj (HKP.out.obj HB.out id) id))
      have HP : Hid _ := Lib.hid hp
      obtain ⟨-, -, ⟨hq1, hq2⟩, ⟨hs1, hs2⟩⟩ := hok _ (List.mem_of_getElem? hp)
      simp only at hq1 hq2 hs1 hs2
      clear h hp
      cases hkn : knownB n ⟨f, b, q, s⟩ with
      | true =>
        have HN := Lib.hid hkn
        clear hkn
        go_wp2_with (first
          | (with_reducible (show wpList _ _ _ (⟨_, .load 65 _, _, _, _, none⟩ :: _) _ _); refine wpList_loadEl rfl 65 _ rfl _ _ rfl _ _ HC.out (Pl.enc_len _) Try.underlying65 rfl Try.sizePl (.agg #[.int .i64 f, .int .i64 b, .int .i64 q, .int .i64 s]) rfl ?_)
          | (with_reducible (show wpList _ _ _ (⟨_, .load 29 _, _, _, _, none⟩ :: _) _ _); refine wpList_loadEl (enc := listEnc) (size := 8) rfl 29 _ rfl _ _ rfl _ _ (HI.out _) rfl Try.underlying29 rfl Try.sizeImg (.agg #[.slice p0 n0 c0, .slice p1 n c1, .slice p2 n2 c2, .slice p3 n3 c3, .int .i64 k4, .int .i64 k5, .slice p6 n6 c6, .slice (some ⟨bd, off, none⟩) ps.length c7]) rfl ?_)
          | (go_at_call 23; refine (place_calls _).mono ?_; rintro e w' ⟨rfl, hk1⟩; rw [HN.out]; have e0 : w'.cell? ⟨wr.heap.size, 0, none⟩ = some (.int .i64 f) := hk1.cell (by simp) id; have e1 : w'.cell? ⟨wr.heap.size, 1, none⟩ = some (.int .i64 b) := hk1.cell (by simp) id; have e2 : w'.cell? ⟨wr.heap.size, 2, none⟩ = some (.int .i64 q) := hk1.cell (by simp) id; have e3 : w'.cell? ⟨wr.heap.size, 3, none⟩ = some (.int .i64 s) := hk1.cell (by simp) id; have HK1 := Lib.hid hk1; clear hk1))
        all_goals
          first
          | (have hin : inB a ⟨f, b, q, s⟩ = true := inB_true (by go_light; omega) (by go_light; omega) (by go_light; (try unfold wrap64 at *); omega)
             have HR := Lib.hid (HLO.out.symm.trans (locate_hit HP.out (by rw [HN.out, hin]; rfl)))
             clear hin
             go_quiet (fail)
             go_wp2
             go_ret3
             unfold LocPost
             rw [HR.out]
             exact ⟨rfl, (((HK.out.trans HKP.out).trans ((Keep.refl _ _).alloc _)).trans HK1.out).drewN _⟩)
          | (have hin : inB a ⟨f, b, q, s⟩ = false := inB_false (by go_light; (try unfold wrap64 at *); omega)
             have HR := Lib.hid ((locate_miss HP.out (by rw [HN.out, hin]; rfl)).trans HLO.out)
             clear hin
             go_roundw
             case rel => exact ⟨k + 1, by go_num, by omega, HR.out, (HKP.out.trans ((Keep.refl _ _).alloc _)).trans HK1.out⟩
             case measure => simp [intOf]; omega)
      | false =>
        have HN := Lib.hid hkn
        have HR := Lib.hid ((locate_miss (a := a) HP.out (by rw [hkn]; rfl)).trans HLO.out)
        clear hkn
        go_wp2_with (first
          | (with_reducible (show wpList _ _ _ (⟨_, .load 65 _, _, _, _, none⟩ :: _) _ _); refine wpList_loadEl rfl 65 _ rfl _ _ rfl _ _ HC.out (Pl.enc_len _) Try.underlying65 rfl Try.sizePl (.agg #[.int .i64 f, .int .i64 b, .int .i64 q, .int .i64 s]) rfl ?_)
          | (with_reducible (show wpList _ _ _ (⟨_, .load 29 _, _, _, _, none⟩ :: _) _ _); refine wpList_loadEl (enc := listEnc) (size := 8) rfl 29 _ rfl _ _ rfl _ _ (HI.out _) rfl Try.underlying29 rfl Try.sizeImg (.agg #[.slice p0 n0 c0, .slice p1 n c1, .slice p2 n2 c2, .slice p3 n3 c3, .int .i64 k4, .int .i64 k5, .slice p6 n6 c6, .slice (some ⟨bd, off, none⟩) ps.length c7]) rfl ?_)
          | (go_at_call 23; refine (place_calls _).mono ?_; rintro e w' ⟨rfl, hk1⟩; rw [HN.out]; have e0 : w'.cell? ⟨wr.heap.size, 0, none⟩ = some (.int .i64 f) := hk1.cell (by simp) id; have e1 : w'.cell? ⟨wr.heap.size, 1, none⟩ = some (.int .i64 b) := hk1.cell (by simp) id; have e2 : w'.cell? ⟨wr.heap.size, 2, none⟩ = some (.int .i64 q) := hk1.cell (by simp) id; have e3 : w'.cell? ⟨wr.heap.size, 3, none⟩ = some (.int .i64 s) := hk1.cell (by simp) id; have HK1 := Lib.hid hk1; clear hk1))
        go_roundw
        case rel => exact ⟨k + 1, by go_num, by omega, HR.out, (HKP.out.trans ((Keep.refl _ _).alloc _)).trans HK1.out⟩
        case measure => simp [intOf]; omega
    · have hke : k = ps.length := by omega
      subst hke
      have HR : Hid (locate n a ps = (0, 0, false)) := Lib.hid (by rw [← HLO.out, List.drop_length]; rfl)
      go_wp2
      go_ret3
      unfold LocPost
      rw [HR.out]
      exact ⟨rfl, HK.out.trans HKP.out⟩

end Go.Proofs.Ytlhmajjmhkjcoaa
