/-
  DecideLeast: the sets, given by bits; their order.
-/
import Derived.Test.YtiojoheenjkphaaKnap
import Derived.Test.YtiojoheenjkphaaBaseTwo
import Derived.Lib.RabinKarpLaws
namespace Go.Proofs.Ytiojoheenjkphaa
open Go.RowKit

def setIdx : List Dec → Nat → Nat → List Int
  | [], _, _ => []
  | _ :: r, i, s => if s % 2 = 1 then (i : Int) :: setIdx r (i + 1) (s / 2) else setIdx r (i + 1) (s / 2)
def setBen : List Dec → Nat → Int
  | [], _ => 0
  | d :: r, s => if s % 2 = 1 then d.benefit + setBen r (s / 2) else setBen r (s / 2)
def setSiz : List Dec → Nat → Int
  | [], _ => 0
  | d :: r, s => if s % 2 = 1 then d.size + setSiz r (s / 2) else setSiz r (s / 2)

theorem half_pow (s k : Nat) : s / 2 ^ (k + 1) = s / 2 ^ k / 2 := by rw [Nat.pow_succ, Nat.div_div_eq_div_mul]

def ValInv (l : List Dec) (s B : Nat) (w0 : World) (a b out i : Value) (w : World) : Prop :=
  ∃ (k : Nat) (x y : Int) (acc : List Int), i = .int .i64 k ∧ k ≤ l.length ∧ a = .int .i64 x ∧ b = .int .i64 y ∧ x + setBen (l.drop k) (s / 2 ^ k) = setBen l s ∧ y + setSiz (l.drop k) (s / 2 ^ k) = setSiz l s ∧
    -(2 * (k : Int)) ≤ x ∧ x ≤ 22 * k ∧ 0 ≤ y ∧ y ≤ 12 * k ∧ acc.length ≤ k ∧ Own intEnc 1 3 B w out acc ∧ acc ++ setIdx (l.drop k) k (s / 2 ^ k) = setIdx l 0 s ∧ Keep None w0 w ∧ w0.heap.size = B

def ValPost (l : List Dec) (s : Nat) (w : World) (e : Ending) (w' : World) : Prop :=
  ∃ p cap, e = .returned (.tuple #[.int .i64 (setBen l s), .int .i64 (setSiz l s), .slice p (setIdx l 0 s).length cap]) ∧ SliceV intEnc 1 w' p (setIdx l 0 s) ∧ Keep None w w'

set_option maxHeartbeats 2000000 in
theorem value_calls (p : Option Addr) (l : List Dec) (cap s : Nat) (w : World) (h : SliceV Dec.enc 7 w p l) (hs : small l) (hl : l.length ≤ 20) (hss : s < 2 ^ 20) :
    Calls Try.prog 14 #[.slice p l.length cap, .int .i64 s] w (ValPost l s w) := by
  obtain ⟨i2, hi2, hv0, hv1, hv2⟩ := info_parts Try.infoInt
  go_enter Try.func14, Try.ntmps14
  go_wp2
  go_loopw [7, 8, 9, 10] (ValInv l s w.heap.size w) (fun _ _ _ i _ => l.length - (intOf i).toNat)
  case atStart => exact ⟨0, 0, 0, [], rfl, by omega, rfl, rfl, by simp, by simp, by omega, by omega, by omega, by omega, by simp, Own.nil _ _ _ _ _, by simp, Keep.refl _ _, rfl⟩
  case round =>
    obtain ⟨k, x, y, acc, rfl, hk, rfl, rfl, hx, hy, b1, b2, b3, b4, hal, hown, hacc, hkp, -⟩ := hrel
    have HX : Hid _ := Lib.hid hx
    have HY : Hid _ := Lib.hid hy
    have HA : Hid _ := Lib.hid hacc
    have HO : Hid _ := Lib.hid hown
    clear hx hy hacc hown
    by_cases hlt : k < l.length
    · obtain ⟨d, hd⟩ : ∃ d, l[k]? = some d := ⟨l[k], by simp [hlt]⟩
      rcases h with h | ⟨bd, off, rfl, h⟩
      · subst h; simp at hlt
      have e5 : wr.cell? ⟨bd, off + k * 7 + 5, none⟩ = some (.int .i64 d.benefit) := hkp.cell (h k d hd 5 _ rfl) id
      have e6 : wr.cell? ⟨bd, off + k * 7 + 6, none⟩ = some (.int .i64 d.size) := hkp.cell (h k d hd 6 _ rfl) id
      have hdb := hs d (List.mem_of_getElem? hd)
      have hdrop : l.drop k = d :: l.drop (k + 1) := by
        rw [List.drop_eq_getElem_cons hlt]; congr 1; rw [List.getElem?_eq_getElem hlt] at hd; exact Option.some.inj hd
      have HD : Hid _ := Lib.hid hdrop
      have HH : Hid _ := Lib.hid h
      have HDD : Hid _ := Lib.hid hd
      clear hdrop h hd
      have hdiv : (((s : Int) / 2 ^ k)) = ((s / 2 ^ k : Nat) : Int) := by simp
      by_cases hbit : (s / 2 ^ k) % 2 = 1
      · have hb : (bits BinOp.and IntKind.i64 ((s : Int) / 2 ^ k) 1 == 1) = true := by
          rw [hdiv, Go.Proofs.and_one _ (by have := Nat.div_le_self s (2 ^ k); omega), hbit]; rfl
        clear hdiv
        have i1 : IntKind.i64.wrap (x + d.benefit) = x + d.benefit := IntWalk.i64_in _ (by omega)
        have i2' : IntKind.i64.wrap (y + d.size) = y + d.size := IntWalk.i64_in _ (by omega)
        have hbd : bd < w.heap.size := by have := HH.out k d HDD.out 0 _ rfl; exact World.block_lt_of_cell? w _ this
        have hal : Keep None wr (World.drew (wr.alloc (.cells #[.int .i64 (k : Int)] 3))) := ((Keep.refl _ _).alloc _).drew
        have a5 := hal.cell e5 id
        have a6 := hal.cell e6 id
        have hown : Own intEnc 1 3 w.heap.size (World.drew (wr.alloc (.cells #[.int .i64 (k : Int)] 3))) u9 acc := HO.out.keep hal (fun _ _ => id)
        have hnew : (World.drew (wr.alloc (.cells #[.int .i64 (k : Int)] 3))).heap[wr.heap.size]? = some (.cells #[.int .i64 (k : Int)] 3 (0, 0)) := heap_alloc_new _ _
        have hsz : w.heap.size ≤ (World.drew (wr.alloc (.cells #[.int .i64 (k : Int)] 3))).heap.size := Nat.le_trans hkp.size hal.size
        have HAL := Lib.hid hal
        have HOW := Lib.hid hown
        have HNE := Lib.hid hnew
        have HSZ := Lib.hid hsz
        clear hal hown hnew hsz
        go_wp2
        go_region_held3 (fun w' : World => w'.cell? ⟨bd, off + k * 7 + 5, none⟩ = some (.int .i64 d.benefit) ∧ w'.cell? ⟨bd, off + k * 7 + 6, none⟩ = some (.int .i64 d.size)) (first | exact ⟨e5, e6⟩ | exact ⟨a5, a6⟩ | exact ⟨hk1.cell a5 (by simp; omega), hk1.cell a6 (by simp; omega)⟩) (first | (refine step_push rfl _ _ 33 rfl w.heap.size _ i2 _ 8 Try.underlying33 hi2 hv0 hv1 hv2 rfl (by decide) _ acc rfl HOW.out (k : Int) _ 1 rfl _ HNE.out rfl rfl (by simp [Value.oneCell']) (by omega) (by omega) HSZ.out ?_; intro v' w1 hown1 hk1))
        have HK1 := Lib.hid (hkp.andThen (HAL.out.weaken (T := (w.heap.size ≤ ·)) (fun _ _ q => q.elim) |>.trans hk1) (by intro q q1 q2; omega))
        have HO1 := Lib.hid hown1
        clear hown1 hk1
        go_wp2
        go_roundw
        case rel =>
          refine ⟨k + 1, x + d.benefit, y + d.size, acc ++ [(k : Int)], by go_num, by omega, rfl, rfl, ?_, ?_, by omega, by omega, by omega, by omega, by simp; omega, HO1.out, ?_, HK1.out, rfl⟩
          · rw [← HX.out, HD.out, half_pow]; simp only [setBen, hbit, if_true]; omega
          · rw [← HY.out, HD.out, half_pow]; simp only [setSiz, hbit, if_true]; omega
          · rw [← HA.out, HD.out, half_pow]; simp [setIdx, hbit]
        case measure => simp [intOf]; omega
      · have hb : (bits BinOp.and IntKind.i64 ((s : Int) / 2 ^ k) 1 == 1) = false := by
          rw [hdiv, Go.Proofs.and_one _ (by have := Nat.div_le_self s (2 ^ k); omega), show (s / 2 ^ k) % 2 = 0 from by omega]; rfl
        clear hdiv
        go_wp2
        go_roundw
        case rel =>
          refine ⟨k + 1, x, y, acc, by go_num, by omega, rfl, rfl, ?_, ?_, by omega, by omega, by omega, by omega, by omega, HO.out, ?_, hkp, rfl⟩
          · rw [← HX.out, HD.out, half_pow]; simp only [setBen, hbit, if_false]
          · rw [← HY.out, HD.out, half_pow]; simp only [setSiz, hbit, if_false]
          · rw [← HA.out, HD.out, half_pow]; simp [setIdx, hbit]
        case measure => simp [intOf]; omega
    · have hke : k = l.length := by omega
      subst hke
      obtain ⟨po, co, rfl, c1, c2, c3, c4⟩ := HO.out.slice intEnc_len
      have ex : x = setBen l s := by have := HX.out; rw [List.drop_length] at this; simpa [setBen] using this
      have ey : y = setSiz l s := by have := HY.out; rw [List.drop_length] at this; simpa [setSiz] using this
      have ea : acc = setIdx l 0 s := by have := HA.out; rw [List.drop_length] at this; simpa [setIdx] using this
      have HEX := Lib.hid ex
      have HEY := Lib.hid ey
      have HEA := Lib.hid ea
      clear ex ey ea h
      go_wp2
      go_ret3
      unfold ValPost
      rw [← HEX.out, ← HEY.out, ← HEA.out]
      exact ⟨po, co, rfl, c3, hkp⟩

end Go.Proofs.Ytiojoheenjkphaa
