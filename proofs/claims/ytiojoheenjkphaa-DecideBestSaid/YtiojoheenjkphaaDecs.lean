/-
  Decisions: warmpathdice.Decisions.
-/
import Derived.Test.YtiojoheenjkphaaDraw
import Derived.Maps.AppendAt
namespace Go.Proofs.Ytiojoheenjkphaa
open Go.RowKit

structure Dec where
  kind : Int
  func : Int
  block : Int
  instr : Int
  target : Int
  benefit : Int
  size : Int

def Dec.enc (d : Dec) : List Value := [.int .i64 d.kind, .int .i64 d.func, .int .i64 d.block, .int .i64 d.instr, .int .i64 d.target, .int .i64 d.benefit, .int .i64 d.size]
theorem Dec.enc_len (d : Dec) : d.enc.length = 7 := rfl

def decRound (r : List Int) : Dec × List Int :=
  (⟨1 + (next 3 r).1, 0, 0, 0, 0, (next 24 (next 3 r).2).1 - 2, (next 12 (next 24 (next 3 r).2).2).1⟩, (next 12 (next 24 (next 3 r).2).2).2)

def decsTo : Nat → List Int → List Dec → List Dec × List Int
  | 0, r, acc => (acc, r)
  | k + 1, r, acc => decsTo k (decRound r).2 (acc ++ [(decRound r).1])

def decs (most : Int) (r : List Int) : List Dec × List Int := decsTo (next (most + 1) r).1.toNat (next (most + 1) r).2 []

theorem Try.infoDec : (Try.prog.info? 30).map (fun i => (i.zero, i.size, i.bytes)) = some (some (.agg #[.int .i64 0, .int .i64 0, .int .i64 0, .int .i64 0, .int .i64 0, .int .i64 0, .int .i64 0]), 7, 56) := by kernel_rfl

theorem Try.sizeDec : (Try.prog.info? 30).map (·.size) = some 7 := by kernel_rfl

def DecsPost (b bl : Nat) (x : List Dec × List Int) (w : World) (e : Ending) (w' : World) : Prop :=
  ∃ p cap, e = .returned (.slice p x.1.length cap) ∧ x.1.length ≤ cap ∧ cap ≤ maxLen ∧ SliceV Dec.enc 7 w' p x.1 ∧ From w.heap.size p ∧ CodesAt w' b bl x.2 ∧ Keep (· = b) w w'

def DecsInv (b bl B : Nat) (w0 : World) (x : List Dec × List Int) (v k : Value) (w : World) : Prop :=
  ∃ (n : Nat) (r : List Int) (acc : List Dec), k = .int .i64 n ∧ n + acc.length ≤ 100 ∧ Own Dec.enc 7 30 B w v acc ∧ CodesAt w b bl r ∧ decsTo n r acc = x ∧ Keep (· = b) w0 w ∧ B ≤ w.heap.size

set_option maxHeartbeats 1000000 in
theorem decs_any (b bl : Nat) (most : Int) (r : List Int) (w : World) (h : CodesAt w b bl r) (h0 : 0 ≤ most) (h1 : most ≤ 90) :
    Calls Try.prog 8 #[.pointer (some ⟨b, 0, none⟩), .int .i64 most] w (DecsPost b bl (decs most r) w) := by
  obtain ⟨i0, hi, hz0, hz1, hz2⟩ := info_parts Try.infoDec
  go_enter Try.func8, Try.ntmps8
  go_wp2_with (fail)
  refine (next_in b bl _ r _ h (by omega) (by omega)).mono ?_
  rintro e w1 ⟨rfl, hc, hk, hb0, hb1⟩
  have HX : Hid (decs most r = decsTo (next (most + 1) r).1.toNat (next (most + 1) r).2 []) := rfl
  generalize hm : next (most + 1) r = m at *
  clear hm
  go_wp2_with (fail)
  go_loopw [5, 6] (DecsInv b bl w1.heap.size w (decsTo m.1.toNat m.2 [])) (fun _ k _ => (intOf k).toNat)
  case atStart => exact ⟨m.1.toNat, m.2, [], by rw [Int.toNat_of_nonneg hb0], by simp; omega, Own.nil _ _ _ _ _, hc, rfl, hk, Nat.le_refl _⟩
  case round =>
    obtain ⟨n, r1, acc, rfl, hn, hown, hcr, hto, hkr, hsB⟩ := hrel
    have HTO : Hid _ := Lib.hid hto
    clear hto
    by_cases hz : n = 0
    · subst hz
      go_wp2
      go_ret
      obtain ⟨p, cap, rfl, q1, q2, q3, q4⟩ := hown.slice Dec.enc_len
      have e := HTO.out
      simp only [decsTo] at e
      rw [HX.out, ← e]
      exact ⟨p, cap, rfl, q1, q2, q3, fun a ha => Nat.le_trans hk.size (q4 a ha), hcr, hkr⟩
    · have hpos : 0 < n := by omega
      have hb1 := hcr.lt
      have hsz := hc.lt.1
      have HO : Hid _ := Lib.hid hown
      have HK : Hid _ := Lib.hid hkr
      clear hown hkr
      go_wp2_with (fail)
      refine (next_in _ _ _ _ _ hcr (by omega) (by omega)).mono ?_
      rintro e w2 ⟨rfl, hc2, hk2, ha0, ha1⟩
      go_wp2_with (fail)
      refine (next_in _ _ _ _ _ hc2 (by omega) (by omega)).mono ?_
      rintro e w3 ⟨rfl, hc3, hk3, hb0, hb1⟩
      go_wp2_with (fail)
      refine (next_in _ _ _ _ _ hc3 (by omega) (by omega)).mono ?_
      rintro e w4 ⟨rfl, hc4, hk4, hd0, hd1⟩
      have hk5 := (hk2.trans hk3).trans hk4
      have hown : Own Dec.enc 7 30 w1.heap.size w4 u5 acc := HO.out.keepOld hk5 (by intro g hg; omega)
      have HK5 : Hid (Keep (· = b) wr w4) := Lib.hid hk5
      have hsz4 : w1.heap.size ≤ w4.heap.size := Nat.le_trans hsB hk5.size
      clear hk2 hk3 hk4 hk5 HO
      go_wp2_with (at_builtin; refine wpList_push rfl _ _ 23 rfl w1.heap.size _ i0 _ 56 Try.underlying23 hi hz0 hz1 hz2 rfl (by decide) _ acc rfl hown (decRound r1).1 1 rfl _ rfl rfl (by simp [Value.oneCell']) (by omega) (by omega) hsz4 ?_)
      intro v' w5 hown5 hk5 _ _
      have hc5 : CodesAt w5 b bl (decRound r1).2 := hc4.keep hk5 (by omega) (by omega)
      have HK6 : Hid (Keep (· = b) w w5) := Lib.hid ((HK.out.trans HK5.out).andThen hk5 (by intro k h1 h2; have := hk.size; omega))
      have hsz5 := Nat.le_trans hsz4 hk5.size
      have HO5 : Hid _ := Lib.hid hown5
      clear hown hown5 hk5 HK HK5 hc2 hc3 hc4 hcr
      go_wp2
      go_roundw
      case rel =>
        refine ⟨n - 1, (decRound r1).2, acc ++ [(decRound r1).1], ?_, ?_, HO5.out, hc5, ?_, HK6.out, hsz5⟩
        · go_num
        · simp; omega
        · rw [← HTO.out, show n = (n - 1) + 1 from by omega]; rfl
      case measure => simp [intOf]; omega

end Go.Proofs.Ytiojoheenjkphaa
