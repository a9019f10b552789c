/-
  DecideLeast: the whole law, walked.
-/
import Derived.Test.YtiojoheenjkphaaLeastLaw
import Derived.Test.YtiojoheenjkphaaBudgetsMain
namespace Go.Proofs.Ytiojoheenjkphaa
open Go.RowKit

def SetsInv (l : List Dec) (m : Nat) (w0 : World) (tb tg tz ts : Value) (w : World) : Prop :=
  ∃ (k : Nat) (g z : Int) (ys : List Int) (pb : Option Addr) (cb : Nat), ts = .int .i64 k ∧ k ≤ 2 ^ l.length ∧ tg = .int .i64 g ∧ tz = .int .i64 z ∧ tb = .slice pb ys.length cb ∧ SliceV intEnc 1 w pb ys ∧ ys.length ≤ 20 ∧
    least (triOf l 0 m) ⟨g, z, ys⟩ ∧ (code l m < k → triOf l 0 m = ⟨g, z, ys⟩) ∧ (k = 0 → ys = [] ∧ g = 0 ∧ z = 0) ∧ Keep None w0 w

/-- What one set does to what was best so far. -/
theorem sets_step {l : List Dec} {m k : Nat} {g z : Int} {ys : List Int} (hn : nonneg l) (hfit : setSiz l k ≤ m) (hle : least (triOf l 0 m) ⟨g, z, ys⟩) (hin : code l m < k → triOf l 0 m = ⟨g, z, ys⟩) :
    (beats (triSet l 0 k) ⟨g, z, ys⟩ → least (triOf l 0 m) (triSet l 0 k) ∧ (code l m < k + 1 → triOf l 0 m = triSet l 0 k)) ∧
    (¬ beats (triSet l 0 k) ⟨g, z, ys⟩ → (code l m < k + 1 → triOf l 0 m = ⟨g, z, ys⟩)) := by
  have hb := best_least l 0 m k hn hfit
  have hc := (code_is l 0 m).1
  refine ⟨fun h => ⟨hb, fun hk => ?_⟩, fun h hk => ?_⟩
  · by_cases e : code l m = k
    · rw [← e, hc]
    · have := hin (by omega)
      rw [← this] at h
      exact absurd h (least_not hb)
  · by_cases e : code l m = k
    · rw [← e, hc] at h
      rcases hle with hle | hle
      · exact absurd hle h
      · exact hle
    · exact hin (by omega)

theorem sets_skip {l : List Dec} {m k : Nat} (hn : nonneg l) (hfit : ¬ setSiz l k ≤ m) : code l m ≠ k := by
  intro e
  have hc := (code_is l 0 m).1
  rw [e] at hc
  simp only [triSet, triOf, Tri.mk.injEq] at hc
  have := (chosen_is l m hn).2.2.2
  omega

theorem pow_wrap {n : Nat} (h : n ≤ 20) : wrap64 ((2 : Int) ^ n) = ((2 ^ n : Nat) : Int) := by
  have h1 := Nat.pow_le_pow_right (n := 2) (by omega) h
  have h2 : ((2 : Int) ^ n) = ((2 ^ n : Nat) : Int) := by simp
  rw [h2]
  generalize 2 ^ n = N at *
  exact IntWalk.wrap64_in _ (by omega)

theorem pow_bd {n : Nat} (h : n ≤ 20) : 2 ^ n ≤ 1048576 := by
  have := Nat.pow_le_pow_right (n := 2) (by omega) h
  simpa using this

set_option maxHeartbeats 4000000 in
theorem least_calls (p : Option Addr) (bs : List Int) (cap : Nat) (B : Nat) (w : World) (h : SliceV byteEnc 1 w p bs) (hv : valid bs) (hcap : bs.length ≤ cap) (hB : B ≤ 255) :
    Calls Try.prog 4 #[.slice p bs.length cap, .int .u8 B] w (Gives None (.bool true) w) := by
  go_enter Try.func4, Try.ntmps4
  go_wp2_with (fail)
  refine (awake_calls _).mono ?_
  rintro e w1 ⟨rfl, hk1⟩
  have H : Hid _ := Lib.hid (h.keep hk1 (fun _ _ => id))
  clear h
  go_wp2_with (fail)
  refine (new_calls p bs cap 60 _ H.out hv (by omega) hcap).mono ?_
  rintro e w2 ⟨b, bl, rfl, hb, hc, hk2, -⟩
  go_wp2_with (fail)
  refine (decs_any b bl 9 _ _ hc (by omega) (by omega)).mono ?_
  rintro e w3 ⟨pl, cl, rfl, hl1, hl2, hl3, hl4, hc3, hk3⟩
  have hok := decs_ok 9 (bs.take 60) (valid_take hv 60)
  generalize decs ((9 : Nat) : Int) (bs.take 60) = dd at *
  obtain ⟨l, r'⟩ := dd
  simp only at hl1 hl3 hc3 hok
  obtain ⟨hsm, hll, -⟩ := hok
  have hkA : Keep None w w3 := (hk1.trans hk2).andThen hk3 (by intro k q1 q2; have := hk1.size; omega)
  have HKA : Hid _ := Lib.hid hkA
  have HL : Hid _ := Lib.hid hl3
  have HSM : Hid _ := Lib.hid hsm
  have hm : B % 70 ≤ 69 := by omega
  have hpow : 2 ^ l.length ≤ 1048576 := pow_bd (by omega)
  have hll2 : l.length < 64 := by omega
  clear hkA hl3 hsm hc hc3 hk1 hk2 hk3 hl4 hb hv
  go_wp2_with (fail)
  go_loopw [6, 7, 8, 9] (SetsInv l (B % 70) w3) (fun _ _ _ s _ => 2 ^ l.length - (intOf s).toNat)
  case atStart =>
    refine ⟨0, 0, 0, [], none, 0, rfl, Nat.zero_le _, rfl, rfl, rfl, .inl rfl, by simp, ?_, by omega, by simp, Keep.refl _ _⟩
    have := best_least l 0 (B % 70) 0 (small_nonneg HSM.out) (by have := set_zero l 0; simp only [triSet, Tri.mk.injEq] at this; omega)
    rw [set_zero] at this; exact this
  case round =>
    obtain ⟨k, g, z, ys, pb, cb, rfl, hk, rfl, rfl, rfl, hys, hysl, hle, hin, h0, hkp⟩ := hrel
    have HYS := Lib.hid hys
    have HLE := Lib.hid hle
    have HIN := Lib.hid hin
    have H0 := Lib.hid h0
    have HKP := Lib.hid hkp
    clear hys hle hin h0 hkp
    by_cases hlt : k < 2 ^ l.length
    · have hd : decide ((k : Int) < wrap64 (2 ^ l.length)) = true := by rw [pow_wrap (by omega)]; exact decide_eq_true (by exact Int.ofNat_lt.2 hlt)
      go_wp2_with (fail)
      refine (value_calls pl l cl k wr (HL.out.keep HKP.out (fun _ _ => id)) HSM.out (by omega) (by omega)).mono ?_
      rintro e w4 ⟨p4, c4, rfl, hx4, hk4⟩
      have HX4 := Lib.hid hx4
      have HK4 := Lib.hid (HKP.out.trans hk4)
      have HYS4 := Lib.hid (HYS.out.keep hk4 (fun _ _ => id))
      have hxl := setIdx_len l 0 k
      clear hx4 hk4 hd HKP HYS
      have hstep := fun hfit => sets_step (k := k) (small_nonneg HSM.out) hfit HLE.out HIN.out
      have hskip := sets_skip (l := l) (m := B % 70) (k := k) (small_nonneg HSM.out)
      have hz := set_zero l 0
      have hset : triSet l 0 k = ⟨setBen l k, setSiz l k, setIdx l 0 k⟩ := rfl
      rw [hset] at hstep
      simp only [triSet] at hz
      have hzk : k = 0 → setBen l k = 0 ∧ setSiz l k = 0 ∧ setIdx l 0 k = [] := by
        rintro rfl; simp only [Tri.mk.injEq] at hz; exact hz
      have HST := Lib.hid hstep
      have HSK := Lib.hid hskip
      have HZK := Lib.hid hzk
      clear hstep hskip hz hset hzk
      generalize setBen l k = a at *
      generalize setSiz l k = bz at *
      generalize setIdx l 0 k = x at *
      have hB70 : ((B : Int) % 70) = ((B % 70 : Nat) : Int) := by omega
      by_cases hfit : bz ≤ (B % 70 : Nat)
      · have hf2 : ¬ ((B : Int) % 70 < bz) := by omega
        clear hB70
        by_cases hg : g < a
        · have HB := Lib.hid ((HST.out hfit).1 (.inl hg))
          go_wp2
          go_roundw
          case rel => exact ⟨k + 1, a, bz, x, p4, c4, by go_num, hlt, rfl, rfl, rfl, HX4.out, by omega, HB.out.1, HB.out.2, by omega, HK4.out⟩
          case measure => simp [intOf]; omega
        · by_cases hag : a = g
          · subst hag
            have e1 : (a == a) = true := by simp
            by_cases hbz : bz < z
            · have HB := Lib.hid ((HST.out hfit).1 (.inr ⟨rfl, .inl hbz⟩))
              go_wp2
              go_roundw
              case rel => exact ⟨k + 1, a, bz, x, p4, c4, by go_num, hlt, rfl, rfl, rfl, HX4.out, by omega, HB.out.1, HB.out.2, by omega, HK4.out⟩
              case measure => simp [intOf]; omega
            · by_cases hbe : bz = z
              · subst hbe
                have e2 : (bz == bz) = true := by simp
                go_wp2_with (fail)
                refine (before_calls p4 pb x ys c4 cb w4 HX4.out HYS4.out (by omega) (by omega)).mono ?_
                rintro e w5 ⟨rfl, hk5⟩
                have HX5 := Lib.hid (HX4.out.keep hk5 (fun _ _ => id))
                have HYS5 := Lib.hid (HYS4.out.keep hk5 (fun _ _ => id))
                have HK5 := Lib.hid (HK4.out.trans hk5)
                clear hk5
                cases hbf : beforeB x ys with
                | true =>
                  have HB := Lib.hid ((HST.out hfit).1 (.inr ⟨rfl, .inr ⟨rfl, hbf⟩⟩))
                  clear hbf
                  go_wp2
                  go_roundw
                  case rel => exact ⟨k + 1, a, bz, x, p4, c4, by go_num, hlt, rfl, rfl, rfl, HX5.out, by omega, HB.out.1, HB.out.2, by omega, HK5.out⟩
                  case measure => simp [intOf]; omega
                | false =>
                  have HB := Lib.hid ((HST.out hfit).2 (by rintro (q | ⟨_, q | ⟨_, q⟩⟩); exact absurd q (Int.lt_irrefl _); exact absurd q (Int.lt_irrefl _); exact absurd q (by simp [hbf])))
                  clear hbf
                  by_cases hk0 : k = 0
                  · have hx0 := HZK.out hk0
                    have hy0 := H0.out hk0
                    have hxy : x = ys := by rw [hx0.2.2, hy0.1]
                    subst hxy
                    subst hk0
                    clear hx0 hy0
                    go_wp2
                    go_roundw
                    case rel => exact ⟨1, a, bz, x, p4, c4, rfl, hlt, rfl, rfl, rfl, HX5.out, by omega, HLE.out, HB.out, by omega, HK5.out⟩
                    case measure => simp [intOf]; omega
                  · have e3 : (k == 0) = false := by simpa using hk0
                    have e4 : ((k : Int) == 0) = false := by simp; omega
                    clear hk0
                    go_wp2
                    go_roundw
                    case rel => exact ⟨k + 1, a, bz, ys, pb, cb, by go_num, hlt, rfl, rfl, rfl, HYS5.out, hysl, HLE.out, HB.out, by omega, HK5.out⟩
                    case measure => simp [intOf]; omega
              · have hk0 : k ≠ 0 := fun q => by have := HZK.out q; have := H0.out q; omega
                have e2 : (bz == z) = false := by simpa using hbe
                have e3 : (k == 0) = false := by simpa using hk0
                have e4 : ((k : Int) == 0) = false := by simp; omega
                clear hk0 hbe
                have HB := Lib.hid ((HST.out hfit).2 (by rintro (q | ⟨_, q | ⟨q, _⟩⟩); exact hg q; exact hbz q; simp at e2; exact e2 q))
                go_wp2
                go_roundw
                case rel => exact ⟨k + 1, a, z, ys, pb, cb, by go_num, hlt, rfl, rfl, rfl, HYS4.out, hysl, HLE.out, HB.out, by omega, HK4.out⟩
                case measure => simp [intOf]; omega
          · have hk0 : k ≠ 0 := fun q => by have := HZK.out q; have := H0.out q; omega
            have e2 : (a == g) = false := by simpa using hag
            have e3 : (k == 0) = false := by simpa using hk0
            have e4 : ((k : Int) == 0) = false := by simp; omega
            clear hk0 hag
            have HB := Lib.hid ((HST.out hfit).2 (by rintro (q | ⟨q, _⟩); exact hg q; simp at e2; exact e2 q))
            go_wp2
            go_roundw
            case rel => exact ⟨k + 1, g, z, ys, pb, cb, by go_num, hlt, rfl, rfl, rfl, HYS4.out, hysl, HLE.out, HB.out, by omega, HK4.out⟩
            case measure => simp [intOf]; omega
      · have hf2 : (B : Int) % 70 < bz := by omega
        have HN := Lib.hid (HSK.out hfit)
        clear hB70 hfit
        go_wp2
        go_roundw
        case rel => exact ⟨k + 1, g, z, ys, pb, cb, by go_num, hlt, rfl, rfl, rfl, HYS4.out, hysl, HLE.out, fun q => HIN.out (by have := HN.out; omega), by omega, HK4.out⟩
        case measure => simp [intOf]; omega
    · have hke : k = 2 ^ l.length := by omega
      have hd : decide ((k : Int) < wrap64 (2 ^ l.length)) = false := by rw [pow_wrap (by omega)]; exact decide_eq_false (by rw [hke]; exact Int.lt_irrefl _)
      have hfin := HIN.out (by rw [hke]; exact (code_is l 0 (B % 70)).2)
      have hpk : picks l 0 (B % 70) = ys := congrArg Tri.lst hfin
      have hbest := best_small HSM.out (by omega) (B % 70) (by omega)
      rw [hpk] at hbest
      have HBS := Lib.hid hbest
      clear hke hfin hpk hbest
      go_wp2_with (fail)
      have q1 := best_calls pl l cl ((B : Int) % 70) wr (HL.out.keep HKP.out (fun _ _ => id)) (by omega)
      rw [show (B : Int) % 70 = ((B % 70 : Nat) : Int) from by omega, HBS.out] at q1
      rw [show (B : Int) % 70 = ((B % 70 : Nat) : Int) from by omega]
      refine Calls.mono q1 ?_
      rintro e w5 ⟨p5, c5, rfl, d1, d2, d3, d4, hk5⟩
      have HD3 := Lib.hid d3
      have HYS5 := Lib.hid (HYS.out.keep hk5 (fun _ _ => id))
      have HK5 := Lib.hid ((HKA.out.trans HKP.out).trans hk5)
      clear d1 d2 d3 d4 hk5 q1
      simp only []
      go_wp2_with (fail)
      have q2 := ints_calls p5 pb ys ys c5 cb w5 HD3.out HYS5.out (by omega) (by omega)
      simp only [decide_true] at q2
      refine Calls.mono q2 ?_
      rintro e w6 ⟨rfl, hk6⟩
      have HK6 := Lib.hid (HK5.out.trans hk6)
      clear hk6 q2
      go_wp2
      go_ret
      exact ⟨rfl, HK6.out⟩

end Go.Proofs.Ytiojoheenjkphaa
