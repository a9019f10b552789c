/-
  DecideBudgets: the whole law, walked.
-/
import Derived.Test.YtiojoheenjkphaaKnap
namespace Go.Proofs.Ytiojoheenjkphaa
open Go.RowKit

def valid (bs : List Int) : Prop := ∀ x ∈ bs, (0 : Int) ≤ x ∧ x ≤ 255

theorem valid_take {bs : List Int} (h : valid bs) (n : Nat) : codesOk (bs.take n) := fun x hx => h x (List.mem_of_mem_take hx)

set_option maxRecDepth 100000 in
set_option maxHeartbeats 4000000 in
theorem budgets_calls (p : Option Addr) (bs : List Int) (cap : Nat) (B M : Nat) (w : World) (h : SliceV byteEnc 1 w p bs) (hv : valid bs) (hcap : bs.length ≤ cap) (hB : B ≤ 255) (hM : M ≤ 255) :
    Calls Try.prog 5 #[.slice p bs.length cap, .int .u8 B, .int .u8 M] w (Gives None (.bool true) w) := by
  go_enter Try.func5, Try.ntmps5
  go_wp2_with (fail)
  refine (awake_calls _).mono ?_
  rintro e w1 ⟨rfl, hk1⟩
  have H : Hid _ := Lib.hid (h.keep hk1 (fun _ _ => id))
  clear h
  go_wp2_with (fail)
  refine (new_calls p bs cap 120 _ H.out hv (by omega) hcap).mono ?_
  rintro e w2 ⟨b, bl, rfl, hb, hc, hk2, -⟩
  go_wp2_with (fail)
  refine (decs_any b bl 20 _ _ hc (by omega) (by omega)).mono ?_
  rintro e w3 ⟨pl, cl, rfl, hl1, hl2, hl3, hl4, hc3, hk3⟩
  have hok := decs_ok 20 (bs.take 120) (valid_take hv 120)
  generalize decs ((20 : Nat) : Int) (bs.take 120) = dd at *
  obtain ⟨l, r'⟩ := dd
  simp only at hl1 hl3 hc3 hok
  obtain ⟨hsm, hll, -⟩ := hok
  have hb1 := best_small hsm (by omega) B (by omega)
  have hb2 := best_small hsm (by omega) (B + M) (by omega)
  have hsm' : small (l.take (l.length / 2)) := fun d hd => hsm d (List.mem_of_mem_take hd)
  have hb3 := best_small hsm' (by simp; omega) B (by omega)
  have hlaw := budgets_law l B M (small_nonneg hsm)
  have hp1 := picks_in l 0 B
  have hp2 := picks_in l 0 (B + M)
  have hp3 := picks_in (l.take (l.length / 2)) 0 B
  have hkA : Keep None w w3 := (hk1.trans hk2).andThen hk3 (by intro k q1 q2; have := hk1.size; omega)
  have HKA : Hid _ := Lib.hid hkA
  have HB1 : Hid _ := Lib.hid hb1
  have HB2 : Hid _ := Lib.hid hb2
  have HB3 : Hid _ := Lib.hid hb3
  have HLAW : Hid _ := Lib.hid hlaw
  have HP1 : Hid _ := Lib.hid hp1
  have HP2 : Hid _ := Lib.hid hp2
  have HP3 : Hid _ := Lib.hid hp3
  have HL : Hid _ := Lib.hid hl3
  have HSM : Hid _ := Lib.hid hsm
  have HSM' : Hid _ := Lib.hid hsm'
  clear hkA hb1 hb2 hb3 hlaw hp1 hp2 hp3 hl3 hsm hsm' hc hc3 hk1 hk2 hk3 hl4 hb hv
  go_wp2_with (fail)
  generalize hW : World.alloc w3 _ = w4
  have hkB : Keep None w3 w4 := by rw [← hW]; exact (Keep.refl _ _).alloc _
  have hcell : w4.cell? ⟨w3.heap.size, 0, none⟩ = some (.slice pl l.length cl) := by rw [← hW]; simp
  have HL4 : Hid _ := Lib.hid (HL.out.keep hkB (fun _ _ => id))
  have HKB : Hid _ := Lib.hid (HKA.out.trans hkB)
  clear hW hkB HL HKA
  have q1 := best_calls pl l cl (B : Int) w4 HL4.out (by omega)
  rw [HB1.out] at q1
  refine Calls.mono q1 ?_
  rintro e w5 ⟨p5, c5, rfl, d1, d2, d3, d4, hk5⟩
  have hcell5 := hk5.cell hcell id
  have HL5 : Hid _ := Lib.hid (HL4.out.keep hk5 (fun _ _ => id))
  have HK5 : Hid _ := Lib.hid (HKB.out.trans hk5)
  have HD5 : Hid _ := Lib.hid d3
  clear hcell HL4 HKB hk5 d3 d4 d2 d1 q1
  simp only []
  go_wp2_with (fail)
  have q2 := best_calls pl l cl ((B : Int) + (M : Int)) w5 HL5.out (by omega)
  rw [show (B : Int) + (M : Int) = ((B + M : Nat) : Int) from by omega, HB2.out] at q2
  rw [show (B : Int) + (M : Int) = ((B + M : Nat) : Int) from by omega]
  refine Calls.mono q2 ?_
  rintro e w6 ⟨p6, c6, rfl, d1, d2, d3, d4, hk6⟩
  have hcell6 := hk6.cell hcell5 id
  have HL6 : Hid _ := Lib.hid (HL5.out.keep hk6 (fun _ _ => id))
  have HK6 : Hid _ := Lib.hid (HK5.out.trans hk6)
  have HD6 : Hid _ := Lib.hid d3
  have HD56 : Hid _ := Lib.hid (HD5.out.keep hk6 (fun _ _ => id))
  clear hcell5 HL5 HK5 hk6 HD5 d3 d4 d2 d1 q2
  simp only []
  go_wp2_with (fail)
  have q3 := best_calls pl (l.take (l.length / 2)) cl (B : Int) w6 (HL6.out.take _) (by simp; omega)
  rw [show (l.take (l.length / 2)).length = l.length / 2 from by simp; omega, HB3.out] at q3
  refine Calls.mono q3 ?_
  rintro e w7 ⟨p7, c7, rfl, d1, d2, d3, d4, hk7⟩
  have hcell7 := hk7.cell hcell6 id
  have HL7 : Hid _ := Lib.hid (HL6.out.keep hk7 (fun _ _ => id))
  have HK7 : Hid _ := Lib.hid (HK6.out.trans hk7)
  have HD7 : Hid _ := Lib.hid d3
  have HD57 : Hid _ := Lib.hid (HD56.out.keep hk7 (fun _ _ => id))
  have HD67 : Hid _ := Lib.hid (HD6.out.keep hk7 (fun _ _ => id))
  clear hcell6 HL6 HK6 hk7 HD6 HD56 d3 d4 d2 d1 q3
  simp only []
  go_wp2_with (fail)
  refine (sum_calls pl p5 l cl (picks l 0 B) c5 w3.heap.size w7 HL7.out HD57.out HSM.out (by omega) (by have := HP1.out.1; omega) (by intro i hi; have := HP1.out.2 i hi; omega) hcell7).mono ?_
  rintro e w8 ⟨rfl, hk8⟩
  have hcell8 := hk8.cell hcell7 id
  have HL8 : Hid _ := Lib.hid (HL7.out.keep hk8 (fun _ _ => id))
  have HD68 : Hid _ := Lib.hid (HD67.out.keep hk8 (fun _ _ => id))
  have HD78 : Hid _ := Lib.hid (HD7.out.keep hk8 (fun _ _ => id))
  have HK8 : Hid _ := Lib.hid (HK7.out.trans hk8)
  clear hcell7 HL7 HK7 hk8 HD7 HD57 HD67
  go_wp2_with (fail)
  refine (sum_calls pl p6 l cl (picks l 0 (B + M)) c6 w3.heap.size w8 HL8.out HD68.out HSM.out (by omega) (by have := HP2.out.1; omega) (by intro i hi; have := HP2.out.2 i hi; omega) hcell8).mono ?_
  rintro e w9 ⟨rfl, hk9⟩
  have hcell9 := hk9.cell hcell8 id
  have HL9 : Hid _ := Lib.hid (HL8.out.keep hk9 (fun _ _ => id))
  have HD79 : Hid _ := Lib.hid (HD78.out.keep hk9 (fun _ _ => id))
  have HK9 : Hid _ := Lib.hid (HK8.out.trans hk9)
  clear hcell8 HL8 HK8 hk9 HD68 HD78
  go_wp2_with (fail)
  refine (sum_calls pl p7 l cl (picks (l.take (l.length / 2)) 0 B) c7 w3.heap.size w9 HL9.out HD79.out HSM.out (by omega) (by have := HP3.out.1; simp at this; omega) (by intro i hi; have := HP3.out.2 i hi; simp at this; omega) hcell9).mono ?_
  rintro e wz ⟨rfl, hkz⟩
  have HKZ : Hid _ := Lib.hid (HK9.out.trans hkz)
  have hlaw := HLAW.out
  clear hcell9 HL9 HK9 hkz HD79 HLAW
  generalize sums l (picks l 0 B) = x at *
  generalize sums l (picks l 0 (B + M)) = y at *
  generalize sums l (picks (l.take (l.length / 2)) 0 B) = z at *
  obtain ⟨x1, x2⟩ := x
  obtain ⟨y1, y2⟩ := y
  obtain ⟨z1, z2⟩ := z
  obtain ⟨l1, l2, l3, l4, l5, l6⟩ := hlaw
  simp only at l1 l2 l3 l4 l5 l6
  have hBM : IntKind.i64.wrap ((B : Int) + (M : Int)) = (B : Int) + (M : Int) := IntWalk.i64_in _ (by omega)
  go_wp2
  go_ret
  exact ⟨rfl, HKZ.out⟩

end Go.Proofs.Ytiojoheenjkphaa
