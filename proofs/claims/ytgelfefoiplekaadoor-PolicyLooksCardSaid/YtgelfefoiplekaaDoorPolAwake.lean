/-
  Chapter 44: the sanity check of its statements.
-/
import Derived.Test.YtgelfefoiplekaaDoorPolFmt
namespace Go.Proofs.YtgelfefoiplekaaDoor
open Go.RowKit PN

def exPol : Pol := ⟨1, 20, 0, [(5, 6), (100, 12)]⟩
theorem ex_text : PN.format exPol = bl ⟨#[108, 101, 118, 101, 108, 32, 49, 32, 47, 32, 50, 48, 10, 109, 97, 114, 103, 105, 110, 32, 48, 10, 115, 116, 97, 103, 101, 32, 53, 32, 97, 102, 116, 101, 114, 32, 54, 10, 115, 116, 97, 103, 101, 32, 49, 48, 48, 32, 97, 102, 116, 101, 114, 32, 49, 50, 10]⟩ := by
  have h1 : dec 1 = [49] := dec_small (by decide)
  have h0 : dec 0 = [48] := dec_small (by decide)
  have h5 : dec 5 = [53] := dec_small (by decide)
  have h6 : dec 6 = [54] := dec_small (by decide)
  have h20 : dec 20 = [50, 48] := by show Lib.decDigits 20 = _; rw [dec_big (by decide), dec_small (by decide)]; rfl
  have h12 : dec 12 = [49, 50] := by show Lib.decDigits 12 = _; rw [dec_big (by decide), dec_small (by decide)]; rfl
  have h100 : dec 100 = [49, 48, 48] := by show Lib.decDigits 100 = _; rw [dec_big (by decide), dec_big (by decide), dec_small (by decide)]; rfl
  simp only [PN.format, linesOf, exPol, nl, stageText, marginText, twoText, List.map_cons, List.map_nil, List.flatMap_cons, List.flatMap_nil, h1, h0, h5, h6, h20, h12, h100]
  rfl
theorem ex_parse : parse (bl ⟨#[108, 101, 118, 101, 108, 32, 49, 32, 47, 32, 50, 48, 10, 109, 97, 114, 103, 105, 110, 32, 48, 10, 115, 116, 97, 103, 101, 32, 53, 32, 97, 102, 116, 101, 114, 32, 54, 10, 115, 116, 97, 103, 101, 32, 49, 48, 48, 32, 97, 102, 116, 101, 114, 32, 49, 50, 10]⟩) = some exPol := by rw [← ex_text]; exact parse_format (by decide)

theorem example_calls (w : World) : Calls Tryd.prog 27 #[] w (fun e w' => e = .returned (.string ⟨#[108, 101, 118, 101, 108, 32, 49, 32, 47, 32, 50, 48, 10, 109, 97, 114, 103, 105, 110, 32, 48, 10, 115, 116, 97, 103, 101, 32, 53, 32, 97, 102, 116, 101, 114, 32, 54, 10, 115, 116, 97, 103, 101, 32, 49, 48, 48, 32, 97, 102, 116, 101, 114, 32, 49, 50, 10]⟩) ∧ w = w') := by
  go_enter Tryd.func27, Tryd.ntmps27
  go_wp2
  go_ret
  exact ⟨rfl, rfl⟩

theorem bl_inj {a b : ByteArray} (h : bl a = bl b) : a = b := by
  cases a; cases b
  simp only [bl, Array.toList_inj] at h
  rw [h]

set_option maxRecDepth 100000 in
set_option maxHeartbeats 4000000 in
theorem awake_calls (w : World) (hE : Env w) (h6 : 6 ≤ w.heap.size) : Calls Tryd.prog 9 #[] w (Gives None (.bool true) w) := by
  have HE := Lib.hid hE
  clear hE
  go_enter Tryd.func9, Tryd.ntmps9
  go_upto_region 2 with (first
    | (go_at_call 27; refine (example_calls _).mono ?_; rintro e w1 ⟨rfl, hw⟩; subst w1)
    | (go_at_call 13; refine (parse_calls _ w HE.out h6 (by decide)).mono ?_; rintro e w2 ⟨a, c, p, n, err, rfl, hpa, hfr, hk, hm⟩; rw [ex_parse] at hm; obtain ⟨rfl, rfl, rfl⟩ := hm; have HPA := Lib.hid hpa; have HK := Lib.hid hk; clear hpa hfr hk; unfold polVal))
  generalize hw3 : World.alloc _ _ = w3
  have hk3 : Keep None w2 w3 := by rw [← hw3]; exact (Keep.refl _ _).alloc _
  have ho3 : w3.heap[w2.heap.size]? = some (.cells #[.slice a exPol.st.length c, .int .i64 exPol.num, .int .i64 exPol.den, .int .i64 exPol.margin] 30 (0, 0)) := by rw [← hw3]; exact heap_alloc_new _ _
  clear hw3
  have HPA3 := Lib.hid (HPA.out.still hk3)
  have HK3 := Lib.hid (HK.out.trans hk3)
  have HO3 := Lib.hid ho3
  have h63 : 6 ≤ w3.heap.size := by have := HK3.out.size; omega
  have HE3 := Lib.hid (HE.out.still HK3.out)
  obtain ⟨b, off, rfl, hsl⟩ : ∃ b off, a = some ⟨b, off, none⟩ ∧ SlAt stEnc 2 w3 b off exPol.st := by
    rcases HPA3.out.st with h | h
    · cases h
    · exact h
  have HSL := Lib.hid hsl
  clear HPA hk3 ho3 hsl
  go_upto_region 3 with (first
    | ((with_reducible (show wpList _ _ _ (⟨some 13, .load 30 _, _, _, _, none⟩ :: _) _ _)); refine wpList_loadEl (enc := listEnc) (size := 4) rfl 30 _ rfl _ _ rfl [.slice (some ⟨b, off, none⟩) exPol.st.length c, .int .i64 exPol.num, .int .i64 exPol.den, .int .i64 exPol.margin] _ (range_of_obj HO3.out) rfl Tryd.underlying30 rfl Tryd.sizePolicy (.agg #[.slice (some ⟨b, off, none⟩) exPol.st.length c, .int .i64 exPol.num, .int .i64 exPol.den, .int .i64 exPol.margin]) rfl ?_)
    | (go_at_call 12; refine (format_calls _ c exPol w3 HE3.out h63 HPA3.out).mono ?_; rintro e w4 ⟨s, err, rfl, hk4, hf⟩; rw [if_pos (by decide)] at hf; obtain ⟨hf1, rfl⟩ := hf; have hs : s = ⟨#[108, 101, 118, 101, 108, 32, 49, 32, 47, 32, 50, 48, 10, 109, 97, 114, 103, 105, 110, 32, 48, 10, 115, 116, 97, 103, 101, 32, 53, 32, 97, 102, 116, 101, 114, 32, 54, 10, 115, 116, 97, 103, 101, 32, 49, 48, 48, 32, 97, 102, 116, 101, 114, 32, 49, 50, 10]⟩ := bl_inj (hf1.trans ex_text); subst hs; clear hf1; have HK4 := Lib.hid hk4; clear hk4))
  have q0 : w4.cell? ⟨w2.heap.size, 0, none⟩ = some (.slice (some ⟨b, off, none⟩) 2 c) := cell_of_row _ _ 0 _ _ _ (HK4.out.obj HO3.out id)
  have q1 : w4.cell? ⟨b, off + 2, none⟩ = some (.int .i64 100) := by have := (HSL.out.keep HK4.out id) 1 (100, 12) rfl 0 _ rfl; simpa using this
  go_wp2_with (go_at_call 27; refine (example_calls _).mono ?_; rintro e w5 ⟨rfl, hw⟩; subst w5)
  go_ret
  exact ⟨rfl, HK3.out.trans HK4.out⟩

end Go.Proofs.YtgelfefoiplekaaDoor
