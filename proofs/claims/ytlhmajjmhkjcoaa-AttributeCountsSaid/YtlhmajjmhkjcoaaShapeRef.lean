/-
  The shape of an image, by the reference.
-/
import Derived.Test.YtlhmajjmhkjcoaaShape
import Derived.Test.YtlhmajjmhkjcoaaImgRef
import Derived.Test.YtlhmajjmhkjcoaaRegDep
namespace Go.Proofs.Ytlhmajjmhkjcoaa
open Go.RowKit

theorem set_self {α : Type} {l : List α} {i : Nat} {x : α} (h : l[i]? = some x) : l.set i x = l := by
  apply List.ext_getElem?
  intro j
  by_cases hj : i = j
  · subst hj
    rw [h]
    have := (List.getElem?_eq_some_iff.1 h).1
    simp [this]
  · rw [List.getElem?_set_ne hj]

set_option maxRecDepth 100000 in
set_option maxHeartbeats 2000000 in
theorem refShape_calls (v : Value) (n : Nat) (ps : List Pl) (w : World) (h : ImgV w v n ps) :
    Calls Try.prog 40 #[v] w (IntsPost (shapeL n ps) w) := by
  obtain ⟨⟨p0, n0, c0, p1, c1, p2, n2, c2, p3, n3, c3, k4, k5, p6, n6, c6, p7, c7, rfl, hs⟩, ln, lp, hok⟩ := h
  obtain ⟨i2, hi2, hv0, hv1, hv2⟩ := info_parts Try.infoInt
  go_enter Try.func40, Try.ntmps40
  go_wp2_with (at_make; refine wpList_makeArr (enc := intEnc) _ rfl _ _ 25 rfl 3 i2 _ 8 Try.underlying25 hi2 hv0 hv1 hv2 (0 : Int) intEnc_len rfl (by decide) _ _ _ _ n rfl rfl (by simp) (by simp) (by omega) (by omega) ?_; intro w1 harr hk1 hsz; have HBX := Lib.hid (hk1.obj (heap_alloc_new _ _) id); have HARR := Lib.hid harr; have HK0 := Lib.hid (((Keep.refl None w).alloc _).trans hk1); clear harr hk1 hsz)
  go_loopw [4] (ShapeInv n (w.heap.size + 1) ps w1) (fun i _ => ps.length - (intOf i).toNat)
  case atStart => exact ⟨0, rfl, by omega, by simpa using HARR.out, Keep.refl _ _⟩
  case round =>
    obtain ⟨k, rfl, hk, ha, hkp⟩ := hrel
    have HA := Lib.hid ha
    have HKP := Lib.hid hkp
    have c7' : wr.cell? ⟨w.heap.size, 7, none⟩ = some (.slice p7 ps.length c7) := by simp [World.cell?, hkp.obj HBX.out (by omega)]
    clear ha hkp
    by_cases hlt : k < ps.length
    · obtain ⟨p, hp⟩ : ∃ p, ps[k]? = some p := ⟨ps[k], by simp [hlt]⟩
      obtain ⟨f, b, q, s⟩ := p
      rcases hs with h | ⟨bd, off, rfl, h⟩
      · subst h; simp at hlt
      have hbd : bd < w.heap.size := World.block_lt_of_cell? w _ (h k _ hp 0 _ rfl)
      have HC : Hid _ := Lib.hid (((h.keep HK0.out id).keep HKP.out (by omega)).range hp)
      have HP : Hid _ := Lib.hid hp
      have HT := Lib.hid (shape_take (n := n) hp (List.replicate n 0))
      have hlen : ((ps.take k).foldl (shapeStep n) (List.replicate n 0)).length = n := by simp [shapeFold_len]
      have HLEN := Lib.hid hlen
      clear h hp hlen
      generalize hout : (ps.take k).foldl (shapeStep n) (List.replicate n 0) = out at *
      clear hout
      go_wp2_with (with_reducible (show wpList _ _ _ (⟨_, .load 65 _, _, _, _, none⟩ :: _) _ _); refine wpList_loadEl rfl 65 _ rfl _ _ rfl _ _ HC.out (Pl.enc_len _) Try.underlying65 rfl Try.sizePl (.agg #[.int .i64 f, .int .i64 b, .int .i64 q, .int .i64 s]) rfl ?_)
      generalize hW : wr.alloc _ = wb
      have hkb : Keep None wr wb := by rw [← hW]; exact (Keep.refl _ _).alloc _
      have hPB : wb.heap[wr.heap.size]? = some (.cells #[.int .i64 f, .int .i64 b, .int .i64 q, .int .i64 s] 65 (0, 0)) := by rw [← hW]; exact heap_alloc_new _ _
      have hIB := hkb.obj (HKP.out.obj HBX.out (by omega)) id
      have hRB := HA.out.keep hkb id
      have HKB := Lib.hid hkb
      have HPB := Lib.hid hPB
      have HIB := Lib.hid hIB
      have HRB := Lib.hid hRB
      clear hW hkb hPB hIB hRB c7'
      cases hkn : knownB n ⟨f, b, q, s⟩ with
      | true =>
        have HN := Lib.hid hkn
        obtain ⟨hf0, hf1, hb0, hb1⟩ := known_bd hkn
        clear hkn
        obtain ⟨F, rfl⟩ : ∃ F : Nat, f = F := ⟨f.toNat, by omega⟩
        have hlen := HLEN.out
        obtain ⟨x, hx⟩ : ∃ x, out[F]? = some x := ⟨out[F]'(by omega), List.getElem?_eq_getElem _⟩
        have HX := Lib.hid hx
        have hFn : F < n := by omega
        clear hx hlen
        have cellsI : Hid (∀ w', Keep None wb w' → w'.cell? ⟨wr.heap.size, 0, none⟩ = some (.int .i64 (F : Int)) ∧ w'.cell? ⟨wr.heap.size, 1, none⟩ = some (.int .i64 b) ∧ w'.cell? ⟨w.heap.size + 1, F, none⟩ = some (.int .i64 x)) := Lib.hid (fun w' hI => by
          have h1 := hI.obj HPB.out id
          have h2 := (HRB.out.keep hI id).range intEnc_len HX.out 0 _ rfl
          exact ⟨by simp [World.cell?, h1], by simp [World.cell?, h1], by simpa using h2⟩)
        refine region_kindsG None [.is (.agg #[.slice p0 n0 c0, .slice p1 n c1, .slice p2 n2 c2, .slice p3 n3 c3, .int .i64 k4, .int .i64 k5, .slice p6 n6 c6, .slice (some ⟨bd, off, none⟩) ps.length c7]), .is (.agg #[.int .i64 (F : Int), .int .i64 b, .int .i64 q, .int .i64 s]), .is (.bool true), .is (.bool true), .is (.pointer (some ⟨wr.heap.size, 1, none⟩)), .is (.int .i64 b), .is (.slice (some ⟨w.heap.size + 1, 0, none⟩) n n), .is (.pointer (some ⟨wr.heap.size, 0, none⟩)), .is (.int .i64 (F : Int)), .is (.pointer (some ⟨w.heap.size + 1, F, none⟩)), .is (.int .i64 x), .is (.bool (decide (x ≤ b))), .is (.bool (decide (x ≤ b)))]
          (fun w' => Keep None wb w') 43 (by kernel_rfl) (by kernel_rfl) rfl (by kernel_rfl) ((Keep.refl _ _).drew) ?_ ?_
        · refine ⟨?_, ?_, ?_, ?_, ?_, ?_, ?_, ?_, ?_, ?_, ?_, ?_, ?_, trivial⟩
          · exact st_free rfl (st_loadD 29 w.heap.size 0 [.slice p0 n0 c0, .slice p1 n c1, .slice p2 n2 c2, .slice p3 n3 c3, .int .i64 k4, .int .i64 k5, .slice p6 n6 c6, .slice (some ⟨bd, off, none⟩) ps.length c7] rfl (dep_f rfl rfl) (fun w' hI => range_of_obj (hI.obj HIB.out id)) _ Try.underlying29 rfl 8 Try.sizeImg rfl rfl)
          · exact st_free rfl (st_loadD 65 wr.heap.size 0 [.int .i64 (F : Int), .int .i64 b, .int .i64 q, .int .i64 s] rfl (dep_f rfl rfl) (fun w' hI => range_of_obj (hI.obj HPB.out id)) _ Try.underlying65 rfl 4 Try.sizePl rfl rfl)
          · refine st_free rfl (st_callD2 (dep_e 0 rfl rfl rfl) (dep_e 1 rfl rfl rfl) 23 #[.agg #[.slice p0 n0 c0, .slice p1 n c1, .slice p2 n2 c2, .slice p3 n3 c3, .int .i64 k4, .int .i64 k5, .slice p6 n6 c6, .slice (some ⟨bd, off, none⟩) ps.length c7], .agg #[.int .i64 (F : Int), .int .i64 b, .int .i64 q, .int .i64 s]] (by intro a w' h1 h2; go_simp) ?_)
            intro w' hI
            refine (place_calls w').mono ?_
            rintro e w'' ⟨rfl, hk''⟩
            exact ⟨_, rfl, by show Value.bool _ = _; rw [HN.out], hI.trans hk'', hk''⟩
          · exact st_free rfl (st_ev1 (dep_e 2 rfl rfl rfl) _ (by intro a w' h1 hI; go_simp) rfl)
          · exact st_on 3 25 true rfl rfl rfl rfl (st_ev1 (dep_f (t := 5) rfl rfl) _ (by intro a w' h1 hI; go_simp) rfl)
          · exact st_on 3 25 true rfl rfl rfl rfl (st_ev1 (dep_e 4 rfl rfl rfl) _ (by intro a w' h1 hI; obtain ⟨q1, q2, q3⟩ := cellsI.out _ hI; go_simp) rfl)
          · exact st_on 3 25 true rfl rfl rfl rfl (st_ev1 (dep_f (t := 3) rfl rfl) _ (by intro a w' h1 hI; go_simp) rfl)
          · exact st_on 3 25 true rfl rfl rfl rfl (st_ev1 (dep_f (t := 5) rfl rfl) _ (by intro a w' h1 hI; go_simp) rfl)
          · exact st_on 3 25 true rfl rfl rfl rfl (st_ev1 (dep_e 7 rfl rfl rfl) _ (by intro a w' h1 hI; obtain ⟨q1, q2, q3⟩ := cellsI.out _ hI; go_simp) rfl)
          · exact st_on 3 25 true rfl rfl rfl rfl (st_ev2 (dep_e 6 rfl rfl rfl) (dep_e 8 rfl rfl rfl) _ (by intro a w' h1 h2 hI; go_simp) rfl)
          · exact st_on 3 25 true rfl rfl rfl rfl (st_ev1 (dep_e 9 rfl rfl rfl) _ (by intro a w' h1 hI; obtain ⟨q1, q2, q3⟩ := cellsI.out _ hI; go_simp) rfl)
          · exact st_on 3 25 true rfl rfl rfl rfl (st_ev2 (dep_e 5 rfl rfl rfl) (dep_e 10 rfl rfl rfl) _ (by intro a w' h1 h2 hI; go_simp) rfl)
          · exact st_free rfl (st_ev2 (dep_e 3 rfl rfl rfl) (dep_e 11 rfl rfl rfl) _ (by intro a w' h1 h2 hI; go_simp) rfl)
        · intro g w' hkinds hI
          have k34 : g 34 = .bool (decide (x ≤ b)) := hkinds 12 _ 34 rfl rfl
          simp only [putsOf, Act.put, List.setIfInBounds_toArray, List.set_cons_zero, List.set_cons_succ, k34]
          clear hkinds k34
          obtain ⟨q1, q2, q3⟩ := cellsI.out _ hI
          have hfz : w'.frozen? ⟨w.heap.size + 1, F, none⟩ = false := by
            have := ((HRB.out.keep hI id).there intEnc_len (i := F) (by have := HLEN.out; omega) 0 (by omega)).2
            simpa using this
          have HI := Lib.hid hI
          clear hI
          by_cases hxb : x ≤ b
          · go_wp2_with (fail)
            go_roundw
            case rel =>
              have hset := (HRB.out.keep HI.out id).setField (size := 1) intEnc_len HX.out (j := 0) (by omega) (v := .int .i64 (b + 1)) (c := b + 1) rfl
              simp only [Nat.mul_one, Nat.add_zero] at hset
              refine ⟨k + 1, by go_num, by omega, ?_, ?_⟩
              · rw [HT.out, shapeStep, HN.out]
                simp only [if_true, Int.toNat_natCast, HX.out, Option.getD_some]
                rw [if_pos (by omega)]
                exact hset
              · exact (HKP.out.trans ((HKB.out.trans HI.out).weaken (fun _ _ q => q.elim))).setCell (p := ⟨w.heap.size + 1, F, none⟩) (.inl rfl) _
            case measure => simp [intOf]; omega
          · have hnb : decide (x ≤ b) = false := by simpa using hxb
            go_wp2_with (fail)
            go_roundw
            case rel =>
              refine ⟨k + 1, by go_num, by omega, ?_, HKP.out.trans ((HKB.out.trans HI.out).weaken (fun _ _ q => q.elim))⟩
              rw [HT.out, shapeStep, HN.out]
              simp only [if_true, Int.toNat_natCast, HX.out, Option.getD_some]
              rw [if_neg (by omega)]
              rw [set_self HX.out]
              exact HRB.out.keep HI.out id
            case measure => simp [intOf]; omega
      | false =>
        have HN := Lib.hid hkn
        clear hkn
        refine region_kindsG None [.is (.agg #[.slice p0 n0 c0, .slice p1 n c1, .slice p2 n2 c2, .slice p3 n3 c3, .int .i64 k4, .int .i64 k5, .slice p6 n6 c6, .slice (some ⟨bd, off, none⟩) ps.length c7]), .is (.agg #[.int .i64 f, .int .i64 b, .int .i64 q, .int .i64 s]), .is (.bool false), .is (.bool false), .is undef, .is undef, .is undef, .is undef, .is undef, .is undef, .is undef, .is undef, .is (.bool false)]
          (fun w' => Keep None wb w') 43 (by kernel_rfl) (by kernel_rfl) rfl (by kernel_rfl) ((Keep.refl _ _).drew) ?_ ?_
        · refine ⟨?_, ?_, ?_, ?_, ?_, ?_, ?_, ?_, ?_, ?_, ?_, ?_, ?_, trivial⟩
          · exact st_free rfl (st_loadD 29 w.heap.size 0 [.slice p0 n0 c0, .slice p1 n c1, .slice p2 n2 c2, .slice p3 n3 c3, .int .i64 k4, .int .i64 k5, .slice p6 n6 c6, .slice (some ⟨bd, off, none⟩) ps.length c7] rfl (dep_f rfl rfl) (fun w' hI => range_of_obj (hI.obj HIB.out id)) _ Try.underlying29 rfl 8 Try.sizeImg rfl rfl)
          · exact st_free rfl (st_loadD 65 wr.heap.size 0 [.int .i64 f, .int .i64 b, .int .i64 q, .int .i64 s] rfl (dep_f rfl rfl) (fun w' hI => range_of_obj (hI.obj HPB.out id)) _ Try.underlying65 rfl 4 Try.sizePl rfl rfl)
          · refine st_free rfl (st_callD2 (dep_e 0 rfl rfl rfl) (dep_e 1 rfl rfl rfl) 23 #[.agg #[.slice p0 n0 c0, .slice p1 n c1, .slice p2 n2 c2, .slice p3 n3 c3, .int .i64 k4, .int .i64 k5, .slice p6 n6 c6, .slice (some ⟨bd, off, none⟩) ps.length c7], .agg #[.int .i64 f, .int .i64 b, .int .i64 q, .int .i64 s]] (by intro a w' h1 h2; go_simp) ?_)
            intro w' hI
            refine (place_calls w').mono ?_
            rintro e w'' ⟨rfl, hk''⟩
            exact ⟨_, rfl, by show Value.bool _ = _; rw [HN.out], hI.trans hk'', hk''⟩
          · exact st_free rfl (st_ev1 (dep_e 2 rfl rfl rfl) _ (by intro a w' h1 hI; go_simp) rfl)
          · exact st_off 3 25 true false rfl rfl rfl rfl (by simp) rfl
          · exact st_off 3 25 true false rfl rfl rfl rfl (by simp) rfl
          · exact st_off 3 25 true false rfl rfl rfl rfl (by simp) rfl
          · exact st_off 3 25 true false rfl rfl rfl rfl (by simp) rfl
          · exact st_off 3 25 true false rfl rfl rfl rfl (by simp) rfl
          · exact st_off 3 25 true false rfl rfl rfl rfl (by simp) rfl
          · exact st_off 3 25 true false rfl rfl rfl rfl (by simp) rfl
          · exact st_off 3 25 true false rfl rfl rfl rfl (by simp) rfl
          · exact st_free rfl (st_ev2 (dep_e 3 rfl rfl rfl) (dep_e 11 rfl rfl rfl) _ (by intro a w' h1 h2 hI; go_simp) rfl)
        · intro g w' hkinds hI
          have k34 : g 34 = .bool false := hkinds 12 _ 34 rfl rfl
          simp only [putsOf, Act.put, List.setIfInBounds_toArray, List.set_cons_zero, List.set_cons_succ, k34]
          have HI := Lib.hid hI
          clear hkinds k34 hI
          go_wp2_with (fail)
          go_roundw
          case rel =>
            refine ⟨k + 1, by go_num, by omega, ?_, HKP.out.trans ((HKB.out.trans HI.out).weaken (fun _ _ q => q.elim))⟩
            rw [HT.out, shapeStep, HN.out]
            exact HRB.out.keep HI.out id
          case measure => simp [intOf]; omega
    · have hke : k = ps.length := by omega
      subst hke
      have ha := HA.out
      rw [List.take_length] at ha
      have HAA := Lib.hid ha
      clear ha
      go_wp2
      go_ret
      refine ⟨some ⟨w.heap.size + 1, 0, none⟩, n, by rw [shapeL_len]; rfl, .inr ⟨_, 0, rfl, HAA.out.slAt intEnc_len⟩, HK0.out.andThen HKP.out (by intro x q1 q2; omega), ?_⟩
      intro a ha
      cases ha
      simp

end Go.Proofs.Ytlhmajjmhkjcoaa
