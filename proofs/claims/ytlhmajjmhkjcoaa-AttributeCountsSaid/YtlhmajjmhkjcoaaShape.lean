/-
  The shape of an image.
-/
import Derived.Test.YtlhmajjmhkjcoaaImg
namespace Go.Proofs.Ytlhmajjmhkjcoaa
open Go.RowKit

def shapeStep (n : Nat) (out : List Int) (p : Pl) : List Int :=
  if knownB n p then out.set p.func.toNat (if (out[p.func.toNat]?).getD 0 < p.block + 1 then p.block + 1 else (out[p.func.toNat]?).getD 0) else out
def shapeL (n : Nat) (ps : List Pl) : List Int := ps.foldl (shapeStep n) (List.replicate n 0)

theorem shapeStep_len (n : Nat) (out : List Int) (p : Pl) : (shapeStep n out p).length = out.length := by unfold shapeStep; split <;> simp
theorem shapeFold_len (n : Nat) (ps : List Pl) : ∀ out : List Int, (ps.foldl (shapeStep n) out).length = out.length := by
  induction ps with
  | nil => intro out; rfl
  | cons p r ih => intro out; simp [ih, shapeStep_len]
theorem shapeL_len (n : Nat) (ps : List Pl) : (shapeL n ps).length = n := by simp [shapeL, shapeFold_len]

theorem known_bd {n : Nat} {f b q s : Int} (h : knownB n ⟨f, b, q, s⟩ = true) : 0 ≤ f ∧ f < n ∧ 0 ≤ b ∧ b < 256 := by
  simpa [knownB] using h

def IntsPost (l : List Int) (w : World) (e : Ending) (w' : World) : Prop :=
  ∃ p cap, e = .returned (.slice p l.length cap) ∧ SliceV intEnc 1 w' p l ∧ Keep None w w' ∧ From w.heap.size p

def ShapeInv (n g : Nat) (ps : List Pl) (w0 : World) (i : Value) (w : World) : Prop :=
  ∃ k : Nat, i = .int .i64 k ∧ k ≤ ps.length ∧ Arr intEnc 3 w g ((ps.take k).foldl (shapeStep n) (List.replicate n 0)) ∧ Keep (· = g) w0 w

theorem shape_take {n : Nat} {ps : List Pl} {k : Nat} {p : Pl} (hp : ps[k]? = some p) (x : List Int) : (ps.take (k + 1)).foldl (shapeStep n) x = shapeStep n ((ps.take k).foldl (shapeStep n) x) p := by
  rw [List.take_add_one, hp]; simp

set_option maxRecDepth 100000 in
set_option maxHeartbeats 2000000 in
theorem shape_calls (v : Value) (n : Nat) (ps : List Pl) (w : World) (h : ImgV w v n ps) :
    Calls Try.prog 36 #[v] w (IntsPost (shapeL n ps) w) := by
  obtain ⟨⟨p0, n0, c0, p1, c1, p2, n2, c2, p3, n3, c3, k4, k5, p6, n6, c6, p7, c7, rfl, hs⟩, ln, lp, hok⟩ := h
  obtain ⟨i2, hi2, hv0, hv1, hv2⟩ := info_parts Try.infoInt
  go_enter Try.func36, Try.ntmps36
  go_wp2_with (at_make; refine wpList_makeArr (enc := intEnc) _ rfl _ _ 25 rfl 3 i2 _ 8 Try.underlying25 hi2 hv0 hv1 hv2 (0 : Int) intEnc_len rfl (by decide) _ _ _ _ n rfl rfl (by simp) (by simp) (by omega) (by omega) ?_; intro w1 harr hk1 hsz; have c7' : w1.cell? ⟨w.heap.size, 7, none⟩ = some (.slice p7 ps.length c7) := hk1.cell (by simp) id; have HBX := Lib.hid (hk1.obj (heap_alloc_new _ _) id); have HARR := Lib.hid harr; have HK0 := Lib.hid (((Keep.refl None w).alloc _).trans hk1); clear harr hk1 hsz)
  go_loopw [13] (ShapeInv n (w.heap.size + 1) ps w1) (fun i _ => ps.length - (intOf i).toNat)
  case atStart => exact ⟨0, rfl, by omega, by simpa using HARR.out, Keep.refl _ _⟩
  case round =>
    obtain ⟨k, rfl, hk, ha, hkp⟩ := hrel
    have HA := Lib.hid ha
    have HKP := Lib.hid hkp
    clear ha hkp
    by_cases hlt : k < ps.length
    · obtain ⟨p, hp⟩ : ∃ p, ps[k]? = some p := ⟨ps[k], by simp [hlt]⟩
      obtain ⟨f, b, q, s⟩ := p
      rcases hs with h | ⟨bd, off, rfl, h⟩
      · subst h; simp at hlt
      have hbd : bd < w.heap.size := World.block_lt_of_cell? w _ (h k _ hp 0 _ rfl)
      have HC : Hid _ := Lib.hid (((h.keep HK0.out id).keep HKP.out (by omega)).range hp)
      have HI : Hid _ := Lib.hid (fun o => range_of_obj (((Keep.refl None wr).alloc o).obj (HKP.out.obj HBX.out (by omega)) id))
      have HP : Hid _ := Lib.hid hp
      have HT := Lib.hid (shape_take (n := n) hp (List.replicate n 0))
      clear h hp
      cases hkn : knownB n ⟨f, b, q, s⟩ with
      | true =>
        have HN := Lib.hid hkn
        clear hkn
        go_wp2_with (first
          | (with_reducible (show wpList _ _ _ (⟨_, .load 65 _, _, _, _, none⟩ :: _) _ _); refine wpList_loadEl rfl 65 _ rfl _ _ rfl _ _ HC.out (Pl.enc_len _) Try.underlying65 rfl Try.sizePl (.agg #[.int .i64 f, .int .i64 b, .int .i64 q, .int .i64 s]) rfl ?_)
          | (with_reducible (show wpList _ _ _ (⟨_, .load 29 _, _, _, _, none⟩ :: _) _ _); refine wpList_loadEl (enc := listEnc) (size := 8) rfl 29 _ rfl _ _ rfl _ _ (HI.out _) rfl Try.underlying29 rfl Try.sizeImg (.agg #[.slice p0 n0 c0, .slice p1 n c1, .slice p2 n2 c2, .slice p3 n3 c3, .int .i64 k4, .int .i64 k5, .slice p6 n6 c6, .slice (some ⟨bd, off, none⟩) ps.length c7]) rfl ?_)
          | (go_at_call 22; refine (known_calls _).mono ?_; rintro e w' ⟨rfl, hk1⟩; rw [HN.out]; have e0 : w'.cell? ⟨wr.heap.size, 0, none⟩ = some (.int .i64 f) := hk1.cell (by simp) id; have e1 : w'.cell? ⟨wr.heap.size, 1, none⟩ = some (.int .i64 b) := hk1.cell (by simp) id; have HK2 := Lib.hid hk1; clear hk1))
        have hkb := known_bd HN.out
        obtain ⟨hf0, hf1, hb0, hb1⟩ := hkb
        obtain ⟨F, rfl⟩ : ∃ F : Nat, f = F := ⟨f.toNat, by omega⟩
        have hlen : ((ps.take k).foldl (shapeStep n) (List.replicate n 0)).length = n := by simp [shapeFold_len]
        generalize hout : (ps.take k).foldl (shapeStep n) (List.replicate n 0) = out at *
        obtain ⟨x, hx⟩ : ∃ x, out[F]? = some x := ⟨out[F]'(by omega), List.getElem?_eq_getElem _⟩
        have hkd : Keep None wr (World.drew w') := (((Keep.refl _ _).alloc _).trans HK2.out).drew
        have HAD := Lib.hid (HA.out.keep hkd id)
        have HKD := Lib.hid hkd
        have hxc : (World.drew w').cell? ⟨w.heap.size + 1, F, none⟩ = some (.int .i64 x) := by
          have := HAD.out.range intEnc_len hx 0 _ rfl
          simpa using this
        have hfz : (World.drew w').frozen? ⟨w.heap.size + 1, F, none⟩ = false := by
          have := (HAD.out.there intEnc_len (i := F) (by omega) 0 (by omega)).2
          simpa using this
        have e0' : (World.drew w').cell? ⟨wr.heap.size, 0, none⟩ = some (.int .i64 (F : Int)) := e0
        have e1' : (World.drew w').cell? ⟨wr.heap.size, 1, none⟩ = some (.int .i64 b) := e1
        have HLEN := Lib.hid hlen
        have HX := Lib.hid hx
        have HOUT := Lib.hid hout
        clear hout hlen hx hkd e0 e1
        refine region_tail 12 (by kernel_rfl) (by kernel_rfl) ?_
        simp only [List.take_succ_cons, List.take_zero, List.drop_succ_cons, List.drop_zero]
        generalize World.drew w' = wd at *
        repeat still_step
        refine wpStill_nil ?_
        go_wp2_with (fail)
        go_roundw
        case rel =>
          have hset := HAD.out.setField (size := 1) intEnc_len HX.out (j := 0) (by omega) (v := .int .i64 (if x < b + 1 then b + 1 else x)) (c := if x < b + 1 then b + 1 else x) rfl
          simp only [Nat.mul_one, Nat.add_zero] at hset
          refine ⟨k + 1, by go_num, by omega, ?_, ?_⟩
          · rw [HT.out, shapeStep, HN.out]
            simp only [if_true, Int.toNat_natCast, HX.out, Option.getD_some]
            exact hset
          · exact (HKP.out.trans (HKD.out.weaken (fun _ _ q => q.elim))).setCell (p := ⟨w.heap.size + 1, F, none⟩) (.inl rfl) _
        case measure => simp [intOf]; omega
      | false =>
        have HN := Lib.hid hkn
        clear hkn
        go_wp2_with (first
          | (with_reducible (show wpList _ _ _ (⟨_, .load 65 _, _, _, _, none⟩ :: _) _ _); refine wpList_loadEl rfl 65 _ rfl _ _ rfl _ _ HC.out (Pl.enc_len _) Try.underlying65 rfl Try.sizePl (.agg #[.int .i64 f, .int .i64 b, .int .i64 q, .int .i64 s]) rfl ?_)
          | (with_reducible (show wpList _ _ _ (⟨_, .load 29 _, _, _, _, none⟩ :: _) _ _); refine wpList_loadEl (enc := listEnc) (size := 8) rfl 29 _ rfl _ _ rfl _ _ (HI.out _) rfl Try.underlying29 rfl Try.sizeImg (.agg #[.slice p0 n0 c0, .slice p1 n c1, .slice p2 n2 c2, .slice p3 n3 c3, .int .i64 k4, .int .i64 k5, .slice p6 n6 c6, .slice (some ⟨bd, off, none⟩) ps.length c7]) rfl ?_)
          | (go_at_call 22; refine (known_calls _).mono ?_; rintro e w' ⟨rfl, hk1⟩; rw [HN.out]; have e0 : w'.cell? ⟨wr.heap.size, 0, none⟩ = some (.int .i64 f) := hk1.cell (by simp) id; have e1 : w'.cell? ⟨wr.heap.size, 1, none⟩ = some (.int .i64 b) := hk1.cell (by simp) id; have HK2 := Lib.hid hk1; clear hk1))
        go_roundw
        case rel => exact ⟨k + 1, by go_num, by omega, by rw [HT.out, shapeStep, HN.out]; exact HA.out.keep (S := None) (((Keep.refl _ _).alloc _).trans HK2.out) id, (HKP.out.trans ((Keep.refl _ _).alloc _)).trans (HK2.out.weaken (fun _ _ q => q.elim))⟩
        case measure => simp [intOf]; omega
    · have hke : k = ps.length := by omega
      subst hke
      have ha := HA.out
      rw [List.take_length] at ha
      have HAA := Lib.hid ha
      clear ha
      go_wp2
      go_ret
      refine ⟨some ⟨w.heap.size + 1, 0, none⟩, n, by rw [shapeL_len]; rfl, .inr ⟨_, 0, rfl, HAA.out.slAt intEnc_len⟩, HK0.out.andThen HKP.out (by intro x q1 q2; omega), ?_⟩
      intro a ha
      cases ha
      simp

end Go.Proofs.Ytlhmajjmhkjcoaa
