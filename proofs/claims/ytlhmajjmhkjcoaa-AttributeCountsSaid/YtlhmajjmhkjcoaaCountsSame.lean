/-
  Chapter 23: equal counts are the same.
-/
import Derived.Test.YtlhmajjmhkjcoaaCountsLaw
namespace Go.Proofs.Ytlhmajjmhkjcoaa
open Go.RowKit

theorem Try.sizeFc : (Try.prog.info? 88).map (·.size) = some 4 := by kernel_rfl

def UpTo2 (n : Nat) (w0 : World) (i : Value) (w : World) : Prop := ∃ k : Nat, i = .int .i64 k ∧ k ≤ n ∧ Keep None w0 w

set_option maxRecDepth 100000 in
set_option maxHeartbeats 4000000 in
theorem ints_calls (p q : Option Addr) (c d : Nat) (l : List Int) (w : World) (h1 : SliceV intEnc 1 w p l) (h2 : SliceV intEnc 1 w q l) (hl : l.length ≤ maxLen) :
    Calls Try.prog 55 #[.slice p l.length c, .slice q l.length d] w (Gives None (.bool true) w) := by
  unfold maxLen at hl
  have H1 := Lib.hid h1
  have H2 := Lib.hid h2
  clear h1 h2
  go_enter Try.func55, Try.ntmps55
  go_wp2_with (fail)
  go_loopw [5] (UpTo2 l.length w) (fun i _ => l.length - (intOf i).toNat)
  case atStart => exact ⟨0, rfl, by omega, Keep.refl _ _⟩
  case round =>
    obtain ⟨k, rfl, hk, hkp⟩ := hrel
    have HKP := Lib.hid hkp
    clear hkp
    by_cases hlt : k < l.length
    · obtain ⟨x, hx⟩ : ∃ x, l[k]? = some x := ⟨l[k], by simp [hlt]⟩
      obtain ⟨b, o, rfl, e1⟩ : ∃ b o, p = some ⟨b, o, none⟩ ∧ wr.cell? ⟨b, o + k, none⟩ = some (.int .i64 x) := by
        rcases H1.out.keep HKP.out (fun _ _ => id) with h | ⟨b, o, he, h⟩
        · subst h; simp at hlt
        · exact ⟨b, o, he, h.int hx⟩
      obtain ⟨b', o', rfl, e2⟩ : ∃ b o, q = some ⟨b, o, none⟩ ∧ wr.cell? ⟨b, o + k, none⟩ = some (.int .i64 x) := by
        rcases H2.out.keep HKP.out (fun _ _ => id) with h | ⟨b, o, he, h⟩
        · subst h; simp at hlt
        · exact ⟨b, o, he, h.int hx⟩
      have hki : (k : Int) < l.length := by omega
      clear hx
      go_wp2_with (fail)
      go_quiet (fail)
      go_wp2_with (fail)
      go_roundw
      case rel => exact ⟨k + 1, by go_num, by omega, HKP.out.drewN _⟩
      case measure => simp [intOf]; omega
    · have hke : k = l.length := by omega
      subst hke
      go_wp2_with (fail)
      go_ret
      exact ⟨rfl, HKP.out⟩

set_option maxRecDepth 100000 in
set_option maxHeartbeats 4000000 in
theorem sites_calls (w : World) : Calls Try.prog 56 #[.slice none 0 0, .slice none 0 0] w (Gives None (.bool true) w) := by
  go_enter Try.func56, Try.ntmps56
  go_wp2_with (fail)
  go_loopw [5] (UpTo2 0 w) (fun i _ => 0)
  case atStart => exact ⟨0, rfl, by omega, Keep.refl _ _⟩
  case round =>
    obtain ⟨k, rfl, hk, hkp⟩ := hrel
    obtain rfl : k = 0 := by omega
    have HKP := Lib.hid hkp
    clear hkp
    go_wp2_with (fail)
    go_ret
    exact ⟨rfl, HKP.out⟩

set_option maxRecDepth 100000 in
set_option maxHeartbeats 8000000 in
theorem sameFc_calls (f g : FCv) (w : World) (hfg : f.fc = g.fc) (h1 : SliceV intEnc 1 w f.pb f.bl) (h2 : SliceV intEnc 1 w g.pb g.bl) (h3 : SliceV edgeEnc 2 w f.pe (ones f.bl.length)) (h4 : SliceV edgeEnc 2 w g.pe (ones g.bl.length)) (hl : f.bl.length ≤ maxLen) :
    Calls Try.prog 44 #[.agg f.enc.toArray, .agg g.enc.toArray] w (Gives None (.bool true) w) := by
  obtain ⟨e, bl, pb, cb, pe, ce⟩ := f
  obtain ⟨e', bl', pb', cb', pe', ce'⟩ := g
  obtain ⟨rfl, rfl⟩ : e = e' ∧ bl = bl' := by simpa [FCv.fc] using hfg
  clear hfg
  simp only at h1 h2 h3 h4 hl
  simp only [FCv.enc]
  have hl' := hl
  unfold maxLen at hl'
  have HBX : Hid (∃ W : World, Keep None w W ∧ W = (w.alloc (.cells #[.int .i64 e, .slice pb bl.length cb, .slice pe bl.length ce, .slice none 0 0] 88)).alloc (.cells #[.int .i64 e, .slice pb' bl.length cb', .slice pe' bl.length ce', .slice none 0 0] 88) ∧
      W.heap[w.heap.size]? = some (.cells #[.int .i64 e, .slice pb bl.length cb, .slice pe bl.length ce, .slice none 0 0] 88 (0, 0)) ∧
      W.heap[w.heap.size + 1]? = some (.cells #[.int .i64 e, .slice pb' bl.length cb', .slice pe' bl.length ce', .slice none 0 0] 88 (0, 0))) :=
    Lib.hid ⟨_, ((Keep.refl None w).alloc _).alloc _, rfl, ((Keep.refl None _).alloc _).obj (heap_alloc_new _ _) id, alloc_at (by simp)⟩
  obtain ⟨W, hKW, hWe, ho1, ho2⟩ := HBX.out
  have HK := Lib.hid hKW
  have O1 := Lib.hid ho1
  have O2 := Lib.hid ho2
  have HWE := Lib.hid hWe.symm
  have H1 := Lib.hid (h1.keep hKW (fun _ _ => id))
  have H2 := Lib.hid (h2.keep hKW (fun _ _ => id))
  have H3 := Lib.hid (h3.keep hKW (fun _ _ => id))
  have H4 := Lib.hid (h4.keep hKW (fun _ _ => id))
  clear HBX hKW ho1 ho2 hWe h1 h2 h3 h4
  have b1 : Hid (∀ W' : World, Keep None W W' → W'.cell? ⟨w.heap.size, 2, none⟩ = some (.slice pe bl.length ce) ∧ W'.cell? ⟨w.heap.size, 3, none⟩ = some (.slice none 0 0) ∧ W'.cell? ⟨w.heap.size + 1, 2, none⟩ = some (.slice pe' bl.length ce') ∧ W'.cell? ⟨w.heap.size + 1, 3, none⟩ = some (.slice none 0 0)) := Lib.hid (fun W' hk => by
    have h1 := hk.obj O1.out id
    have h2 := hk.obj O2.out id
    simp [World.cell?, h1, h2])
  have hne : ∀ wx : World, (binOp .neq 89 (.agg #[.int .i64 (-1), .int .i64 (-1)]) (.agg #[.int .i64 (-1), .int .i64 (-1)])).run Try.prog wx = .ok (.bool false) wx := fun _ => by kernel_rfl
  go_enter Try.func44, Try.ntmps44
  go_wp2_with (first
    | (go_at_call 55; rw [HWE.out]; refine (ints_calls pb pb' cb cb' bl W H1.out H2.out hl).mono ?_; rintro e w1 ⟨rfl, hk1⟩; obtain ⟨d1, d2, d3, d4⟩ := b1.out _ hk1; have HK1 := Lib.hid hk1; clear hk1)
    | (go_at_call 56; refine (sites_calls _).mono ?_; rintro e w2 ⟨rfl, hk2⟩; have HK2 := Lib.hid (HK1.out.trans hk2); clear hk2))
  clear d1 d2 d3 d4
  go_loopw [5] (UpTo2 bl.length w2) (fun i _ => bl.length - (intOf i).toNat)
  case atStart => exact ⟨0, rfl, by omega, Keep.refl _ _⟩
  case round =>
    obtain ⟨k, rfl, hk, hkp⟩ := hrel
    have HKP := Lib.hid hkp
    have HKW := Lib.hid (HK2.out.trans hkp)
    clear hkp
    obtain ⟨d1, -, d3, -⟩ := b1.out _ HKW.out
    by_cases hlt : k < bl.length
    · have hx : (ones bl.length)[k]? = some () := by simp [ones, hlt]
      obtain ⟨b, o, rfl, e1, e2⟩ : ∃ b o, pe = some ⟨b, o, none⟩ ∧ wr.cell? ⟨b, o + k * 2, none⟩ = some (.int .i64 (-1)) ∧ wr.cell? ⟨b, o + k * 2 + 1, none⟩ = some (.int .i64 (-1)) := by
        rcases H3.out.keep HKW.out (fun _ _ => id) with h | ⟨b, o, he, h⟩
        · rw [h] at hx; simp at hx
        · exact ⟨b, o, he, h k () hx 0 _ rfl, h k () hx 1 _ rfl⟩
      obtain ⟨b', o', rfl, e3, e4⟩ : ∃ b o, pe' = some ⟨b, o, none⟩ ∧ wr.cell? ⟨b, o + k * 2, none⟩ = some (.int .i64 (-1)) ∧ wr.cell? ⟨b, o + k * 2 + 1, none⟩ = some (.int .i64 (-1)) := by
        rcases H4.out.keep HKW.out (fun _ _ => id) with h | ⟨b, o, he, h⟩
        · rw [h] at hx; simp at hx
        · exact ⟨b, o, he, h k () hx 0 _ rfl, h k () hx 1 _ rfl⟩
      have hki : (k : Int) < bl.length := by omega
      clear hx
      go_wp2_with (fail)
      go_quiet (fail)
      go_wp2_with (fail)
      go_roundw
      case rel => exact ⟨k + 1, by go_num, by omega, HKP.out.drewN _⟩
      case measure => simp [intOf]; omega
    · have hke : k = bl.length := by omega
      subst hke
      go_wp2_with (fail)
      go_ret
      exact ⟨rfl, HK.out.trans HKW.out⟩

set_option maxRecDepth 100000 in
set_option maxHeartbeats 4000000 in
theorem sameAll_calls (p q : Option Addr) (c d : Nat) (v v' : List FCv) (w : World) (h1 : CV w p v) (h2 : CV w q v') (he : v.map FCv.fc = v'.map FCv.fc) (hl : v.length ≤ 100) (hb : ∀ f ∈ v, f.bl.length ≤ maxLen) :
    Calls Try.prog 19 #[.agg #[.slice p v.length c], .agg #[.slice q v'.length d]] w (Gives None (.bool true) w) := by
  have hlen : v.length = v'.length := by have := congrArg List.length he; simpa using this
  have HLEN := Lib.hid hlen
  rw [← hlen]
  have HBX : Hid (∃ W : World, Keep None w W ∧ W = (w.alloc (.cells #[.slice p v.length c] 54)).alloc (.cells #[.slice q v.length d] 54) ∧ (∀ W' : World, Keep None W W' → W'.cell? ⟨w.heap.size, 0, none⟩ = some (.slice p v.length c) ∧ W'.cell? ⟨w.heap.size + 1, 0, none⟩ = some (.slice q v.length d))) := Lib.hid (by
    refine ⟨_, ((Keep.refl None w).alloc _).alloc _, rfl, fun W' hk => ?_⟩
    have g1 := hk.obj (((Keep.refl None _).alloc (.cells #[.slice q v.length d] 54)).obj (heap_alloc_new w (.cells #[.slice p v.length c] 54)) id) id
    have g2 := hk.obj (alloc_at (show w.heap.size + 1 = _ by simp)) id
    exact ⟨cell_of_row _ _ 0 _ _ _ g1, cell_of_row _ _ 0 _ _ _ g2⟩)
  obtain ⟨W, hKW, hWe, hcs⟩ := HBX.out
  have HK := Lib.hid hKW
  have HWE := Lib.hid hWe.symm
  have HCS := Lib.hid hcs
  have H1 := Lib.hid (h1.still hKW)
  have H2 := Lib.hid (h2.still hKW)
  have HE := Lib.hid he
  have HBL := Lib.hid hb
  clear HBX hKW hWe hcs h1 h2 he hb hlen
  go_enter Try.func19, Try.ntmps19
  go_wp2_with (fail)
  rw [HWE.out]
  go_loopw [5] (UpTo2 v.length W) (fun i _ => v.length - (intOf i).toNat)
  case atStart => exact ⟨0, rfl, by omega, Keep.refl _ _⟩
  case round =>
    obtain ⟨k, rfl, hk, hkp⟩ := hrel
    have HKP := Lib.hid hkp
    obtain ⟨c0, c1⟩ := HCS.out _ hkp
    clear hkp
    by_cases hlt : k < v.length
    · obtain ⟨f, hf⟩ : ∃ f, v[k]? = some f := ⟨v[k], by simp [hlt]⟩
      obtain ⟨g, hg⟩ : ∃ g, v'[k]? = some g := ⟨v'[k]'(by have := HLEN.out; omega), List.getElem?_eq_getElem _⟩
      have hfg : f.fc = g.fc := by
        have := congrArg (fun l => l[k]?) HE.out
        simpa [hf, hg] using this
      have hfm := List.mem_of_getElem? hf
      have hgm := List.mem_of_getElem? hg
      obtain ⟨b, o, rfl, r1⟩ : ∃ b o, p = some ⟨b, o, none⟩ ∧ ∀ W', Keep None wr W' → W'.rangeAt b (o + k * 4) f.enc := by
        rcases (H1.out.still HKP.out).sl with h | ⟨b, o, he, h⟩
        · subst h; simp at hlt
        · exact ⟨b, o, he, fun W' hk' j u hu => hk'.cell (h k f hf j u hu) id⟩
      obtain ⟨b', o', rfl, r2⟩ : ∃ b o, q = some ⟨b, o, none⟩ ∧ ∀ W', Keep None wr W' → W'.rangeAt b (o + k * 4) g.enc := by
        rcases (H2.out.still HKP.out).sl with h | ⟨b, o, he, h⟩
        · rw [h] at hg; simp at hg
        · exact ⟨b, o, he, fun W' hk' j u hu => hk'.cell (h k g hg j u hu) id⟩
      have R1 := Lib.hid r1
      have R2 := Lib.hid r2
      have HFG := Lib.hid hfg
      have HFM := Lib.hid hfm
      have HGM := Lib.hid hgm
      have HCI : Hid (∀ w', Keep None wr w' → w'.cell? ⟨w.heap.size, 0, none⟩ = some (.slice (some ⟨b, o, none⟩) v.length c) ∧ w'.cell? ⟨w.heap.size + 1, 0, none⟩ = some (.slice (some ⟨b', o', none⟩) v.length d)) := Lib.hid (fun w' hk' => HCS.out _ (HKP.out.trans hk'))
      have hki : (k : Int) < v.length := by omega
      have hvm : v.length ≤ 9223372036854775807 := by omega
      clear hf hg r1 r2 hfg hfm hgm
      go_wp2_with (fail)
      clear c0 c1
      refine region_kindsG None [.is (.pointer (some ⟨w.heap.size, 0, none⟩)), .is (.slice (some ⟨b, o, none⟩) v.length c), .is (.int .i64 k), .is (.pointer (some ⟨b, o + k * 4, none⟩)), .is (.agg f.enc.toArray), .is (.pointer (some ⟨w.heap.size + 1, 0, none⟩)), .is (.slice (some ⟨b', o', none⟩) v.length d), .is (.int .i64 k), .is (.pointer (some ⟨b', o' + k * 4, none⟩)), .is (.agg g.enc.toArray), .is (.bool true), .is (.bool false)]
        (fun w' => Keep None wr w') 32 (by kernel_rfl) (by kernel_rfl) rfl (by kernel_rfl) ((Keep.refl _ _).drew) ?_ ?_
      · refine ⟨?_, ?_, ?_, ?_, ?_, ?_, ?_, ?_, ?_, ?_, ?_, ?_, trivial⟩
        · exact st_free rfl (st_ev1 (dep_f (t := 2) rfl rfl) _ (by intro a w' h1 hI; go_simp) rfl)
        · exact st_free rfl (st_ev1 (dep_e 0 rfl rfl rfl) _ (by intro a w' h1 hI; obtain ⟨q0, -⟩ := HCI.out _ hI; go_simp) rfl)
        · exact st_free rfl (st_ev1 (dep_f (t := 5) rfl rfl) _ (by intro a w' h1 hI; go_simp) rfl)
        · exact st_free rfl (st_ev2 (dep_e 1 rfl rfl rfl) (dep_e 2 rfl rfl rfl) _ (by intro a w' h1 h2 hI; go_simp) rfl)
        · exact st_free rfl (st_loadD 88 b (o + k * 4) f.enc rfl (dep_e 3 rfl rfl rfl) (fun w' hI => R1.out _ hI) _ Try.underlying88 rfl 4 Try.sizeFc rfl rfl)
        · exact st_free rfl (st_ev1 (dep_f (t := 3) rfl rfl) _ (by intro a w' h1 hI; go_simp) rfl)
        · exact st_free rfl (st_ev1 (dep_e 5 rfl rfl rfl) _ (by intro a w' h1 hI; obtain ⟨-, q0⟩ := HCI.out _ hI; go_simp) rfl)
        · exact st_free rfl (st_ev1 (dep_f (t := 5) rfl rfl) _ (by intro a w' h1 hI; go_simp) rfl)
        · exact st_free rfl (st_ev2 (dep_e 6 rfl rfl rfl) (dep_e 7 rfl rfl rfl) _ (by intro a w' h1 h2 hI; go_simp) rfl)
        · exact st_free rfl (st_loadD 88 b' (o' + k * 4) g.enc rfl (dep_e 8 rfl rfl rfl) (fun w' hI => R2.out _ hI) _ Try.underlying88 rfl 4 Try.sizeFc rfl rfl)
        · refine st_free rfl (st_callD2 (dep_e 4 rfl rfl rfl) (dep_e 9 rfl rfl rfl) 44 #[.agg f.enc.toArray, .agg g.enc.toArray] (by intro a w' h1 h2; go_simp) ?_)
          intro w' hI
          have hk' := HKP.out.trans hI
          have g1 := H1.out.still hk'
          have g2 := H2.out.still hk'
          refine (sameFc_calls f g w' HFG.out (g1.bl f HFM.out) (g2.bl g HGM.out) (g1.ed f HFM.out) (g2.ed g HGM.out) (HBL.out f HFM.out)).mono ?_
          rintro e w'' ⟨rfl, hk''⟩
          exact ⟨_, rfl, rfl, hI.trans hk'', hk''⟩
        · exact st_free rfl (st_ev1 (dep_e 10 rfl rfl rfl) _ (by intro a w' h1 hI; go_simp) rfl)
      intro g' wD hkinds hI
      have k31 : g' 31 = .bool false := hkinds 11 _ 31 rfl rfl
      simp only [putsOf, Act.put, List.setIfInBounds_toArray, List.set_cons_zero, List.set_cons_succ, k31]
      clear hkinds k31
      have HKD := Lib.hid (HKP.out.trans hI)
      clear hI
      go_wp2_with (fail)
      go_roundw
      case rel => exact ⟨k + 1, by go_num, by omega, HKD.out⟩
      case measure => simp [intOf]; omega
    · have hke : k = v.length := by omega
      subst hke
      go_wp2_with (fail)
      go_ret
      exact ⟨rfl, HK.out.trans HKP.out⟩

end Go.Proofs.Ytlhmajjmhkjcoaa
