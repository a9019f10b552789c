/-
  Chapter 44: the text of a policy.
-/
import Derived.Test.YtgelfefoiplekaaDoorPolParse
namespace Go.Proofs.YtgelfefoiplekaaDoor
open Go.RowKit PN
open Go.Sort (grow)

/-- A number in decimal, as a string. -/
def itS (n : Int) : ByteArray := ⟨(Lib.itoa n).toArray⟩
theorem bl_itS {n : Int} (h : 0 ≤ n) : bl (itS n) = dec n := by
  obtain ⟨u, rfl⟩ : ∃ u : Nat, n = u := ⟨n.toNat, by omega⟩
  show (Lib.itoa (u : Int)).toArray.toList = _
  rw [Lib.itoa_nonneg]; rfl
theorem itS_size {n : Int} (h : 0 ≤ n) (h9 : n < 1000000000) : (itS n).size ≤ 9 := by
  rw [← bl_len, bl_itS h]
  show (Lib.decDigits n.toNat).length ≤ 9
  rw [dec_len]; exact nDig_le _ 8 (by omega)
theorem keep_grow (w : World) (k : Nat) (os : Array Obj) : Keep None w (grow (w.drewN k) os) :=
  ⟨rfl, rfl, rfl, by simp [grow, World.drewN], fun i hi _ => by
    show (w.heap ++ os)[i]? = _
    rw [Array.getElem?_append_left hi]⟩
theorem itoa_calls (n : Int) (w : World) (hE : Env w) (h : i64 n) : Calls Tryd.prog 29 #[.int .i64 n] w (fun e w' => e = .returned (.string (itS n)) ∧ Keep None w w') := by
  refine (Tryd.strconv_Itoa n h.1 h.2 w hE.2).mono ?_
  rintro e w' ⟨rfl, k, os, rfl⟩
  exact ⟨rfl, keep_grow w k os⟩

theorem bl_app (a b : ByteArray) : bl (a ++ b) = bl a ++ bl b := by simp [bl, ByteArray.data_append]
/-- A builder that holds l. -/
def BW (b : Nat) (l : Bs) (w : World) : Prop := Lib.IsBuilder 70 5 b b (Lib.byteCells l) w
theorem row_still {w w' : World} {base : Nat} {e : TypeId} {size : Nat} {v : Value} {n : Nat} {xs : List Value} (h : w.ownsRow base e size v n xs) (k : Keep None w w') : w'.ownsRow base e size v n xs := by
  refine ⟨h.1, ?_⟩
  rcases h.2 with hn | ⟨g, cap, cur, rfl, hb, hgg, rest⟩
  · exact .inl hn
  · exact .inr ⟨g, cap, cur, rfl, hb, k.obj hgg id, rest⟩
theorem builder_still {w w' : World} {T e : TypeId} {B b : Nat} {p : Value} {bs : List Value} (h : Lib.BuilderAt T e B b p bs w) (k : Keep None w w') : Lib.BuilderAt T e B b p bs w' := by
  obtain ⟨h1, v, h2, h3, h4⟩ := h
  exact ⟨h1, v, k.obj h2 id, row_still h3 k, h4⟩
theorem BW.still {b : Nat} {l : Bs} {w w' : World} (h : BW b l w) (k : Keep None w w') : BW b l w' := by
  rcases h with h | h
  · exact .inl (builder_still h k)
  · exact .inr (builder_still h k)

theorem write_calls (b : Nat) (l : Bs) (s : ByteArray) (w : World) (h : BW b l w) (hlen : l.length + s.size ≤ 140737488355328) (hb : b ≤ w.heap.size) :
    Calls Tryd.prog 28 #[.pointer (some ⟨b, 0, none⟩), .string s] w (fun e w' => e = .returned (.tuple #[.int .i64 s.size, .nilIface]) ∧ BW b (l ++ bl s) w' ∧ Keep (b ≤ ·) w w') := by
  refine (Tryd.Builder_WriteString b b (Lib.byteCells l) s w h (by rw [Lib.byteCells_length]; exact hlen) hb).mono ?_
  rintro e w' ⟨rfl, h1, h2⟩
  refine ⟨rfl, .inr ?_, Keep.ofBelow h2⟩
  rw [Lib.byteCells_append]; exact h1
theorem string_calls (b : Nat) (l : Bs) (w : World) (h : BW b l w) (hb : b ≤ w.heap.size) :
    Calls Tryd.prog 30 #[.pointer (some ⟨b, 0, none⟩)] w (fun e w' => e = .returned (.string ⟨l.toArray⟩) ∧ Keep (b ≤ ·) w w') := by
  refine (Tryd.Builder_String_any b b l w h hb).mono ?_
  rintro e w' ⟨rfl, h2⟩
  exact ⟨rfl, Keep.ofBelow h2⟩

/-- What Format returns. -/
def FormatPost (p : Pol) (w : World) (e : Ending) (w' : World) : Prop :=
  ∃ (s : ByteArray) (err : Int), e = .returned (.tuple #[.string s, .int .i64 err]) ∧ Keep None w w' ∧ if validB p then bl s = PN.format p ∧ err = 0 else err ≠ 0

theorem two_len {w b : Bs} {x y : Int} (hx : 0 ≤ x ∧ x < 1000000000) (hy : 0 ≤ y ∧ y < 1000000000) (hw : w.length ≤ 10) (hb : b.length ≤ 10) : (twoText w b x y).length ≤ 60 := by
  have h1 : (dec x).length ≤ 9 := by rw [dec_len]; exact nDig_le _ 8 (by omega)
  have h2 : (dec y).length ≤ 9 := by rw [dec_len]; exact nDig_le _ 8 (by omega)
  simp only [twoText, List.length_append, List.length_cons]
  omega
theorem nl_len : ∀ (ls : List Bs), (∀ l ∈ ls, l.length ≤ 60) → (nl ls).length ≤ 61 * ls.length
  | [], _ => by simp [nl]
  | l :: ls, h => by
    have := nl_len ls (fun x hx => h x (by simp [hx]))
    have h1 := h l (by simp)
    simp only [nl, List.flatMap_cons, List.length_append, List.length_cons, List.length_nil] at *
    omega
theorem text_short {p : Pol} (g : PN.Good p) (k : Nat) : (nl (twoText wLevel wSlash p.num p.den :: marginText p.margin :: (p.st.take k).map stageText)).length ≤ 1000000 := by
  refine Nat.le_trans (nl_len _ ?_) ?_
  · intro l hl
    rcases List.mem_cons.1 hl with rfl | hl
    · exact two_len (by have := g.u0; have := g.u1; have := g.d2; omega) (by have := g.d1; have := g.d2; omega) (by decide) (by decide)
    · rcases List.mem_cons.1 hl with rfl | hl
      · have h1 : (dec p.margin).length ≤ 9 := by rw [dec_len]; exact nDig_le _ 8 (by have := g.m1; have := g.m0; omega)
        simp only [marginText, wMargin, List.length_append, List.length_cons, List.length_nil]
        omega
      · obtain ⟨s, hs, rfl⟩ := List.mem_map.1 hl
        have := g.st s (List.mem_of_mem_take hs)
        exact two_len (by omega) (by omega) (by decide) (by decide)
  · simp only [List.length_cons, List.length_map, List.length_take]
    have := g.n8
    omega

def FmtInv (p : Pol) (b : Nat) (w0 : World) (iv : Value) (w : World) : Prop :=
  ∃ k : Nat, iv = .int .i64 k ∧ k ≤ p.st.length ∧ BW b (nl (twoText wLevel wSlash p.num p.den :: marginText p.margin :: (p.st.take k).map stageText)) w ∧ Keep (b ≤ ·) w0 w

set_option maxRecDepth 100000 in
set_option maxHeartbeats 4000000 in
theorem format_calls (a : Option Addr) (c : Nat) (p : Pol) (w : World) (hE : Env w) (h6 : 6 ≤ w.heap.size) (h : PolAt w a p) :
    Calls Tryd.prog 12 #[polVal a c p] w (FormatPost p w) := by
  have HBX : Hid (∃ W : World, Keep None w W ∧ W = w.alloc (.cells #[.slice a p.st.length c, .int .i64 p.num, .int .i64 p.den, .int .i64 p.margin] 30) ∧ W.heap[w.heap.size]? = some (.cells #[.slice a p.st.length c, .int .i64 p.num, .int .i64 p.den, .int .i64 p.margin] 30 (0, 0)) ∧ W.heap.size = w.heap.size + 1) :=
    Lib.hid ⟨_, (Keep.refl None w).alloc _, rfl, heap_alloc_new _ _, by simp⟩
  obtain ⟨W, hKW, hWe, ho1, hsz⟩ := HBX.out
  have HKW := Lib.hid hKW
  have HWE := Lib.hid hWe.symm
  have HOB := Lib.hid ho1
  have HSZ := Lib.hid hsz
  have HEW := Lib.hid (hE.still hKW)
  have HPA := Lib.hid (h.still hKW)
  have HSIX := Lib.hid h6
  unfold polVal
  clear HBX hKW hWe ho1 hE hsz h
  cases hv : validB p with
  | false =>
    have HVB := Lib.hid hv
    clear hv
    go_enter Tryd.func12, Tryd.ntmps12
    go_wp2_with (first | ((with_reducible (show wpList _ _ _ (⟨some 7, .load 30 _, _, _, _, none⟩ :: _) _ _)); rw [HWE.out]; refine wpList_loadEl (enc := listEnc) (size := 4) rfl 30 _ rfl _ _ rfl [.slice a p.st.length c, .int .i64 p.num, .int .i64 p.den, .int .i64 p.margin] _ (range_of_obj HOB.out) rfl Tryd.underlying30 rfl Tryd.sizePolicy (.agg #[.slice a p.st.length c, .int .i64 p.num, .int .i64 p.den, .int .i64 p.margin]) rfl ?_) | (go_at_call 15; refine (valid_calls a c p _ HPA.out).mono ?_; rintro e w5 ⟨rfl, hk5⟩; rw [HVB.out]; have HK5 := Lib.hid hk5; clear hk5))
    go_ret2
    exact ⟨_, 43, rfl, HKW.out.trans HK5.out, by rw [HVB.out, if_neg (by decide)]; decide⟩
  | true =>
    have HVB := Lib.hid hv
    have hg := valid_good hv
    clear hv
    go_enter Tryd.func12, Tryd.ntmps12
    go_upto_region 4 with (first | ((with_reducible (show wpList _ _ _ (⟨some 7, .load 30 _, _, _, _, none⟩ :: _) _ _)); rw [HWE.out]; refine wpList_loadEl (enc := listEnc) (size := 4) rfl 30 _ rfl _ _ rfl [.slice a p.st.length c, .int .i64 p.num, .int .i64 p.den, .int .i64 p.margin] _ (range_of_obj HOB.out) rfl Tryd.underlying30 rfl Tryd.sizePolicy (.agg #[.slice a p.st.length c, .int .i64 p.num, .int .i64 p.den, .int .i64 p.margin]) rfl ?_) | (go_at_call 15; refine (valid_calls a c p _ HPA.out).mono ?_; rintro e w5 ⟨rfl, hk5⟩; rw [HVB.out]; have HK5 := Lib.hid hk5; clear hk5))
    have hsz2 : w5.heap.size = w5.heap.size := rfl
    generalize hw6 : World.alloc _ _ = w6
    have hk6 : Keep None w5 w6 := by rw [← hw6]; exact (Keep.refl _ _).alloc _
    have hbu : w6.heap[w5.heap.size]? = some (.cells #[.pointer none, .slice none 0 0] 70 (0, 0)) := by rw [← hw6]; exact heap_alloc_new _ _
    clear hw6 hsz2
    have HBW : Hid (BW w5.heap.size [] w6) := Lib.hid (.inl ⟨Nat.le_refl _, .slice none 0 0, hbu, World.ownsRow_nil _ _ _ _, by simp [Value.ownBlock]⟩)
    have HK6 := Lib.hid (HK5.out.trans hk6)
    have hw56 := heap_lt hbu
    have HOB6 := Lib.hid (HK6.out.obj HOB.out id)
    have HE6 := Lib.hid (HEW.out.still HK6.out)
    clear hk6 hbu
    have HG := Lib.hid hg
    obtain ⟨S1, hS1⟩ : ∃ S1 : ByteArray, S1 = (⟨#[108, 101, 118, 101, 108, 32]⟩ : ByteArray) ++ itS p.num := ⟨_, rfl⟩
    obtain ⟨S2, hS2⟩ : ∃ S2 : ByteArray, S2 = S1 ++ (⟨#[32, 47, 32]⟩ : ByteArray) := ⟨_, rfl⟩
    obtain ⟨S3, hS3⟩ : ∃ S3 : ByteArray, S3 = S2 ++ itS p.den := ⟨_, rfl⟩
    obtain ⟨S4, hS4⟩ : ∃ S4 : ByteArray, S4 = S3 ++ (⟨#[10, 109, 97, 114, 103, 105, 110, 32]⟩ : ByteArray) := ⟨_, rfl⟩
    obtain ⟨S5, hS5⟩ : ∃ S5 : ByteArray, S5 = S4 ++ itS p.margin := ⟨_, rfl⟩
    obtain ⟨S6, hS6⟩ : ∃ S6 : ByteArray, S6 = S5 ++ (⟨#[10]⟩ : ByteArray) := ⟨_, rfl⟩
    have HI : Hid (∀ (n : Int) w', i64 n → Keep None w6 w' → Calls Tryd.prog 29 #[.int .i64 n] w' (fun e w'' => ∃ u, e = .returned u ∧ u = .string (itS n) ∧ Keep None w6 w'' ∧ Keep None w' w'')) := Lib.hid (fun n w' hn hk => (itoa_calls n w' (HE6.out.still hk) hn).mono (fun e w'' h => ⟨_, h.1, rfl, hk.trans h.2, h.2⟩))
    have hz1 := itS_size hg.u0 (by have := hg.u1; have := hg.d2; omega)
    have hz2 := itS_size (n := p.den) (by have := hg.d1; omega) (by have := hg.d2; omega)
    have hz3 := itS_size hg.m0 (by have := hg.m1; omega)
    have hn1 : i64 p.num := by unfold i64; have := hg.u0; have := hg.u1; have := hg.d2; omega
    have hn2 : i64 p.den := by unfold i64; have := hg.d1; have := hg.d2; omega
    have hn3 : i64 p.margin := by unfold i64; have := hg.m0; have := hg.m1; omega
    refine region_kindsG_tail None [.is (.pointer (some ⟨w.heap.size, 1, none⟩)), .is (.pointer (some ⟨w.heap.size, 1, none⟩)), .is (.int .i64 p.num), .is (.string (itS p.num)), .is (.string S1), .is (.string S2), .is (.pointer (some ⟨w.heap.size, 1, none⟩)), .is (.pointer (some ⟨w.heap.size, 2, none⟩)), .is (.int .i64 p.den), .is (.string (itS p.den)), .is (.string S3), .is (.string S4), .is (.pointer (some ⟨w.heap.size, 3, none⟩)), .is (.int .i64 p.margin), .is (.string (itS p.margin)), .is (.string S5), .is (.string S6), .any]
      (fun w' => Keep None w6 w') 48 17 (by kernel_rfl) (by decide) (by kernel_rfl) (by kernel_rfl) (by kernel_rfl) rfl (by kernel_rfl) (Keep.refl _ _).drew ?_ ?_
    · refine ⟨?_, ?_, ?_, ?_, ?_, ?_, ?_, ?_, ?_, ?_, ?_, ?_, ?_, ?_, ?_, ?_, ?_, trivial⟩
      · exact st_free rfl (st_ev1 (dep_f (t := 1) rfl rfl) _ (by intro a w' h1 hI; go_simp) rfl)
      · exact st_free rfl (st_ev1 (dep_e 0 rfl rfl rfl) _ (by intro a w' h1 hI; go_simp) rfl)
      · exact st_free rfl (st_ev1 (dep_e 1 rfl rfl rfl) _ (by intro a w' h1 hI; have q0 := cell_of_row _ _ 1 _ _ _ (hI.obj HOB6.out id); go_simp) rfl)
      · exact st_free rfl (st_callD1 (dep_e 2 rfl rfl rfl) _ _ (by intro a w' h1; go_simp) (fun w' hI => HI.out p.num w' hn1 hI))
      · exact st_free rfl (st_ev1 (dep_e 3 rfl rfl rfl) _ (by intro a w' h1 hI; go_simp; omega) rfl)
      · exact st_free rfl (st_ev1 (dep_e 4 rfl rfl rfl) _ (by intro a w' h1 hI; go_simp; omega) rfl)
      · exact st_free rfl (st_ev1 (dep_f (t := 1) rfl rfl) _ (by intro a w' h1 hI; go_simp) rfl)
      · exact st_free rfl (st_ev1 (dep_e 6 rfl rfl rfl) _ (by intro a w' h1 hI; go_simp) rfl)
      · exact st_free rfl (st_ev1 (dep_e 7 rfl rfl rfl) _ (by intro a w' h1 hI; have q0 := cell_of_row _ _ 2 _ _ _ (hI.obj HOB6.out id); go_simp) rfl)
      · exact st_free rfl (st_callD1 (dep_e 8 rfl rfl rfl) _ _ (by intro a w' h1; go_simp) (fun w' hI => HI.out p.den w' hn2 hI))
      · exact st_free rfl (st_ev2 (dep_e 5 rfl rfl rfl) (dep_e 9 rfl rfl rfl) _ (by intro a w' h1 h2 hI; go_simp; omega) rfl)
      · exact st_free rfl (st_ev1 (dep_e 10 rfl rfl rfl) _ (by intro a w' h1 hI; go_simp; omega) rfl)
      · exact st_free rfl (st_ev1 (dep_f (t := 1) rfl rfl) _ (by intro a w' h1 hI; go_simp) rfl)
      · exact st_free rfl (st_ev1 (dep_e 12 rfl rfl rfl) _ (by intro a w' h1 hI; have q0 := cell_of_row _ _ 3 _ _ _ (hI.obj HOB6.out id); go_simp) rfl)
      · exact st_free rfl (st_callD1 (dep_e 13 rfl rfl rfl) _ _ (by intro a w' h1; go_simp) (fun w' hI => HI.out p.margin w' hn3 hI))
      · exact st_free rfl (st_ev2 (dep_e 11 rfl rfl rfl) (dep_e 14 rfl rfl rfl) _ (by intro a w' h1 h2 hI; go_simp; omega) rfl)
      · exact st_free rfl (st_ev1 (dep_e 15 rfl rfl rfl) _ (by intro a w' h1 hI; go_simp; omega) rfl)
    intro f' w7 hkinds hI
    have k26 : f' 26 = .string S6 := hkinds 16 _ 26 (by omega) rfl rfl
    simp only [putsOf, Act.put, List.take_succ_cons, List.take_zero, List.drop_succ_cons, List.drop_zero, List.setIfInBounds_toArray, List.set_cons_zero, List.set_cons_succ, k26]
    clear hkinds k26
    have HT6 : Hid (bl S6 = nl [twoText wLevel wSlash p.num p.den, marginText p.margin]) := Lib.hid (by
      rw [hS6, hS5, hS4, hS3, hS2, hS1]
      simp only [bl_app]
      rw [bl_itS hg.u0, bl_itS hg.m0, bl_itS (n := p.den) (by have := hg.d1; omega)]
      simp [bl, nl, twoText, marginText, wLevel, wSlash, wMargin])
    have HZ6 : Hid (S6.size ≤ 1000) := Lib.hid (by rw [hS6, hS5, hS4, hS3, hS2, hS1]; simp only [ByteArray.size_append]; have h1 : (⟨#[108, 101, 118, 101, 108, 32]⟩ : ByteArray).size = 6 := rfl; have h2 : (⟨#[32, 47, 32]⟩ : ByteArray).size = 3 := rfl; have h3 : (⟨#[10, 109, 97, 114, 103, 105, 110, 32]⟩ : ByteArray).size = 8 := rfl; have h4 : (⟨#[10]⟩ : ByteArray).size = 1 := rfl; omega)
    clear hS1 hS2 hS3 hS4 hS5 hS6
    have HK7 := Lib.hid hI
    have HBW7 := Lib.hid (HBW.out.still hI)
    have h67 := hI.size
    clear hI
    go_wp2_with (first | (go_at_call 28; refine (write_calls w5.heap.size [] S6 _ HBW7.out (by have := HZ6.out; simp; omega) (by omega)).mono ?_; rintro e w8 ⟨rfl, hb8, hk8⟩; have HB8 := Lib.hid hb8; have HK8 := Lib.hid hk8; have q0 := cell_of_row _ _ 0 _ _ _ (hk8.obj (HK7.out.obj HOB6.out id) (by have := HK5.out.size; have := HSZ.out; omega)); clear hb8 hk8) | fail)
    clear q0
    obtain ⟨HT8, hHT8⟩ : ∃ L, L = [twoText wLevel wSlash p.num p.den, marginText p.margin] := ⟨_, rfl⟩
    have HL8 := Lib.hid hHT8
    have HB9 : Hid (BW w5.heap.size (nl (twoText wLevel wSlash p.num p.den :: marginText p.margin :: (p.st.take 0).map stageText)) w8) := Lib.hid (by have := HB8.out; rw [List.nil_append, HT6.out] at this; simpa using this)
    have HKW8 : Hid (Keep (w5.heap.size ≤ ·) W w8) := Lib.hid (((HK6.out.trans HK7.out).weaken (fun _ _ q => q.elim)).trans HK8.out)
    have hwb : w.heap.size < w5.heap.size := by have := HK5.out.size; have := HSZ.out; omega
    have hw8 : w5.heap.size < w8.heap.size := by have := HK8.out.size; omega
    obtain ⟨bb, off, haddr, hsl⟩ : ∃ bb off, a = some ⟨bb, off, none⟩ ∧ SlAt stEnc 2 W bb off p.st := by
      rcases HPA.out.st with h | h
      · have := hg.n1; rw [h] at this; simp at this
      · exact h
    have hbbw : bb < W.heap.size := by
      obtain ⟨s0, hs0⟩ : ∃ s0, p.st[0]? = some s0 := ⟨p.st[0]'(by have := hg.n1; omega), by have := hg.n1; simp⟩
      exact World.block_lt_of_cell? W _ (hsl 0 s0 hs0 0 _ rfl)
    have HSL := Lib.hid hsl
    have hn8 := hg.n8
    have hW5 := HK5.out.size
    have HSTB := Lib.hid hg.st
    clear hHT8 HBW HBW7 HB8 hsl hg
    subst haddr
    go_loopw [31] (FmtInv p w5.heap.size w8) (fun i _ => p.st.length - (intOf i).toNat)
    case atStart => exact ⟨0, rfl, by omega, HB9.out, Keep.refl _ _⟩
    case round =>
      obtain ⟨k, rfl, hk, hb, hkp⟩ := hrel
      have HB := Lib.hid hb
      have HKP := Lib.hid hkp
      have HKR : Hid (Keep (w5.heap.size ≤ ·) W wr) := Lib.hid (HKW8.out.trans hkp)
      have hwr := hkp.size
      clear hb hkp
      by_cases hlt : k < p.st.length
      · have hlti : (k : Int) < p.st.length := by omega
        obtain ⟨⟨x, y⟩, hx⟩ : ∃ s, p.st[k]? = some s := ⟨p.st[k], by simp [hlt]⟩
        have HRG : Hid (∀ o, (wr.alloc o).rangeAt bb (off + k * 2) (stEnc (x, y))) := Lib.hid (fun o => ((HSL.out.keep HKR.out (by omega)).keep ((Keep.refl None wr).alloc o) id).range hx)
        have HRG0 : Hid (wr.rangeAt bb (off + k * 2) (stEnc (x, y))) := Lib.hid ((HSL.out.keep HKR.out (by omega)).range hx)
        have HX := Lib.hid hx
        have hxb := HSTB.out _ (List.mem_of_getElem? hx)
        simp only at hxb
        obtain ⟨⟨x1, x2⟩, y1, y2⟩ := hxb
        clear hx
        go_upto_region 8 with ((with_reducible (show wpList _ _ _ (⟨some 34, .load 45 _, _, _, _, none⟩ :: _) _ _)); refine wpList_loadEl (enc := stEnc) (size := 2) rfl 45 _ rfl _ _ rfl (x, y) _ (by first | exact HRG0.out | exact HRG.out _) rfl Tryd.underlying45 rfl Tryd.sizeStage (.agg #[.int .i64 x, .int .i64 y]) rfl ?_)
        generalize hwq : World.alloc _ _ = wq
        have hkq : Keep None wr wq := by rw [← hwq]; exact (Keep.refl _ _).alloc _
        have hbq : wq.heap[wr.heap.size]? = some (.cells #[.int .i64 x, .int .i64 y] 45 (0, 0)) := by rw [← hwq]; exact heap_alloc_new _ _
        clear hwq
        have HBQ := Lib.hid (HB.out.still hkq)
        have HKQ := Lib.hid hkq
        have HOQ := Lib.hid hbq
        have HEQ := Lib.hid ((HEW.out.keep HKR.out (fun g hg => by have := HSIX.out; omega)).still hkq)
        have hwq := hkq.size
        clear hkq hbq
        obtain ⟨S1, hS1⟩ : ∃ S1 : ByteArray, S1 = (⟨#[115, 116, 97, 103, 101, 32]⟩ : ByteArray) ++ itS x := ⟨_, rfl⟩
        obtain ⟨S2, hS2⟩ : ∃ S2 : ByteArray, S2 = S1 ++ (⟨#[32, 97, 102, 116, 101, 114, 32]⟩ : ByteArray) := ⟨_, rfl⟩
        obtain ⟨S3, hS3⟩ : ∃ S3 : ByteArray, S3 = S2 ++ itS y := ⟨_, rfl⟩
        obtain ⟨S4, hS4⟩ : ∃ S4 : ByteArray, S4 = S3 ++ (⟨#[10]⟩ : ByteArray) := ⟨_, rfl⟩
        have HIq : Hid (∀ (n : Int) w', i64 n → Keep None wq w' → Calls Tryd.prog 29 #[.int .i64 n] w' (fun e w'' => ∃ u, e = .returned u ∧ u = .string (itS n) ∧ Keep None wq w'' ∧ Keep None w' w'')) := Lib.hid (fun n w' hn hk => (itoa_calls n w' (HEQ.out.still hk) hn).mono (fun e w'' h => ⟨_, h.1, rfl, hk.trans h.2, h.2⟩))
        have hy1 := itS_size (n := x) (by omega) (by omega)
        have hy2 := itS_size (n := y) (by omega) (by omega)
        have hm1 : i64 x := by unfold i64; omega
        have hm2 : i64 y := by unfold i64; omega
        refine region_kindsG_tail None [.is (.pointer (some ⟨wr.heap.size, 0, none⟩)), .is (.int .i64 x), .is (.string (itS x)), .is (.string S1), .is (.string S2), .is (.pointer (some ⟨wr.heap.size, 1, none⟩)), .is (.int .i64 y), .is (.string (itS y)), .is (.string S3), .is (.string S4), .any]
          (fun w' => Keep None wq w') 48 10 (by kernel_rfl) (by decide) (by kernel_rfl) (by kernel_rfl) (by kernel_rfl) rfl (by kernel_rfl) (Keep.refl _ _).drew ?_ ?_
        · refine ⟨?_, ?_, ?_, ?_, ?_, ?_, ?_, ?_, ?_, ?_, trivial⟩
          · exact st_free rfl (st_ev1 (dep_f (t := 6) rfl rfl) _ (by intro a w' h1 hI; go_simp) rfl)
          · exact st_free rfl (st_ev1 (dep_e 0 rfl rfl rfl) _ (by intro a w' h1 hI; have q0 := cell_of_row _ _ 0 _ _ _ (hI.obj HOQ.out id); go_simp) rfl)
          · exact st_free rfl (st_callD1 (dep_e 1 rfl rfl rfl) _ _ (by intro a w' h1; go_simp) (fun w' hI => HIq.out x w' hm1 hI))
          · exact st_free rfl (st_ev1 (dep_e 2 rfl rfl rfl) _ (by intro a w' h1 hI; go_simp; omega) rfl)
          · exact st_free rfl (st_ev1 (dep_e 3 rfl rfl rfl) _ (by intro a w' h1 hI; go_simp; omega) rfl)
          · exact st_free rfl (st_ev1 (dep_f (t := 6) rfl rfl) _ (by intro a w' h1 hI; go_simp) rfl)
          · exact st_free rfl (st_ev1 (dep_e 5 rfl rfl rfl) _ (by intro a w' h1 hI; have q0 := cell_of_row _ _ 1 _ _ _ (hI.obj HOQ.out id); go_simp) rfl)
          · exact st_free rfl (st_callD1 (dep_e 6 rfl rfl rfl) _ _ (by intro a w' h1; go_simp) (fun w' hI => HIq.out y w' hm2 hI))
          · exact st_free rfl (st_ev2 (dep_e 4 rfl rfl rfl) (dep_e 7 rfl rfl rfl) _ (by intro a w' h1 h2 hI; go_simp; omega) rfl)
          · exact st_free rfl (st_ev1 (dep_e 8 rfl rfl rfl) _ (by intro a w' h1 hI; go_simp; omega) rfl)
        intro f' wt hkinds hI
        have k44 : f' 44 = .string S4 := hkinds 9 _ 44 (by omega) rfl rfl
        simp only [putsOf, Act.put, List.take_succ_cons, List.take_zero, List.drop_succ_cons, List.drop_zero, List.setIfInBounds_toArray, List.set_cons_zero, List.set_cons_succ, k44]
        clear hkinds k44
        have HT4 : Hid (bl S4 = stageText (x, y) ++ [10]) := Lib.hid (by
          rw [hS4, hS3, hS2, hS1]
          simp only [bl_app]
          rw [bl_itS (n := x) (by omega), bl_itS (n := y) (by omega)]
          simp [bl, stageText, twoText, wStage, wAfter])
        have HZ4 : Hid (S4.size ≤ 1000) := Lib.hid (by rw [hS4, hS3, hS2, hS1]; simp only [ByteArray.size_append]; have h1 : (⟨#[115, 116, 97, 103, 101, 32]⟩ : ByteArray).size = 6 := rfl; have h2 : (⟨#[32, 97, 102, 116, 101, 114, 32]⟩ : ByteArray).size = 7 := rfl; have h4 : (⟨#[10]⟩ : ByteArray).size = 1 := rfl; omega)
        have HKT := Lib.hid (HKQ.out.trans hI)
        have HBT := Lib.hid (HBQ.out.still hI)
        have hwt := hI.size
        have HLN : Hid ((nl (twoText wLevel wSlash p.num p.den :: marginText p.margin :: (p.st.take k).map stageText)).length ≤ 1000000) := Lib.hid (text_short HG.out k)
        clear hI hS1 hS2 hS3 hS4 hm1 hm2 hy1 hy2
        go_wp2_with (go_at_call 28; refine (write_calls w5.heap.size _ S4 _ HBT.out (by have := HZ4.out; have := HLN.out; omega) (by omega)).mono ?_; rintro e w9 ⟨rfl, hb9, hk9⟩; have HBN := Lib.hid hb9; have HKN := Lib.hid hk9; clear hb9 hk9)
        go_roundw
        case rel =>
          refine ⟨k + 1, by go_num, by omega, ?_, HKP.out.trans ((HKT.out.weaken (fun _ _ q => q.elim)).trans HKN.out)⟩
          have := HBN.out
          rw [HT4.out] at this
          rw [List.take_add_one, HX.out]
          simpa [nl, List.flatMap_append] using this
        case measure => simp [intOf]; omega
      · have hke : k = p.st.length := by omega
        subst hke
        have HBF := Lib.hid HB.out
        go_wp2_with (go_at_call 30; refine (string_calls w5.heap.size _ _ HB.out (by omega)).mono ?_; rintro e w9 ⟨rfl, hk9⟩; have HKN := Lib.hid hk9; clear hk9)
        go_ret2
        refine ⟨_, 0, rfl, HKW.out.andThen (HKR.out.trans HKN.out) (fun g h1 h2 => by omega), ?_⟩
        rw [HVB.out, if_pos rfl]
        refine ⟨?_, rfl⟩
        rfl

end Go.Proofs.YtgelfefoiplekaaDoor
