/-
  Chapter 44: PolicyReturns, walked.
-/
import Derived.Test.YtgelfefoiplekaaDoorPolSame
import Derived.Test.YtgelfefoiplekaaDoorPolMac
import Derived.Lib.ConvBytes
import Derived.Laws.AppendOwn
namespace Go.Proofs.YtgelfefoiplekaaDoor
open Go.RowKit PN

def nums (s : ByteArray) : List Int := (bl s).map fun b => (b.toNat : Int)
theorem nums_len (s : ByteArray) : (nums s).length = s.size := by rw [nums, List.length_map, bl_len]

/-- '[]byte(s)'. -/
theorem wpList_toBytes {P : Program} {ops : Array Oper} {rest : List Oper} {op : Oper} {a : Act} {w : World} {Q : Exit → Act → World → Prop} (hgd : op.guard = none) (src dst e : TypeId) (x : Operand) (ho : op.op = .convert src dst x)
    (s : ByteArray) (hx : a.eval x = .string s) (hs : P.underlying src = some .string) (hd : P.underlying dst = some (.slice e)) (he : P.underlying e = some (.int .u8)) (hm : s.size ≤ maxLen)
    (hk : ∀ c w', SliceV byteEnc 1 w' (some ⟨w.heap.size, 0, none⟩) (nums s) → Keep None w w' → (nums s).length ≤ c → c ≤ maxLen → wpList P ops Q rest (a.put op.dst (.slice (some ⟨w.heap.size, 0, none⟩) (nums s).length c)) w') : wpList P ops Q (op :: rest) a w := by
  have hrun := Lib.run_convert_string_bytes (P := P) w src dst e s hs hd he
  refine wpList_plain hgd fun K hK => ?_
  unfold Oper.wp execOp
  simp only [ho, hx, Sem.run_bind, Sem.run_pure, Result.andThen_ok, hrun]
  rw [← nums_len s]
  refine hK _ _ (hk _ _ (.inr ⟨_, _, rfl, fun i y hy j u hu => ?_⟩) ⟨rfl, rfl, rfl, by rw [Lib.bytesWorld_size]; omega, fun j hj _ => Lib.bytesWorld_at_old w e s j hj⟩ (by rw [nums_len]; exact grownCap_ge _ _ _ _) (by rw [nums_len]; exact grownCap_le_maxLen _ _ _ _ hm))
  have hj : j = 0 := by have := (List.getElem?_eq_some_iff.1 hu).1; simp [byteEnc] at this; omega
  subst hj
  simp [byteEnc] at hu
  subst hu
  have hi : i < s.size := by have := (List.getElem?_eq_some_iff.1 hy).1; rwa [nums_len] at this
  rw [show 0 + i * 1 + 0 = i by omega, Lib.bytesWorld_cell w e s i hi]
  have h2 : (nums s)[i]? = some ((s.data.toList.getD i 0).toNat : Int) := by
    have hi2 : i < (bl s).length := by rw [bl_len]; exact hi
    rw [nums, List.getElem?_map, List.getElem?_eq_getElem hi2]
    simp [bl, List.getD, hi]
  rw [hy] at h2
  rw [Option.some.inj h2]

/-- 'string(b)'. -/
theorem wpList_toString {P : Program} {ops : Array Oper} {rest : List Oper} {op : Oper} {a : Act} {w : World} {Q : Exit → Act → World → Prop} (hgd : op.guard = none) (src dst e : TypeId) (x : Operand) (ho : op.op = .convert src dst x)
    (p : Option Addr) (xs : List Int) (c : Nat) (hx : a.eval x = .slice p xs.length c) (hv : SliceV byteEnc 1 w p xs) (hs : P.underlying src = some (.slice e)) (he : P.underlying e = some (.int .u8)) (hd : P.underlying dst = some .string)
    (hk : wpList P ops Q rest (a.put op.dst (.string (strOfNums xs))) w) : wpList P ops Q (op :: rest) a w := by
  have hrun : (convert src dst (.slice p xs.length c)).run P w = .ok (.string (strOfNums xs)) w := by
    rcases hv with rfl | ⟨b, off, rfl, hsl⟩
    · cases p with
      | none => exact run_convert_bytes_nil w src e hs he _ c dst hd
      | some ad =>
        rw [run_convert_bytes_string w src dst e _ _ c hs he hd, run_bytesToString w ad _ c [] (by simp [loadCells, loadCellsFrom])]
        rfl
    · refine run_convert_bytes_arg w src e hs he b off _ c xs rfl (fun i hi => ?_) dst hd
      have := hsl i (xs[i]) (List.getElem?_eq_getElem hi) 0 _ rfl
      rw [show off + i * 1 + 0 = off + i by omega] at this
      rw [this, List.getD_eq_getElem?_getD, List.getElem?_eq_getElem hi]; rfl
  refine wpList_plain hgd fun K hK => ?_
  unfold Oper.wp execOp
  simp only [ho, hx, Sem.run_bind, Sem.run_pure, Result.andThen_ok, hrun]
  exact hK _ _ hk

theorem fmt_short {p : Pol} (g : PN.Good p) : 1 ≤ (PN.format p).length ∧ (PN.format p).length ≤ 1000 := by
  constructor
  · simp [PN.format, linesOf, nl]; omega
  · refine Nat.le_trans (nl_len _ ?_) ?_
    · intro l hl
      rcases List.mem_cons.1 hl with rfl | hl
      · exact two_len (by have := g.u0; have := g.u1; have := g.d2; omega) (by have := g.d1; have := g.d2; omega) (by decide) (by decide)
      · rcases List.mem_cons.1 hl with rfl | hl
        · have h1 : (dec p.margin).length ≤ 9 := by rw [dec_len]; exact nDig_le _ 8 (by have := g.m1; have := g.m0; omega)
          simp only [marginText, wMargin, List.length_append, List.length_cons, List.length_nil]
          omega
        · obtain ⟨s, hs, rfl⟩ := List.mem_map.1 hl
          have := g.st s hs
          exact two_len (by omega) (by omega) (by decide) (by decide)
    · simp only [linesOf, List.length_cons, List.length_map]
      have := g.n8
      omega

set_option maxRecDepth 100000 in
set_option maxHeartbeats 8000000 in
theorem lawRet_calls (pc : Option Addr) (bs : List Int) (cap : Nat) (w : World) (h : SliceV byteEnc 1 w pc bs) (hv : ∀ x ∈ bs, (0 : Int) ≤ x ∧ x ≤ 255) (hcap : bs.length ≤ cap) (hE : Env w) (h6 : 6 ≤ w.heap.size) :
    Calls Tryd.prog 3 #[.slice pc bs.length cap] w (Gives None (.bool true) w) := by
  have H0 := Lib.hid h
  have HE := Lib.hid hE
  clear h hE
  go_enter Tryd.func3, Tryd.ntmps3
  go_wp2_with (go_at_call 9; refine (awake_calls _ HE.out h6).mono ?_; rintro e w1 ⟨rfl, hk1⟩; have HK1 := Lib.hid hk1; clear hk1)
  refine (new_calls pc bs cap 200 _ (H0.out.keep HK1.out (fun _ _ => id)) hv (by omega) hcap).mono ?_
  rintro e w2 ⟨b, bl', rfl, hbb, hc, hk2, -⟩
  have HC2 := Lib.hid hc
  have HK2 := Lib.hid (HK1.out.trans hk2)
  have hbw := Nat.le_trans HK1.out.size hbb
  clear hc hk2 hbb
  go_wp2_with (fail)
  refine (draw_calls b bl' _ _ HC2.out).mono ?_
  rintro e w3 ⟨a, c, p, r, rfl, hpa, hval, hfr, hcc1, hcc2, hc3, hk3⟩
  have HPA := Lib.hid hpa
  have HVAL := Lib.hid hval
  have HG := Lib.hid (valid_good hval)
  have HFS := Lib.hid (fmt_short (valid_good hval))
  have HK3 : Hid (Keep (· = b) w w3) := Lib.hid ((HK2.out.weaken (fun _ _ q => q.elim)).trans hk3)
  have HC3 := Lib.hid hc3
  have hn1 := HG.out.n1
  have hn8 := HG.out.n8
  clear hpa hval hfr hk3 hc3
  unfold polVal
  go_upto_region 5 with (fail)
  generalize hw4 : World.alloc _ _ = w4
  have hk4 : Keep None w3 w4 := by rw [← hw4]; exact (Keep.refl _ _).alloc _
  have ho4 : w4.heap[w3.heap.size]? = some (.cells #[.slice a p.st.length c, .int .i64 p.num, .int .i64 p.den, .int .i64 p.margin] 30 (0, 0)) := by rw [← hw4]; exact heap_alloc_new _ _
  clear hw4
  have HC4 := Lib.hid (HC3.out.same hk4)
  have HK4 : Hid (Keep (· = b) w w4) := Lib.hid (HK3.out.trans (hk4.weaken (fun _ _ q => q.elim)))
  have HO4 := Lib.hid ho4
  have HPA4 := Lib.hid (HPA.out.still hk4)
  have HE4 := Lib.hid (HE.out.keep HK4.out (fun g hg => by have h3 : g = b := hg; omega))
  have h64 : 6 ≤ w4.heap.size := by have := HK4.out.size; omega
  clear hk4 ho4 HC3 HK3 HPA
  go_upto_region 6 with (first
    | ((with_reducible (show wpList _ _ _ (⟨some 23, .load 30 _, _, _, _, none⟩ :: _) _ _)); refine wpList_loadEl (enc := listEnc) (size := 4) rfl 30 _ rfl _ _ rfl [.slice a p.st.length c, .int .i64 p.num, .int .i64 p.den, .int .i64 p.margin] _ (range_of_obj HO4.out) rfl Tryd.underlying30 rfl Tryd.sizePolicy (.agg #[.slice a p.st.length c, .int .i64 p.num, .int .i64 p.den, .int .i64 p.margin]) rfl ?_)
    | (go_at_call 12; refine (format_calls a c p w4 HE4.out h64 HPA4.out).mono ?_; rintro e w5 ⟨s, err, rfl, hk5, hf⟩; rw [if_pos HVAL.out] at hf; obtain ⟨hf1, rfl⟩ := hf; have HF := Lib.hid hf1; have HK5 := Lib.hid hk5; clear hf1 hk5))
  have hsz : s.size ≤ 1000 := by rw [← bl_len, HF.out]; exact HFS.out.2
  have hsz1 : 1 ≤ s.size := by rw [← bl_len, HF.out]; exact HFS.out.1
  have HPS : Hid (parse (bl s) = some p) := Lib.hid (by rw [HF.out]; exact parse_format HVAL.out)
  have HE5 := Lib.hid (HE4.out.still HK5.out)
  have h65 : 6 ≤ w5.heap.size := by have := HK5.out.size; omega
  go_upto_region 7 with (go_at_call 13; refine (parse_calls s w5 HE5.out h65 (by omega)).mono ?_; rintro e w6 ⟨a6, c6, p6, n6, err6, rfl, hpa6, hfr6, hk6, hm6⟩; rw [HPS.out] at hm6; obtain ⟨hp6, rfl, rfl⟩ := hm6; have hp7 := hp6.symm; clear hp6; subst hp7; have HPA6 := Lib.hid hpa6; have HK6 := Lib.hid hk6; clear hpa6 hfr6 hk6; unfold polVal)
  generalize hw7 : World.alloc _ _ = w7
  have hk7 : Keep None w6 w7 := by rw [← hw7]; exact (Keep.refl _ _).alloc _
  have ho7 : w7.heap[w6.heap.size]? = some (.cells #[.slice a6 p.st.length c6, .int .i64 p.num, .int .i64 p.den, .int .i64 p.margin] 30 (0, 0)) := by rw [← hw7]; exact heap_alloc_new _ _
  clear hw7
  have HO7 := Lib.hid ho7
  have HK47 : Hid (Keep None w4 w7) := Lib.hid ((HK5.out.trans HK6.out).trans hk7)
  have HO47 := Lib.hid (HK47.out.obj HO4.out id)
  have HPA47 := Lib.hid (HPA4.out.still HK47.out)
  have HPA67 := Lib.hid (HPA6.out.still hk7)
  have hs0 : ((s.size : Int) == 0) = false := by rw [beq_eq_false_iff_ne]; omega
  clear hk7 ho7
  go_upto_region 9 with (first
    | ((with_reducible (show wpList _ _ _ (⟨some 44, .load 30 _, _, _, _, some _⟩ :: _) _ _)); refine wpList_loadElG rfl 30 _ rfl (enc := listEnc) (size := 4) _ _ rfl [.slice a p.st.length c, .int .i64 p.num, .int .i64 p.den, .int .i64 p.margin] _ (range_of_obj HO47.out) rfl Tryd.underlying30 rfl Tryd.sizePolicy (.agg #[.slice a p.st.length c, .int .i64 p.num, .int .i64 p.den, .int .i64 p.margin]) rfl ?_)
    | ((with_reducible (show wpList _ _ _ (⟨some 45, .load 30 _, _, _, _, some _⟩ :: _) _ _)); refine wpList_loadElG rfl 30 _ rfl (enc := listEnc) (size := 4) _ _ rfl [.slice a6 p.st.length c6, .int .i64 p.num, .int .i64 p.den, .int .i64 p.margin] _ (range_of_obj HO7.out) rfl Tryd.underlying30 rfl Tryd.sizePolicy (.agg #[.slice a6 p.st.length c6, .int .i64 p.num, .int .i64 p.den, .int .i64 p.margin]) rfl ?_)
    | (go_at_call 14; refine (same_calls a a6 c c6 p w7 HPA47.out HPA67.out).mono ?_; rintro e w8 ⟨rfl, hk8⟩; have HK8 := Lib.hid hk8; clear hk8)
    | ((with_reducible (show wpList _ _ _ (⟨some 50, .load 30 _, _, _, _, some _⟩ :: _) _ _)); refine wpList_loadElG rfl 30 _ rfl (enc := listEnc) (size := 4) _ _ rfl [.slice a6 p.st.length c6, .int .i64 p.num, .int .i64 p.den, .int .i64 p.margin] _ (range_of_obj (HK8.out.obj HO7.out id)) rfl Tryd.underlying30 rfl Tryd.sizePolicy (.agg #[.slice a6 p.st.length c6, .int .i64 p.num, .int .i64 p.den, .int .i64 p.margin]) rfl ?_)
    | (go_at_call 15; refine (valid_calls a6 c6 p w8 (HPA67.out.still HK8.out)).mono ?_; rintro e w9 ⟨rfl, hk9⟩; rw [HVAL.out]; have HK9 := Lib.hid hk9; clear hk9))
  have HK49 : Hid (Keep None w4 w9) := Lib.hid ((HK47.out.trans HK8.out).trans HK9.out)
  have HC9 := Lib.hid (HC4.out.same HK49.out)
  go_wp2_with (((with_reducible (show wpList _ _ _ (⟨some 61, .convert _ _ _, _, _, _, none⟩ :: _) _ _)); go_loud (refine wpList_toBytes rfl 9 22 5 _ rfl s rfl Tryd.underlying9 Tryd.underlying22 Tryd.underlying5 (by unfold maxLen; omega) ?_; intro cx w10 hv10 hk10 hcx1 hcx2; have HV10 := Lib.hid hv10; have HK10 := Lib.hid hk10; clear hv10 hk10)))
  have hb9 := HC9.out.lt
  refine (spoilt_calls b bl' r _ (nums s) cx w10 (HC9.out.same HK10.out) HV10.out (fun x hx hxb => by cases hx; have h3 : w9.heap.size = b := hxb; omega) (by rw [nums_len]; omega) (by rw [nums_len]; omega) hcx1 hcx2).mono ?_
  rintro e w11 ⟨p11, c11, xs, r11, rfl, hv11, hl11, hc11, hk11⟩
  have HV11 := Lib.hid hv11
  have HK11 : Hid (Keep (· = b) w w11) := Lib.hid ((HK4.out.trans ((HK49.out.trans HK10.out).weaken (fun _ _ q => q.elim))).trans hk11)
  rw [nums_len] at hl11
  clear hv11 hk11 hc11
  go_upto_region 10 with (((with_reducible (show wpList _ _ _ (⟨some 63, .convert _ _ _, _, _, _, none⟩ :: _) _ _)); go_loud (refine wpList_toString rfl 22 9 5 _ rfl p11 xs c11 rfl HV11.out Tryd.underlying22 Tryd.underlying5 Tryd.underlying9 ?_)))
  have hxz : (strOfNums xs).size ≤ 1001 := by rw [strOfNums_size]; omega
  generalize strOfNums xs = X at *
  have HE11 := Lib.hid (HE.out.keep HK11.out (fun g hg => by have h3 : g = b := hg; omega))
  have h611 : 6 ≤ w11.heap.size := by have := HK11.out.size; omega
  go_upto_region 11 with (go_at_call 13; refine (parse_calls X w11 HE11.out h611 (by omega)).mono ?_; rintro e w12 ⟨a12, c12, p12, n12, err12, rfl, hpa12, -, hk12, hm12⟩; have HPA12 := Lib.hid hpa12; have HK12 := Lib.hid hk12; have HM12 := Lib.hid hm12; clear hpa12 hk12 hm12; unfold polVal)
  generalize hw13 : World.alloc _ _ = w13
  have hk13 : Keep None w12 w13 := by rw [← hw13]; exact (Keep.refl _ _).alloc _
  have ho13 : w13.heap[w12.heap.size]? = some (.cells #[.slice a12 p12.st.length c12, .int .i64 p12.num, .int .i64 p12.den, .int .i64 p12.margin] 30 (0, 0)) := by rw [← hw13]; exact heap_alloc_new _ _
  clear hw13
  have HO13 := Lib.hid ho13
  have HPA13 := Lib.hid (HPA12.out.still hk13)
  have HK13 : Hid (Keep None w11 w13) := Lib.hid (HK12.out.trans hk13)
  have HE13 := Lib.hid (HE11.out.still HK13.out)
  have h613 : 6 ≤ w13.heap.size := by have := HK13.out.size; omega
  clear hk13 ho13
  cases hp : parse (bl X) with
  | none =>
    have hm := HM12.out
    rw [hp] at hm
    simp only at hm
    have e0 : (err12 == 0) = false := by rw [beq_eq_false_iff_ne]; exact hm
    clear hp
    clear HM12
    go_wp2_with (first
      | ((with_reducible (show wpList _ _ _ (⟨some 71, .load 30 _, _, _, _, none⟩ :: _) _ _)); refine wpList_loadEl (enc := listEnc) (size := 4) rfl 30 _ rfl _ _ rfl _ _ (range_of_obj HO13.out) rfl Tryd.underlying30 rfl Tryd.sizePolicy _ rfl ?_)
      | (go_at_call 12; refine (format_calls a12 c12 p12 w13 HE13.out h613 HPA13.out).mono ?_; rintro e w14 ⟨t, err, rfl, hk14, -⟩; have HK14 := Lib.hid hk14; clear hk14))
    go_ret
    exact ⟨rfl, ((HK11.out.trans ((HK13.out.trans HK14.out).weaken (fun _ _ q => q.elim))).fresh hbw)⟩
  | some q =>
    have hm := HM12.out
    rw [hp] at hm
    obtain ⟨hq, rfl, rfl⟩ := hm
    have hq' := hq.symm
    clear hq
    subst hq'
    obtain ⟨hvq, htq⟩ := format_parse hp
    have HVQ := Lib.hid hvq
    have HTQ := Lib.hid htq
    clear hp hvq htq HM12
    go_upto_region 12 with (first
      | ((with_reducible (show wpList _ _ _ (⟨some 71, .load 30 _, _, _, _, none⟩ :: _) _ _)); refine wpList_loadEl (enc := listEnc) (size := 4) rfl 30 _ rfl _ _ rfl _ _ (range_of_obj HO13.out) rfl Tryd.underlying30 rfl Tryd.sizePolicy _ rfl ?_)
      | (go_at_call 12; refine (format_calls a12 c12 q w13 HE13.out h613 HPA13.out).mono ?_; rintro e w14 ⟨t, err, rfl, hk14, hf⟩; rw [if_pos HVQ.out] at hf; obtain ⟨hf1, rfl⟩ := hf; have HF14 := Lib.hid hf1; have HK14 := Lib.hid hk14; clear hf1 hk14))
    have HT : Hid (t = X ∨ t = X ++ ⟨#[10]⟩) := Lib.hid (by
      rcases HTQ.out with h | h
      · exact .inl (bl_inj (HF14.out.trans h))
      · exact .inr (bl_inj (by rw [bl_app, HF14.out, h]))  )
    have hcat : X.size + 1 ≤ 2000 := by omega
    by_cases htx : t = X
    · subst htx
      clear HTQ
      go_wp2_with (fail)
      go_ret
      exact ⟨rfl, ((HK11.out.trans ((HK13.out.trans HK14.out).weaken (fun _ _ q => q.elim))).fresh hbw)⟩
    · have ht2 : t = X ++ ⟨#[10]⟩ := by rcases HT.out with h | h; exact absurd h htx; exact h
      have e1 : (t.toList == X.toList) = false := by
        rw [bl_eq, bl_eq, beq_dec, decide_eq_false]
        exact fun h => htx (bl_inj h)
      have e2 : ¬ t.toList = X.toList := by simpa using e1
      clear htx HTQ HT
      go_wp2_with (fail)
      all_goals
        go_ret
        exact ⟨rfl, ((HK11.out.trans ((HK13.out.trans HK14.out).weaken (fun _ _ q => q.elim))).fresh hbw)⟩

end Go.Proofs.YtgelfefoiplekaaDoor
