/-
  Chapter 23: samples that are drawn.
-/
import Derived.Test.YtlhmajjmhkjcoaaWeak
import Derived.Test.YtlhmajjmhkjcoaaCodeInt
import Derived.Test.YtlhmajjmhkjcoaaRegDep
namespace Go.Proofs.Ytlhmajjmhkjcoaa
open Go.RowKit

def NextEx (b bl : Nat) (n : Int) (w : World) (e : Ending) (w' : World) : Prop :=
  ∃ (m : Int) (r : List Int), e = .returned (.int .i64 m) ∧ CodesAt w' b bl r ∧ Keep (· = b) w w' ∧ 0 ≤ m ∧ m < n

theorem next_ex (b bl : Nat) (n : Int) (r : List Int) (w : World) (h : CodesAt w b bl r) (hn : n ≤ 100000) (h1 : 1 ≤ n) :
    Calls Try.prog 15 #[.pointer (some ⟨b, 0, none⟩), .int .i64 n] w (NextEx b bl n w) :=
  (next_in b bl n r w h hn h1).mono fun _ _ ⟨h2, h3, h4, h5, h6⟩ => ⟨_, _, h2, h3, h4, h5, h6⟩

theorem CodesAt.typed {w : World} {b bl : Nat} {r : List Int} (h : CodesAt w b bl r) : Typed w 67 b := by
  obtain ⟨p, len, cap, at_, h0, -⟩ := h
  exact ⟨_, _, h0⟩

theorem CodesAt.still {w w' : World} {b bl : Nat} {r : List Int} (h : CodesAt w b bl r) (k : Keep None w w') : CodesAt w' b bl r := h.keep k id id

/-- A chain that the call owns. -/
def ChainAt (lo : Nat) (w : World) (s : Smp) : Prop :=
  (s.ch = [] ∨ ∃ g, s.q = some ⟨g, 0, none⟩ ∧ lo ≤ g ∧ Typed w 3 g ∧ SlAt intEnc 1 w g 0 s.ch) ∧ s.ch.length ≤ 3 ∧ -100 ≤ s.addr ∧ s.addr ≤ 100 ∧ -100 ≤ s.lost ∧ s.lost ≤ 100 ∧ ∀ x ∈ s.ch, -100 ≤ x ∧ x ≤ 100

theorem Typed.keep {w w' : World} {e : TypeId} {b : Nat} {S : Nat → Prop} (h : Typed w e b) (k : Keep S w w') (hb : ¬ S b) : Typed w' e b := by
  obtain ⟨C, fr, h⟩ := h
  exact ⟨C, fr, k.obj h hb⟩

theorem ChainAt.keep {lo : Nat} {w w' : World} {s : Smp} {S : Nat → Prop} (h : ChainAt lo w s) (k : Keep S w w') (hs : ∀ g, lo ≤ g → Typed w 3 g → ¬ S g) : ChainAt lo w' s := by
  obtain ⟨h, h'⟩ := h
  refine ⟨?_, h'⟩
  rcases h with h | ⟨g, a1, a2, a3, a4⟩
  · exact .inl h
  · exact .inr ⟨g, a1, a2, a3.keep k (hs g a2 a3), a4.keep k (hs g a2 a3)⟩

theorem ChainAt.ok {lo : Nat} {w : World} {s : Smp} (h : ChainAt lo w s) : s.ok w := by
  obtain ⟨h, h'⟩ := h
  refine ⟨?_, h'⟩
  rcases h with h | ⟨g, a1, a2, a3, a4⟩
  · exact .inl h
  · exact .inr ⟨g, 0, a1, a4⟩

theorem Try.infoSmp : (Try.prog.info? 62).map (fun i => (i.zero, i.size, i.bytes)) = some (some (.agg #[.int .i64 0, .int .i64 0, .slice none 0 0, .int .i64 0]), 4, 48) := by kernel_rfl
theorem Try.sizeSmp : (Try.prog.info? 62).map (·.size) = some 4 := by kernel_rfl

def SamplesPost (b bl m : Nat) (w : World) (e : Ending) (w' : World) : Prop :=
  ∃ (p : Option Addr) (l : List Smp) (c : Nat) (r : List Int), e = .returned (.slice p l.length c) ∧ Own Smp.enc 4 62 w.heap.size w' (.slice p l.length c) l ∧ (∀ s ∈ l, ChainAt w.heap.size w' s) ∧ l.length ≤ m ∧ CodesAt w' b bl r ∧ Keep (· = b) w w'

def SmpInv (b bl m : Nat) (w0 : World) (v i : Value) (w : World) : Prop :=
  ∃ (K : Nat) (p : Option Addr) (c : Nat) (L : List Smp) (r : List Int), i = .int .i64 K ∧ v = .slice p L.length c ∧ K + L.length ≤ m ∧ Own Smp.enc 4 62 w0.heap.size w (.slice p L.length c) L ∧ (∀ s ∈ L, ChainAt w0.heap.size w s) ∧ CodesAt w b bl r ∧ Keep (· = b) w0 w

def SmpIn (b bl P : Nat) (addr lost : Int) (w0 : World) (i : Value) (w : World) : Prop :=
  ∃ (J : Nat) (q : Option Addr) (c : Nat) (ch : List Int) (r : List Int), i = .int .i64 J ∧ J + ch.length ≤ 3 ∧ w.heap[P]? = some (.cells #[.int .i64 0, .int .i64 addr, .slice q ch.length c, .int .i64 lost] 62 (0, 0)) ∧ Own intEnc 1 3 w0.heap.size w (.slice q ch.length c) ch ∧
    (∀ x ∈ ch, -100 ≤ x ∧ x ≤ 100) ∧ CodesAt w b bl r ∧ Keep (fun x => x = b ∨ x = P) w0 w

def SubIn (lo hi : Int) (_ : World) (v : Value) : Prop := ∃ m : Int, v = .int .i64 m ∧ lo ≤ m ∧ m < hi
theorem subIn_keep (S : Nat → Prop) (lo hi : Int) : ∀ w w' v, Keep S w w' → SubIn lo hi w v → SubIn lo hi w' v := fun _ _ _ _ h => h
def OneMade (B : Nat) (lo hi : Int) (w : World) (v : Value) : Prop := ∃ g m, v = .slice (some ⟨g, 0, none⟩) 1 1 ∧ B ≤ g ∧ w.heap[g]? = some (.cells #[.int .i64 m] 3 (0, 0)) ∧ lo ≤ m ∧ m < hi
theorem oneMade_keep (b B : Nat) (lo hi : Int) (hb : b < B) : ∀ w w' v, Keep (· = b) w w' → OneMade B lo hi w v → OneMade B lo hi w' v := fun w w' v hk ⟨g, m, h1, h2, h3, h4⟩ => ⟨g, m, h1, h2, hk.obj h3 (by omega), h4⟩

set_option maxRecDepth 100000 in
set_option maxHeartbeats 4000000 in
theorem samples_calls (b bl m : Nat) (size : Int) (r : List Int) (w : World) (h : CodesAt w b bl r) (hm : m ≤ 9) (hs0 : 1 ≤ size) (hs1 : size ≤ 60) :
    Calls Try.prog 25 #[.pointer (some ⟨b, 0, none⟩), .int .i64 (m : Int), .int .i64 size] w (SamplesPost b bl m w) := by
  obtain ⟨i1, hi1, hy0, hy1, hy2⟩ := info_parts Try.infoInt
  obtain ⟨i6, hi6, hz0, hz1, hz2⟩ := info_parts Try.infoSmp
  obtain ⟨hbw, hblb⟩ := h.lt
  have HH := Lib.hid h
  clear h
  go_enter Try.func25, Try.ntmps25
  go_wp2_with (go_at_call 15; refine (next_ex b bl _ r _ HH.out (by omega) (by omega)).mono ?_; rintro e w1 ⟨K0, r1, rfl, hc1, hk1, hK0, hK1⟩; have HC1 := Lib.hid hc1; have HK1 := Lib.hid hk1; clear hc1 hk1)
  obtain ⟨K0, rfl⟩ : ∃ k : Nat, K0 = k := ⟨K0.toNat, by omega⟩
  go_loopw [7, 8] (SmpInv b bl m w) (fun _ i _ => (intOf i).toNat)
  case atStart => exact ⟨K0, none, 0, [], r1, rfl, rfl, by simp; omega, Own.nil _ _ _ _ _, by simp, HC1.out, HK1.out⟩
  case round =>
    obtain ⟨K, p, c, L, rr, rfl, rfl, hKL, hown, hch, hcod, hkp⟩ := hrel
    have HO := Lib.hid hown
    have HCH := Lib.hid hch
    have HC := Lib.hid hcod
    have HKP := Lib.hid hkp
    obtain ⟨hbr, hblr⟩ := hcod.lt
    clear hown hch hcod hkp
    by_cases hpos : 0 < K
    · have hpos' : (0 : Int) < K := by omega
      go_wp2_with (fail)
      refine (next_ex b bl _ rr _ HC.out (by omega) (by omega)).mono ?_
      rintro e w2 ⟨A0, r2, rfl, hc2, hk2, hA0, hA1⟩
      have HC2 := Lib.hid hc2
      have HK2 := Lib.hid hk2
      clear hc2 hk2
      go_wp2_with (fail)
      refine (next_ex b bl _ r2 _ HC2.out (by omega) (by omega)).mono ?_
      rintro e w3 ⟨D0, r3, rfl, hc3, hk3, hD0, hD1⟩
      have HC3 := Lib.hid hc3
      have HK3 := Lib.hid (HK2.out.trans hk3)
      obtain ⟨hbw3, -⟩ := hc3.lt
      clear hc3 hk3
      obtain ⟨wo, rfl⟩ : ∃ wo : World, wo = wr := ⟨_, rfl⟩
      have hw3 : wo.heap.size ≤ w3.heap.size := HK3.out.size
      go_wp2_with ((with_reducible (show wpList _ _ _ (⟨_, .store 62 _ _, _, _, _, none⟩ :: _) _ _)); (refine wpList_storeObj rfl 62 _ _ rfl w3.heap.size rfl [.int .i64 0, .int .i64 0, .slice none 0 0, .int .i64 0] [.int .i64 0, .int .i64 (A0 - 3), .slice none 0 0, .int .i64 (D0 - 1)] rfl _ (by simp) (heap_alloc_new _ _) 4 Try.sizeSmp rfl (by simp [Value.oneCell']) ?_); intro w4 hres hk4 hs4; have HRES := Lib.hid hres; have HK4 := Lib.hid (((Keep.refl (fun x => x = b ∨ wo.heap.size ≤ x) _).alloc _).trans (hk4.weaken (fun x _ hx => by have : x = w3.heap.size := hx; right; omega))); have HC4 := Lib.hid ((HC3.out.still ((Keep.refl None _).alloc _)).keep hk4 (by omega) (by omega)); have hw4 : w3.heap.size < w4.heap.size := heap_lt hres; clear hres hk4 hs4)
      refine (next_ex b bl _ r3 _ HC4.out (by omega) (by omega)).mono ?_
      rintro e w5 ⟨J0, r5, rfl, hc5, hk5, hJ0, hJ1⟩
      have HC5 := Lib.hid hc5
      have HK5 := Lib.hid (((HK3.out.weaken (T := fun x => x = b ∨ wo.heap.size ≤ x) (fun x _ hx => .inl hx)).trans HK4.out).trans (hk5.weaken (fun x _ hx => .inl hx)))
      have HBX5 := Lib.hid (hk5.obj HRES.out (by omega))
      have hw5 : w4.heap.size ≤ w5.heap.size := hk5.size
      clear hc5 hk5
      obtain ⟨J0, rfl⟩ : ∃ k : Nat, J0 = k := ⟨J0.toNat, by omega⟩
      go_wp2_with (fail)
      go_loopw [10] (SmpIn b bl w3.heap.size (A0 - 3) (D0 - 1) w5) (fun i _ => (intOf i).toNat)
      case atStart => exact ⟨J0, none, 0, [], r5, rfl, by simp; omega, HBX5.out, Own.nil _ _ _ _ _, by simp, HC5.out, Keep.refl _ _⟩
      case round =>
        obtain ⟨J, q, cq, ch, rj, rfl, hJc, hbox, hown, hchb, hcod, hkp⟩ := hrel
        have HBX := Lib.hid hbox
        have HOC := Lib.hid hown
        have HCHB := Lib.hid hchb
        have HCJ := Lib.hid hcod
        have HKJ := Lib.hid hkp
        obtain ⟨hbwr, -⟩ := hcod.lt
        have hwr : w5.heap.size ≤ wr.heap.size := hkp.size
        clear hbox hown hchb hcod hkp
        by_cases hJp : 0 < J
        · have hJp' : (0 : Int) < J := by omega
          go_wp2_with (fail)
          have hdr : Keep (· = b) wr wr.drew := (Keep.refl _ _).drew
          refine region_kindsG_tail (· = b) [.is (.pointer (some ⟨w3.heap.size, 2, none⟩)), .is (.slice q ch.length cq), .is (.pointer (some ⟨b, 0, none⟩)), .is (.int .i64 size), .is (.int .i64 (size + 4)), .sat (SubIn 0 (size + 4)) (subIn_keep _ _ _), .sat (SubIn (-1) (size + 3)) (subIn_keep _ _ _), .sat (OneMade wr.heap.size (-1) (size + 3)) (oneMade_keep b _ _ _ hbwr), .any, .any, .any]
            (fun w' => (∃ r, CodesAt w' b bl r) ∧ Keep (· = b) wr w') 49 8 (by kernel_rfl) (by decide) (by kernel_rfl) (by kernel_rfl) (by kernel_rfl) rfl (by kernel_rfl) ⟨⟨_, HCJ.out.still (Keep.refl _ _).drew⟩, hdr⟩ ?_ ?_
          · refine ⟨?_, ?_, ?_, ?_, ?_, ?_, ?_, ?_, trivial⟩
            · exact st_free rfl (st_ev1 (dep_f (t := 9) rfl rfl) _ (by intro a w' h1 hI; go_simp) rfl)
            · exact st_free rfl (st_ev1 (dep_e 0 rfl rfl rfl) _ (by intro a w' h1 hI; have q0 := hI.2.obj HBX.out (by omega); have q1 : w'.cell? ⟨w3.heap.size, 2, none⟩ = some (.slice q ch.length cq) := cell_of_row _ _ 2 _ _ _ q0; clear q0; go_simp) rfl)
            · exact st_free rfl (st_ev1 (dep_f (t := 0) rfl rfl) _ (by intro a w' h1 hI; go_simp) rfl)
            · exact st_free rfl (st_ev1 (dep_f (t := 2) rfl rfl) _ (by intro a w' h1 hI; go_simp) rfl)
            · exact st_free rfl (st_ev1 (dep_e 3 rfl rfl rfl) _ (by intro a w' h1 hI; have q0 : IntKind.i64.wrap (size + 4) = size + 4 := IntWalk.i64_in _ (by omega); go_simp) rfl)
            · refine st_free rfl (st_callD2 (dep_e 2 rfl rfl rfl) (dep_e 4 rfl rfl rfl) 15 #[.pointer (some ⟨b, 0, none⟩), .int .i64 (size + 4)] (by intro a w' h1 h2; go_simp) ?_)
              rintro w' ⟨⟨rr', hcc⟩, hI⟩
              refine (next_ex b bl _ rr' w' hcc (by omega) (by omega)).mono ?_
              rintro e w'' ⟨mm, r7, rfl, a1, a2, a3, a4⟩
              exact ⟨_, rfl, ⟨mm, rfl, a3, a4⟩, ⟨⟨r7, a1⟩, hI.trans a2⟩, a2⟩
            · refine st_free rfl (st_evS (dep_s 5 rfl rfl rfl) ?_)
              rintro a w' ⟨mm, h1, h2, h3⟩ hI
              have q0 : IntKind.i64.wrap (mm - 1) = mm - 1 := IntWalk.i64_in _ (by omega)
              exact ⟨.int .i64 (mm - 1), by go_simp, mm - 1, rfl, by omega, by omega⟩
            · refine st_free rfl ?_
              intro a w' K' hI hV hF hK
              obtain ⟨mm, h1, h2, h3⟩ : SubIn (-1) (size + 3) w' (a.eval (.tmp 40)) := tells hV 6 40 rfl rfl
              unfold Oper.wp execOp
              have hb : ∀ v : Value, (Instr.buildSlice 25 1 #[(0, .int .i64 mm)]).run Try.prog w' = .ok (.slice (some ⟨w'.heap.size, 0, none⟩) 1 1) (w'.alloc (.cells #[.int .i64 mm] 3)) := by intro _; go_simp
              simp only [List.map_toArray, List.map_cons, List.map_nil, h1, Sem.run_bind, hb undef, Result.andThen_ok, Sem.run_pure, Oper.upon_value]
              have hal : Keep None w' (w'.alloc (.cells #[.int .i64 mm] 3)) := (Keep.refl None w').alloc _
              obtain ⟨⟨r7, a1⟩, a2⟩ := hI
              exact hK _ _ ⟨⟨r7, a1.still hal⟩, a2.alloc _⟩ ((Keep.refl _ _).alloc _) ⟨w'.heap.size, mm, rfl, a2.size, heap_alloc_new _ _, h2, h3⟩
          · intro f wk hkinds hI
            have k0 : f 34 = .pointer (some ⟨w3.heap.size, 2, none⟩) := hkinds 0 _ 34 (by omega) rfl rfl
            have k1 : f 35 = .slice q ch.length cq := hkinds 1 _ 35 (by omega) rfl rfl
            obtain ⟨g, mm, k7, hg, hgo, hm0, hm1⟩ : OneMade wr.heap.size (-1) (size + 3) wk (f 41) := hkinds 7 _ 41 (by omega) rfl rfl
            simp only [putsOf, Act.put, List.take_succ_cons, List.take_zero, List.drop_succ_cons, List.drop_zero, List.setIfInBounds_toArray, List.set_cons_zero, List.set_cons_succ, k0, k1, k7]
            clear hkinds k0 k1 k7 hdr
            obtain ⟨⟨r7, hc7⟩, hki⟩ := hI
            have hok : Own intEnc 1 3 w5.heap.size wk (.slice q ch.length cq) ch := HOC.out.keepOld hki (fun g hg => by omega)
            have hbk := hki.obj HBX.out (by omega)
            have hwk : wr.heap.size ≤ wk.heap.size := hki.size
            have HO7 := Lib.hid hok
            have HC7 := Lib.hid hc7
            have HKI := Lib.hid hki
            have HBK := Lib.hid hbk
            have HGO := Lib.hid hgo
            have HNB : Hid (¬ ((Value.slice q ch.length cq).ownBlock = some w3.heap.size)) := Lib.hid (fun h => by have := (World.ownsRow.lt hok _ h).1; omega)
            have HNBB : Hid (¬ ((Value.slice q ch.length cq).ownBlock = some b) ∧ ¬ ((Value.slice q ch.length cq).ownBlock = some bl)) := Lib.hid ⟨fun h => by have := (World.ownsRow.lt hok _ h).1; omega, fun h => by have := (World.ownsRow.lt hok _ h).1; omega⟩
            clear hok hc7 hki hbk hgo
            go_wp2_with (at_builtin; go_loud (refine wpList_pushAt rfl _ _ 25 rfl w5.heap.size _ i1 _ 8 Try.underlying25 hi1 hy0 hy1 hy2 rfl (by decide) intEnc_len (.slice q ch.length cq) ch rfl HO7.out mm g 1 rfl _ HGO.out rfl rfl (by simp [Value.oneCell']) (by omega) (by omega) (by omega) ?_; intro p7 c7 w7 hown7 hk7 hk7' hb7; have HOW := Lib.hid hown7; have HK7 := Lib.hid (show Keep (fun k => (Value.slice q ch.length cq).ownBlock = some k) _ w7 from ⟨hk7.os, hk7.tape, hk7.output, hk7.size, fun k hk hs => hk7' k (fun e => hs e.symm) hk⟩); have hx7 := HK7.out.obj HBK.out HNB.out; have k71 : w7.cell? ⟨w3.heap.size, 2, none⟩ = some (.slice q ch.length cq) := cell_of_row w7 _ 2 _ _ _ hx7; have k72 : w7.frozen? ⟨w3.heap.size, 2, none⟩ = false := (by unfold World.frozen?; rw [hx7]; rfl); have HX7 := Lib.hid hx7; clear hown7 hk7 hk7' hb7 hx7))
            clear k71 k72
            go_roundw
            case rel =>
              have hob7 : ∀ k, (Value.slice q ch.length cq).ownBlock = some k → w5.heap.size ≤ k := fun k hk => (World.ownsRow.lt HO7.out k hk).1
              have hst : Keep (· = w3.heap.size) w7 (w7.setCell ⟨w3.heap.size, 2, none⟩ (.slice p7 (ch.length + 1) c7)) := (Keep.refl (· = w3.heap.size) w7).setCell (p := ⟨w3.heap.size, 2, none⟩) (.inl rfl) _
              refine ⟨J - 1, p7, c7, ch ++ [mm], r7, congrArg (Value.int .i64) (by omega), by simp; omega, ?_, ?_, ?_, ?_, ?_⟩
              · simpa using heap_setCell' (j := 2) (v := .slice p7 (ch.length + 1) c7) HX7.out
              · have := HOW.out.keepOld hst (fun g hg => by omega)
                simpa using this
              · intro y hy
                rcases List.mem_append.1 hy with hy | hy
                · exact HCHB.out y hy
                · simp at hy; subst hy; omega
              · exact (HC7.out.keep HK7.out HNBB.out.1 HNBB.out.2).keep hst (by omega) (by omega)
              · have hall : Keep (fun x => x = b ∨ x = w3.heap.size ∨ (Value.slice q ch.length cq).ownBlock = some x) wr _ := ((HKI.out.weaken (fun x _ hx => .inl hx)).trans (HK7.out.weaken (fun x _ hx => .inr (.inr hx)))).trans (hst.weaken (fun x _ hx => .inr (.inl hx)))
                exact HKJ.out.andThen hall (fun x hx h => by
                  rcases h with h | h | h
                  · exact .inl h
                  · exact .inr h
                  · have := hob7 x h; omega)
            case measure => simp [intOf]; omega
        · have hJ00 : J = 0 := by omega
          subst hJ00
          have hkw : Keep (fun x => x = b ∨ wo.heap.size ≤ x) wo wr := HK5.out.trans (HKJ.out.weaken (fun x _ hx => by rcases hx with h | h <;> omega))
          have hos : Own Smp.enc 4 62 w.heap.size wr (.slice p L.length c) L := HO.out.keep hkw (fun g hg h => by
            rcases h with h | h
            · exact (HO.out.typed hg).ne HC.out.typed (by decide) h
            · have := (HO.out.typed hg).lt; omega)
          have HOS := Lib.hid hos
          have HKW := Lib.hid hkw
          have HSB := Lib.hid ((Keep.refl None wr).alloc (.cells #[.int .i64 0, .int .i64 (A0 - 3), .slice q ch.length cq, .int .i64 (D0 - 1)] 62))
          have hwwr : w.heap.size ≤ wr.heap.size := by have := HKP.out.size; omega
          clear hkw hos
          go_wp2_with (first
            | ((with_reducible (show wpList _ _ _ (⟨_, .load 62 _, _, _, _, none⟩ :: _) _ _)); refine wpList_loadEl (enc := listEnc) (size := 4) rfl 62 _ rfl _ _ rfl [.int .i64 0, .int .i64 (A0 - 3), .slice q ch.length cq, .int .i64 (D0 - 1)] _ (range_of_obj HBX.out) rfl Try.underlying62 rfl Try.sizeSmp (.agg #[.int .i64 0, .int .i64 (A0 - 3), .slice q ch.length cq, .int .i64 (D0 - 1)]) rfl ?_)
            | (at_builtin; go_loud (refine wpList_pushAt rfl _ _ 63 rfl w.heap.size _ i6 _ 48 Try.underlying63 hi6 hz0 hz1 hz2 rfl (by decide) Smp.enc_len (.slice p L.length c) L rfl (HOS.out.keep HSB.out (fun _ _ => id)) ⟨0, A0 - 3, q, cq, ch, D0 - 1⟩ wr.heap.size _ rfl _ (heap_alloc_new _ _) rfl rfl (by simp [Value.oneCell']) (by omega) (by omega) (Nat.le_trans hwwr HSB.out.size) ?_; intro p7 c7 w7 hown7 hk7 hk7' hb7; have HOW := Lib.hid hown7; have HK7 := Lib.hid (show Keep (fun k => (Value.slice p L.length c).ownBlock = some k) _ w7 from ⟨hk7.os, hk7.tape, hk7.output, hk7.size, fun k hk hs => hk7' k (fun e => hs e.symm) hk⟩); clear hown7 hk7 hk7' hb7)))
          go_roundw
          case rel =>
            have hkr : Keep (fun x => (Value.slice p L.length c).ownBlock = some x) wr w7 := (HSB.out.weaken (fun _ _ q => q.elim)).trans HK7.out
            have hall : Keep (fun x => x = b ∨ wo.heap.size ≤ x ∨ (Value.slice p L.length c).ownBlock = some x) wo w7 := (HKW.out.weaken (fun x _ h => h.imp id .inl)).trans (hkr.weaken (fun x _ h => .inr (.inr h)))
            have hospine : ∀ x, (Value.slice p L.length c).ownBlock = some x → w.heap.size ≤ x := fun x hx => (World.ownsRow.lt HO.out x hx).1
            refine ⟨K - 1, p7, c7, L ++ [⟨0, A0 - 3, q, cq, ch, D0 - 1⟩], rj, congrArg (Value.int .i64) (by omega), by simp, by simp; omega, by simpa using HOW.out, ?_, ?_, ?_⟩
            · intro s hs
              rcases List.mem_append.1 hs with hs | hs
              · refine (HCH.out s hs).keep hall (fun g h1 h2 h3 => ?_)
                rcases h3 with h3 | h3 | h3
                · exact h2.ne HC.out.typed (by decide) h3
                · have := h2.lt; omega
                · exact h2.ne (HO.out.typed h3) (by decide) rfl
              · simp at hs
                subst hs
                have hck : ChainAt w.heap.size wr ⟨0, A0 - 3, q, cq, ch, D0 - 1⟩ := by
                  refine ⟨?_, by simp only; omega, by simp only; omega, by simp only; omega, by simp only; omega, by simp only; omega, HCHB.out⟩
                  by_cases h0 : ch = []
                  · exact .inl h0
                  · obtain ⟨g, hg, hgb⟩ := HOC.out.row intEnc_len (by cases ch; exact absurd rfl h0; simp)
                    obtain ⟨_, _, _, hsl, _⟩ := HOC.out.reads intEnc_len
                    subst hg
                    refine .inr ⟨g, rfl, by have := HK5.out.size; have := HKP.out.size; omega, HOC.out.typed rfl, ?_⟩
                    rcases hsl with h | ⟨_, _, he, h⟩
                    · exact absurd h h0
                    · cases he; exact h
                refine hck.keep hkr (fun g h1 h2 h3 => h2.ne (HOS.out.typed h3) (by decide) rfl)
            · refine (HCJ.out.keep hkr ?_ ?_)
              · intro h; have := hospine _ h; omega
              · intro h; have := hospine _ h; omega
            · refine HKP.out.andThen hall (fun x hx h => ?_)
              rcases h with h | h | h
              · exact h
              · have := HKP.out.size; omega
              · have := hospine _ h; omega
          case measure => simp [intOf]; omega
    · have hK0' : K = 0 := by omega
      subst hK0'
      go_wp2_with (fail)
      go_ret
      exact ⟨p, L, c, rr, rfl, HO.out, HCH.out, by omega, HC.out, HKP.out⟩

end Go.Proofs.Ytlhmajjmhkjcoaa
