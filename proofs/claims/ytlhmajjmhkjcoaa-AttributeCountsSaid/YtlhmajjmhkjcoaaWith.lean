/-
  Chapter 23: the reference counts one more link.
-/
import Derived.Test.YtlhmajjmhkjcoaaLinked
import Derived.Test.YtlhmajjmhkjcoaaAppendAll
namespace Go.Proofs.Ytlhmajjmhkjcoaa
open Go.RowKit

def withL : List Lk → Lk → List Lk
  | [], x => [x]
  | y :: r, x => if lessB y x then y :: withL r x else if lessB x y then x :: y :: r else { x with count := min (x.count + y.count) 1099511627777 } :: r

def WithInv (B : Nat) (l : List Lk) (x : Lk) (w0 : World) (v dn i : Value) (w : World) : Prop :=
  ∃ (k : Nat) (out : List Lk) (p : Option Addr) (c : Nat) (xc : Lk) (done : Bool), i = .int .i64 k ∧ k ≤ l.length ∧ v = .slice p out.length c ∧ dn = .bool done ∧ Own Lk.enc 4 72 (B + 1) w (.slice p out.length c) out ∧ out.length ≤ k + 1 ∧
    w.heap[B]? = some (.cells xc.enc.toArray 72 (0, 0)) ∧ (if done = true then withL l x = out ++ l.drop k else xc = x ∧ out.length ≤ k ∧ withL l x = out ++ withL (l.drop k) x) ∧ Keep (B ≤ ·) w0 w

theorem Own.lower {α : Type} {enc : α → List Value} {size : Nat} {e : TypeId} {base base' : Nat} {w : World} {v : Value} {xs : List α} (h : Own enc size e base w v xs) (hb : base' ≤ base) : Own enc size e base' w v xs := by
  refine ⟨h.1, ?_⟩
  rcases h.2 with hn | ⟨g, cap, cur, rfl, hbg, rest⟩
  · exact .inl hn
  · exact .inr ⟨g, cap, cur, rfl, by omega, rest⟩

def WithPost (base : Nat) (l' : List Lk) (w : World) (e : Ending) (w' : World) : Prop :=
  ∃ p' c', e = .returned (.slice p' l'.length c') ∧ Own Lk.enc 4 72 base w' (.slice p' l'.length c') l' ∧ Keep None w w'

set_option maxRecDepth 100000 in
set_option maxHeartbeats 8000000 in
theorem with_calls (p : Option Addr) (l : List Lk) (c : Nat) (x0 x1 x2 x3 : Int) (w : World) (h : SliceV Lk.enc 4 w p l) (hl : l.length ≤ 1000)
    (hc : ∀ y ∈ l, 0 ≤ y.count ∧ y.count ≤ 1000000000000000000) (hx0 : 0 ≤ x3) (hx1 : x3 ≤ 1000000000000000000) :
    Calls Try.prog 35 #[.slice p l.length c, .agg #[.int .i64 x0, .int .i64 x1, .int .i64 x2, .int .i64 x3]] w (WithPost w.heap.size (withL l ⟨x0, x1, x2, x3⟩) w) := by
  obtain ⟨i3, hi3, hz0, hz1, hz2⟩ := info_parts Try.infoLk
  have HC := Lib.hid hc
  go_enter Try.func35, Try.ntmps35
  go_wp2_with (fail)
  generalize hW : World.alloc w _ = W
  have hk : Keep None w W := by rw [← hW]; exact (Keep.refl _ _).alloc _
  have hblk : W.heap[w.heap.size]? = some (.cells #[.int .i64 x0, .int .i64 x1, .int .i64 x2, .int .i64 x3] 72 (0, 0)) := by rw [← hW]; exact heap_alloc_new _ _
  have hWs : W.heap.size = w.heap.size + 1 := by rw [← hW]; simp
  have HB := Lib.hid hblk
  have HK := Lib.hid hk
  have hpw : ∀ b o, p = some ⟨b, o, none⟩ → l ≠ [] → b < w.heap.size := by
    intro b o hp hne
    rcases h with h | ⟨b', o', he, h⟩
    · exact absurd h hne
    · rw [hp] at he; cases he
      cases l with
      | nil => exact absurd rfl hne
      | cons y r => exact World.block_lt_of_cell? w _ (h 0 y rfl 0 _ rfl)
  have HPW := Lib.hid hpw
  have HS := Lib.hid (h.keep hk (fun _ _ => id))
  clear hW hblk hk h hpw hc
  go_loopw [5, 6, 7] (WithInv w.heap.size l ⟨x0, x1, x2, x3⟩ W) (fun _ _ i _ => l.length - (intOf i).toNat)
  case atStart => exact ⟨0, [], none, 0, ⟨x0, x1, x2, x3⟩, false, rfl, by omega, rfl, rfl, Own.nil _ _ _ _ _, by simp, HB.out, by simp, Keep.refl _ _⟩
  case round =>
    obtain ⟨k, out, po, co, ⟨z0, z1, z2, z3⟩, done, rfl, hk, rfl, rfl, hown, hol, hbox, hrel', hkp⟩ := hrel
    have HO := Lib.hid hown
    have HBX := Lib.hid hbox
    have HR := Lib.hid hrel'
    have HKP := Lib.hid hkp
    have hBlt : w.heap.size < wr.heap.size := heap_lt hbox
    clear hown hbox hrel' hkp
    by_cases hlt : k < l.length
    · obtain ⟨y, hy⟩ : ∃ y, l[k]? = some y := ⟨l[k], by simp [hlt]⟩
      have HY := Lib.hid hy
      have HD := Lib.hid (drop_cons hy)
      obtain ⟨hcy0, hcy1⟩ := HC.out y (List.mem_of_getElem? hy)
      obtain ⟨y0, y1, y2, y3⟩ := y
      obtain ⟨bd, off, rfl, hbd, hsl⟩ : ∃ bd off, p = some ⟨bd, off, none⟩ ∧ bd < w.heap.size ∧ wr.rangeAt bd (off + k * 4) (Lk.enc ⟨y0, y1, y2, y3⟩) := by
        have hne : l ≠ [] := by intro h0; subst h0; simp at hlt
        rcases HS.out with h | ⟨bd, off, he, h⟩
        · exact absurd h hne
        · have hb := HPW.out bd off he hne
          exact ⟨bd, off, he, hb, (h.keep HKP.out (by omega)).range hy⟩
      have m0 : wr.cell? ⟨bd, off + k * 4, none⟩ = some (.int .i64 y0) := hsl 0 _ rfl
      have m1 : wr.cell? ⟨bd, off + k * 4 + 1, none⟩ = some (.int .i64 y1) := hsl 1 _ rfl
      have m2 : wr.cell? ⟨bd, off + k * 4 + 2, none⟩ = some (.int .i64 y2) := hsl 2 _ rfl
      have m3 : wr.cell? ⟨bd, off + k * 4 + 3, none⟩ = some (.int .i64 y3) := hsl 3 _ rfl
      have HSL := Lib.hid hsl
      have M := Lib.hid (And.intro m0 (And.intro m1 (And.intro m2 m3)))
      clear hy hsl
      cases done with
      | true =>
        obtain hrr : withL l ⟨x0, x1, x2, x3⟩ = out ++ l.drop k := by simpa using HR.out
        have HRR := Lib.hid hrr
        clear HR hrr m0 m1 m2 m3
        go_wp2_with (fail)
        go_quiet (fail)
        generalize hwd : World.drewN wr _ = wd
        have hkd : Keep None wr wd := by rw [← hwd]; exact (Keep.refl _ _).drewN _
        clear hwd
        have HBX2 := Lib.hid (hkd.obj HBX.out id)
        have HO2 := Lib.hid (HO.out.keep hkd (fun _ _ => id))
        have HSL2 : Hid (wd.rangeAt bd (off + k * 4) (Lk.enc ⟨y0, y1, y2, y3⟩)) := Lib.hid (fun j u hj => hkd.cell (HSL.out j u hj) id)
        have HKD := Lib.hid (HKP.out.trans (hkd.weaken (fun _ _ q => q.elim)))
        have hszd : wr.heap.size ≤ wd.heap.size := hkd.size
        have hod : ∀ g, (Value.slice po out.length co).ownBlock = some g → g < wd.heap.size := fun g hg => by have := (World.ownsRow.lt HO.out g hg).2; omega
        have hob : ∀ g, (Value.slice po out.length co).ownBlock = some g → w.heap.size + 1 ≤ g := fun g hg => (World.ownsRow.lt HO.out g hg).1
        have HOB := Lib.hid hob
        clear hkd hod hob
        go_wp2_with (first
          | ((with_reducible (show wpList _ _ _ (⟨_, .load 72 _, _, _, _, none⟩ :: _) _ _)); refine wpList_loadEl rfl 72 _ rfl _ _ rfl _ _ HSL2.out (Lk.enc_len _) Try.underlying72 rfl Try.sizeLk (.agg #[.int .i64 y0, .int .i64 y1, .int .i64 y2, .int .i64 y3]) rfl ?_)
          | (at_builtin; go_loud (refine wpList_pushAt rfl _ _ 38 rfl (w.heap.size + 1) _ i3 _ 32 Try.underlying38 hi3 hz0 hz1 hz2 rfl (by decide) Lk.enc_len (.slice po out.length co) out rfl (HO2.out.keep (S := None) ((Keep.refl _ _).alloc _) (fun _ _ => id)) ⟨y0, y1, y2, y3⟩ wd.heap.size _ rfl _ (heap_alloc_new _ _) rfl rfl (by simp [Lk.enc, Value.oneCell']) (by omega) (by omega) (by first | omega | (simp; done) | (simp; omega)) ?_; intro pv cv w6 hown6 hk6 hk6' hown6b; have HO6 := Lib.hid hown6; have HK6 := Lib.hid hk6; clear hown6 hk6 hk6' hown6b)))
        go_roundw
        case rel =>
          have hkk : Keep (w.heap.size ≤ ·) wd w6 := ((Keep.refl _ _).alloc _).andThen HK6.out (by intro g hg hq; omega)
          refine ⟨k + 1, out ++ [⟨y0, y1, y2, y3⟩], pv, cv, ⟨z0, z1, z2, z3⟩, true, by go_num, by omega, by simp, rfl, by simpa using HO6.out, by simp; omega, ?_, ?_, HKD.out.trans hkk⟩
          · exact HK6.out.obj (((Keep.refl None _).alloc _).obj HBX2.out id) (by omega)
          · simp only [if_true]; rw [HRR.out, HD.out]; simp
        case measure => simp [intOf]; omega
      | false =>
        obtain ⟨hz, hok, hrr⟩ : (⟨z0, z1, z2, z3⟩ : Lk) = ⟨x0, x1, x2, x3⟩ ∧ out.length ≤ k ∧ withL l ⟨x0, x1, x2, x3⟩ = out ++ withL (l.drop k) ⟨x0, x1, x2, x3⟩ := by simpa using HR.out
        obtain ⟨rfl, rfl, rfl, rfl⟩ : z0 = x0 ∧ z1 = x1 ∧ z2 = x2 ∧ z3 = x3 := by simpa using hz
        have HRR := Lib.hid hrr
        clear HR hrr hz
        have n0 : wr.cell? ⟨w.heap.size, 0, none⟩ = some (.int .i64 z0) := by simp [World.cell?, HBX.out, Lk.enc]
        have n1 : wr.cell? ⟨w.heap.size, 1, none⟩ = some (.int .i64 z1) := by simp [World.cell?, HBX.out, Lk.enc]
        have n2 : wr.cell? ⟨w.heap.size, 2, none⟩ = some (.int .i64 z2) := by simp [World.cell?, HBX.out, Lk.enc]
        have n3 : wr.cell? ⟨w.heap.size, 3, none⟩ = some (.int .i64 z3) := by simp [World.cell?, HBX.out, Lk.enc]
        have HCL : Hid (∀ W' : World, Keep None wr W' → W'.cell? ⟨bd, off + k * 4, none⟩ = some (.int .i64 y0) ∧ W'.cell? ⟨bd, off + k * 4 + 1, none⟩ = some (.int .i64 y1) ∧ W'.cell? ⟨bd, off + k * 4 + 2, none⟩ = some (.int .i64 y2) ∧ W'.cell? ⟨bd, off + k * 4 + 3, none⟩ = some (.int .i64 y3) ∧
            W'.cell? ⟨w.heap.size, 0, none⟩ = some (.int .i64 z0) ∧ W'.cell? ⟨w.heap.size, 1, none⟩ = some (.int .i64 z1) ∧ W'.cell? ⟨w.heap.size, 2, none⟩ = some (.int .i64 z2) ∧ W'.cell? ⟨w.heap.size, 3, none⟩ = some (.int .i64 z3)) :=
          Lib.hid (fun W' hW => ⟨hW.cell M.out.1 id, hW.cell M.out.2.1 id, hW.cell M.out.2.2.1 id, hW.cell M.out.2.2.2 id, hW.cell n0 id, hW.cell n1 id, hW.cell n2 id, hW.cell n3 id⟩)
        go_wp2_with (fail)
        refine region_tail 8 (by kernel_rfl) (by kernel_rfl) ?_
        simp only [List.take_succ_cons, List.take_zero, List.drop_succ_cons, List.drop_zero]
        repeat still_step
        refine wpStill_nil ?_
        clear m0 m1 m2 m3 n0 n1 n2 n3 M
        cases hly : lessB ⟨y0, y1, y2, y3⟩ ⟨z0, z1, z2, z3⟩ with
        | true =>
          have HLY := Lib.hid hly
          clear hly
          go_wp2_with (first
            | (go_at_call 50; refine (less_calls _).mono ?_; rintro e w5 ⟨rfl, hk5⟩; rw [HLY.out]; have HKX := Lib.hid (((Keep.refl None wr).drew).trans hk5); clear hk5)
            | ((with_reducible (show wpList _ _ _ (⟨_, .load 72 (.tmp 52), _, _, _, none⟩ :: _) _ _)); refine wpList_loadEl rfl 72 _ rfl _ _ rfl _ _ (show World.rangeAt _ _ _ _ from fun j u hj => HKX.out.cell (HSL.out j u hj) id) (Lk.enc_len _) Try.underlying72 rfl Try.sizeLk (.agg #[.int .i64 y0, .int .i64 y1, .int .i64 y2, .int .i64 y3]) rfl ?_)
            | (at_builtin; go_loud (refine wpList_pushAt rfl _ _ 38 rfl (w.heap.size + 1) _ i3 _ 32 Try.underlying38 hi3 hz0 hz1 hz2 rfl (by decide) Lk.enc_len (.slice po out.length co) (out) rfl ((HO.out.keep HKX.out (fun _ _ => id)).keep (S := None) ((Keep.refl _ _).alloc _) (fun _ _ => id)) ⟨y0, y1, y2, y3⟩ w5.heap.size _ rfl _ (heap_alloc_new _ _) rfl rfl (by simp [Lk.enc, Value.oneCell']) (by first | omega | (simp; done) | (simp; omega)) (by omega) (by have := HKX.out.size; simp; omega) ?_; intro pv6 cv6 w6 hown6 hk6 hk6' hown6b; have HO6 := Lib.hid hown6; have HK6 := Lib.hid hk6; have hsz5 : wr.heap.size ≤ w5.heap.size := HKX.out.size; clear hown6 hk6 hk6' hown6b)))
          go_roundw
          case rel =>
            have hkk : Keep (w.heap.size ≤ ·) w5 w6 := ((Keep.refl _ _).alloc _).andThen HK6.out (by intro g hg hq; omega)
            refine ⟨k + 1, out ++ [⟨y0, y1, y2, y3⟩], pv6, cv6, ⟨z0, z1, z2, z3⟩, false, by go_num, by omega, by simp, rfl, by simpa using HO6.out, by simp; omega, ?_, ?_, HKP.out.trans ((HKX.out.weaken (fun _ _ q => q.elim)).trans hkk)⟩
            · exact HK6.out.obj (((Keep.refl None _).alloc _).obj (HKX.out.obj HBX.out id) id) (by omega)
            · simp only [Bool.false_eq_true, if_false, true_and]; refine ⟨by simp; omega, ?_⟩; rw [HRR.out, HD.out]; simp only [withL, HLY.out, if_true]; simp
          case measure => simp [intOf]; omega
        | false =>
          have HLY := Lib.hid hly
          clear hly
          go_wp2_with (go_at_call 50; refine (less_calls _).mono ?_; rintro e w5 ⟨rfl, hk5⟩; rw [HLY.out]; have HKX := Lib.hid (((Keep.refl None wr).drew).trans hk5); clear hk5)
          have hsz5 : wr.heap.size ≤ w5.heap.size := HKX.out.size
          obtain ⟨m0, m1, m2, m3, n0, n1, n2, n3⟩ := HCL.out _ HKX.out
          refine region_tail 5 (by kernel_rfl) (by kernel_rfl) ?_
          simp only [List.take_succ_cons, List.take_zero, List.drop_succ_cons, List.drop_zero]
          repeat still_step
          refine wpStill_nil ?_
          clear m0 m1 m2 m3 n0 n1 n2 n3
          cases hlz : lessB ⟨z0, z1, z2, z3⟩ ⟨y0, y1, y2, y3⟩ with
          | true =>
            have HLZ := Lib.hid hlz
            clear hlz
            go_wp2_with (first
              | (go_at_call 50; refine (less_calls _).mono ?_; rintro e w7 ⟨rfl, hk7⟩; rw [HLZ.out]; have HKZ := Lib.hid ((HKX.out.drew).trans hk7); have hsz7 : w5.heap.size ≤ w7.heap.size := ((Keep.refl None w5).drew.trans hk7).size; clear hk7)
              | ((with_reducible (show wpList _ _ _ (⟨_, .load 72 (.tmp 3), _, _, _, none⟩ :: _) _ _)); refine wpList_loadEl rfl 72 _ rfl _ _ rfl _ _ (range_of_obj (HKZ.out.obj HBX.out id)) (Lk.enc_len ⟨z0, z1, z2, z3⟩) Try.underlying72 rfl Try.sizeLk (.agg #[.int .i64 z0, .int .i64 z1, .int .i64 z2, .int .i64 z3]) rfl ?_)
              | ((with_reducible (show wpList _ _ _ (⟨_, .load 72 (.tmp 52), _, _, _, none⟩ :: _) _ _)); refine wpList_loadEl rfl 72 _ rfl _ _ rfl _ _ (show World.rangeAt _ _ _ _ from fun j u hj => HKK8.out.cell (HSL.out j u hj) (by simp; omega)) (Lk.enc_len _) Try.underlying72 rfl Try.sizeLk (.agg #[.int .i64 y0, .int .i64 y1, .int .i64 y2, .int .i64 y3]) rfl ?_)
              | (at_builtin; go_loud (refine wpList_pushAt rfl _ _ 38 rfl (w.heap.size + 1) _ i3 _ 32 Try.underlying38 hi3 hz0 hz1 hz2 rfl (by decide) Lk.enc_len (.slice po out.length co) (out) rfl ((HO.out.keep HKZ.out (fun _ _ => id)).keep (S := None) ((Keep.refl _ _).alloc _) (fun _ _ => id)) ⟨z0, z1, z2, z3⟩ w7.heap.size _ rfl _ (heap_alloc_new _ _) rfl rfl (by simp [Lk.enc, Value.oneCell']) (by first | omega | (simp; done) | (simp; omega)) (by omega) (by first | omega | (simp; done) | (simp; omega)) ?_; intro pv8 cv8 w8 hown8 hk8 hk8' hown8b; have HO8 := Lib.hid hown8; have HK8 := Lib.hid hk8; have hsz8 : w7.heap.size ≤ w8.heap.size := Nat.le_trans ((Keep.refl None w7).alloc _).size HK8.out.size; have HKK8 : Hid (Keep (w.heap.size ≤ ·) wr w8) := Lib.hid (((HKZ.out.weaken (fun _ _ q => q.elim)).alloc _).trans (HK8.out.weaken (fun g _ hq => by show w.heap.size ≤ g; omega))); have HBX8 : Hid _ := Lib.hid (HK8.out.obj (((Keep.refl None _).alloc _).obj (HKZ.out.obj HBX.out id) id) (by omega)); clear hown8 hk8 hk8' hown8b))
              | (at_builtin; go_loud (refine wpList_pushAt rfl _ _ 38 rfl (w.heap.size + 1) _ i3 _ 32 Try.underlying38 hi3 hz0 hz1 hz2 rfl (by decide) Lk.enc_len (.slice pv8 (out.length + 1) cv8) (out ++ [⟨z0, z1, z2, z3⟩]) rfl ((by simpa using HO8.out : Own Lk.enc 4 72 (w.heap.size + 1) w8 (.slice pv8 (out.length + 1) cv8) (out ++ [⟨z0, z1, z2, z3⟩])).keep (S := None) ((Keep.refl _ _).alloc _) (fun _ _ => id)) ⟨y0, y1, y2, y3⟩ w8.heap.size _ rfl _ (heap_alloc_new _ _) rfl rfl (by simp [Lk.enc, Value.oneCell']) (by first | omega | (simp; done) | (simp; omega)) (by omega) (by first | omega | (simp; done) | (simp; omega)) ?_; intro pv9 cv9 w9 hown9 hk9 hk9' hown9b; have HO9 := Lib.hid hown9; have HK9 := Lib.hid hk9; clear hown9 hk9 hk9' hown9b)))
            go_roundw
            case rel =>
              have hkk : Keep (w.heap.size ≤ ·) w8 w9 := ((Keep.refl _ _).alloc _).andThen HK9.out (by intro g hg hq; omega)
              refine ⟨k + 1, out ++ [⟨z0, z1, z2, z3⟩] ++ [⟨y0, y1, y2, y3⟩], pv9, cv9, ⟨z0, z1, z2, z3⟩, true, by go_num, by omega, by simp, rfl, by simpa using HO9.out, by simp; omega, ?_, ?_, HKP.out.trans (HKK8.out.trans hkk)⟩
              · exact HK9.out.obj (((Keep.refl None _).alloc _).obj HBX8.out id) (by omega)
              · simp only [if_true]; rw [HRR.out, HD.out]; simp [withL, HLY.out, HLZ.out]
            case measure => simp [intOf]; omega
          | false =>
            have HLZ := Lib.hid hlz
            clear hlz
            go_wp2_with (go_at_call 50; refine (less_calls _).mono ?_; rintro e w7 ⟨rfl, hk7⟩; rw [HLZ.out]; have HKZ := Lib.hid ((HKX.out.drew).trans hk7); have hsz7 : w5.heap.size ≤ w7.heap.size := ((Keep.refl None w5).drew.trans hk7).size; clear hk7)
            obtain ⟨m0, m1, m2, m3, n0, n1, n2, n3⟩ := HCL.out _ HKZ.out
            have hbx7 := HKZ.out.obj HBX.out id
            have hfz : w7.frozen? ⟨w.heap.size, 3, none⟩ = false := by simp [World.frozen?, hbx7]
            have q1 : IntKind.i64.wrap (z3 + y3) = z3 + y3 := IntWalk.i64_in _ (by omega)
            refine region_tail 9 (by kernel_rfl) (by kernel_rfl) ?_
            simp only [List.take_succ_cons, List.take_zero, List.drop_succ_cons, List.drop_zero]
            repeat still_step
            refine wpStill_nil ?_
            obtain ⟨m, hm⟩ : ∃ m : Int, m = (if 1099511627777 < z3 + y3 then 1099511627777 else z3 + y3) := ⟨_, rfl⟩
            rw [← hm]
            have HM : Hid (m = min (z3 + y3) 1099511627777) := Lib.hid (by rw [hm]; split <;> omega)
            generalize hwd : World.drew w7 = wd
            have hkd : Keep None w7 wd := by rw [← hwd]; exact (Keep.refl _ _).drew
            have hbxd := hkd.obj hbx7 id
            have hfzd : wd.frozen? ⟨w.heap.size, 3, none⟩ = false := by simp [World.frozen?, hbxd]
            have n3d := hkd.cell n3 id
            have HN : Hid (∀ v, (wd.setCell ⟨w.heap.size, 3, none⟩ (.int .i64 v)).heap[w.heap.size]? = some (.cells (Lk.enc ⟨z0, z1, z2, v⟩).toArray 72 (0, 0))) := Lib.hid (fun v => by
              have harr : Arr Lk.enc 72 wd w.heap.size [⟨z0, z1, z2, z3⟩] := by simpa [Arr] using hbxd
              have := harr.setField Lk.enc_len (i := 0) rfl (j := 3) (by omega) (v := .int .i64 v) (c := ⟨z0, z1, z2, v⟩) rfl
              simpa [Arr] using this)
            have HKN : Hid (∀ v, Keep (w.heap.size ≤ ·) wr (wd.setCell ⟨w.heap.size, 3, none⟩ (.int .i64 v))) := Lib.hid (fun v => ((HKZ.out.trans hkd).weaken (fun _ _ q => q.elim)).setCell (p := ⟨w.heap.size, 3, none⟩) (.inl (Nat.le_refl _)) _)
            have HON : Hid (∀ v, Own Lk.enc 4 72 (w.heap.size + 1) (wd.setCell ⟨w.heap.size, 3, none⟩ (.int .i64 v)) (.slice po out.length co) out) := Lib.hid (fun v =>
              (HO.out.keep (HKZ.out.trans hkd) (fun _ _ => id)).keepOld ((Keep.refl (· = w.heap.size) wd).setCell (p := ⟨w.heap.size, 3, none⟩) (.inl rfl) _) (by intro g hg; omega))
            have hszn : ∀ v, w7.heap.size ≤ (wd.setCell ⟨w.heap.size, 3, none⟩ (.int .i64 v)).heap.size := fun v => Nat.le_trans hkd.size ((Keep.refl (· = w.heap.size) wd).setCell (p := ⟨w.heap.size, 3, none⟩) (.inl rfl) _).size
            have hszn' := hszn m
            clear hm hwd hkd hbx7 hbxd hfz m0 m1 m2 m3 n0 n1 n2 n3 hszn
            go_wp2_with (first
              | ((with_reducible (show wpList _ _ _ (⟨_, .load 72 (.tmp 3), _, _, _, none⟩ :: _) _ _)); refine wpList_loadEl rfl 72 _ rfl _ _ rfl _ _ (range_of_obj (HN.out m)) (Lk.enc_len ⟨z0, z1, z2, m⟩) Try.underlying72 rfl Try.sizeLk (.agg #[.int .i64 z0, .int .i64 z1, .int .i64 z2, .int .i64 m]) rfl ?_)
              | (at_builtin; go_loud (refine wpList_pushAt rfl _ _ 38 rfl (w.heap.size + 1) _ i3 _ 32 Try.underlying38 hi3 hz0 hz1 hz2 rfl (by decide) Lk.enc_len (.slice po out.length co) out rfl ((HON.out m).keep (S := None) ((Keep.refl _ _).alloc _) (fun _ _ => id)) ⟨z0, z1, z2, m⟩ wd.heap.size _ rfl _ (alloc_at (by simp)) rfl rfl (by simp [Lk.enc, Value.oneCell']) (by omega) (by omega) (Nat.le_trans (by omega) ((Keep.refl None _).alloc _).size) ?_; intro pv6 cv6 w8 hown6 hk6 hk6' hown6b; have HO8 := Lib.hid hown6; have HK8 := Lib.hid hk6; clear hown6 hk6 hk6' hown6b)))
            go_roundw
            case rel =>
              have hkk : Keep (w.heap.size ≤ ·) (wd.setCell ⟨w.heap.size, 3, none⟩ (.int .i64 m)) w8 := ((Keep.refl _ _).alloc _).andThen HK8.out (by intro g hg hq; omega)
              refine ⟨k + 1, out ++ [⟨z0, z1, z2, m⟩], pv6, cv6, ⟨z0, z1, z2, m⟩, true, by go_num, by omega, by simp, rfl, by simpa using HO8.out, by simp; omega, ?_, ?_, HKP.out.trans ((HKN.out m).trans hkk)⟩
              · exact HK8.out.obj (((Keep.refl None _).alloc _).obj (HN.out m) id) (by omega)
              · simp only [if_true]; rw [HRR.out, HD.out]; simp [withL, HLY.out, HLZ.out, HM.out]
            case measure => simp [intOf]; omega
    · have hke : k = l.length := by omega
      subst hke
      cases done with
      | true =>
        have hrr : withL l ⟨x0, x1, x2, x3⟩ = out := by have := HR.out; simpa using this
        have HRR := Lib.hid hrr
        clear hrr
        go_wp2_with (fail)
        go_ret
        rw [HRR.out]
        exact ⟨po, co, rfl, HO.out.lower (by omega), HK.out.andThen HKP.out (fun g _ hg => by have : w.heap.size ≤ g := hg; omega)⟩
      | false =>
        obtain ⟨hz, hok, hrr⟩ : (⟨z0, z1, z2, z3⟩ : Lk) = ⟨x0, x1, x2, x3⟩ ∧ out.length ≤ l.length ∧ withL l ⟨x0, x1, x2, x3⟩ = out ++ [⟨x0, x1, x2, x3⟩] := by simpa [withL] using HR.out
        obtain ⟨rfl, rfl, rfl, rfl⟩ : z0 = x0 ∧ z1 = x1 ∧ z2 = x2 ∧ z3 = x3 := by simpa using hz
        have HRR := Lib.hid hrr
        clear HR hrr hz
        go_wp2_with (first
          | ((with_reducible (show wpList _ _ _ (⟨_, .load 72 (.tmp 3), _, _, _, none⟩ :: _) _ _)); refine wpList_loadEl rfl 72 _ rfl _ _ rfl _ _ (range_of_obj HBX.out) (Lk.enc_len ⟨z0, z1, z2, z3⟩) Try.underlying72 rfl Try.sizeLk (.agg #[.int .i64 z0, .int .i64 z1, .int .i64 z2, .int .i64 z3]) rfl ?_)
          | (at_builtin; go_loud (refine wpList_pushAt rfl _ _ 38 rfl (w.heap.size + 1) _ i3 _ 32 Try.underlying38 hi3 hz0 hz1 hz2 rfl (by decide) Lk.enc_len (.slice po out.length co) out rfl (HO.out.keep (S := None) ((Keep.refl _ _).alloc _) (fun _ _ => id)) ⟨z0, z1, z2, z3⟩ wr.heap.size _ rfl _ (heap_alloc_new _ _) rfl rfl (by simp [Lk.enc, Value.oneCell']) (by omega) (by omega) (Nat.le_trans (by omega) ((Keep.refl None _).alloc _).size) ?_; intro pv6 cv6 w8 hown6 hk6 hk6' hown6b; have HO8 := Lib.hid hown6; have HK8 := Lib.hid hk6; clear hown6 hk6 hk6' hown6b)))
        go_ret
        rw [HRR.out]
        have hkk : Keep (w.heap.size ≤ ·) wr w8 := ((Keep.refl _ _).alloc _).andThen HK8.out (by intro g hg hq; omega)
        refine ⟨pv6, cv6, by simp, by simpa using HO8.out.lower (by omega), HK.out.andThen (HKP.out.trans hkk) (fun g _ hg => by have : w.heap.size ≤ g := hg; omega)⟩

end Go.Proofs.Ytlhmajjmhkjcoaa
