/-
  Images and their places: which block an address lies in.
-/
import Derived.Test.YtlhmajjmhkjcoaaNums
namespace Go.Proofs.Ytlhmajjmhkjcoaa
open Go.RowKit

structure Pl where
  func : Int
  block : Int
  addr : Int
  size : Int

def Pl.enc (p : Pl) : List Value := [.int .i64 p.func, .int .i64 p.block, .int .i64 p.addr, .int .i64 p.size]
theorem Pl.enc_len (p : Pl) : p.enc.length = 4 := rfl
theorem Try.sizePl : (Try.prog.info? 65).map (·.size) = some 4 := by kernel_rfl
theorem Try.infoPl : (Try.prog.info? 65).map (fun i => (i.zero, i.size, i.bytes)) = some (some (.agg #[.int .i64 0, .int .i64 0, .int .i64 0, .int .i64 0]), 4, 32) := by kernel_rfl

def Pl.ok (p : Pl) : Prop := i64 p.func ∧ i64 p.block ∧ i64 p.addr ∧ i64 p.size

/-- An image by its value: n entries, the places. -/
structure ImgV (w : World) (v : Value) (n : Nat) (ps : List Pl) : Prop where
  is : ∃ p0 n0 c0 p1 c1 p2 n2 c2 p3 n3 c3 k4 k5 p6 n6 c6 p7 c7, v = .agg #[.slice p0 n0 c0, .slice p1 n c1, .slice p2 n2 c2, .slice p3 n3 c3, .int .i64 k4, .int .i64 k5, .slice p6 n6 c6, .slice p7 ps.length c7] ∧ SliceV Pl.enc 4 w p7 ps
  ln : n ≤ 1000000
  lp : ps.length ≤ 1000000
  ok : ∀ p ∈ ps, p.ok

theorem ImgV.keep {w w' : World} {v : Value} {n : Nat} {ps : List Pl} (h : ImgV w v n ps) (k : Keep None w w') : ImgV w' v n ps := by
  obtain ⟨⟨p0, n0, c0, p1, c1, p2, n2, c2, p3, n3, c3, k4, k5, p6, n6, c6, p7, c7, rfl, hs⟩, ln, lp, hok⟩ := h
  exact ⟨⟨p0, n0, c0, p1, c1, p2, n2, c2, p3, n3, c3, k4, k5, p6, n6, c6, p7, c7, rfl, hs.keep k (fun _ _ => id)⟩, ln, lp, hok⟩

def knownB (n : Nat) (p : Pl) : Bool := decide (0 ≤ p.func) && (decide (p.func < n) && (decide (0 ≤ p.block) && decide (p.block < 256)))

set_option maxHeartbeats 1000000 in
theorem known_calls {p0 : Option Addr} {n0 c0 : Nat} {p1 : Option Addr} {n c1 : Nat} {p2 : Option Addr} {n2 c2 : Nat} {p3 : Option Addr} {n3 c3 : Nat} {k4 k5 : Int} {p6 : Option Addr} {n6 c6 : Nat} {p7 : Option Addr} {n7 c7 : Nat}
    {f b a s : Int} (w : World) :
    Calls Try.prog 22 #[.agg #[.slice p0 n0 c0, .slice p1 n c1, .slice p2 n2 c2, .slice p3 n3 c3, .int .i64 k4, .int .i64 k5, .slice p6 n6 c6, .slice p7 n7 c7], .agg #[.int .i64 f, .int .i64 b, .int .i64 a, .int .i64 s]] w (Gives None (.bool (knownB n ⟨f, b, a, s⟩)) w) := by
  by_cases h1 : 0 ≤ f
  · by_cases h2 : f < (n : Int)
    · by_cases h3 : 0 ≤ b
      · have hf : knownB n ⟨f, b, a, s⟩ = decide (b < 256) := by simp [knownB, h1, h2, h3]
        rw [hf]
        go_enter Try.func22, Try.ntmps22
        go_wp2
        go_ret
        exact ⟨rfl, ((Keep.refl _ _).alloc _).alloc _⟩
      · have hf : knownB n ⟨f, b, a, s⟩ = false := by simp [knownB, h3]
        rw [hf]
        go_enter Try.func22, Try.ntmps22
        go_wp2
        go_ret
        exact ⟨rfl, ((Keep.refl _ _).alloc _).alloc _⟩
    · have hf : knownB n ⟨f, b, a, s⟩ = false := by simp [knownB, h2]
      rw [hf]
      go_enter Try.func22, Try.ntmps22
      go_wp2
      go_ret
      exact ⟨rfl, ((Keep.refl _ _).alloc _).alloc _⟩
  · have hf : knownB n ⟨f, b, a, s⟩ = false := by simp [knownB, h1]
    rw [hf]
    go_enter Try.func22, Try.ntmps22
    go_wp2
    go_ret
    exact ⟨rfl, ((Keep.refl _ _).alloc _).alloc _⟩

def inB (a : Int) (p : Pl) : Bool := decide (p.addr ≤ a) && (decide (0 < p.size) && decide (a - p.addr < p.size))

def locate (n : Nat) (a : Int) : List Pl → Int × Int × Bool
  | [] => (0, 0, false)
  | p :: r => if knownB n p && inB a p then (p.func, p.block, true) else locate n a r

theorem u64_wrap (n : Int) : IntKind.u64.wrap n = n % 18446744073709551616 := by simp [IntKind.wrap, IntKind.bits, IntKind.signed]
theorem u64_diff {a q s : Int} (ha : i64 a) (hq : i64 q) (hs : i64 s) (h1 : q ≤ a) (h2 : 0 < s) : (IntKind.u64.wrap (wrap64 (a - q)) < IntKind.u64.wrap s) ↔ a - q < s := by
  unfold i64 at *
  rw [u64_wrap, u64_wrap]; unfold wrap64; omega

theorem locate_hit {n : Nat} {a : Int} {ps : List Pl} {k : Nat} {p : Pl} (hp : ps[k]? = some p) (h : (knownB n p && inB a p) = true) : locate n a (ps.drop k) = (p.func, p.block, true) := by
  rw [drop_cons hp]; simp only [locate, h, if_true]
theorem locate_miss {n : Nat} {a : Int} {ps : List Pl} {k : Nat} {p : Pl} (hp : ps[k]? = some p) (h : (knownB n p && inB a p) = false) : locate n a (ps.drop (k + 1)) = locate n a (ps.drop k) := by
  rw [drop_cons hp]; simp [locate, h]

def LocPost (x : Int × Int × Bool) (w : World) (e : Ending) (w' : World) : Prop :=
  e = .returned (.tuple #[.int .i64 x.1, .int .i64 x.2.1, .bool x.2.2]) ∧ Keep None w w'

def LocInv (n : Nat) (a : Int) (ps : List Pl) (w0 : World) (i : Value) (w : World) : Prop :=
  ∃ k : Nat, i = .int .i64 k ∧ k ≤ ps.length ∧ locate n a (ps.drop k) = locate n a ps ∧ Keep None w0 w

theorem Try.sizeImg : (Try.prog.info? 29).map (·.size) = some 8 := by kernel_rfl

set_option maxHeartbeats 2000000 in
theorem locate_calls (v : Value) (n : Nat) (ps : List Pl) (a : Int) (w : World) (h : ImgV w v n ps) (ha : i64 a) :
    Calls Try.prog 9 #[v, .int .i64 a] w (LocPost (locate n a ps) w) := by
  obtain ⟨⟨p0, n0, c0, p1, c1, p2, n2, c2, p3, n3, c3, k4, k5, p6, n6, c6, p7, c7, rfl, hs⟩, ln, lp, hok⟩ := h
  obtain ⟨ha1, ha2⟩ := ha
  go_enter Try.func9, Try.ntmps9
  go_wp2
  generalize hW : World.alloc w _ = W
  have hk : Keep None w W := by rw [← hW]; exact (Keep.refl _ _).alloc _
  have hblk : W.heap[w.heap.size]? = some (.cells #[.slice p0 n0 c0, .slice p1 n c1, .slice p2 n2 c2, .slice p3 n3 c3, .int .i64 k4, .int .i64 k5, .slice p6 n6 c6, .slice p7 ps.length c7] 29 (0, 0)) := by rw [← hW]; exact heap_alloc_new _ _
  have HB := Lib.hid hblk
  have HS := Lib.hid (hs.keep hk (fun _ _ => id))
  have HK := Lib.hid hk
  clear hW hblk hs hk
  go_loopw [12] (LocInv n a ps W) (fun i _ => ps.length - (intOf i).toNat)
  case atStart => exact ⟨0, rfl, by omega, rfl, Keep.refl _ _⟩
  case round =>
    obtain ⟨k, rfl, hk, hlo, hkp⟩ := hrel
    have HLO := Lib.hid hlo
    have HKP := Lib.hid hkp
    clear hlo hkp
    by_cases hlt : k < ps.length
    · obtain ⟨p, hp⟩ : ∃ p, ps[k]? = some p := ⟨ps[k], by simp [hlt]⟩
      obtain ⟨f, b, q, s⟩ := p
      rcases HS.out with h | ⟨bd, off, rfl, h⟩
      · subst h; simp at hlt
      have HC : Hid _ := Lib.hid ((h.keep HKP.out id).range hp)
      have HI : Hid _ := Lib.hid (fun o => range_of_obj (((Keep.refl None wr).alloc o).obj (HKP.out.obj HB.out id) id))
      have HP : Hid _ := Lib.hid hp
      have HOK := Lib.hid (hok _ (List.mem_of_getElem? hp))
      clear h hp
      cases hkn : knownB n ⟨f, b, q, s⟩ with
      | true =>
        have HN := Lib.hid hkn
        clear hkn
        go_wp2_with (first
          | (with_reducible (show wpList _ _ _ (⟨_, .load 65 _, _, _, _, none⟩ :: _) _ _); refine wpList_loadEl rfl 65 _ rfl _ _ rfl _ _ HC.out (Pl.enc_len _) Try.underlying65 rfl Try.sizePl (.agg #[.int .i64 f, .int .i64 b, .int .i64 q, .int .i64 s]) rfl ?_)
          | (with_reducible (show wpList _ _ _ (⟨_, .load 29 _, _, _, _, none⟩ :: _) _ _); refine wpList_loadEl (enc := listEnc) (size := 8) rfl 29 _ rfl _ _ rfl _ _ (HI.out _) rfl Try.underlying29 rfl Try.sizeImg (.agg #[.slice p0 n0 c0, .slice p1 n c1, .slice p2 n2 c2, .slice p3 n3 c3, .int .i64 k4, .int .i64 k5, .slice p6 n6 c6, .slice (some ⟨bd, off, none⟩) ps.length c7]) rfl ?_)
          | (go_at_call 22; refine (known_calls _).mono ?_; rintro e w' ⟨rfl, hk1⟩; rw [HN.out]; have e0 : w'.cell? ⟨wr.heap.size, 0, none⟩ = some (.int .i64 f) := hk1.cell (by simp) id; have e1 : w'.cell? ⟨wr.heap.size, 1, none⟩ = some (.int .i64 b) := hk1.cell (by simp) id; have e2 : w'.cell? ⟨wr.heap.size, 2, none⟩ = some (.int .i64 q) := hk1.cell (by simp) id; have e3 : w'.cell? ⟨wr.heap.size, 3, none⟩ = some (.int .i64 s) := hk1.cell (by simp) id; have HK1 := Lib.hid hk1; clear hk1))
        · have hin : inB a ⟨f, b, q, s⟩ = true := by
            have w3 : IntKind.u64.wrap (wrap64 (a - q)) < IntKind.u64.wrap s := by assumption
            have w1 : q ≤ a := by assumption
            have w2 : 0 < s := by assumption
            rw [u64_diff ⟨ha1, ha2⟩ HOK.out.2.2.1 HOK.out.2.2.2 w1 w2] at w3
            simp [inB, w1, w2, w3]
          have HR := Lib.hid (HLO.out.symm.trans (locate_hit HP.out (by rw [HN.out, hin]; rfl)))
          clear hin
          go_quiet (fail)
          go_wp2
          go_ret3
          unfold LocPost
          rw [HR.out]
          exact ⟨rfl, (((HK.out.trans HKP.out).trans ((Keep.refl _ _).alloc _)).trans HK1.out).drewN _⟩
        · have hin : inB a ⟨f, b, q, s⟩ = false := by
            have w3 : IntKind.u64.wrap s ≤ IntKind.u64.wrap (wrap64 (a - q)) := by assumption
            have w1 : q ≤ a := by assumption
            have w2 : 0 < s := by assumption
            have w5 : (IntKind.u64.wrap (wrap64 (a - q)) < IntKind.u64.wrap s) ↔ a - q < s := u64_diff ⟨ha1, ha2⟩ HOK.out.2.2.1 HOK.out.2.2.2 w1 w2
            have w4 : ¬ a - q < s := fun h => by have := w5.2 h; omega
            simp [inB, w4]
          have HR := Lib.hid ((locate_miss HP.out (by rw [HN.out, hin]; rfl)).trans HLO.out)
          clear hin
          go_roundw
          case rel => exact ⟨k + 1, by go_num, by omega, HR.out, (HKP.out.trans ((Keep.refl _ _).alloc _)).trans HK1.out⟩
          case measure => simp [intOf]; omega
        · have hin : inB a ⟨f, b, q, s⟩ = false := by
            have w2 : ¬ 0 < s := by assumption
            simp [inB, w2]
          have HR := Lib.hid ((locate_miss HP.out (by rw [HN.out, hin]; rfl)).trans HLO.out)
          clear hin
          go_roundw
          case rel => exact ⟨k + 1, by go_num, by omega, HR.out, (HKP.out.trans ((Keep.refl _ _).alloc _)).trans HK1.out⟩
          case measure => simp [intOf]; omega
        · have hin : inB a ⟨f, b, q, s⟩ = false := by
            have w2 : ¬ q ≤ a := by assumption
            simp [inB, w2]
          have HR := Lib.hid ((locate_miss HP.out (by rw [HN.out, hin]; rfl)).trans HLO.out)
          clear hin
          go_roundw
          case rel => exact ⟨k + 1, by go_num, by omega, HR.out, (HKP.out.trans ((Keep.refl _ _).alloc _)).trans HK1.out⟩
          case measure => simp [intOf]; omega
      | false =>
        have HN := Lib.hid hkn
        have HR := Lib.hid ((locate_miss (a := a) HP.out (by rw [hkn]; rfl)).trans HLO.out)
        clear hkn
        go_wp2_with (first
          | (with_reducible (show wpList _ _ _ (⟨_, .load 65 _, _, _, _, none⟩ :: _) _ _); refine wpList_loadEl rfl 65 _ rfl _ _ rfl _ _ HC.out (Pl.enc_len _) Try.underlying65 rfl Try.sizePl (.agg #[.int .i64 f, .int .i64 b, .int .i64 q, .int .i64 s]) rfl ?_)
          | (with_reducible (show wpList _ _ _ (⟨_, .load 29 _, _, _, _, none⟩ :: _) _ _); refine wpList_loadEl (enc := listEnc) (size := 8) rfl 29 _ rfl _ _ rfl _ _ (HI.out _) rfl Try.underlying29 rfl Try.sizeImg (.agg #[.slice p0 n0 c0, .slice p1 n c1, .slice p2 n2 c2, .slice p3 n3 c3, .int .i64 k4, .int .i64 k5, .slice p6 n6 c6, .slice (some ⟨bd, off, none⟩) ps.length c7]) rfl ?_)
          | (go_at_call 22; refine (known_calls _).mono ?_; rintro e w' ⟨rfl, hk1⟩; rw [HN.out]; have e0 : w'.cell? ⟨wr.heap.size, 0, none⟩ = some (.int .i64 f) := hk1.cell (by simp) id; have e1 : w'.cell? ⟨wr.heap.size, 1, none⟩ = some (.int .i64 b) := hk1.cell (by simp) id; have e2 : w'.cell? ⟨wr.heap.size, 2, none⟩ = some (.int .i64 q) := hk1.cell (by simp) id; have e3 : w'.cell? ⟨wr.heap.size, 3, none⟩ = some (.int .i64 s) := hk1.cell (by simp) id; have HK1 := Lib.hid hk1; clear hk1))
        go_roundw
        case rel => exact ⟨k + 1, by go_num, by omega, HR.out, (HKP.out.trans ((Keep.refl _ _).alloc _)).trans HK1.out⟩
        case measure => simp [intOf]; omega
    · have hke : k = ps.length := by omega
      subst hke
      have HR : Hid (locate n a ps = (0, 0, false)) := Lib.hid (by rw [← HLO.out, List.drop_length]; rfl)
      go_wp2
      go_ret3
      unfold LocPost
      rw [HR.out]
      exact ⟨rfl, HK.out.trans HKP.out⟩

end Go.Proofs.Ytlhmajjmhkjcoaa
