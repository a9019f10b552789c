/-
  Chapter 19: cache.New.
-/
import Derived.Test.YtpdnfekhfagfkaaPipD
namespace Go.Proofs.Ytpdnfekhfagfkaa
open Go.RowKit PI

theorem Try.infoInts : (Try.prog.info? 40).map (fun i => (i.zero, i.size, i.bytes)) = some (some (.slice none 0 0), 1, 24) := by kernel_rfl
/-- A slice header. -/
structure Sl where
  p : Option Addr
  n : Nat
  c : Nat
def Sl.val (s : Sl) : Value := .slice s.p s.n s.c
def Sl.enc (s : Sl) : List Value := [s.val]
theorem Sl.enc_len (s : Sl) : s.enc.length = 1 := rfl

def nilSl : Sl := ⟨none, 0, 0⟩
def CaNewPost (n : Int) (w : World) (e : Ending) (w' : World) : Prop :=
  ∃ p c, e = .returned (.agg #[.slice p (caNew n).length c]) ∧ Own Sl.enc 1 40 w.heap.size w' (.slice p (caNew n).length c) ((caNew n).map fun _ => nilSl) ∧ Keep None w w'

set_option maxRecDepth 100000 in
theorem canew_calls (n : Int) (w : World) : Calls Try.prog 25 #[.int .i64 n] w (CaNewPost n w) := by
  obtain ⟨i5, hi5, hv0, hv1, hv2⟩ := info_parts Try.infoInts
  by_cases h : 1 ≤ n ∧ n ≤ 1024
  · obtain ⟨k, rfl⟩ : ∃ k : Nat, n = k := ⟨n.toNat, by omega⟩
    have HP : Hid (caNew k = List.replicate k []) := Lib.hid (by unfold caNew; rw [if_pos h]; rfl)
    obtain ⟨h1, h2⟩ := h
    go_enter Try.func25, Try.ntmps25
    go_wp2_with (first
      | ((with_reducible (show wpList _ _ _ (⟨some 11, _, _, _, _, none⟩ :: _) _ _)); go_loud (refine wpList_makeArr (enc := Sl.enc) _ rfl _ _ 59 rfl 40 i5 _ 24 Try.underlying59 hi5 hv0 hv1 hv2 nilSl Sl.enc_len rfl (by decide) .i64 .i64 k k k rfl rfl rfl rfl (by omega) (by omega) ?_; intro w1 ha hk hs; rw [World.size_alloc] at ha; have HA := Lib.hid ha; have HK := Lib.hid hk; have HC := Lib.hid (hk.obj (heap_alloc_new w (.cells #[.slice none 0 0] 61)) id); clear ha hk hs))
      | ((with_reducible (show wpList _ _ _ (⟨_, .store 61 (.tmp 2) _, _, _, _, none⟩ :: _) _ _)); go_loud (refine wpList_storeObj rfl 61 _ _ rfl w.heap.size rfl [.slice none 0 0] [.slice (some ⟨w.heap.size + 1, 0, none⟩) k k] rfl _ (by simp) HC.out 1 (by kernel_rfl) rfl (by simp [Value.oneCell']) ?_; intro w2 hres2 hk2 hs2; have HR2 := Lib.hid hres2; have HK2 := Lib.hid hk2; clear hres2 hk2 hs2)))
    refine bodyPost_ret (results_obj rfl rfl _ _ (range_of_obj HR2.out) Try.underlying61 rfl 1 (by kernel_rfl) rfl) rfl ?_
    unfold CaNewPost
    rw [HP.out]
    have hk2 := HK2.out
    have ha := HA.out.keep hk2 (by omega)
    have ho := Own.ofArr (enc := Sl.enc) Sl.enc_len ha (Nat.le_succ w.heap.size) (by simp; omega)
    refine ⟨some ⟨w.heap.size + 1, 0, none⟩, k, by simp [listEnc], ?_, ((Keep.refl None w).alloc _).trans HK.out |>.andThen hk2 (by intro g h1 h2; omega)⟩
    simpa using ho
  · have HP : Hid (caNew n = []) := Lib.hid (by unfold caNew; rw [if_neg h])
    by_cases h1 : n < 1
    · (go_enter Try.func25, Try.ntmps25; go_wp2_with ((with_reducible (show wpList _ _ _ (⟨_, .store 61 (.tmp 2) _, _, _, _, none⟩ :: _) _ _)); go_loud (refine wpList_storeObj rfl 61 _ _ rfl w.heap.size rfl [.slice none 0 0] [.slice none 0 0] rfl _ (by simp) (heap_alloc_new w (.cells #[.slice none 0 0] 61)) 1 (by kernel_rfl) rfl (by simp [Value.oneCell']) ?_; intro w2 hres2 hk2 hs2; have HR2 := Lib.hid hres2; have HK2 := Lib.hid hk2; clear hres2 hk2 hs2)); all_goals (refine bodyPost_ret (results_obj rfl rfl _ _ (range_of_obj HR2.out) Try.underlying61 rfl 1 (by kernel_rfl) rfl) rfl ?_; unfold CaNewPost; rw [HP.out]; exact ⟨none, 0, rfl, Own.nil _ _ _ _ _, ((Keep.refl None w).alloc _).andThen HK2.out (by intro g h1 h2; omega)⟩))
    · have h2 : 1024 < n := by omega
      (go_enter Try.func25, Try.ntmps25; go_wp2_with ((with_reducible (show wpList _ _ _ (⟨_, .store 61 (.tmp 2) _, _, _, _, none⟩ :: _) _ _)); go_loud (refine wpList_storeObj rfl 61 _ _ rfl w.heap.size rfl [.slice none 0 0] [.slice none 0 0] rfl _ (by simp) (heap_alloc_new w (.cells #[.slice none 0 0] 61)) 1 (by kernel_rfl) rfl (by simp [Value.oneCell']) ?_; intro w2 hres2 hk2 hs2; have HR2 := Lib.hid hres2; have HK2 := Lib.hid hk2; clear hres2 hk2 hs2)); all_goals (refine bodyPost_ret (results_obj rfl rfl _ _ (range_of_obj HR2.out) Try.underlying61 rfl 1 (by kernel_rfl) rfl) rfl ?_; unfold CaNewPost; rw [HP.out]; exact ⟨none, 0, rfl, Own.nil _ _ _ _ _, ((Keep.refl None w).alloc _).andThen HK2.out (by intro g h1 h2; omega)⟩))

end Go.Proofs.Ytpdnfekhfagfkaa
