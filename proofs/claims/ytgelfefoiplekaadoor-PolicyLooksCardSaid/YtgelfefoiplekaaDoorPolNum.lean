/-
  Chapter 44: numbers of a policy's text.
-/
import Derived.Test.YtgelfefoiplekaaDoorPolChosen
import Derived.Test.YtgelfefoiplekaaDoorShelf
namespace Go.Proofs.YtgelfefoiplekaaDoor
open Go.RowKit PN

abbrev bl (s : ByteArray) : List UInt8 := s.data.toList
theorem bl_len (s : ByteArray) : (bl s).length = s.size := (Lib.size_eq s).symm
theorem bl_eq (s : ByteArray) : s.toList = bl s := Lib.toList_data s
theorem bl_get (s : ByteArray) (k : Nat) (h : k < s.size) : (bl s)[k]? = some s[k] := by
  have h2 : k < (bl s).length := by rw [bl_len]; exact h
  rw [List.getElem?_eq_getElem h2]; rfl

def numV (l : Bs) : Value := match number l with | some n => .tuple #[.int .i64 n, .bool true] | none => .tuple #[.int .i64 0, .bool false]
theorem num_no {l : Bs} (h : numOk l = false) : numV l = .tuple #[.int .i64 0, .bool false] := by
  unfold numV number; rw [if_neg (by rw [h]; simp)]
theorem num_yes {l : Bs} (h : numOk l = true) : numV l = .tuple #[.int .i64 (val l), .bool true] := by
  unfold numV number; rw [if_pos h]
theorem numOk_bad {l : Bs} (h : l.length < 1 ∨ 9 < l.length ∨ (1 < l.length ∧ l[0]? = some 48) ∨ ∃ x ∈ l, isDig x = false) : numOk l = false := by
  unfold numOk
  rcases h with h | h | ⟨h, h2⟩ | ⟨x, hx, h2⟩
  · simp [show ¬ 1 ≤ l.length by omega]
  · simp [show ¬ l.length ≤ 9 by omega]
  · cases l with
    | nil => simp at h
    | cons y r =>
      simp at h2
      subst h2
      have h4 : (decide (1 < ((48 : UInt8) :: r).length)) = true := by simpa using h
      rw [h4]; simp
  · have : l.all isDig = false := List.all_eq_false.2 ⟨x, hx, by simp [h2]⟩
    rw [this]; simp
theorem numOk_good {l : Bs} (h1 : 1 ≤ l.length) (h2 : l.length ≤ 9) (h3 : ¬ (1 < l.length ∧ l[0]? = some 48)) (h4 : ∀ x ∈ l, isDig x = true) : numOk l = true := by
  unfold numOk
  rw [List.all_eq_true.2 h4]
  cases l with
  | nil => simp at h1
  | cons y r =>
    have h5 : (!(decide (1 < (y :: r).length) && (y :: r).headD 0 == 48)) = true := by
      by_cases hr : 1 < (y :: r).length
      · have : y ≠ 48 := fun e => h3 ⟨hr, by simp [e]⟩
        simp [this]
      · have h6 : decide (1 < (y :: r).length) = false := by simpa using hr
        rw [h6]; rfl
    rw [h5]
    simp only [decide_eq_true h1, decide_eq_true h2]; rfl

def NumInv (l : Bs) (n i : Value) : Prop := ∃ k : Nat, k ≤ l.length ∧ i = .int .i64 k ∧ n = .int .i64 (val (l.take k)) ∧ ∀ x ∈ l.take k, isDig x = true
theorem take_snoc {α : Type} {l : List α} {k : Nat} {x : α} (h : l[k]? = some x) : l.take (k + 1) = l.take k ++ [x] := by
  rw [List.take_add_one, h]; rfl
theorem val_small {l : Bs} (h : ∀ x ∈ l, isDig x = true) (h9 : l.length ≤ 9) : val l < 1000000000 := by
  have h1 := val_bound l (List.all_eq_true.2 h)
  have h2 : 10 ^ l.length ≤ 10 ^ 9 := Nat.pow_le_pow_right (by omega) h9
  omega

set_option maxHeartbeats 4000000 in
theorem number_calls (s : ByteArray) (w : World) (hs : s.size ≤ 4294967280) :
    Calls Tryd.prog 44 #[.string s] w (fun e w' => e = .returned (numV (bl s)) ∧ w = w') := by
  have hl := bl_len s
  by_cases h0 : s.size = 0
  · have HV := Lib.hid (num_no (numOk_bad (l := bl s) (.inl (by omega))))
    have e0 : s.toList = [] := by rw [bl_eq]; exact List.eq_nil_of_length_eq_zero (by omega)
    have e0' : s.toList.isEmpty = true := by rw [e0]; rfl
    clear hl h0
    go_enter Tryd.func44, Tryd.ntmps44
    go_wp2
    go_ret2
    exact ⟨by rw [HV.out]; rfl, rfl⟩
  · have e0 : ¬ s.toList = [] := by rw [bl_eq]; intro e; rw [e] at hl; simp at hl; omega
    have e0' : s.toList.isEmpty = false := by simpa using e0
    by_cases h9 : 9 < s.size
    · have e1 : decide ((9 : Int) < s.size) = true := by simp; omega
      have HV := Lib.hid (num_no (numOk_bad (l := bl s) (.inr (.inl (by omega)))))
      clear hl h0
      go_enter Tryd.func44, Tryd.ntmps44
      go_wp2
      go_ret2
      exact ⟨by rw [HV.out]; rfl, rfl⟩
    · have e1 : decide ((9 : Int) < s.size) = false := by simp; omega
      have hp : 0 < s.size := by omega
      have g0 := bl_get s 0 hp
      by_cases hz : 1 < s.size ∧ s[0] = 48
      · obtain ⟨hz1, hz2⟩ := hz
        have e2 : decide ((1 : Int) < s.size) = true := by simp; omega
        have e3 : ((s[0].toNat : Int) == 48) = true := by rw [hz2]; rfl
        have HV := Lib.hid (num_no (numOk_bad (l := bl s) (.inr (.inr (.inl ⟨by omega, by rw [g0, hz2]⟩)))))
        clear hl h0 g0 hz2
        go_enter Tryd.func44, Tryd.ntmps44
        go_wp2
        go_ret2
        exact ⟨by rw [HV.out]; rfl, rfl⟩
      · have HZ := Lib.hid hz
        have HL := Lib.hid hl
        have G0 := Lib.hid g0
        have hs9 : s.size ≤ 9 := by omega
        have hpi : (0 : Int) < s.size := by omega
        clear hl g0 h0 hz
        by_cases h1 : 1 < s.size
        · have e2 : decide ((1 : Int) < s.size) = true := by simp; omega
          have e3 : ((s[0].toNat : Int) == 48) = false := by
            have : s[0] ≠ 48 := fun e => HZ.out ⟨h1, e⟩
            simp only [beq_eq_false_iff_ne, ne_eq]
            intro e
            exact this (UInt8.toNat_inj.1 (by have h48 : (48 : UInt8).toNat = 48 := rfl; omega))
          go_enter Tryd.func44, Tryd.ntmps44
          go_wp2_with (fail)
          go_loop [4, 25] (NumInv (bl s)) (fun _ i => s.size - (intOf i).toNat)
          case atStart => exact ⟨0, by omega, rfl, rfl, by simp⟩
          case round =>
            obtain ⟨k, hk, rfl, rfl, hd⟩ := hrel
            have hkl : k ≤ s.size := by have := HL.out; omega
            have HD := Lib.hid hd
            have hv9 : val ((bl s).take k) < 1000000000 := val_small hd (by rw [List.length_take]; omega)
            clear hd hk
            by_cases hlt : k < s.size
            · have hki : (k : Int) < s.size := by omega
              have hg := bl_get s k hlt
              have HTS := Lib.hid (take_snoc hg)
              have HG := Lib.hid hg
              have hvs := val_snoc ((bl s).take k) s[k]
              rw [← take_snoc hg] at hvs
              have HVS := Lib.hid hvs
              clear hg hvs
              generalize hv : val ((bl s).take k) = v at *
              cases f1 : decide ((s[k].toNat : Int) < 48) with
              | true =>
                have HV := Lib.hid (num_no (numOk_bad (l := bl s) (.inr (.inr (.inr ⟨s[k], List.mem_of_getElem? HG.out, by have := of_decide_eq_true f1; simp [isDig]; omega⟩)))))
                clear hv
                go_wp2
                go_ret2
                exact ⟨by rw [HV.out]; rfl, rfl⟩
              | false =>
              cases f2 : decide (57 < (s[k].toNat : Int)) with
              | true =>
                have HV := Lib.hid (num_no (numOk_bad (l := bl s) (.inr (.inr (.inr ⟨s[k], List.mem_of_getElem? HG.out, by have := of_decide_eq_true f2; simp [isDig]; omega⟩)))))
                clear hv
                go_wp2
                go_ret2
                exact ⟨by rw [HV.out]; rfl, rfl⟩
              | false =>
                have g1 := of_decide_eq_false f1
                have g2 := of_decide_eq_false f2
                clear hv
                go_wp2
                go_round
                case rel =>
                  refine ⟨k + 1, by rw [HL.out]; omega, by go_num, ?_, ?_⟩
                  · rw [HVS.out]
                    congr 1
                    omega
                  · intro x hx
                    rw [HTS.out] at hx
                    rcases List.mem_append.1 hx with hx | hx
                    · exact HD.out x hx
                    · rw [List.mem_singleton.1 hx]; simp [isDig]; omega
                case measure => simp [intOf]; omega
            · have hke : k = s.size := by omega
              subst hke
              have hta : (bl s).take s.size = bl s := by rw [← HL.out]; exact List.take_length
              rw [hta]
              have HV := Lib.hid (num_yes (numOk_good (l := bl s) (by rw [HL.out]; omega) (by rw [HL.out]; omega) (fun h => HZ.out ⟨by rw [HL.out] at h; exact h.1, by have := h.2; rw [G0.out] at this; exact Option.some.inj this⟩) (by have := HD.out; rwa [hta] at this)))
              clear hta
              go_wp2
              go_ret2
              exact ⟨by rw [HV.out]; rfl, rfl⟩
        · have e2 : decide ((1 : Int) < s.size) = false := by simp; omega
          go_enter Tryd.func44, Tryd.ntmps44
          go_wp2_with (fail)
          go_loop [4, 25] (NumInv (bl s)) (fun _ i => s.size - (intOf i).toNat)
          case atStart => exact ⟨0, by omega, rfl, rfl, by simp⟩
          case round =>
            obtain ⟨k, hk, rfl, rfl, hd⟩ := hrel
            have hkl : k ≤ s.size := by have := HL.out; omega
            have HD := Lib.hid hd
            have hv9 : val ((bl s).take k) < 1000000000 := val_small hd (by rw [List.length_take]; omega)
            clear hd hk
            by_cases hlt : k < s.size
            · have hki : (k : Int) < s.size := by omega
              have hg := bl_get s k hlt
              have HTS := Lib.hid (take_snoc hg)
              have HG := Lib.hid hg
              have hvs := val_snoc ((bl s).take k) s[k]
              rw [← take_snoc hg] at hvs
              have HVS := Lib.hid hvs
              clear hg hvs
              generalize hv : val ((bl s).take k) = v at *
              cases f1 : decide ((s[k].toNat : Int) < 48) with
              | true =>
                have HV := Lib.hid (num_no (numOk_bad (l := bl s) (.inr (.inr (.inr ⟨s[k], List.mem_of_getElem? HG.out, by have := of_decide_eq_true f1; simp [isDig]; omega⟩)))))
                clear hv
                go_wp2
                go_ret2
                exact ⟨by rw [HV.out]; rfl, rfl⟩
              | false =>
              cases f2 : decide (57 < (s[k].toNat : Int)) with
              | true =>
                have HV := Lib.hid (num_no (numOk_bad (l := bl s) (.inr (.inr (.inr ⟨s[k], List.mem_of_getElem? HG.out, by have := of_decide_eq_true f2; simp [isDig]; omega⟩)))))
                clear hv
                go_wp2
                go_ret2
                exact ⟨by rw [HV.out]; rfl, rfl⟩
              | false =>
                have g1 := of_decide_eq_false f1
                have g2 := of_decide_eq_false f2
                clear hv
                go_wp2
                go_round
                case rel =>
                  refine ⟨k + 1, by rw [HL.out]; omega, by go_num, ?_, ?_⟩
                  · rw [HVS.out]
                    congr 1
                    omega
                  · intro x hx
                    rw [HTS.out] at hx
                    rcases List.mem_append.1 hx with hx | hx
                    · exact HD.out x hx
                    · rw [List.mem_singleton.1 hx]; simp [isDig]; omega
                case measure => simp [intOf]; omega
            · have hke : k = s.size := by omega
              subst hke
              have hta : (bl s).take s.size = bl s := by rw [← HL.out]; exact List.take_length
              rw [hta]
              have HV := Lib.hid (num_yes (numOk_good (l := bl s) (by rw [HL.out]; omega) (by rw [HL.out]; omega) (fun h => HZ.out ⟨by rw [HL.out] at h; exact h.1, by have := h.2; rw [G0.out] at this; exact Option.some.inj this⟩) (by have := HD.out; rwa [hta] at this)))
              clear hta
              go_wp2
              go_ret2
              exact ⟨by rw [HV.out]; rfl, rfl⟩

end Go.Proofs.YtgelfefoiplekaaDoor
