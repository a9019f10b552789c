/-
  Chapter 30: identities, their order; the digest of bytes: walked.
-/
import Derived.Test.YtcdophocpheadaaGreatDoorNums
import Derived.Test.YtcdophocpheadaaGreatDoorBaseTwo
import Derived.Test.YtcdophocpheadaaGreatDoorDraw
import Derived.StillTactics
namespace Go.Proofs.YtcdophocpheadaaGreatDoor
open Go.RowKit

def cmpI (a b : Int) : Int := if a < b then -1 else if b < a then 1 else 0

theorem isNaN_calls (n : Int) (w : World) : Calls Tryz.prog 58 #[.int .i64 n] w fun e w' => e = .returned (.bool false) ∧ w' = w := by
  go_enter Tryz.func58, Tryz.ntmps58
  go_wp2
  go_ret
  exact ⟨by simp, rfl⟩

theorem cmp_calls (a b : Int) (w : World) : Calls Tryz.prog 23 #[.int .i64 a, .int .i64 b] w fun e w' => e = .returned (.int .i64 (cmpI a b)) ∧ w' = w := by
  by_cases h1 : a < b
  · have hf : cmpI a b = -1 := by simp [cmpI, h1]
    rw [hf]
    go_enter Tryz.func23, Tryz.ntmps23
    go_wp2_with (go_at_call 58; refine (isNaN_calls _ _).mono ?_; rintro e w' ⟨rfl, rfl⟩)
    go_ret
    exact ⟨rfl, rfl⟩
  · by_cases h2 : b < a
    · have hf : cmpI a b = 1 := by simp [cmpI, h1, h2]
      rw [hf]
      go_enter Tryz.func23, Tryz.ntmps23
      go_wp2_with (go_at_call 58; refine (isNaN_calls _ _).mono ?_; rintro e w' ⟨rfl, rfl⟩)
      go_ret
      exact ⟨rfl, rfl⟩
    · have hf : cmpI a b = 0 := by simp [cmpI, h1, h2]
      rw [hf]
      go_enter Tryz.func23, Tryz.ntmps23
      go_wp2_with (go_at_call 58; refine (isNaN_calls _ _).mono ?_; rintro e w' ⟨rfl, rfl⟩)
      go_ret
      exact ⟨rfl, rfl⟩

/-- The first that is not 0. -/
def orL : List Int → Int
  | [] => 0
  | x :: r => if x = 0 then orL r else x

theorem or_calls (p : Option Addr) (l : List Int) (c : Nat) (w : World) (h : SliceV intEnc 1 w p l) (hl : l.length ≤ 1000000) :
    Calls Tryz.prog 22 #[.slice p l.length c] w fun e w' => e = .returned (.int .i64 (orL l)) ∧ w' = w := by
  go_enter Tryz.func22, Tryz.ntmps22
  go_wp2
  go_loop [8] (fun i => ∃ k : Nat, i = .int .i64 k ∧ k ≤ l.length ∧ orL (l.drop k) = orL l) (fun i => l.length - (intOf i).toNat)
  case atStart => exact ⟨0, rfl, by omega, rfl⟩
  case round =>
    obtain ⟨k, rfl, hk, hr⟩ := hrel
    have HR := Lib.hid hr
    clear hr
    by_cases hlt : k < l.length
    · obtain ⟨x, hx⟩ : ∃ x, l[k]? = some x := ⟨l[k], by simp [hlt]⟩
      rcases h with h | ⟨b, o, rfl, h⟩
      · subst h; simp at hlt
      have hc := h.int hx
      have HD := Lib.hid (drop_cons hx)
      clear hx h
      by_cases hz : x = 0
      · subst hz
        have HN : Hid (orL (l.drop (k + 1)) = orL l) := Lib.hid (by rw [← HR.out, HD.out]; simp [orL])
        go_wp2
        go_round
        case rel => exact ⟨k + 1, by go_num, by omega, HN.out⟩
        case measure => simp [intOf]; omega
      · have HN : Hid (orL l = x) := Lib.hid (by rw [← HR.out, HD.out]; simp [orL, hz])
        have hz' : (x != 0) = true := by simpa using hz
        clear hz
        go_wp2
        go_ret
        rw [HN.out]
        exact ⟨rfl, rfl⟩
    · have hke : k = l.length := by omega
      subst hke
      have HN : Hid (orL l = 0) := Lib.hid (by rw [← HR.out, List.drop_length]; rfl)
      go_wp2
      go_ret
      rw [HN.out]
      exact ⟨rfl, rfl⟩

structure Idn where
  r : Int
  m : Int
  n : Int
deriving DecidableEq
def Idn.enc (x : Idn) : List Value := [.int .i64 x.r, .int .i64 x.m, .int .i64 x.n]
theorem Idn.enc_len (x : Idn) : x.enc.length = 3 := rfl
def idVal (x : Idn) : Value := .agg #[.int .i64 x.r, .int .i64 x.m, .int .i64 x.n]
theorem Tryz.sizeId : (Tryz.prog.info? 23).map (·.size) = some 3 := by kernel_rfl

def cmpD (x y : Idn) : Int := orL [cmpI x.r y.r, cmpI x.m y.m, cmpI x.n y.n]

theorem cmpI_cases (a b : Int) : (a < b ∧ cmpI a b = -1 ∧ cmpI b a = 1) ∨ (b < a ∧ cmpI a b = 1 ∧ cmpI b a = -1) ∨ (a = b ∧ cmpI a b = 0 ∧ cmpI b a = 0) := by
  unfold cmpI
  rcases Int.lt_trichotomy a b with h | h | h
  · left; refine ⟨h, if_pos h, ?_⟩; rw [if_neg (by omega), if_pos h]
  · right; right; subst h; simp
  · right; left; refine ⟨h, ?_, if_pos h⟩; rw [if_neg (by omega), if_pos h]
theorem cmpD_eq (x y : Idn) : cmpD x y = if cmpI x.r y.r ≠ 0 then cmpI x.r y.r else if cmpI x.m y.m ≠ 0 then cmpI x.m y.m else cmpI x.n y.n := by
  unfold cmpD orL orL orL orL
  by_cases h1 : cmpI x.r y.r = 0 <;> by_cases h2 : cmpI x.m y.m = 0 <;> by_cases h3 : cmpI x.n y.n = 0 <;> simp [h1, h2, h3]
theorem cmpD_neg (x y : Idn) : cmpD x y = -cmpD y x := by
  rw [cmpD_eq, cmpD_eq]
  rcases cmpI_cases x.r y.r with ⟨_, h1, h2⟩ | ⟨_, h1, h2⟩ | ⟨_, h1, h2⟩ <;> rcases cmpI_cases x.m y.m with ⟨_, h3, h4⟩ | ⟨_, h3, h4⟩ | ⟨_, h3, h4⟩ <;> rcases cmpI_cases x.n y.n with ⟨_, h5, h6⟩ | ⟨_, h5, h6⟩ | ⟨_, h5, h6⟩ <;> simp [h1, h2, h3, h4, h5, h6]
theorem cmpD_zero (x y : Idn) : cmpD x y = 0 ↔ x = y := by
  rw [cmpD_eq]
  obtain ⟨a, b, c⟩ := x
  obtain ⟨a', b', c'⟩ := y
  simp only [Idn.mk.injEq]
  rcases cmpI_cases a a' with ⟨g1, h1, h2⟩ | ⟨g1, h1, h2⟩ | ⟨g1, h1, h2⟩ <;> rcases cmpI_cases b b' with ⟨g2, h3, h4⟩ | ⟨g2, h3, h4⟩ | ⟨g2, h3, h4⟩ <;> rcases cmpI_cases c c' with ⟨g3, h5, h6⟩ | ⟨g3, h5, h6⟩ | ⟨g3, h5, h6⟩ <;> simp [h1, h3, h5] <;> omega
theorem cmpD_lt (x y : Idn) : cmpD x y < 0 ↔ x.r < y.r ∨ (x.r = y.r ∧ (x.m < y.m ∨ (x.m = y.m ∧ x.n < y.n))) := by
  rw [cmpD_eq]
  rcases cmpI_cases x.r y.r with ⟨g1, h1, h2⟩ | ⟨g1, h1, h2⟩ | ⟨g1, h1, h2⟩ <;> rcases cmpI_cases x.m y.m with ⟨g2, h3, h4⟩ | ⟨g2, h3, h4⟩ | ⟨g2, h3, h4⟩ <;> rcases cmpI_cases x.n y.n with ⟨g3, h5, h6⟩ | ⟨g3, h5, h6⟩ | ⟨g3, h5, h6⟩ <;> simp [h1, h3, h5] <;> omega
theorem cmpD_trans {x y z : Idn} (h : cmpD x y < 0) (k : cmpD y z < 0) : cmpD x z < 0 := by
  rw [cmpD_lt] at *
  omega

set_option maxRecDepth 100000 in
set_option maxHeartbeats 1000000 in
theorem compare_calls {a0 a1 a2 b0 b1 b2 : Int} (w : World) :
    Calls Tryz.prog 6 #[.agg #[.int .i64 a0, .int .i64 a1, .int .i64 a2], .agg #[.int .i64 b0, .int .i64 b1, .int .i64 b2]] w (Gives None (.int .i64 (cmpD ⟨a0, a1, a2⟩ ⟨b0, b1, b2⟩)) w) := by
  go_enter Tryz.func6, Tryz.ntmps6
  go_wp2
  refine region_tail 15 (by kernel_rfl) (by kernel_rfl) ?_
  simp only [List.take_succ_cons, List.take_zero, List.drop_succ_cons, List.drop_zero]
  iterate 4 still_step
  still_call (cmp_calls _ _ _)
  iterate 4 still_step
  still_call (cmp_calls _ _ _)
  iterate 4 still_step
  still_call (cmp_calls _ _ _)
  refine wpStill_nil ?_
  go_wp2_with (go_at_call 22; refine (or_calls _ [cmpI a0 b0, cmpI a1 b1, cmpI a2 b2] _ _ ?_ (by simp)).mono ?_)
  · refine .inr ⟨_, 0, rfl, Arr.slAt (e := 3) intEnc_len ?_⟩
    unfold Arr
    first
    | exact alloc_at (by simp)
    | exact (Keep.drew (Keep.refl None _)).obj (alloc_at (by simp)) id
  · rintro e w' ⟨rfl, rfl⟩
    go_wp2
    go_ret
    refine ⟨rfl, ?_⟩
    repeat (first | exact Keep.refl _ _ | refine Keep.drew ?_ | refine Keep.alloc ?_ _)

theorem rorder_calls (a b : Int) (w : World) : Calls Tryz.prog 24 #[.int .i64 a, .int .i64 b] w fun e w' => e = .returned (.int .i64 (cmpI a b)) ∧ w' = w := by
  by_cases h1 : a < b
  · have hf : cmpI a b = -1 := by simp [cmpI, h1]
    rw [hf]
    go_enter Tryz.func24, Tryz.ntmps24
    go_wp2
    go_ret
    exact ⟨rfl, rfl⟩
  · by_cases h2 : b < a
    · have hf : cmpI a b = 1 := by simp [cmpI, h1, h2]
      rw [hf]
      go_enter Tryz.func24, Tryz.ntmps24
      go_wp2
      go_ret
      exact ⟨rfl, rfl⟩
    · have hf : cmpI a b = 0 := by simp [cmpI, h1, h2]
      rw [hf]
      go_enter Tryz.func24, Tryz.ntmps24
      go_wp2
      go_ret
      exact ⟨rfl, rfl⟩

set_option maxRecDepth 100000 in
set_option maxHeartbeats 1000000 in
theorem rcompare_calls {a0 a1 a2 b0 b1 b2 : Int} (w : World) :
    Calls Tryz.prog 7 #[.agg #[.int .i64 a0, .int .i64 a1, .int .i64 a2], .agg #[.int .i64 b0, .int .i64 b1, .int .i64 b2]] w (Gives None (.int .i64 (cmpD ⟨a0, a1, a2⟩ ⟨b0, b1, b2⟩)) w) := by
  have hd := cmpD_eq ⟨a0, a1, a2⟩ ⟨b0, b1, b2⟩
  simp only at hd
  by_cases h1 : cmpI a0 b0 = 0
  · by_cases h2 : cmpI a1 b1 = 0
    · have HD := Lib.hid (show cmpD ⟨a0, a1, a2⟩ ⟨b0, b1, b2⟩ = cmpI a2 b2 by rw [hd]; simp [h1, h2])
      clear hd
      (go_enter Tryz.func7, Tryz.ntmps7; go_wp2_with (go_at_call 24; refine (rorder_calls _ _ _).mono ?_; rintro e w' ⟨rfl, rfl⟩); go_ret; rw [HD.out]; exact ⟨rfl, ((Keep.refl _ _).alloc _).alloc _⟩)
    · have HD := Lib.hid (show cmpD ⟨a0, a1, a2⟩ ⟨b0, b1, b2⟩ = cmpI a1 b1 by rw [hd]; simp [h1, h2])
      have h2' : (cmpI a1 b1 != 0) = true := by simpa using h2
      clear hd
      (go_enter Tryz.func7, Tryz.ntmps7; go_wp2_with (go_at_call 24; refine (rorder_calls _ _ _).mono ?_; rintro e w' ⟨rfl, rfl⟩); go_ret; rw [HD.out]; exact ⟨rfl, ((Keep.refl _ _).alloc _).alloc _⟩)
  · have HD := Lib.hid (show cmpD ⟨a0, a1, a2⟩ ⟨b0, b1, b2⟩ = cmpI a0 b0 by rw [hd]; simp [h1])
    have h1' : (cmpI a0 b0 != 0) = true := by simpa using h1
    clear hd
    (go_enter Tryz.func7, Tryz.ntmps7; go_wp2_with (go_at_call 24; refine (rorder_calls _ _ _).mono ?_; rintro e w' ⟨rfl, rfl⟩); go_ret; rw [HD.out]; exact ⟨rfl, ((Keep.refl _ _).alloc _).alloc _⟩)

/-! ### The digest -/
def mixU (a p : Int) : Int := IntKind.u64.wrap (bits BinOp.xor IntKind.u64 a (a / 8589934592) * p)
def scrU (x : Int) : Int := bits BinOp.xor IntKind.u64 (mixU (mixU x 18397679294719823053) 14181476777654086739) (mixU (mixU x 18397679294719823053) 14181476777654086739 / 8589934592)
def stepU (h b : Int) : Int := IntKind.u64.wrap (bits BinOp.xor IntKind.u64 h b * 1099511628211)
def digU (l : List Int) : Int := scrU (l.foldl stepU 14695981039346656037)

set_option maxHeartbeats 1000000 in
theorem scr_calls (x : Int) (w : World) : Calls Tryz.prog 59 #[.int .u64 x] w fun e w' => e = .returned (.int .u64 (scrU x)) ∧ w' = w := by
  go_enter Tryz.func59, Tryz.ntmps59
  go_wp2
  go_ret
  exact ⟨rfl, rfl⟩
set_option maxHeartbeats 1000000 in
theorem rscr_calls (x : Int) (w : World) : Calls Tryz.prog 60 #[.int .u64 x] w fun e w' => e = .returned (.int .u64 (scrU x)) ∧ w' = w := by
  go_enter Tryz.func60, Tryz.ntmps60
  go_wp2
  go_ret
  exact ⟨rfl, rfl⟩
set_option maxHeartbeats 2000000 in
theorem bytes_calls (p : Option Addr) (l : List Int) (c : Nat) (w : World) (h : SliceV byteEnc 1 w p l) (hl : l.length ≤ 1000000) (hb : ∀ x ∈ l, (0 : Int) ≤ x ∧ x ≤ 255) :
    Calls Tryz.prog 25 #[.slice p l.length c] w fun e w' => e = .returned (.int .u64 (digU l)) ∧ w' = w := by
  have HB := Lib.hid hb
  clear hb
  go_enter Tryz.func25, Tryz.ntmps25
  go_wp2
  go_loop [3, 8] (fun t i => ∃ k : Nat, i = .int .i64 k ∧ k ≤ l.length ∧ t = .int .u64 ((l.take k).foldl stepU 14695981039346656037)) (fun _ i => l.length - (intOf i).toNat)
  case atStart => exact ⟨0, rfl, by omega, rfl⟩
  case round =>
    obtain ⟨k, rfl, hk, rfl⟩ := hrel
    by_cases hlt : k < l.length
    · obtain ⟨x, hx⟩ : ∃ x, l[k]? = some x := ⟨l[k], by simp [hlt]⟩
      have hxb := HB.out x (List.mem_of_getElem? hx)
      rcases h with h | ⟨b, o, rfl, h⟩
      · subst h; simp at hlt
      have hc : w.cell? ⟨b, o + k, none⟩ = some (.int .u8 x) := by simpa [byteEnc] using h k x hx 0 _ rfl
      have HN : Hid ((l.take (k + 1)).foldl stepU 14695981039346656037 = stepU ((l.take k).foldl stepU 14695981039346656037) x) := Lib.hid (by rw [List.take_add_one, hx]; simp [List.foldl_append])
      clear hx h
      generalize (l.take k).foldl stepU 14695981039346656037 = t at *
      go_wp2
      go_round
      case rel => exact ⟨k + 1, by go_num, by omega, by rw [HN.out]; rfl⟩
      case measure => simp [intOf]; omega
    · have hke : k = l.length := by omega
      subst hke
      have HN : Hid (digU l = scrU ((l.take l.length).foldl stepU 14695981039346656037)) := Lib.hid (by rw [List.take_length]; rfl)
      generalize (l.take l.length).foldl stepU 14695981039346656037 = t at *
      go_wp2_with (go_at_call 59; refine (scr_calls _ _).mono ?_; rintro e w' ⟨rfl, rfl⟩)
      go_ret
      rw [HN.out]
      exact ⟨rfl, rfl⟩
set_option maxHeartbeats 2000000 in
theorem rbytes_calls (p : Option Addr) (l : List Int) (c : Nat) (w : World) (h : SliceV byteEnc 1 w p l) (hl : l.length ≤ 1000000) (hb : ∀ x ∈ l, (0 : Int) ≤ x ∧ x ≤ 255) :
    Calls Tryz.prog 26 #[.slice p l.length c] w fun e w' => e = .returned (.int .u64 (digU l)) ∧ w' = w := by
  have HB := Lib.hid hb
  clear hb
  go_enter Tryz.func26, Tryz.ntmps26
  go_wp2
  go_loop [3, 4] (fun t i => ∃ k : Nat, i = .int .i64 k ∧ k ≤ l.length ∧ t = .int .u64 ((l.take k).foldl stepU 14695981039346656037)) (fun _ i => l.length - (intOf i).toNat)
  case atStart => exact ⟨0, rfl, by omega, rfl⟩
  case round =>
    obtain ⟨k, rfl, hk, rfl⟩ := hrel
    by_cases hlt : k < l.length
    · obtain ⟨x, hx⟩ : ∃ x, l[k]? = some x := ⟨l[k], by simp [hlt]⟩
      have hxb := HB.out x (List.mem_of_getElem? hx)
      rcases h with h | ⟨b, o, rfl, h⟩
      · subst h; simp at hlt
      have hc : w.cell? ⟨b, o + k, none⟩ = some (.int .u8 x) := by simpa [byteEnc] using h k x hx 0 _ rfl
      have HN : Hid ((l.take (k + 1)).foldl stepU 14695981039346656037 = stepU ((l.take k).foldl stepU 14695981039346656037) x) := Lib.hid (by rw [List.take_add_one, hx]; simp [List.foldl_append])
      clear hx h
      generalize (l.take k).foldl stepU 14695981039346656037 = t at *
      go_wp2
      go_round
      case rel => exact ⟨k + 1, by go_num, by omega, by rw [HN.out]; rfl⟩
      case measure => simp [intOf]; omega
    · have hke : k = l.length := by omega
      subst hke
      have HN : Hid (digU l = scrU ((l.take l.length).foldl stepU 14695981039346656037)) := Lib.hid (by rw [List.take_length]; rfl)
      generalize (l.take l.length).foldl stepU 14695981039346656037 = t at *
      go_wp2_with (go_at_call 60; refine (rscr_calls _ _).mono ?_; rintro e w' ⟨rfl, rfl⟩)
      go_ret
      rw [HN.out]
      exact ⟨rfl, rfl⟩
theorem digest_calls (p : Option Addr) (l : List Int) (c : Nat) (w : World) (h : SliceV byteEnc 1 w p l) (hl : l.length ≤ 1000000) (hb : ∀ x ∈ l, (0 : Int) ≤ x ∧ x ≤ 255) :
    Calls Tryz.prog 8 #[.slice p l.length c] w fun e w' => e = .returned (.int .u64 (digU l)) ∧ w' = w := by
  have HB := Lib.hid hb
  have HH := Lib.hid h
  clear hb h
  go_enter Tryz.func8, Tryz.ntmps8
  go_wp2_with (go_at_call 25; refine (bytes_calls p l c _ HH.out hl HB.out).mono ?_; rintro e w' ⟨rfl, rfl⟩)
  go_ret
  exact ⟨rfl, rfl⟩
theorem rdigest_calls (p : Option Addr) (l : List Int) (c : Nat) (w : World) (h : SliceV byteEnc 1 w p l) (hl : l.length ≤ 1000000) (hb : ∀ x ∈ l, (0 : Int) ≤ x ∧ x ≤ 255) :
    Calls Tryz.prog 9 #[.slice p l.length c] w fun e w' => e = .returned (.int .u64 (digU l)) ∧ w' = w := by
  have HB := Lib.hid hb
  have HH := Lib.hid h
  clear hb h
  go_enter Tryz.func9, Tryz.ntmps9
  go_wp2_with (go_at_call 26; refine (rbytes_calls p l c _ HH.out hl HB.out).mono ?_; rintro e w' ⟨rfl, rfl⟩)
  go_ret
  exact ⟨rfl, rfl⟩

end Go.Proofs.YtcdophocpheadaaGreatDoor
