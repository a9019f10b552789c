/-
  Chapter 30: pieces, their form in memory, what makes them valid; the small functions.
-/
import Derived.Test.YtcdophocpheadaaGreatDoorSdOrd
import Derived.BigQuiet
import Derived.Deep.Cut
import Derived.Deep.CutBlock
import Derived.Deep.DeepCutAuto
namespace Go.Proofs.YtcdophocpheadaaGreatDoor
open Go.RowKit

/-! ### Pairs (targets, edges) -/
def prEnc (p : Int × Int) : List Value := [.int .i64 p.1, .int .i64 p.2]
theorem prEnc_len (p : Int × Int) : (prEnc p).length = 2 := rfl
theorem SlAt.pr {w : World} {b off : Nat} {xs : List (Int × Int)} (h : SlAt prEnc 2 w b off xs) {i : Nat} {x y : Int} (hx : xs[i]? = some (x, y)) :
    w.cell? ⟨b, off + i * 2, none⟩ = some (.int .i64 x) ∧ w.cell? ⟨b, off + i * 2 + 1, none⟩ = some (.int .i64 y) :=
  ⟨by simpa using h i _ hx 0 _ rfl, by simpa using h i _ hx 1 _ rfl⟩

/-- A site: its data, and where its targets lie. -/
structure SiteM where
  b : Int
  i : Int
  p : Option Addr
  c : Nat
  tg : List (Int × Int)
def SiteM.enc (x : SiteM) : List Value := [.int .i64 x.b, .int .i64 x.i, .slice x.p x.tg.length x.c]
theorem SiteM.enc_len (x : SiteM) : x.enc.length = 3 := rfl
def SiteM.ok (w : World) (x : SiteM) : Prop := SliceV prEnc 2 w x.p x.tg ∧ x.tg.length ≤ 4000000000000000000

structure FcM where
  ent : Int
  pb : Option Addr
  cb : Nat
  bs : List Int
  pe : Option Addr
  ce : Nat
  es : List (Int × Int)
  ps : Option Addr
  cs : Nat
  st : List SiteM
def FcM.enc (x : FcM) : List Value := [.int .i64 x.ent, .slice x.pb x.bs.length x.cb, .slice x.pe x.es.length x.ce, .slice x.ps x.st.length x.cs]
theorem FcM.enc_len (x : FcM) : x.enc.length = 4 := rfl
def FcM.val (x : FcM) : Value := .agg #[.int .i64 x.ent, .slice x.pb x.bs.length x.cb, .slice x.pe x.es.length x.ce, .slice x.ps x.st.length x.cs]
structure FcM.ok (w : World) (x : FcM) : Prop where
  bs : SliceV intEnc 1 w x.pb x.bs
  es : SliceV prEnc 2 w x.pe x.es
  st : SliceV SiteM.enc 3 w x.ps x.st
  tg : ∀ s ∈ x.st, s.ok w
  lb : x.bs.length ≤ 4000000000000000000
  le : x.es.length ≤ 4000000000000000000
  ls : x.st.length ≤ 4000000000000000000

theorem offNone (p : Option Addr) : OffS None p := fun _ _ h => h
theorem SiteM.ok.keep {w w' : World} {x : SiteM} (h : x.ok w) (k : Keep None w w') : x.ok w' := ⟨h.1.keep k (offNone _), h.2⟩
theorem FcM.ok.keep {w w' : World} {x : FcM} (h : x.ok w) (k : Keep None w w') : x.ok w' :=
  ⟨h.bs.keep k (offNone _), h.es.keep k (offNone _), h.st.keep k (offNone _), fun s hs => (h.tg s hs).keep k, h.lb, h.le, h.ls⟩

/-! ### What is valid -/
def knownP (n : Int) : Prop := -1 ≤ n ∧ n ≤ 1099511627776
def numbP (n : Int) : Prop := 0 ≤ n ∧ n ≤ 1073741824
instance (n : Int) : Decidable (knownP n) := by unfold knownP; infer_instance
instance (n : Int) : Decidable (numbP n) := by unfold numbP; infer_instance
def tgP (fn : Int) (l : List (Int × Int)) (k : Nat) (t : Int × Int) : Prop :=
  0 ≤ t.1 ∧ t.1 < fn ∧ 0 ≤ t.2 ∧ t.2 ≤ 1099511627776 ∧ (0 < k → ∀ u, l[k - 1]? = some u → u.1 < t.1)
def tgsP (fn : Int) (l : List (Int × Int)) : Prop := ∀ k t, l[k]? = some t → tgP fn l k t
def siteOrd (a b : SiteM) : Prop := a.b < b.b ∨ a.b = b.b ∧ a.i < b.i
def siteP (nb fn : Int) (l : List SiteM) (k : Nat) (s : SiteM) : Prop :=
  0 ≤ s.b ∧ s.b < nb ∧ 0 ≤ s.i ∧ (0 < k → ∀ u, l[k - 1]? = some u → siteOrd u s) ∧ tgsP fn s.tg
def sitesP (nb fn : Int) (l : List SiteM) : Prop := ∀ k s, l[k]? = some s → siteP nb fn l k s
def blkP (es : List (Int × Int)) (k : Nat) (n : Int) : Prop := knownP n ∧ ∀ e, es[k]? = some e → knownP e.1 ∧ knownP e.2
def blksP (bs : List Int) (es : List (Int × Int)) : Prop := ∀ k n, bs[k]? = some n → blkP es k n
def headP (x : FcM) : Prop := 1 ≤ x.bs.length ∧ x.bs.length ≤ 256 ∧ x.es.length = x.bs.length ∧ knownP x.ent
structure FcP (fn : Int) (x : FcM) : Prop where
  head : headP x
  blks : blksP x.bs x.es
  sites : sitesP x.bs.length fn x.st

/-- Answers whether something holds. -/
def Says (P : Prop) (w : World) (e : Ending) (w' : World) : Prop := ∃ b : Bool, e = .returned (.bool b) ∧ (b = true ↔ P) ∧ Keep None w w'
theorem Says.no {P : Prop} {w w' : World} (h : ¬ P) (k : Keep None w w') : Says P w (.returned (.bool false)) w' := ⟨false, rfl, by simp [h], k⟩
theorem Says.yes {P : Prop} {w w' : World} (h : P) (k : Keep None w w') : Says P w (.returned (.bool true)) w' := ⟨true, rfl, by simp [h], k⟩

/-! ### The small functions -/
theorem counted_calls (n : Int) (w : World) : Calls Tryz.prog 62 #[.int .i64 n] w fun e w' => e = .returned (.bool (decide (knownP n))) ∧ w' = w := by
  by_cases h1 : -1 ≤ n
  · by_cases h2 : n ≤ 1099511627776
    · have hf : decide (knownP n) = true := decide_eq_true ⟨h1, h2⟩
      rw [hf]
      go_enter Tryz.func62, Tryz.ntmps62
      go_wp2
      go_ret
      exact ⟨rfl, rfl⟩
    · have hf : decide (knownP n) = false := decide_eq_false fun h => h2 h.2
      rw [hf]
      go_enter Tryz.func62, Tryz.ntmps62
      go_wp2
      go_ret
      exact ⟨rfl, rfl⟩
  · have hf : decide (knownP n) = false := decide_eq_false fun h => h1 h.1
    rw [hf]
    go_enter Tryz.func62, Tryz.ntmps62
    go_wp2
    go_ret
    exact ⟨rfl, rfl⟩
theorem known_calls (n : Int) (w : World) : Calls Tryz.prog 32 #[.int .i64 n] w fun e w' => e = .returned (.bool (decide (knownP n))) ∧ w' = w := by
  by_cases h1 : -1 ≤ n
  · by_cases h2 : n ≤ 1099511627776
    · have hf : decide (knownP n) = true := decide_eq_true ⟨h1, h2⟩
      rw [hf]
      go_enter Tryz.func32, Tryz.ntmps32
      go_wp2
      go_ret
      exact ⟨rfl, rfl⟩
    · have hf : decide (knownP n) = false := decide_eq_false fun h => h2 h.2
      rw [hf]
      go_enter Tryz.func32, Tryz.ntmps32
      go_wp2
      go_ret
      exact ⟨rfl, rfl⟩
  · have hf : decide (knownP n) = false := decide_eq_false fun h => h1 h.1
    rw [hf]
    go_enter Tryz.func32, Tryz.ntmps32
    go_wp2
    go_ret
    exact ⟨rfl, rfl⟩
theorem numbered_calls (n : Int) (w : World) : Calls Tryz.prog 27 #[.int .i64 n] w fun e w' => e = .returned (.bool (decide (numbP n))) ∧ w' = w := by
  by_cases h1 : 0 ≤ n
  · by_cases h2 : n ≤ 1073741824
    · have hf : decide (numbP n) = true := decide_eq_true ⟨h1, h2⟩
      rw [hf]
      go_enter Tryz.func27, Tryz.ntmps27
      go_wp2
      go_ret
      exact ⟨rfl, rfl⟩
    · have hf : decide (numbP n) = false := decide_eq_false fun h => h2 h.2
      rw [hf]
      go_enter Tryz.func27, Tryz.ntmps27
      go_wp2
      go_ret
      exact ⟨rfl, rfl⟩
  · have hf : decide (numbP n) = false := decide_eq_false fun h => h1 h.1
    rw [hf]
    go_enter Tryz.func27, Tryz.ntmps27
    go_wp2
    go_ret
    exact ⟨rfl, rfl⟩
theorem number_calls (n : Int) (w : World) : Calls Tryz.prog 31 #[.int .i64 n] w fun e w' => e = .returned (.bool (decide (numbP n))) ∧ w' = w := by
  by_cases h1 : 0 ≤ n
  · by_cases h2 : n ≤ 1073741824
    · have hf : decide (numbP n) = true := decide_eq_true ⟨h1, h2⟩
      rw [hf]
      go_enter Tryz.func31, Tryz.ntmps31
      go_wp2
      go_ret
      exact ⟨rfl, rfl⟩
    · have hf : decide (numbP n) = false := decide_eq_false fun h => h2 h.2
      rw [hf]
      go_enter Tryz.func31, Tryz.ntmps31
      go_wp2
      go_ret
      exact ⟨rfl, rfl⟩
  · have hf : decide (numbP n) = false := decide_eq_false fun h => h1 h.1
    rw [hf]
    go_enter Tryz.func31, Tryz.ntmps31
    go_wp2
    go_ret
    exact ⟨rfl, rfl⟩

/-- The order of two places of sites. -/
def cmp2 (a b c d : Int) : Int := orL [cmpI a c, cmpI b d]
theorem cmp2_lt (a b c d : Int) : cmp2 a b c d < 0 ↔ a < c ∨ a = c ∧ b < d := by
  unfold cmp2 orL orL orL
  rcases cmpI_cases a c with ⟨g1, h1, _⟩ | ⟨g1, h1, _⟩ | ⟨g1, h1, _⟩ <;> rcases cmpI_cases b d with ⟨g2, h2, _⟩ | ⟨g2, h2, _⟩ | ⟨g2, h2, _⟩ <;> simp [h1, h2] <;> omega

set_option maxRecDepth 100000 in
set_option maxHeartbeats 1000000 in
theorem order_calls {a0 a1 b0 b1 : Int} {v v' : Value} (w : World) :
    Calls Tryz.prog 63 #[.agg #[.int .i64 a0, .int .i64 a1, v], .agg #[.int .i64 b0, .int .i64 b1, v']] w (Gives None (.int .i64 (cmp2 a0 a1 b0 b1)) w) := by
  go_enter Tryz.func63, Tryz.ntmps63
  go_wp2
  refine region_tail 10 (by kernel_rfl) (by kernel_rfl) ?_
  simp only [List.take_succ_cons, List.take_zero, List.drop_succ_cons, List.drop_zero]
  iterate 4 still_step
  still_call (cmp_calls _ _ _)
  iterate 4 still_step
  still_call (cmp_calls _ _ _)
  refine wpStill_nil ?_
  go_wp2_with (go_at_call 22; refine (or_calls _ [cmpI a0 b0, cmpI a1 b1] _ _ ?_ (by simp)).mono ?_)
  · refine .inr ⟨_, 0, rfl, Arr.slAt (e := 3) intEnc_len ?_⟩
    unfold Arr
    first
    | exact alloc_at (by simp)
    | exact (Keep.drew (Keep.refl None _)).obj (alloc_at (by simp)) id
  · rintro e w' ⟨rfl, rfl⟩
    go_wp2
    go_ret
    refine ⟨rfl, ?_⟩
    repeat (first | exact Keep.refl _ _ | refine Keep.drew ?_ | refine Keep.alloc ?_ _)

end Go.Proofs.YtcdophocpheadaaGreatDoor
