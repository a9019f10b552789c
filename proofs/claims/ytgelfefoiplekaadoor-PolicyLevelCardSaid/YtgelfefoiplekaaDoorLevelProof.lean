/-
  The law warmpathlaw44.PolicyLevel returns true for every input, and leaves all memory that was there as it was; the tables of Go's library that it reads hold what the program's text lays (the card ties them).
  No condition beyond the row's own.
-/
import Derived.Test.YtgelfefoiplekaaDoorPolLev
import Derived.Test.YtgelfefoiplekaaDoorCards
import Derived.Test.YtgelfefoiplekaaDoorTie
import Derived.WalkKit
import Derived.ProofKit
import Derived.OpenShut
import Derived.ShutString
import Derived.ChangeOld
import Derived.Below
namespace Go.Proofs.YtgelfefoiplekaaDoor.policyLevel
open Go.ChangeShapes Go.WideShapes Go.ChangeAt Go.RowKit
set_option linter.unusedVariables false

/-- What the walk is told of a slice of integers that came in. -/
def IsRow (k : IntKind) (w : World) (a : Option Addr) (len cap : Nat) (zs : List Int) : Prop :=
  (a = none ∧ len = 0 ∧ cap = 0 ∧ zs = []) ∨
  ∃ x, a = some x ∧ len ≤ cap ∧ cap ≤ maxLen ∧ zs.length = cap ∧ (∀ i, i < zs.length → w.cell? (x.add i) = some (.int k (zs.getD i 0))) ∧ ∀ n ∈ zs, (Lit.int k n).wf = true

theorem six_of {w : World} (hs : w.ShapedOpen Tryd.prog) : 6 ≤ w.heap.size := by
  have h : (((begin Tryd.prog (fun _ _ => 0) default).world.heap[5]?).bind Obj.row?).isSome = true := by kernel_rfl
  obtain ⟨⟨z, t⟩, hz⟩ := Option.isSome_iff_exists.1 h
  obtain ⟨cs, hc, -⟩ := hs.1 5 z t (of_decide_eq_true (by kernel_rfl)) hz
  have := heap_lt hc
  omega

theorem walk (a0 : Int) (a1 : Int) (a2 : Int) (w : World) (hE : Env w) (h6 : 6 ≤ w.heap.size) (w0 : (Lit.int .u8 a0).wf = true) (w1 : (Lit.int .u8 a1).wf = true) (w2 : (Lit.int .u8 a2).wf = true) :
    Calls Tryd.prog 7 #[.int .u8 a0, .int .u8 a1, .int .u8 a2] w fun e w' => e = .returned (.bool true) ∧ Below w.heap.size w w' := by
  have hn : 0 ≤ a0 ∧ a0 ≤ 255 := by have := bounds_u8 w0; omega
  have hf : 0 ≤ a1 ∧ a1 ≤ 255 := by have := bounds_u8 w1; omega
  have hs : 0 ≤ a2 ∧ a2 ≤ 255 := by have := bounds_u8 w2; omega
  exact (lawLevel_calls a0 a1 a2 w hn hf hs hE h6).mono fun e w' h => ⟨h.1, h.2.below⟩

theorem witness_row (os : Os) {H : Type} (enc : TypeId × Value → H) :
    (OpenSpec.ofChange Rows.policyLevelSpec).preRow enc Tryd.prog Tryd.f7 Rows.policyLevelRow.domain false Rows.policyLevelRow.laid ((laidWorld os).forCall (fun _ _ => 0) ⟨#[], #[.int .u8 0, .int .u8 0, .int .u8 0], []⟩).memory #[.int .u8 0, .int .u8 0, .int .u8 0] := by
  have hw : (DataW.whole enc Tryd.prog ((laidWorld os).forCall (fun _ _ => 0) ⟨#[], #[.int .u8 0, .int .u8 0, .int .u8 0], []⟩).memory Tryd.f7.params.toList (OpenSpec.ofChange Rows.policyLevelSpec).vars false (#[.int .u8 0, .int .u8 0, .int .u8 0] : Array Value).toList 8).map (fun x => (x.1, x.2.1)) =
      some ([.lit (.int .u8 0), .lit (.int .u8 0), .lit (.int .u8 0)], []) := by kernel_rfl
  obtain ⟨⟨x1, x2, x3⟩, hx, hx1⟩ := Option.map_eq_some_iff.1 hw
  simp only [Prod.mk.injEq] at hx1
  obtain ⟨rfl, rfl⟩ := hx1
  exact OpenSpec.preRow_of_cond 8 hx (by kernel_rfl) (fun k hk => by cases hk) (by kernel_rfl) (laid_met os _)

set_option maxRecDepth 100000 in
set_option maxHeartbeats 2000000 in
theorem lifted (os : Os) (started : os.Started) (H : Type) (enc : TypeId × Value → H) (F : Stop.Interp) :
    ReturnsInHanded {} Tryd.checked os 7 .any ((OpenSpec.ofChange Rows.policyLevelSpec).preRow enc Tryd.prog Tryd.f7 Rows.policyLevelRow.domain false Rows.policyLevelRow.laid) (((OpenSpec.ofChange Rows.policyLevelSpec).at F).post enc Tryd.prog Tryd.f7 false true false false) := by
  refine returnsInHanded_of_row (C := Tryd.checked) (s := OpenSpec.ofChange Rows.policyLevelSpec) ownK started (by kernel_rfl) Tryd.func7
    (witness_row_atRef (enc := enc) (C := Tryd.checked) false (laidWorld os) #[.int .u8 0, .int .u8 0, .int .u8 0] rfl (by kernel_rfl) (by kernel_rfl) (by kernel_rfl) (witness_row os enc)) ?_
  intro W base args ds gs before hval0 hW _ _ _ hL hS _
  have hE := env_of hL hS
  have h6 := six_of hS
  clear hL hS
  have hval : ∀ (j : Nat) t v, Tryd.f7.params[j]? = some t → args[j]? = some v → Value.okWide Tryd.prog W .any base t v := hval0
  have hW' := hW
  obtain ⟨p, q, hA0, hV, rfl, _, _⟩ := hW
  have hA : DataW.TrodAll enc Tryd.prog W 0 (fun _ => true) true Tryd.f7.params.toList args.toList ds p := hA0
  rw [Tryd.params7] at hA hval
  obtain ⟨v0, vs0, d0, ds0, p0, q0, hargs, rfl, rfl, h0, r0⟩ := trodAll_cons hA
  obtain ⟨v1, vs1, d1, ds1, p1, q1, rfl, rfl, rfl, h1, r1⟩ := trodAll_cons r0
  obtain ⟨v2, vs2, d2, ds2, p2, q2, rfl, rfl, rfl, h2, r2⟩ := trodAll_cons r1
  obtain ⟨rfl, rfl, rfl⟩ := trodAll_nil r2
  obtain rfl : args = #[v0, v1, v2] := by cases args; simp_all
  obtain ⟨rfl, rfl⟩ := trodVars_none hV
  obtain ⟨a0, rfl, rfl, rfl, w0⟩ := open_int Tryd.underlying5 (hval 0 5 v0 rfl rfl) h0
  obtain ⟨a1, rfl, rfl, rfl, w1⟩ := open_int Tryd.underlying5 (hval 1 5 v1 rfl rfl) h1
  obtain ⟨a2, rfl, rfl, rfl, w2⟩ := open_int Tryd.underlying5 (hval 2 5 v2 rfl rfl) h2
  clear hA0 hval0
  refine (walk a0 a1 a2 W hE h6 w0 w1 w2).mono fun e W' ⟨he, bel⟩ => ?_
  subst he
  exact ⟨_, rfl, _, _, _, [], _, [], hW', trodAll_mk1 (shut_bool Tryd.underlying4 _), (trodAll_cons_mk (shut_int Tryd.underlying5 w0) (trodAll_cons_mk (shut_int Tryd.underlying5 w1) (trodAll_cons_mk (shut_int Tryd.underlying5 w2) trodAll_mk0))), rfl, bel.frame _, fun h => by cases h⟩

theorem plain_params (j : Nat) (t : TypeId) (ht : Tryd.f7.params[j]? = some t) : Tryd.prog.wantsStandIn t = false := by
  rw [Tryd.params7] at ht
  rcases j with _ | _ | _ | j
  · have e : 5 = t := by simpa using ht
    subst e
    exact (show Tryd.prog.wantsStandIn 5 = false by kernel_rfl)
  · have e : 5 = t := by simpa using ht
    subst e
    exact (show Tryd.prog.wantsStandIn 5 = false by kernel_rfl)
  · have e : 5 = t := by simpa using ht
    subst e
    exact (show Tryd.prog.wantsStandIn 5 = false by kernel_rfl)
  · simp at ht

theorem over : Rows.policyLevelRow.holds Tryd.pinned (OpenSpec.ofChange Rows.policyLevelSpec) :=
  OpenClaim.holds_of_cond 7 Tryd.f7 rfl rfl rfl rfl rfl rfl rfl ⟨rfl, rfl, rfl, rfl, rfl⟩ rfl rfl rfl rfl rfl (by kernel_rfl) Tryd.func7 (by kernel_rfl)
    (of_decide_eq_true (by kernel_rfl)) (by unfold Func.isWrapper; first | (rw [if_pos (by decide +kernel)]; kernel_rfl) | (rw [if_neg (by decide +kernel)]; exact ⟨rfl, rfl⟩))
    (fun os started H enc _ F0 => by rw [OpenClaim.pre_eq_preRow]; exact lifted os started H enc F0)

/-- The statement: the tied card. -/
theorem proved : Rows.PolicyLevelCardSaid :=
  Claim7.holds_tied_plain_at .later [] [.data, .data, .data, .data, .pinned] true (true, "e3676ea22d13cbdaa3000eb090b28a2dc8208e466ddb36ddbba412c47ea7c2fb") false
    over (fun _ h => by cases h) (by kernel_rfl) (fun _ h => by cases h) policyLevel_row_tie rfl ⟨rfl, rfl⟩ (by kernel_rfl) rfl
    (fun f fn hf hfn => by
      obtain rfl : f = 7 := Option.some.inj ((show Tryd.prog.funcNamed "warmpath/warmpathlaw44.PolicyLevel" = some 7 by kernel_rfl).symm.trans hf) |>.symm
      obtain rfl : fn = Tryd.f7 := (Option.some.inj (Tryd.func7.symm.trans hfn)).symm
      exact ⟨by kernel_rfl, plain_params⟩)
    (by kernel_rfl)
#print axioms proved
end Go.Proofs.YtgelfefoiplekaaDoor.policyLevel
