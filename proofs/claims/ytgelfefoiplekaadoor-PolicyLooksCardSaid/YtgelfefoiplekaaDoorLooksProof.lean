/-
  The law warmpathlaw44.PolicyLooks returns true for every input, and leaves all memory that was there as it was; the tables of Go's library that it reads hold what the program's text lays (the card ties them).
  No condition beyond the row's own.
-/
import Derived.Test.YtgelfefoiplekaaDoorLooksMain
import Derived.Test.YtgelfefoiplekaaDoorCards
import Derived.Test.YtgelfefoiplekaaDoorTie
import Derived.WalkKit
import Derived.ProofKit
import Derived.OpenShut
import Derived.ShutString
import Derived.ChangeOld
import Derived.Below
namespace Go.Proofs.YtgelfefoiplekaaDoor.policyLooks
open Go.ChangeShapes Go.WideShapes Go.ChangeAt Go.RowKit
set_option linter.unusedVariables false

/-- What the walk is told of a slice of integers that came in. -/
def IsRow (k : IntKind) (w : World) (a : Option Addr) (len cap : Nat) (zs : List Int) : Prop :=
  (a = none ∧ len = 0 ∧ cap = 0 ∧ zs = []) ∨
  ∃ x, a = some x ∧ len ≤ cap ∧ cap ≤ maxLen ∧ zs.length = cap ∧ (∀ i, i < zs.length → w.cell? (x.add i) = some (.int k (zs.getD i 0))) ∧ ∀ n ∈ zs, (Lit.int k n).wf = true

theorem six_of {w : World} (hs : w.ShapedOpen Tryd.prog) : 6 ≤ w.heap.size := by
  have h : (((begin Tryd.prog (fun _ _ => 0) default).world.heap[5]?).bind Obj.row?).isSome = true := by kernel_rfl
  obtain ⟨⟨z, t⟩, hz⟩ := Option.isSome_iff_exists.1 h
  obtain ⟨cs, hc, -⟩ := hs.1 5 z t (of_decide_eq_true (by kernel_rfl)) hz
  have := heap_lt hc
  omega

theorem walk (a0 : Option Addr) (len0 cap0 : Nat) (z0 : List Int) (a1 : Option Addr) (c1 : Nat) (q1 : PN.Pol) (a2 : Option Addr) (cap2 : Nat) (l2 : List PN.Pr) (a3 : Int) (w : World) (hE : Env w) (h6 : 6 ≤ w.heap.size) (w0 : IsRow .u8 w a0 len0 cap0 z0) (w1 : SliceV stEnc 2 w a1 q1.st) (w2 : l2.length ≤ cap2 ∧ SliceV prEnc 2 w a2 l2) (w3 : (Lit.int .i64 a3).wf = true) :
    Calls Tryd.prog 8 #[.slice a0 len0 cap0, polVal a1 c1 q1, .slice a2 l2.length cap2, .int .i64 a3] w fun e w' => e = .returned (.bool true) ∧ Below w.heap.size w w' := by
  obtain ⟨bs, h1, h2, h3, -, h4⟩ := ints_in (enc := byteEnc) (fun _ => rfl) w0
  subst h1
  have hv : ∀ x ∈ bs, (0 : Int) ≤ x ∧ x ≤ 255 := fun x hx => by have := bounds_u8 (h4 x hx); omega
  have hsg : i64 a3 := by have := bounds_i64 w3; unfold i64; omega
  by_cases hl : 20 < q1.st.length ∨ 100 < l2.length
  · exact (looks_long a0 a1 a2 bs.length cap0 q1.st.length c1 l2.length cap2 q1.num q1.den q1.margin a3 w hE h6 hl).mono fun e w' h => ⟨h.1, h.2.below⟩
  · exact (lawLooks_calls a0 a1 a2 bs cap0 c1 cap2 q1 l2 a3 w h2 hv h3 ⟨w1, by omega⟩ w2.2 w2.1 hsg hE h6).mono fun e w' h => ⟨h.1, h.2.below⟩

theorem witness_row (os : Os) {H : Type} (enc : TypeId × Value → H) :
    (OpenSpec.ofChange Rows.policyLooksSpec).preRow enc Tryd.prog Tryd.f8 Rows.policyLooksRow.domain false Rows.policyLooksRow.laid ((laidWorld os).forCall (fun _ _ => 0) ⟨#[], #[.slice none 0 0, .agg #[.slice none 0 0, .int .i64 0, .int .i64 0, .int .i64 0], .slice none 0 0, .int .i64 0], []⟩).memory #[.slice none 0 0, .agg #[.slice none 0 0, .int .i64 0, .int .i64 0, .int .i64 0], .slice none 0 0, .int .i64 0] := by
  have hw : (DataW.whole enc Tryd.prog ((laidWorld os).forCall (fun _ _ => 0) ⟨#[], #[.slice none 0 0, .agg #[.slice none 0 0, .int .i64 0, .int .i64 0, .int .i64 0], .slice none 0 0, .int .i64 0], []⟩).memory Tryd.f8.params.toList (OpenSpec.ofChange Rows.policyLooksSpec).vars false (#[.slice none 0 0, .agg #[.slice none 0 0, .int .i64 0, .int .i64 0, .int .i64 0], .slice none 0 0, .int .i64 0] : Array Value).toList 8).map (fun x => (x.1, x.2.1)) =
      some ([.nil, .agg [.nil, .agg [.lit (.int .i64 0), .lit (.int .i64 0)], .lit (.int .i64 0)], .nil, .lit (.int .i64 0)], []) := by kernel_rfl
  obtain ⟨⟨x1, x2, x3⟩, hx, hx1⟩ := Option.map_eq_some_iff.1 hw
  simp only [Prod.mk.injEq] at hx1
  obtain ⟨rfl, rfl⟩ := hx1
  exact OpenSpec.preRow_of_cond 8 hx (by kernel_rfl) (fun k hk => by cases hk) (by kernel_rfl) (laid_met os _)

set_option maxRecDepth 100000 in
set_option maxHeartbeats 2000000 in
theorem lifted (os : Os) (started : os.Started) (H : Type) (enc : TypeId × Value → H) (F : Stop.Interp) :
    ReturnsInHanded {} Tryd.checked os 8 .any ((OpenSpec.ofChange Rows.policyLooksSpec).preRow enc Tryd.prog Tryd.f8 Rows.policyLooksRow.domain false Rows.policyLooksRow.laid) (((OpenSpec.ofChange Rows.policyLooksSpec).at F).post enc Tryd.prog Tryd.f8 false true false false) := by
  refine returnsInHanded_of_row (C := Tryd.checked) (s := OpenSpec.ofChange Rows.policyLooksSpec) ownK started (by kernel_rfl) Tryd.func8
    (witness_row_atRef (enc := enc) (C := Tryd.checked) false (laidWorld os) #[.slice none 0 0, .agg #[.slice none 0 0, .int .i64 0, .int .i64 0, .int .i64 0], .slice none 0 0, .int .i64 0] rfl (by kernel_rfl) (by kernel_rfl) (by kernel_rfl) (witness_row os enc)) ?_
  intro W base args ds gs before hval0 hW _ _ _ hL hS _
  have hE := env_of hL hS
  have h6 := six_of hS
  clear hL hS
  have hval : ∀ (j : Nat) t v, Tryd.f8.params[j]? = some t → args[j]? = some v → Value.okWide Tryd.prog W .any base t v := hval0
  have hW' := hW
  obtain ⟨p, q, hA0, hV, rfl, _, _⟩ := hW
  have hA : DataW.TrodAll enc Tryd.prog W 0 (fun _ => true) true Tryd.f8.params.toList args.toList ds p := hA0
  rw [Tryd.params8] at hA hval
  obtain ⟨v0, vs0, d0, ds0, p0, q0, hargs, rfl, rfl, h0, r0⟩ := trodAll_cons hA
  obtain ⟨v1, vs1, d1, ds1, p1, q1, rfl, rfl, rfl, h1, r1⟩ := trodAll_cons r0
  obtain ⟨v2, vs2, d2, ds2, p2, q2, rfl, rfl, rfl, h2, r2⟩ := trodAll_cons r1
  obtain ⟨v3, vs3, d3, ds3, p3, q3, rfl, rfl, rfl, h3, r3⟩ := trodAll_cons r2
  obtain ⟨rfl, rfl, rfl⟩ := trodAll_nil r3
  obtain rfl : args = #[v0, v1, v2, v3] := by cases args; simp_all
  obtain ⟨rfl, rfl⟩ := trodVars_none hV
  obtain ⟨a0, len0, cap0, rfl⟩ := okWide_slice Tryd.underlying22 (hval 0 22 v0 rfl rfl)
  have k0 := h0
  have lt0 : ∀ x ∈ p0, x.block < W.heap.size := by obtain ⟨m, hm⟩ := k0; exact DataW.trod_lt m _ _ _ hm
  obtain ⟨z0, w0⟩ : ∃ zs, IsRow .u8 W a0 len0 cap0 zs := by
    obtain ⟨fuel, hf⟩ := h0
    rcases open_ints Tryd.underlying22 Tryd.underlying5 (by kernel_rfl) hf with ⟨hcs, _⟩ | ⟨x, l, c, zs, hcs, _, hl, hm, hz, _, hcell, hwz⟩
    · simp [Value.cells] at hcs
      obtain ⟨rfl, rfl, rfl⟩ := hcs
      exact ⟨[], .inl ⟨rfl, rfl, rfl, rfl⟩⟩
    · simp [Value.cells] at hcs
      obtain ⟨rfl, rfl, rfl⟩ := hcs
      exact ⟨zs, .inr ⟨_, rfl, hl, hm, by simpa using hz, hcell, hwz⟩⟩
  have k1 := h1
  have lt1 : ∀ x ∈ p1, x.block < W.heap.size := by obtain ⟨m, hm⟩ := k1; exact DataW.trod_lt m _ _ _ hm
  obtain ⟨a1, c1, q1, rfl, w1⟩ := policy_in (hval 1 30 v1 rfl rfl) h1
  have k2 := h2
  have lt2 : ∀ x ∈ p2, x.block < W.heap.size := by obtain ⟨m, hm⟩ := k2; exact DataW.trod_lt m _ _ _ hm
  obtain ⟨a2, len2, cap2, rfl⟩ := okWide_slice Tryd.underlying47 (hval 2 47 v2 rfl rfl)
  obtain ⟨l2, rfl, w2⟩ : ∃ l : List PN.Pr, len2 = l.length ∧ l.length ≤ cap2 ∧ SliceV prEnc 2 W a2 l := by
    obtain ⟨fuel, hf⟩ := h2
    obtain ⟨x, l, c, hcs, hl, -, hsl⟩ := pairs_in hf
    simp [Value.cells] at hcs
    obtain ⟨rfl, rfl, rfl⟩ := hcs
    exact ⟨l, rfl, hl, hsl⟩
  obtain ⟨a3, rfl, rfl, rfl, w3⟩ := open_int Tryd.underlying3 (hval 3 3 v3 rfl rfl) h3
  clear hA0 hval0
  refine (walk a0 len0 cap0 z0 a1 c1 q1 a2 cap2 l2 a3 W hE h6 w0 w1 w2 w3).mono fun e W' ⟨he, bel⟩ => ?_
  subst he
  exact ⟨_, rfl, _, _, _, [], _, [], hW', trodAll_mk1 (shut_bool Tryd.underlying4 _), (trodAll_cons_mk (Below.trod laidOutK (by kernel_rfl) (of_decide_eq_true (by kernel_rfl)) k0 bel lt0) (trodAll_cons_mk (Below.trod laidOutK (by kernel_rfl) (of_decide_eq_true (by kernel_rfl)) k1 bel lt1) (trodAll_cons_mk (Below.trod laidOutK (by kernel_rfl) (of_decide_eq_true (by kernel_rfl)) k2 bel lt2) (trodAll_cons_mk (shut_int Tryd.underlying3 w3) trodAll_mk0)))), rfl, bel.frame _, fun h => by cases h⟩

theorem plain_params (j : Nat) (t : TypeId) (ht : Tryd.f8.params[j]? = some t) : Tryd.prog.wantsStandIn t = false := by
  rw [Tryd.params8] at ht
  rcases j with _ | _ | _ | _ | j
  · have e : 22 = t := by simpa using ht
    subst e
    exact (show Tryd.prog.wantsStandIn 22 = false by kernel_rfl)
  · have e : 30 = t := by simpa using ht
    subst e
    exact (show Tryd.prog.wantsStandIn 30 = false by kernel_rfl)
  · have e : 47 = t := by simpa using ht
    subst e
    exact (show Tryd.prog.wantsStandIn 47 = false by kernel_rfl)
  · have e : 3 = t := by simpa using ht
    subst e
    exact (show Tryd.prog.wantsStandIn 3 = false by kernel_rfl)
  · simp at ht

theorem over : Rows.policyLooksRow.holds Tryd.pinned (OpenSpec.ofChange Rows.policyLooksSpec) :=
  OpenClaim.holds_of_cond 8 Tryd.f8 rfl rfl rfl rfl rfl rfl rfl ⟨rfl, rfl, rfl, rfl, rfl⟩ rfl rfl rfl rfl rfl (by kernel_rfl) Tryd.func8 (by kernel_rfl)
    (of_decide_eq_true (by kernel_rfl)) (by unfold Func.isWrapper; first | (rw [if_pos (by decide +kernel)]; kernel_rfl) | (rw [if_neg (by decide +kernel)]; exact ⟨rfl, rfl⟩))
    (fun os started H enc _ F0 => by rw [OpenClaim.pre_eq_preRow]; exact lifted os started H enc F0)

/-- The statement: the tied card. -/
theorem proved : Rows.PolicyLooksCardSaid :=
  Claim7.holds_tied_plain_at .later [] [.data, .data, .data, .data, .pinned] true (true, "e3676ea22d13cbdaa3000eb090b28a2dc8208e466ddb36ddbba412c47ea7c2fb") false
    over (fun _ h => by cases h) (by kernel_rfl) (fun _ h => by cases h) policyLooks_row_tie rfl ⟨rfl, rfl⟩ (by kernel_rfl) rfl
    (fun f fn hf hfn => by
      obtain rfl : f = 8 := Option.some.inj ((show Tryd.prog.funcNamed "warmpath/warmpathlaw44.PolicyLooks" = some 8 by kernel_rfl).symm.trans hf) |>.symm
      obtain rfl : fn = Tryd.f8 := (Option.some.inj (Tryd.func8.symm.trans hfn)).symm
      exact ⟨by kernel_rfl, plain_params⟩)
    (by kernel_rfl)
#print axioms proved
end Go.Proofs.YtgelfefoiplekaaDoor.policyLooks
