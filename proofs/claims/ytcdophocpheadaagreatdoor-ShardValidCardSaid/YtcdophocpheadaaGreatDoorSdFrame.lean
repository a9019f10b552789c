/-
  The seat's listed tables: a world in which they lie; what the run of the sanity check wants of them.
-/
import Derived.Test.YtcdophocpheadaaGreatDoorSdAwake
import Derived.Test.YtcdophocpheadaaGreatDoorChecked
import Derived.Test.YtcdophocpheadaaGreatDoorRows
import Derived.Deep.DeepHandedRow
import Derived.Deep.DeepWitnessRowRef
import Derived.Lib.LaidIn
import Derived.Lib.LaidTab
import Derived.Stop.LaidErr
import Derived.Shelf.Vars
import Derived.ProofKit
import Derived.SizedLaws
import Derived.LaidMore
namespace Go.Proofs.YtcdophocpheadaaGreatDoor
open Go.RowKit Go.ChangeShapes Go.WideShapes Go.ChangeAt

abbrev laidS : List (String × DataW Unit) := Rows.shardOrdersRow.laid
theorem ownK : ownKnob Tryz.prog.godebug = none := by kernel_rfl
theorem laidOutK : laidOutB Tryz.prog = true := by kernel_rfl

/-- The settled world with the tables as their initialisers lay them. -/
noncomputable def laidWorld (os : Os) : World :=
  let w0 := World.holding Tryz.prog os ⟨#[], #[], []⟩
  let put (h : Array Obj) (g : Nat) (cs : Array Value) : Array Obj := h.modify g fun
    | .cells _ t frozen => .cells cs t frozen
    | o => o
  let h1 := put w0.heap 0 Ev.rowVals.toArray
  let h2 := put h1 1 Ev.remVals.toArray
  { w0 with heap := h2 }

theorem laid_met (os : Os) (args : Array Value) : laidMetH Tryz.prog laidS ((laidWorld os).forCall (fun _ _ => 0) ⟨#[], args, []⟩).memory := by
  rw [MakeChecks.laidMetH_plain _ _ _ (by kernel_rfl)]
  exact laidMet_of_run' 8 (by kernel_rfl) (by kernel_rfl)

/-- What the run wants of the package's variables. -/
def Env (w : World) : Prop := Ev.GlsAt Ev.sdGls w

theorem cells_of_strs {H : Type} {enc : TypeId × Value → H} {P : Program} {w : World} {base : Nat} {sp : Nat → Bool} {held : Bool} {fuel : Nat} {t e : TypeId} {n : Nat} {cs : List Value} {zs : List (List UInt8)} {p : List MemPlace}
    (ht : P.underlying t = some (.array n e)) (he : P.underlying e = some .string) (hce : P.cellsOf e = 1) (hct : P.cellsOf t = n)
    (h : DataW.trod enc P w base sp held fuel t cs = some (.agg (zs.map fun z => .lit (.string z)), p)) : cs = zs.map fun z => Value.string ⟨⟨z⟩⟩ := by
  cases fuel with
  | zero => simp [DataW.trod] at h
  | succ fuel =>
    simp only [DataW.trod, ht, hce, hct, Nat.mul_one] at h
    split at h
    · rename_i hl
      obtain ⟨xs, hm, hx⟩ := Option.map_eq_some_iff.1 h
      have hxs : xs.map (·.1) = zs.map fun z => (DataW.lit (.string z) : DataW H) := by
        have := congrArg Prod.fst hx
        simpa using this
      have hxl : xs.length = n := by simpa using Lib.mapM_length hm
      have hzl : zs.length = n := by
        have := congrArg List.length hxs
        simp at this
        omega
      apply List.ext_getElem?
      intro i
      by_cases hi : i < n
      · obtain ⟨b, hb, hf⟩ := Lib.mapM_at hm i i (by simp [hi])
        obtain ⟨z, hc, rfl, _⟩ := DataW.trod_string he hf
        have h1 : cs[i]? = some (.string z) := by
          have := congrArg (·[0]?) hc
          simpa [List.getElem?_take, List.getElem?_drop] using this
        have h2 : (xs.map (·.1))[i]? = some (DataW.lit (.string z.data.toList) : DataW H) := by simp [hb]
        rw [hxs] at h2
        simp only [List.getElem?_map, Option.map_eq_some_iff, DataW.lit.injEq, Lit.string.injEq] at h2
        obtain ⟨z', hz', e1⟩ := h2
        simp only [h1, List.getElem?_map, hz', Option.map_some, Option.some.injEq, Value.string.injEq]
        rw [e1]
      · rw [List.getElem?_eq_none (by omega), List.getElem?_eq_none (by simp; omega)]
    · cases h
theorem strs_of_head {P : Program} {W : World} {name : String} {zs : List (List UInt8)} {rest : List (String × DataW Unit)} {g : Nat} {t e : TypeId} {n : Nat}
    (hg : P.globalNamed name = some g) (hty : (P.globals[g]?).map (·.type) = some t) (ht : P.underlying t = some (.array n e)) (he : P.underlying e = some .string) (hce : P.cellsOf e = 1) (hct : P.cellsOf t = n)
    (h : laidMet P ((name, .agg (zs.map fun z => .lit (.string z))) :: rest) W) : W.var? P name = some (zs.map fun z => Value.string ⟨⟨z⟩⟩).toArray := by
  obtain ⟨ps, ⟨g', t', cs, fuel, p, q, hg', ht', hvar, hd, _, _⟩, _⟩ := h
  obtain rfl := Option.some.inj (hg.symm.trans hg')
  obtain rfl := Option.some.inj (hty.symm.trans ht')
  rw [hvar, ← cells_of_strs ht he hce hct hd]

theorem obj_of_var {W : World} {name : String} {g : Nat} {cs zero : Array Value} {t : TypeId} (hg : Tryz.prog.globalNamed name = some g) (hv : W.var? Tryz.prog name = some cs) (hs : W.ShapedOpen Tryz.prog) (hl : g < Tryz.prog.globals.size)
    (hz : (((begin Tryz.prog (fun _ _ => 0) default).world.heap[g]?).bind Obj.row?) = some (zero, t)) : W.heap[g]? = some (.cells cs t (0, 0)) := by
  obtain ⟨cs', hc, -⟩ := hs.1 g zero t hl hz
  unfold World.var? at hv
  rw [hg] at hv
  simp only [Option.bind_some, hc] at hv
  cases hv
  exact hc

theorem env_of {w : World} (h : laidMetH Tryz.prog laidS w) (hs : w.ShapedOpen Tryz.prog) : Env w := by
  rw [MakeChecks.laidMetH_plain _ _ _ (by kernel_rfl)] at h
  have h1 : laidMet Tryz.prog [("warmpath/codec.remainders", Rows.laid_warmpath_codec_remainders), ("warmpath/machine.rows", Rows.laid_warmpath_machine_rows)] w := h
  have h2 : laidMet Tryz.prog [("warmpath/machine.rows", Rows.laid_warmpath_machine_rows)] w := h1.tail
  have e1 : (Rows.laid_warmpath_codec_remainders : DataW Unit) = Lib.tabData .u32 Ev.remNums := by kernel_rfl
  have e2 : (Rows.laid_warmpath_machine_rows : DataW Unit) = .agg (Ev.rowBytes.map fun z => .lit (.string z)) := by kernel_rfl
  rw [e1] at h1
  rw [e2] at h2
  have v1 : w.var? Tryz.prog "warmpath/codec.remainders" = some Ev.remVals.toArray := Lib.tabIs_of_head (g := 1) (t := 288) (e := 227) (n := 16) (by kernel_rfl) (by kernel_rfl) (by kernel_rfl) (by kernel_rfl) (by kernel_rfl) (by kernel_rfl) h1
  have v0 : w.var? Tryz.prog "warmpath/machine.rows" = some Ev.rowVals.toArray := strs_of_head (g := 0) (t := 212) (e := 9) (n := 19) (by kernel_rfl) (by kernel_rfl) (by kernel_rfl) (by kernel_rfl) (by kernel_rfl) (by kernel_rfl) h2
  have z : ∀ (g : Nat) (t : TypeId), (((begin Tryz.prog (fun _ _ => 0) default).world.heap[g]?).bind Obj.row?).map (·.2) = some t → ∃ zero, (((begin Tryz.prog (fun _ _ => 0) default).world.heap[g]?).bind Obj.row?) = some (zero, t) := by
    intro g t h
    obtain ⟨⟨a, b⟩, h1, rfl⟩ := Option.map_eq_some_iff.1 h
    exact ⟨a, h1⟩
  obtain ⟨z0, hz0⟩ := z 0 212 (by kernel_rfl)
  obtain ⟨z1, hz1⟩ := z 1 288 (by kernel_rfl)
  intro x hx
  simp only [Ev.sdGls, List.mem_cons, List.not_mem_nil, or_false] at hx
  rcases hx with rfl | rfl
  · exact obj_of_var (by kernel_rfl) v0 hs (of_decide_eq_true (by kernel_rfl)) hz0
  · exact obj_of_var (by kernel_rfl) v1 hs (of_decide_eq_true (by kernel_rfl)) hz1

end Go.Proofs.YtcdophocpheadaaGreatDoor
