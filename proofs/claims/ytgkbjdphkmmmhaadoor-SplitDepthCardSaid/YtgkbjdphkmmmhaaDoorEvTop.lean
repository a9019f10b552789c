/-
  The evaluator at this program: what it asks of a program, by the kernel.
-/
import Derived.Test.YtgkbjdphkmmmhaaDoorEvZ
import Derived.Test.YtgkbjdphkmmmhaaDoorProg
import Derived.KernelRfl
namespace Go.Proofs.YtgkbjdphkmmmhaaDoor.Ev
open Go
noncomputable section

theorem pgood : PGood Tryd.prog := pgood_of (by kernel_rfl)
theorem pnames : PNames Tryd.prog := pnames_of (by kernel_rfl)
theorem pmixed : Tryd.prog.follows .mixedOrders = true := by kernel_rfl
theorem run_of {f : Nat} {g : FuncId} {args args' : List Value} (h : okRun Tryd.prog f g args = true) {m0 : BMap} (hm0 : ∀ X, X < symAt → m0 X = .none) (hargs : VRels m0 args args') (w : World) :
    Calls Tryd.prog g ⟨args'⟩ w fun e w' => e = .returned (.bool true) ∧ RowKit.Below w.heap.size w w' := okRun_calls pgood pnames pmixed h hm0 (hargs.mono (mG_ext hm0)) w
end
end Go.Proofs.YtgkbjdphkmmmhaaDoor.Ev
