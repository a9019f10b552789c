/-
  The evaluator at this program: what it asks of a program, by the kernel.
-/
import Derived.Test.YtofjmelefbkdcaaEvZ
import Derived.Test.YtofjmelefbkdcaaProg
import Derived.KernelRfl
namespace Go.Proofs.Ytofjmelefbkdcaa.Ev
open Go

theorem pgood : PGood Try.prog := pgood_of (by kernel_rfl)
theorem pnames : PNames Try.prog := pnames_of (by kernel_rfl)
theorem pmixed : Try.prog.follows .mixedOrders = true := by kernel_rfl
theorem run_of {f : Nat} {g : FuncId} {args args' : List Value} (h : okRun Try.prog f g args = true) {m0 : BMap} (hm0 : ∀ X, X < symAt → m0 X = .none) (hargs : VRels m0 args args') (w : World) :
    Calls Try.prog g ⟨args'⟩ w fun e w' => e = .returned (.bool true) ∧ RowKit.Below w.heap.size w w' := okRun_calls pgood pnames pmixed h hm0 hargs w
end Go.Proofs.Ytofjmelefbkdcaa.Ev
