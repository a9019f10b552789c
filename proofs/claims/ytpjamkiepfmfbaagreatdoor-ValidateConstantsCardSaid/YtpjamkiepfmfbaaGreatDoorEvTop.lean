/-
  The evaluator at this program: what it asks of a program, by the kernel.
-/
import Derived.Test.YtpjamkiepfmfbaaGreatDoorEvZ
import Derived.Test.YtpjamkiepfmfbaaGreatDoorProg
import Derived.KernelRfl
namespace Go.Proofs.YtpjamkiepfmfbaaGreatDoor.Ev
open Go

theorem pgood : PGood Tryz.prog := pgood_of (by kernel_rfl)
theorem pnames : PNames Tryz.prog := pnames_of (by kernel_rfl)
theorem pmixed : Tryz.prog.follows .mixedOrders = true := by kernel_rfl
theorem run_of {f : Nat} {g : FuncId} {args args' : List Value} (h : okRun Tryz.prog f g args = true) {m0 : BMap} (hm0 : ∀ X, X < symAt → m0 X = .none) (hargs : VRels m0 args args') (w : World) :
    Calls Tryz.prog g ⟨args'⟩ w fun e w' => e = .returned (.bool true) ∧ RowKit.Below w.heap.size w w' := okRun_calls pgood pnames pmixed h hm0 (hargs.mono (mG_ext hm0)) w
end Go.Proofs.YtpjamkiepfmfbaaGreatDoor.Ev
