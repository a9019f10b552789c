/-
  Chapter 35: split.Split at the program of the law, for each number of registers: what goes in, what comes out. Written by gen-split.py.
-/
import Derived.Test.YtgkbjdphkmmmhaaDoorEvGMemo
import Derived.Test.YtgkbjdphkmmmhaaDoorVOv
namespace Go.Proofs.YtgkbjdphkmmmhaaDoor.Ev
open Go

def spRes (rv : Value) (X : Nat) : Gls := [(529, [.int .i64 (.ofNat 0)], 3),
  (539, [.int .i64 (.ofNat 1), .int .i64 (.ofNat 0), .int .i64 (.ofNat 1), .int .i64 (.ofNat 0), .int .i64 (.ofNat 0), .int .i64 (.ofNat 1), .slice .none 0 0, .int .i64 (.ofNat 4), .int .i64 (.ofNat 4), .int .i64 (.ofNat 0), .int .i64 (.ofNat 0), .int .i64 (.ofNat 1), .int .i64 (.ofNat 0), .slice .none 0 0, .int .i64 (.ofNat 11), .int .i64 (.ofNat 0), .int .i64 (.ofNat 1), .int .i64 (.ofNat 0), .int .i64 (.ofNat 0), .int .i64 (.ofNat 1), .slice (some ⟨529, 0, .none⟩) 1 18446744073709551617, .int .i64 (.ofNat 10), .int .i64 (.ofNat 0), .int .i64 (.ofNat 0), .int .i64 (.ofNat 1), .int .i64 (.ofNat 0), .int .i64 (.ofNat 0), .slice .none 0 0], 32),
  (541, [.slice (some ⟨539, 0, .none⟩) 4 18446744073709551620, .int .i64 (.ofNat 3), .int .i64 (.ofNat 1), .int .i64 (.ofNat 0), .int .i64 (.ofNat 0), .int .i64 (.ofNat 0), .int .i64 (.ofNat 0), .int .i64 (.ofNat 0)], 29),
  (546, [.int .i64 (.ofNat 0)], 3),
  (548, [.int .i64 (.ofNat 11), .int .i64 (.ofNat 0), .int .i64 (.ofNat 0), .int .i64 (.ofNat 0), .int .i64 (.ofNat 0), .int .i64 (.ofNat 2), .slice (some ⟨546, 0, .none⟩) 1 18446744073709551617], 32),
  (584, [.int .i64 (.ofNat 1), .int .i64 (.ofNat 0), .int .i64 (.ofNat 0), .int .i64 (.ofNat 0), .int .i64 (.ofNat 0), .int .i64 (.ofNat 7), .slice .none 0 0], 32),
  (586, [.slice (some ⟨584, 0, .none⟩) 1 18446744073709551617, .int .i64 (.ofNat 3), .int .i64 (.ofNat 0), .int .i64 (.ofNat 0), .int .i64 (.ofNat 0), .int .i64 (.ofNat 0), .int .i64 (.ofNat 0), .int .i64 (.ofNat 0)], 29),
  (591, [.int .i64 (.ofNat 11), .int .i64 (.ofNat 0), .int .i64 (.ofNat 0), .int .i64 (.ofNat 0), .int .i64 (.ofNat 0), .int .i64 (.ofNat 3), .slice .none 0 0], 32),
  (593, [.string ⟨⟨[109, 97, 105, 110]⟩⟩, .int .i64 (.ofNat 0), .int .i64 (.ofNat 2), .slice (some ⟨133, 0, .none⟩) 1 1, .string ⟨⟨[102]⟩⟩, .int .i64 (.ofNat 1), rv, .slice (some ⟨X, 0, .none⟩) 3 18446744073709551619, .string ⟨⟨[102, 46, 49]⟩⟩, .int .i64 (.ofNat 1), .int .i64 (.ofNat 2), .slice (some ⟨541, 0, .none⟩) 1 18446744073709551617, .string ⟨⟨[102, 46, 50]⟩⟩, .int .i64 (.ofNat 0), .int .i64 (.ofNat 1), .slice (some ⟨586, 0, .none⟩) 1 18446744073709551617], 35),
  (X, [.slice .none 0 0, .int .i64 (.ofNat 2), .int .i64 (.ofNat 0), .int .i64 (.ofNat 1), .int .i64 (.ofNat 2), .int .i64 (.ofNat 0), .int .i64 (.ofNat 0), .int .i64 (.ofNat 0), .slice (some ⟨548, 0, .none⟩) 1 1, .int .i64 (.ofNat 3), .int .i64 (.ofNat 0), .int .i64 (.ofNat 0), .int .i64 (.ofNat 0), .int .i64 (.ofNat 0), .int .i64 (.ofNat 0), .int .i64 (.ofNat 0), .slice (some ⟨591, 0, .none⟩) 1 1, .int .i64 (.ofNat 3), .int .i64 (.ofNat 0), .int .i64 (.ofNat 0), .int .i64 (.ofNat 0), .int .i64 (.ofNat 0), .int .i64 (.ofNat 0), .int .i64 (.ofNat 0)], 29)]
def spM : GMemo := ⟨5, [.agg ⟨[.slice .none 0 0, .slice (some ⟨135, 0, .none⟩) 2 2, .int .i64 (.ofNat 0), .int .i64 (.ofNat 0)]⟩, .int .i64 (.ofNat 1), .slice (some ⟨195, 0, .none⟩) 2 18446744073709551618],
  [(126, [.int .i64 (.ofNat 0)], 3),
  (127, [.int .i64 (.ofNat 1), .int .i64 (.ofNat 0), .int .i64 (.ofNat 1), .int .i64 (.ofNat 0), .int .i64 (.ofNat 0), .int .i64 (.ofNat 1), .slice .none 0 0, .int .i64 (.ofNat 4), .int .i64 (.ofNat 4), .int .i64 (.ofNat 0), .int .i64 (.ofNat 0), .int .i64 (.ofNat 1), .int .i64 (.ofNat 0), .slice .none 0 0, .int .i64 (.ofNat 11), .int .i64 (.ofNat 0), .int .i64 (.ofNat 1), .int .i64 (.ofNat 0), .int .i64 (.ofNat 0), .int .i64 (.ofNat 1), .slice (some ⟨126, 0, .none⟩) 1 1, .int .i64 (.ofNat 10), .int .i64 (.ofNat 0), .int .i64 (.ofNat 0), .int .i64 (.ofNat 1), .int .i64 (.ofNat 0), .int .i64 (.ofNat 0), .slice .none 0 0], 32),
  (128, [.int .i64 (.ofNat 1), .int .i64 (.ofNat 0), .int .i64 (.ofNat 0), .int .i64 (.ofNat 0), .int .i64 (.ofNat 0), .int .i64 (.ofNat 7), .slice .none 0 0], 32),
  (129, [.slice .none 0 0, .int .i64 (.ofNat 2), .int .i64 (.ofNat 0), .int .i64 (.ofNat 1), .int .i64 (.ofNat 2), .int .i64 (.ofNat 0), .int .i64 (.ofNat 0), .int .i64 (.ofNat 0), .slice (some ⟨127, 0, .none⟩) 4 4, .int .i64 (.ofNat 3), .int .i64 (.ofNat 1), .int .i64 (.ofNat 0), .int .i64 (.ofNat 0), .int .i64 (.ofNat 0), .int .i64 (.ofNat 0), .int .i64 (.ofNat 0), .slice (some ⟨128, 0, .none⟩) 1 1, .int .i64 (.ofNat 3), .int .i64 (.ofNat 0), .int .i64 (.ofNat 0), .int .i64 (.ofNat 0), .int .i64 (.ofNat 0), .int .i64 (.ofNat 0), .int .i64 (.ofNat 0)], 29),
  (131, [.int .i64 (.ofNat 0)], 3),
  (132, [.int .i64 (.ofNat 1), .int .i64 (.ofNat 0), .int .i64 (.ofNat 0), .int .i64 (.ofNat 0), .int .i64 (.ofNat 0), .float .f32 2555904, .slice .none 0 0, .int .i64 (.ofNat 11), .int .i64 (.ofNat 0), .int .i64 (.ofNat 1), .int .i64 (.ofNat 0), .int .i64 (.ofNat 0), .int .i64 (.ofNat 1), .slice (some ⟨131, 0, .none⟩) 1 1], 32),
  (133, [.slice (some ⟨132, 0, .none⟩) 2 2, .int .i64 (.ofNat 3), .int .i64 (.ofNat 1), .int .i64 (.ofNat 0), .int .i64 (.ofNat 0), .int .i64 (.ofNat 0), .int .i64 (.ofNat 0), .int .i64 (.ofNat 0)], 29),
  (195, [.int .i64 (.ofNat 1), .int .i64 (.ofNat 2)], 3)],
  135, [.string ⟨⟨[109, 97, 105, 110]⟩⟩, .int .i64 (.ofNat 0), .int .i64 (.ofNat 2), .slice (some ⟨133, 0, .none⟩) 1 1, .string ⟨⟨[102]⟩⟩, .int .i64 (.ofNat 1), .float .f32 1376258, .slice (some ⟨129, 0, .none⟩) 3 3], 35, 6, 1376258, 196, .tuple ⟨[.agg ⟨[.slice .none 0 0, .slice (some ⟨593, 0, .none⟩) 4 18446744073709551620, .int .i64 (.ofNat 0), .int .i64 (.ofNat 0)]⟩, .int .i64 (.ofNat 0)]⟩, spRes (.float .f32 1376258) 700, 700, 701⟩
def spI (r : Nat) : GOne := ⟨r, 613 + 2 * r, 614 + 2 * r, spRes (.int .i64 (.ofNat r)) (613 + 2 * r)⟩
theorem spM_fits : spM.fits = true := by kernel_rfl
theorem spM_has : ∀ k, k < 20 → spM.has (spI (2 + k)) = true := by
  intro k hk
  obtain rfl | rfl | rfl | rfl | rfl | rfl | rfl | rfl | rfl | rfl | rfl | rfl | rfl | rfl | rfl | rfl | rfl | rfl | rfl | rfl : k = 0 ∨ k = 1 ∨ k = 2 ∨ k = 3 ∨ k = 4 ∨ k = 5 ∨ k = 6 ∨ k = 7 ∨ k = 8 ∨ k = 9 ∨ k = 10 ∨ k = 11 ∨ k = 12 ∨ k = 13 ∨ k = 14 ∨ k = 15 ∨ k = 16 ∨ k = 17 ∨ k = 18 ∨ k = 19 := by omega
  all_goals kernel_rfl
end Go.Proofs.YtgkbjdphkmmmhaaDoor.Ev
