/- A part of the proof: TwP0. -/
import Derived.Test.YtjgabhagebomiaaGreatDoorW
import Derived.Test.YtjgabhagebomiaaGreatDoorM
import Derived.Test.YtjgabhagebomiaaGreatDoorF
import Derived.KernelRfl
import Derived.Test.YtjgabhagebomiaaGreatDoorProg
namespace Go.AH
open Go Go.Proofs

/-! ## TopPaced: the heap's shape, small functions -/

def natB : CallF := natBits 9 (natFrom 44 natNone)
theorem natB_of {P : Program} (h1 : ExtOk P 9 Extern.MathFloatBits.float64bits) (h2 : ExtOk P 44 Extern.MathFloatBits.float64frombits) : NatOk P natB :=
  ⟨natBits_ok (natFrom_ok (natNone_ok P) h2) h1⟩
theorem extBits : ExtOk Tryz.prog 9 Extern.MathFloatBits.float64bits := .of Tryz.func9 (by kernel_rfl) (by kernel_rfl) (by kernel_rfl) (by kernel_rfl)
theorem extFrom : ExtOk Tryz.prog 44 Extern.MathFloatBits.float64frombits := .of Tryz.func44 (by kernel_rfl) (by kernel_rfl) (by kernel_rfl) (by kernel_rfl)
theorem natB_good : NatOk Tryz.prog natB := natB_of extBits extFrom

/-- gullOf, on numbers. -/
def gullN (x : Int) (n : Int) : Int := (if x < 0 then IntKind.i64.wrap (0 - IntKind.i64.wrap (x + 1)) else x).tmod n

theorem gull_calls (hs : Sound Tryz.prog) (x : Int) (k : Nat) (H : AHeap) : CallsA Tryz.prog 5 [.int .i64 x, .int .i64 (.ofNat (k + 1))] H fun v H' => v = .int .i64 (gullN x (.ofNat (k + 1))) ∧ H' = H := by
  have h0 := natB_good
  refine CallsA.of_wp Tryz.func5 rfl ?_
  refine wp_told 13 [(0, .int .i64 x), (1, .int .i64 (.ofNat (k + 1)))] rfl rfl ⟨rfl, rfl, trivial⟩ ?_
  refine Wp.seq (wp_reg hs h0 rfl ?_)
  simp only [thenA]
  refine Wp.seq (Wp.seq (wp_reg hs h0 rfl ?_))
  simp only [thenA]
  refine Wp.cond (t := decide (x < 0)) rfl ?_
  by_cases hx : x < 0
  · rw [decide_eq_true hx]
    refine wp_reg hs h0 rfl ?_
    simp only [thenA]
    refine wp_told 13 [(0, .int .i64 (IntKind.i64.wrap (0 - IntKind.i64.wrap (x + 1)))), (1, .int .i64 (.ofNat (k + 1)))] rfl rfl ⟨rfl, rfl, trivial⟩ ?_
    refine Wp.seq (wp_reg hs h0 rfl ?_)
    simp only [thenA]
    refine Wp.ret ⟨.inr rfl, _, rfl, ?_, rfl⟩
    unfold gullN
    rw [if_pos hx]
    rfl
  · rw [decide_eq_false hx]
    refine Wp.skip ?_
    simp only [thenA]
    refine wp_told 13 [(0, .int .i64 x), (1, .int .i64 (.ofNat (k + 1)))] rfl rfl ⟨rfl, rfl, trivial⟩ ?_
    refine Wp.seq (wp_reg hs h0 rfl ?_)
    simp only [thenA]
    refine Wp.ret ⟨.inr rfl, _, rfl, ?_, rfl⟩
    unfold gullN
    rw [if_neg hx]
    rfl
end Go.AH

