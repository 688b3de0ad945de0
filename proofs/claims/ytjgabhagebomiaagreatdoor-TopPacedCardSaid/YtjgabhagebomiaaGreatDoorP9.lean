/- TopPaced returns true for every input, and leaves its input as it is. Conditions: the listed package-level variables read as the program's text lays them (the card ties them). -/
import Derived.Test.YtjgabhagebomiaaGreatDoorCards
import Derived.Test.YtjgabhagebomiaaGreatDoorTie
import Derived.Test.YtjgabhagebomiaaGreatDoorP8
import Derived.Test.YtjgabhagebomiaaGreatDoorQ1
import Derived.Test.YtjgabhagebomiaaGreatDoorQ2
import Derived.Deep.DeepHandedRow
import Derived.JoinedCond
namespace Go.Proofs.YtjgabhagebomiaaGreatDoor.Paced
open Go.ChangeShapes Go.WideShapes Go.ChangeAt Go.RowKit Go.AH

theorem funcOf : Tryz.pinned.checked.prog.funcNamed Rows.topPacedRow.func = some 3 := by kernel_rfl
theorem instOf : Tryz.f3.isInstance Tryz.pinned.checked.prog Rows.topPacedRow.origin Rows.topPacedRow.targs := of_decide_eq_true (by kernel_rfl)
theorem wrapOf : Tryz.f3.isWrapper Tryz.pinned.checked.prog Rows.topPacedRow.wrapper Rows.topPacedRow.mainSum := by
  unfold Func.isWrapper; first | (rw [if_pos (by decide +kernel)]; kernel_rfl) | (rw [if_neg (by decide +kernel)]; exact ⟨rfl, rfl⟩)

theorem said : Rows.TopPacedSaid :=
  OpenClaim.holds_of_cond 3 Tryz.f3 rfl rfl rfl rfl rfl rfl rfl ⟨rfl, rfl, rfl, rfl, rfl⟩ rfl rfl rfl rfl rfl funcOf Tryz.func3 closed instOf wrapOf
    (fun os started H enc _ F => by rw [OpenClaim.pre_eq_preRow]; exact lifted os started H enc F)

theorem looksOn : true = Tryz.pinned.checked.prog.looks [] := by kernel_rfl
theorem noStand : ([22, 3].all fun u => !Tryz.prog.wantsStandIn u) = true := by kernel_rfl
theorem named : Tryz.prog.funcNamed "tidewater/tidewatertop.TopPaced" = some 3 := by kernel_rfl

/-- No parameter wants a stand-in; what the card asks of the looks. -/
theorem plain (f : FuncId) (fn : Func) (hf : Tryz.pinned.checked.prog.funcNamed "tidewater/tidewatertop.TopPaced" = some f) (hfn : Tryz.pinned.checked.prog.funcs[f]? = some fn) :
    true = Tryz.pinned.checked.prog.looks [] ∧ ∀ (j : Nat) t, fn.params[j]? = some t → Tryz.pinned.checked.prog.wantsStandIn t = false := by
  obtain rfl : f = 3 := Option.some.inj (named.symm.trans hf) |>.symm
  obtain rfl : fn = Tryz.f3 := (Option.some.inj (Tryz.func3.symm.trans hfn)).symm
  refine ⟨looksOn, fun j t ht => ?_⟩
  rw [Tryz.params3] at ht
  have hm : t ∈ [22, 3] := by simpa using Array.mem_of_getElem? ht
  exact (show Tryz.prog.wantsStandIn t = false by simpa using List.all_eq_true.1 noStand t hm)

theorem wfText : Rows.topPacedRow.wfByText (OpenSpec.ofChange Rows.topPacedSpec) = true := by kernel_rfl
theorem mainIs : Tryz.pinned.checked.prog.mainIs = some (Rows.topPacedCard.stood.harness.1, Rows.topPacedCard.stood.harness.2.toList) := by kernel_rfl

/-- The card. -/
theorem card : Rows.TopPacedCardSaid :=
  Claim7.holds_tied_plain_at .later [] _ _ _ _ said (fun _ h => by cases h) wfText (fun _ h => by cases h) topPaced_row_tie rfl ⟨rfl, rfl⟩ mainIs rfl plain goes
end Go.Proofs.YtjgabhagebomiaaGreatDoor.Paced

namespace Go.Proofs.YtjgabhagebomiaaGreatDoor
/-- The statement. -/
theorem topPaced_holds : Rows.TopPacedCardSaid := Paced.card
end Go.Proofs.YtjgabhagebomiaaGreatDoor

