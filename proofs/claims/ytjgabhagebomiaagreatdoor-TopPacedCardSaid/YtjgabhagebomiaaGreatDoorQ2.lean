/- One closed fact of the card: no body of the whole translation starts a goroutine. -/
import Derived.Test.YtjgabhagebomiaaGreatDoorCards
import Derived.Test.YtjgabhagebomiaaGreatDoorTie
import Derived.KernelRfl
namespace Go.Proofs.YtjgabhagebomiaaGreatDoor.Paced
open Go

theorem goes_none {P : Program} (h : P.funcs.any Func.goes = false) (f : FuncId) : P.goes f = false := by
  have key : ∀ g : FuncId, (P.funcs[g]?).any Func.goes = false := by
    intro g
    cases hg : P.funcs[g]? with
    | none => rfl
    | some fn =>
      rw [Array.any_eq_false] at h
      obtain ⟨hlt, rfl⟩ := Array.getElem?_eq_some_iff.1 hg
      have := h g hlt
      simpa using this
  unfold Program.goes
  rw [h, Bool.and_false, Bool.or_false]
  simp only [key]
  simp

theorem goesBy_none {P : Program} {c : OpenClaim} (hs : c.start = .entering) (h : P.funcs.any Func.goes = false) : false = c.goesBy P := by
  unfold OpenClaim.goesBy Program.goesAt Program.goesFrom
  rw [hs]
  cases P.funcNamed c.func with
  | none => rfl
  | some f => simp [goes_none h f]

theorem noneGoes : Tryz.prog.funcs.any Func.goes = false := by kernel_rfl

theorem goes : false = Rows.topPacedRow.goesBy Tryz.pinned.checked.prog := goesBy_none rfl noneGoes
end Go.Proofs.YtjgabhagebomiaaGreatDoor.Paced

