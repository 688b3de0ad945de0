/- The witness of TopPaced's row, and the row lifted. -/
import Derived.Test.YtjgabhagebomiaaGreatDoorCards
import Derived.Test.YtjgabhagebomiaaGreatDoorTie
import Derived.Test.YtjgabhagebomiaaGreatDoorP7
import Derived.Deep.DeepHandedRow
import Derived.JoinedCond
namespace Go.Proofs.YtjgabhagebomiaaGreatDoor.Paced
open Go.ChangeShapes Go.WideShapes Go.ChangeAt Go.RowKit Go.AH

/-! ### The witness: a world in which the listed tables lie -/

def flatD : Nat → DataW Unit → List Value
  | 0, _ => []
  | _ + 1, .lit (.int k x) => [.int k x]
  | n + 1, .agg l => l.flatMap (flatD n)
  | _, _ => []

def lay (d : DataW Unit) : Obj → Obj
  | .cells _ t frozen => .cells (flatD 4 d).toArray t frozen
  | o => o

noncomputable def laidWorld (os : Os) : World :=
  { World.holding Tryz.prog os ⟨#[], #[], []⟩ with heap := (((((World.holding Tryz.prog os ⟨#[], #[], []⟩).heap.modify 5 (lay Rows.laid_math_bits_deBruijn32tab)).modify 6 (lay Rows.laid_math_bits_deBruijn64tab)).modify 4 (lay Rows.laid_internal_strconv_uint64pow10)).modify 3 (lay Rows.laid_unicode_utf8_acceptRanges)).modify 2 (lay Rows.laid_unicode_utf8_first) }

theorem laid_met (os : Os) : laidMet Tryz.prog Rows.topPacedRow.laid ((laidWorld os).forCall (fun _ _ => 0) ⟨#[], #[.slice none 0 0, .int .i64 0], []⟩).memory :=
  laidMet_of_run' 8 (by kernel_rfl) (by kernel_rfl)
theorem reads (os : Os) {H : Type} (enc : TypeId × Value → H) : ∃ places, DataW.whole enc Tryz.prog ((laidWorld os).forCall (fun _ _ => 0) ⟨#[], #[.slice none 0 0, .int .i64 0], []⟩).memory Tryz.f3.params.toList Rows.topPacedSpec.vars false #[Value.slice none 0 0, .int .i64 0].toList 8 = some ([.nil, .lit (.int .i64 0)], [], places) :=
  ⟨[], by kernel_rfl⟩

set_option maxRecDepth 100000 in
theorem lifted (os : Os) (started : os.Started) (H : Type) (enc : TypeId × Value → H) (F : Stop.Interp) :
    ReturnsInHanded {} Tryz.checked os 3 .any ((OpenSpec.ofChange Rows.topPacedSpec).preRow enc Tryz.prog Tryz.f3 Rows.topPacedRow.domain false Rows.topPacedRow.laid) (((OpenSpec.ofChange Rows.topPacedSpec).at F).post enc Tryz.prog Tryz.f3 false true false false) := by
  obtain ⟨places, hx⟩ := reads os enc
  refine returnsInHanded_of_row (C := Tryz.checked) (s := OpenSpec.ofChange Rows.topPacedSpec) own started (by kernel_rfl) Tryz.func3
    (witness_row_at (enc := enc) (C := Tryz.checked) false (laidWorld os) #[.slice none 0 0, .int .i64 0] rfl (by kernel_rfl) (by kernel_rfl) (by kernel_rfl)
      (OpenSpec.preRow_of_cond 8 hx (by kernel_rfl) (fun k hk => by cases hk) (by kernel_rfl) (laid_met os))) ?_
  intro W base args ds gs before hval hW _ _ _ hL _ _
  exact contract H enc W base args ds gs before hval hW hL

end Go.Proofs.YtjgabhagebomiaaGreatDoor.Paced

