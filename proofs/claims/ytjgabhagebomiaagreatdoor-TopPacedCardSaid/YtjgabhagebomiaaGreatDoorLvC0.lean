/- A part of the proof: TwLvC0. -/
import Derived.Test.YtjgabhagebomiaaGreatDoorLvN
import Derived.Test.YtjgabhagebomiaaGreatDoorProg
import Derived.KernelRfl
namespace Go.AH
open Go
/-- tidewater/roster.New$1: 805 operations. -/
theorem c2 : told (evFn Proofs.Tryz.prog nat2 (ev Proofs.Tryz.prog nat2 3000) 48 a2 S3) (vF) S4 = true := by kernel_rfl
/-- (*tidewater/tags.Reader).Feed: 3154 operations. -/
theorem c7 : told (evFn Proofs.Tryz.prog nat7 (ev Proofs.Tryz.prog nat7 3000) 32 a7 S6) (vU [vL 154 0 3 9223372036854775808,vI 0]) S12 = true := by kernel_rfl
/-- tidewater/stanza.User: 869 operations. -/
theorem c8 : told (evFn Proofs.Tryz.prog nat8 (ev Proofs.Tryz.prog nat8 3000) 49 a8 S13) (vT) S14 = true := by kernel_rfl
/-- tidewater/stanza.User: 869 operations. -/
theorem c12 : told (evFn Proofs.Tryz.prog nat12 (ev Proofs.Tryz.prog nat12 3000) 49 a12 S21) (vT) S22 = true := by kernel_rfl
/-- tidewater/stanza.User: 869 operations. -/
theorem c16 : told (evFn Proofs.Tryz.prog nat16 (ev Proofs.Tryz.prog nat16 3000) 49 a16 S27) (vT) S28 = true := by kernel_rfl
/-- tidewater/trees.fine: 889 operations. -/
theorem c18 : told (evFn Proofs.Tryz.prog nat18 (ev Proofs.Tryz.prog nat18 3000) 321 a18 S30) (vT) S31 = true := by kernel_rfl
end Go.AH

