/- A part of the proof: TwLvC3. -/
import Derived.Test.YtjgabhagebomiaaGreatDoorLvN
import Derived.Test.YtjgabhagebomiaaGreatDoorProg
import Derived.KernelRfl
namespace Go.AH
open Go
/-- tidewater/stanza.User: 869 operations. -/
theorem c0 : told (evFn Proofs.Tryz.prog nat0 (ev Proofs.Tryz.prog nat0 3000) 49 a0 S1) (vT) S2 = true := by kernel_rfl
/-- tidewater/signs.Right: 954 operations. -/
theorem c4 : told (evFn Proofs.Tryz.prog nat4 (ev Proofs.Tryz.prog nat4 3000) 129 a4 S7) (vI 0) S8 = true := by kernel_rfl
/-- tidewater/tags.tag: 1208 operations. -/
theorem c6 : told (evFn Proofs.Tryz.prog nat6 (ev Proofs.Tryz.prog nat6 3000) 78 a6 S10) (vU [vL 153 0 2 2,vI 0]) S11 = true := by kernel_rfl
/-- tidewater/stanza.User: 869 operations. -/
theorem c9 : told (evFn Proofs.Tryz.prog nat9 (ev Proofs.Tryz.prog nat9 3000) 49 a9 S16) (vT) S17 = true := by kernel_rfl
/-- tidewater/stanza.User: 869 operations. -/
theorem c13 : told (evFn Proofs.Tryz.prog nat13 (ev Proofs.Tryz.prog nat13 3000) 49 a13 S22) (vT) S23 = true := by kernel_rfl
/-- tidewater/stanza.User: 869 operations. -/
theorem c17 : told (evFn Proofs.Tryz.prog nat17 (ev Proofs.Tryz.prog nat17 3000) 49 a17 S28) (vT) S29 = true := by kernel_rfl
/-- (*tidewater/house.House).item: 1091 operations. -/
theorem c21 : told (evFn Proofs.Tryz.prog nat21 (ev Proofs.Tryz.prog nat21 3000) 57 a21 S15) (vU []) S35 = true := by kernel_rfl
end Go.AH

