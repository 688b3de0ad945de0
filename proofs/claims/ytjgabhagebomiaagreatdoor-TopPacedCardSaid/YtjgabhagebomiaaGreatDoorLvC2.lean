/- A part of the proof: TwLvC2. -/
import Derived.Test.YtjgabhagebomiaaGreatDoorLvN
import Derived.Test.YtjgabhagebomiaaGreatDoorProg
import Derived.KernelRfl
namespace Go.AH
open Go
/-- tidewater/stanza.User: 869 operations. -/
theorem c3 : told (evFn Proofs.Tryz.prog nat3 (ev Proofs.Tryz.prog nat3 3000) 49 a3 S4) (vT) S5 = true := by kernel_rfl
/-- tidewater/stanza.User: 869 operations. -/
theorem c11 : told (evFn Proofs.Tryz.prog nat11 (ev Proofs.Tryz.prog nat11 3000) 49 a11 S18) (vT) S19 = true := by kernel_rfl
/-- tidewater/stanza.User: 869 operations. -/
theorem c15 : told (evFn Proofs.Tryz.prog nat15 (ev Proofs.Tryz.prog nat15 3000) 49 a15 S25) (vT) S26 = true := by kernel_rfl
/-- tidewater/signs.Escape: 918 operations. -/
theorem c19 : told (evFn Proofs.Tryz.prog nat19 (ev Proofs.Tryz.prog nat19 3000) 265 a19 S32) (vU [vS [97,110,110,47,112,97,100],vI 0]) S33 = true := by kernel_rfl
/-- (*tidewater/house.House).Bytes: 994 operations. -/
theorem c22 : told (evFn Proofs.Tryz.prog nat22 (ev Proofs.Tryz.prog nat22 3000) 17 a22 S6) (vI 0) S35 = true := by kernel_rfl
/-- tidewater/stanza.User: 869 operations. -/
theorem c24 : told (evFn Proofs.Tryz.prog nat24 (ev Proofs.Tryz.prog nat24 3000) 49 a24 S37) (vT) S38 = true := by kernel_rfl
/-- tidewater/tidewatertop.lives: 1456 operations. -/
theorem c25 : told (evFn Proofs.Tryz.prog nat25 (ev Proofs.Tryz.prog nat25 3000) 4 a25 S0) (vT) S39 = true := by kernel_rfl
end Go.AH

