/- A part of the proof: TwLvC1. -/
import Derived.Test.YtjgabhagebomiaaGreatDoorLvN
import Derived.Test.YtjgabhagebomiaaGreatDoorProg
import Derived.KernelRfl
namespace Go.AH
open Go
/-- tidewater/stanza.User: 869 operations. -/
theorem c1 : told (evFn Proofs.Tryz.prog nat1 (ev Proofs.Tryz.prog nat1 3000) 49 a1 S2) (vT) S3 = true := by kernel_rfl
/-- tidewater/tags.begin: 2362 operations. -/
theorem c5 : told (evFn Proofs.Tryz.prog nat5 (ev Proofs.Tryz.prog nat5 3000) 132 a5 S8) (vU [vL 126 0 1 1,vI 0]) S9 = true := by kernel_rfl
/-- tidewater/stanza.User: 869 operations. -/
theorem c10 : told (evFn Proofs.Tryz.prog nat10 (ev Proofs.Tryz.prog nat10 3000) 49 a10 S17) (vT) S18 = true := by kernel_rfl
/-- tidewater/stanza.User: 869 operations. -/
theorem c14 : told (evFn Proofs.Tryz.prog nat14 (ev Proofs.Tryz.prog nat14 3000) 49 a14 S24) (vT) S25 = true := by kernel_rfl
/-- (*tidewater/house.House).presence: 930 operations. -/
theorem c20 : told (evFn Proofs.Tryz.prog nat20 (ev Proofs.Tryz.prog nat20 3000) 274 a20 S20) (vU [vS [97,110,110,47,112,97,100],vS [60,112,114,101,115,101,110,99,101,32,102,114,111,109,61,34,97,110,110,47,112,97,100,34,47,62]]) S34 = true := by kernel_rfl
/-- tidewater/stanza.User: 869 operations. -/
theorem c23 : told (evFn Proofs.Tryz.prog nat23 (ev Proofs.Tryz.prog nat23 3000) 49 a23 S36) (vT) S37 = true := by kernel_rfl
end Go.AH

