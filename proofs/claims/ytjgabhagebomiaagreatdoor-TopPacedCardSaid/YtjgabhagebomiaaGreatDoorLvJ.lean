/- A part of the proof: TwLvJ. -/
import Derived.Test.YtjgabhagebomiaaGreatDoorLvC0
import Derived.Test.YtjgabhagebomiaaGreatDoorLvC1
import Derived.Test.YtjgabhagebomiaaGreatDoorLvC2
import Derived.Test.YtjgabhagebomiaaGreatDoorLvC3
namespace Go.AH
open Go
theorem n0 (hs : Sound Proofs.Tryz.prog) (hn : NatOk Proofs.Tryz.prog natA) : NatOk Proofs.Tryz.prog nat0 :=
  hn
theorem k0 (hs : Sound Proofs.Tryz.prog) (hn : NatOk Proofs.Tryz.prog natA) : Answers Proofs.Tryz.prog 49 a0 S1 (vT) S2 :=
  .of_told hs (n0 hs hn) c0
theorem n1 (hs : Sound Proofs.Tryz.prog) (hn : NatOk Proofs.Tryz.prog natA) : NatOk Proofs.Tryz.prog nat1 :=
  hn
theorem k1 (hs : Sound Proofs.Tryz.prog) (hn : NatOk Proofs.Tryz.prog natA) : Answers Proofs.Tryz.prog 49 a1 S2 (vT) S3 :=
  .of_told hs (n1 hs hn) c1
theorem n2 (hs : Sound Proofs.Tryz.prog) (hn : NatOk Proofs.Tryz.prog natA) : NatOk Proofs.Tryz.prog nat2 :=
  hn
theorem k2 (hs : Sound Proofs.Tryz.prog) (hn : NatOk Proofs.Tryz.prog natA) : Answers Proofs.Tryz.prog 48 a2 S3 (vF) S4 :=
  .of_told hs (n2 hs hn) c2
theorem n3 (hs : Sound Proofs.Tryz.prog) (hn : NatOk Proofs.Tryz.prog natA) : NatOk Proofs.Tryz.prog nat3 :=
  hn
theorem k3 (hs : Sound Proofs.Tryz.prog) (hn : NatOk Proofs.Tryz.prog natA) : Answers Proofs.Tryz.prog 49 a3 S4 (vT) S5 :=
  .of_told hs (n3 hs hn) c3
theorem n4 (hs : Sound Proofs.Tryz.prog) (hn : NatOk Proofs.Tryz.prog natA) : NatOk Proofs.Tryz.prog nat4 :=
  hn
theorem k4 (hs : Sound Proofs.Tryz.prog) (hn : NatOk Proofs.Tryz.prog natA) : Answers Proofs.Tryz.prog 129 a4 S7 (vI 0) S8 :=
  .of_told hs (n4 hs hn) c4
theorem n5 (hs : Sound Proofs.Tryz.prog) (hn : NatOk Proofs.Tryz.prog natA) : NatOk Proofs.Tryz.prog nat5 :=
  hn
theorem k5 (hs : Sound Proofs.Tryz.prog) (hn : NatOk Proofs.Tryz.prog natA) : Answers Proofs.Tryz.prog 132 a5 S8 (vU [vL 126 0 1 1,vI 0]) S9 :=
  .of_told hs (n5 hs hn) c5
theorem n6 (hs : Sound Proofs.Tryz.prog) (hn : NatOk Proofs.Tryz.prog natA) : NatOk Proofs.Tryz.prog nat6 :=
  hn
theorem k6 (hs : Sound Proofs.Tryz.prog) (hn : NatOk Proofs.Tryz.prog natA) : Answers Proofs.Tryz.prog 78 a6 S10 (vU [vL 153 0 2 2,vI 0]) S11 :=
  .of_told hs (n6 hs hn) c6
theorem n7 (hs : Sound Proofs.Tryz.prog) (hn : NatOk Proofs.Tryz.prog natA) : NatOk Proofs.Tryz.prog nat7 :=
  (((hn).orc (k6 hs hn)).orc (k5 hs hn)).orc (k4 hs hn)
theorem k7 (hs : Sound Proofs.Tryz.prog) (hn : NatOk Proofs.Tryz.prog natA) : Answers Proofs.Tryz.prog 32 a7 S6 (vU [vL 154 0 3 9223372036854775808,vI 0]) S12 :=
  .of_told hs (n7 hs hn) c7
theorem n8 (hs : Sound Proofs.Tryz.prog) (hn : NatOk Proofs.Tryz.prog natA) : NatOk Proofs.Tryz.prog nat8 :=
  hn
theorem k8 (hs : Sound Proofs.Tryz.prog) (hn : NatOk Proofs.Tryz.prog natA) : Answers Proofs.Tryz.prog 49 a8 S13 (vT) S14 :=
  .of_told hs (n8 hs hn) c8
theorem n9 (hs : Sound Proofs.Tryz.prog) (hn : NatOk Proofs.Tryz.prog natA) : NatOk Proofs.Tryz.prog nat9 :=
  hn
theorem k9 (hs : Sound Proofs.Tryz.prog) (hn : NatOk Proofs.Tryz.prog natA) : Answers Proofs.Tryz.prog 49 a9 S16 (vT) S17 :=
  .of_told hs (n9 hs hn) c9
theorem n10 (hs : Sound Proofs.Tryz.prog) (hn : NatOk Proofs.Tryz.prog natA) : NatOk Proofs.Tryz.prog nat10 :=
  hn
theorem k10 (hs : Sound Proofs.Tryz.prog) (hn : NatOk Proofs.Tryz.prog natA) : Answers Proofs.Tryz.prog 49 a10 S17 (vT) S18 :=
  .of_told hs (n10 hs hn) c10
theorem n11 (hs : Sound Proofs.Tryz.prog) (hn : NatOk Proofs.Tryz.prog natA) : NatOk Proofs.Tryz.prog nat11 :=
  hn
theorem k11 (hs : Sound Proofs.Tryz.prog) (hn : NatOk Proofs.Tryz.prog natA) : Answers Proofs.Tryz.prog 49 a11 S18 (vT) S19 :=
  .of_told hs (n11 hs hn) c11
theorem n12 (hs : Sound Proofs.Tryz.prog) (hn : NatOk Proofs.Tryz.prog natA) : NatOk Proofs.Tryz.prog nat12 :=
  hn
theorem k12 (hs : Sound Proofs.Tryz.prog) (hn : NatOk Proofs.Tryz.prog natA) : Answers Proofs.Tryz.prog 49 a12 S21 (vT) S22 :=
  .of_told hs (n12 hs hn) c12
theorem n13 (hs : Sound Proofs.Tryz.prog) (hn : NatOk Proofs.Tryz.prog natA) : NatOk Proofs.Tryz.prog nat13 :=
  hn
theorem k13 (hs : Sound Proofs.Tryz.prog) (hn : NatOk Proofs.Tryz.prog natA) : Answers Proofs.Tryz.prog 49 a13 S22 (vT) S23 :=
  .of_told hs (n13 hs hn) c13
theorem n14 (hs : Sound Proofs.Tryz.prog) (hn : NatOk Proofs.Tryz.prog natA) : NatOk Proofs.Tryz.prog nat14 :=
  hn
theorem k14 (hs : Sound Proofs.Tryz.prog) (hn : NatOk Proofs.Tryz.prog natA) : Answers Proofs.Tryz.prog 49 a14 S24 (vT) S25 :=
  .of_told hs (n14 hs hn) c14
theorem n15 (hs : Sound Proofs.Tryz.prog) (hn : NatOk Proofs.Tryz.prog natA) : NatOk Proofs.Tryz.prog nat15 :=
  hn
theorem k15 (hs : Sound Proofs.Tryz.prog) (hn : NatOk Proofs.Tryz.prog natA) : Answers Proofs.Tryz.prog 49 a15 S25 (vT) S26 :=
  .of_told hs (n15 hs hn) c15
theorem n16 (hs : Sound Proofs.Tryz.prog) (hn : NatOk Proofs.Tryz.prog natA) : NatOk Proofs.Tryz.prog nat16 :=
  hn
theorem k16 (hs : Sound Proofs.Tryz.prog) (hn : NatOk Proofs.Tryz.prog natA) : Answers Proofs.Tryz.prog 49 a16 S27 (vT) S28 :=
  .of_told hs (n16 hs hn) c16
theorem n17 (hs : Sound Proofs.Tryz.prog) (hn : NatOk Proofs.Tryz.prog natA) : NatOk Proofs.Tryz.prog nat17 :=
  hn
theorem k17 (hs : Sound Proofs.Tryz.prog) (hn : NatOk Proofs.Tryz.prog natA) : Answers Proofs.Tryz.prog 49 a17 S28 (vT) S29 :=
  .of_told hs (n17 hs hn) c17
theorem n18 (hs : Sound Proofs.Tryz.prog) (hn : NatOk Proofs.Tryz.prog natA) : NatOk Proofs.Tryz.prog nat18 :=
  hn
theorem k18 (hs : Sound Proofs.Tryz.prog) (hn : NatOk Proofs.Tryz.prog natA) : Answers Proofs.Tryz.prog 321 a18 S30 (vT) S31 :=
  .of_told hs (n18 hs hn) c18
theorem n19 (hs : Sound Proofs.Tryz.prog) (hn : NatOk Proofs.Tryz.prog natA) : NatOk Proofs.Tryz.prog nat19 :=
  hn
theorem k19 (hs : Sound Proofs.Tryz.prog) (hn : NatOk Proofs.Tryz.prog natA) : Answers Proofs.Tryz.prog 265 a19 S32 (vU [vS [97,110,110,47,112,97,100],vI 0]) S33 :=
  .of_told hs (n19 hs hn) c19
theorem n20 (hs : Sound Proofs.Tryz.prog) (hn : NatOk Proofs.Tryz.prog natA) : NatOk Proofs.Tryz.prog nat20 :=
  ((((((((hn).orc (k19 hs hn)).orc (k18 hs hn)).orc (k17 hs hn)).orc (k16 hs hn)).orc (k15 hs hn)).orc (k14 hs hn)).orc (k13 hs hn)).orc (k12 hs hn)
theorem k20 (hs : Sound Proofs.Tryz.prog) (hn : NatOk Proofs.Tryz.prog natA) : Answers Proofs.Tryz.prog 274 a20 S20 (vU [vS [97,110,110,47,112,97,100],vS [60,112,114,101,115,101,110,99,101,32,102,114,111,109,61,34,97,110,110,47,112,97,100,34,47,62]]) S34 :=
  .of_told hs (n20 hs hn) c20
theorem n21 (hs : Sound Proofs.Tryz.prog) (hn : NatOk Proofs.Tryz.prog natA) : NatOk Proofs.Tryz.prog nat21 :=
  ((((hn).orc (k20 hs hn)).orc (k11 hs hn)).orc (k10 hs hn)).orc (k9 hs hn)
theorem k21 (hs : Sound Proofs.Tryz.prog) (hn : NatOk Proofs.Tryz.prog natA) : Answers Proofs.Tryz.prog 57 a21 S15 (vU []) S35 :=
  .of_told hs (n21 hs hn) c21
theorem n22 (hs : Sound Proofs.Tryz.prog) (hn : NatOk Proofs.Tryz.prog natA) : NatOk Proofs.Tryz.prog nat22 :=
  (((hn).orc (k21 hs hn)).orc (k8 hs hn)).orc (k7 hs hn)
theorem k22 (hs : Sound Proofs.Tryz.prog) (hn : NatOk Proofs.Tryz.prog natA) : Answers Proofs.Tryz.prog 17 a22 S6 (vI 0) S35 :=
  .of_told hs (n22 hs hn) c22
theorem n23 (hs : Sound Proofs.Tryz.prog) (hn : NatOk Proofs.Tryz.prog natA) : NatOk Proofs.Tryz.prog nat23 :=
  hn
theorem k23 (hs : Sound Proofs.Tryz.prog) (hn : NatOk Proofs.Tryz.prog natA) : Answers Proofs.Tryz.prog 49 a23 S36 (vT) S37 :=
  .of_told hs (n23 hs hn) c23
theorem n24 (hs : Sound Proofs.Tryz.prog) (hn : NatOk Proofs.Tryz.prog natA) : NatOk Proofs.Tryz.prog nat24 :=
  hn
theorem k24 (hs : Sound Proofs.Tryz.prog) (hn : NatOk Proofs.Tryz.prog natA) : Answers Proofs.Tryz.prog 49 a24 S37 (vT) S38 :=
  .of_told hs (n24 hs hn) c24
theorem n25 (hs : Sound Proofs.Tryz.prog) (hn : NatOk Proofs.Tryz.prog natA) : NatOk Proofs.Tryz.prog nat25 :=
  (((((((hn).orc (k24 hs hn)).orc (k23 hs hn)).orc (k22 hs hn)).orc (k3 hs hn)).orc (k2 hs hn)).orc (k1 hs hn)).orc (k0 hs hn)
theorem k25 (hs : Sound Proofs.Tryz.prog) (hn : NatOk Proofs.Tryz.prog natA) : Answers Proofs.Tryz.prog 4 a25 S0 (vT) S39 :=
  .of_told hs (n25 hs hn) c25
end Go.AH

