/- A part of the proof: TwLvN. -/
import Derived.Test.YtjgabhagebomiaaGreatDoorLvS
import Derived.Test.YtjgabhagebomiaaGreatDoorD
namespace Go.AH
open Go
def a0 : List Value := [vS [97,110,110]]
def a1 : List Value := [vS [98,111,98]]
def a2 : List Value := [vS [99,121]]
def a3 : List Value := [vS [100,101,101]]
def a4 : List Value := [vS [115,116,114,101,97,109,32,117,115,101,114,61,39,97,110,110,39,32,100,101,118,105,99,101,61,39,112,97,100,39]]
def a5 : List Value := [vS [115,116,114,101,97,109,32,117,115,101,114,61,39,97,110,110,39,32,100,101,118,105,99,101,61,39,112,97,100,39]]
def a6 : List Value := [vS [112,114,101,115,101,110,99,101,47]]
def a7 : List Value := [vP 36 0, vS [60,115,116,114,101,97,109,32,117,115,101,114,61,39,97,110,110,39,32,100,101,118,105,99,101,61,39,112,97,100,39,62,60,112,114,101,115,101,110,99,101,47,62]]
def a8 : List Value := [vS [112,97,100]]
def a9 : List Value := [vS [112,97,100]]
def a10 : List Value := [vS [97,110,110]]
def a11 : List Value := [vS [112,97,100]]
def a12 : List Value := [vS [97,110,110]]
def a13 : List Value := [vS [112,97,100]]
def a14 : List Value := [vS [97,110,110]]
def a15 : List Value := [vS [112,97,100]]
def a16 : List Value := [vS [97,110,110]]
def a17 : List Value := [vS [112,97,100]]
def a18 : List Value := [vA [vS [112,114,101,115,101,110,99,101],vL 294 0 1 9223372036854775808,vS [],.slice none 0 0]]
def a19 : List Value := [vS [97,110,110,47,112,97,100]]
def a20 : List Value := [vP 35 0, vI 1]
def a21 : List Value := [vP 35 0, vI 0, vA [vS [112,114,101,115,101,110,99,101],.slice none 0 0,vS [],.slice none 0 0]]
def a22 : List Value := [vP 35 0, vI 0, vS [60,115,116,114,101,97,109,32,117,115,101,114,61,39,97,110,110,39,32,100,101,118,105,99,101,61,39,112,97,100,39,62,60,112,114,101,115,101,110,99,101,47,62]]
def a23 : List Value := [vS [97,110,110]]
def a24 : List Value := [vS [112,97,100]]
def a25 : List Value := []
def nat0 : CallF := natA
def nat1 : CallF := natA
def nat2 : CallF := natA
def nat3 : CallF := natA
def nat4 : CallF := natA
def nat5 : CallF := natA
def nat6 : CallF := natA
def nat7 : CallF := orc 129 a4 S7 (vI 0) S8 (orc 132 a5 S8 (vU [vL 126 0 1 1,vI 0]) S9 (orc 78 a6 S10 (vU [vL 153 0 2 2,vI 0]) S11 (natA)))
def nat8 : CallF := natA
def nat9 : CallF := natA
def nat10 : CallF := natA
def nat11 : CallF := natA
def nat12 : CallF := natA
def nat13 : CallF := natA
def nat14 : CallF := natA
def nat15 : CallF := natA
def nat16 : CallF := natA
def nat17 : CallF := natA
def nat18 : CallF := natA
def nat19 : CallF := natA
def nat20 : CallF := orc 49 a12 S21 (vT) S22 (orc 49 a13 S22 (vT) S23 (orc 49 a14 S24 (vT) S25 (orc 49 a15 S25 (vT) S26 (orc 49 a16 S27 (vT) S28 (orc 49 a17 S28 (vT) S29 (orc 321 a18 S30 (vT) S31 (orc 265 a19 S32 (vU [vS [97,110,110,47,112,97,100],vI 0]) S33 (natA))))))))
def nat21 : CallF := orc 49 a9 S16 (vT) S17 (orc 49 a10 S17 (vT) S18 (orc 49 a11 S18 (vT) S19 (orc 274 a20 S20 (vU [vS [97,110,110,47,112,97,100],vS [60,112,114,101,115,101,110,99,101,32,102,114,111,109,61,34,97,110,110,47,112,97,100,34,47,62]]) S34 (natA))))
def nat22 : CallF := orc 32 a7 S6 (vU [vL 154 0 3 9223372036854775808,vI 0]) S12 (orc 49 a8 S13 (vT) S14 (orc 57 a21 S15 (vU []) S35 (natA)))
def nat23 : CallF := natA
def nat24 : CallF := natA
def nat25 : CallF := orc 49 a0 S1 (vT) S2 (orc 49 a1 S2 (vT) S3 (orc 48 a2 S3 (vF) S4 (orc 49 a3 S4 (vT) S5 (orc 17 a22 S6 (vI 0) S35 (orc 49 a23 S36 (vT) S37 (orc 49 a24 S37 (vT) S38 (natA)))))))
end Go.AH

