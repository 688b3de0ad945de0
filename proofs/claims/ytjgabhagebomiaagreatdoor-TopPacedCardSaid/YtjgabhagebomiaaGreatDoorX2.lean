/- A part of the proof: TwX2. -/
import Derived.Test.YtjgabhagebomiaaGreatDoorX0
import Derived.Test.YtjgabhagebomiaaGreatDoorX1
import Derived.Test.YtjgabhagebomiaaGreatDoorLvJ
import Derived.Test.YtjgabhagebomiaaGreatDoorD
namespace Go.AH
open Go Go.Proofs

theorem sound_prog : Sound Tryz.prog := ⟨follows_mixed, noGor_prog⟩
theorem bodied382 : bodied Tryz.prog 98 = true := by kernel_rfl
theorem nat_prog : NatOk Tryz.prog natA := natA_good ext563 ext487 ext668 ext703 ext719 ext724 ext718 ext720 ext721 ext723 bodied382 Tryz.underlying3 Tryz.sortedSaid

/-- `lives()` at the empty abstract heap: true. -/
theorem lives_answers : Answers Tryz.prog 4 [] S0 (.bool true) S39 := k25 sound_prog nat_prog

/-- `lives()` anywhere. -/
theorem lives_anywhere {H : AHeap} (hg : H.ng = 7) : Answers Tryz.prog 4 [] H (.bool true) H := lives_answers.anywhere rfl rfl hg

end Go.AH

