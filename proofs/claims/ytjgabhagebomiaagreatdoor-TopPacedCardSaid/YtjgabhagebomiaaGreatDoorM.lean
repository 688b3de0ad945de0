/- A part of the proof: TwN3. -/
import Derived.Test.YtjgabhagebomiaaGreatDoorD
import GoSem.Extern.MathFloatBits
namespace Go.AH
open Go

/-- math.Float64bits -/
def natBits (g0 : FuncId) (nat : CallF) : CallF := fun g args H =>
  match Nat.beq g g0 with
  | true => match args with
    | [.float .f64 b] => some (.int .u64 b, H)
    | _ => none
  | false => nat g args H

theorem natBits_ok {P : Program} {g0 : FuncId} {nat : CallF} (hn : CallOk P nat) (he : ExtOk P g0 Extern.MathFloatBits.float64bits) : CallOk P (natBits g0 nat) := by
  intro g args H v H' h
  unfold natBits at h
  split at h
  · rename_i hg
    have := Nat.eq_of_beq_eq_true hg
    subst this
    split at h
    · cases h
      obtain ⟨fn, hf, h1, h2, h3, h4⟩ := he
      refine .of_ok fun φ w args' hr ha => ?_
      obtain ⟨x', rfl, hx⟩ := args1 ha
      cases hx
      refine ⟨_, w, ?_, .int _ _, hr, Post.refl φ H w⟩
      rw [run_callFunc_extern hf h1 h2 h3 h4]
      rfl
    · cases h
  · exact hn _ _ _ _ _ h

/-- math.Float64frombits -/
def natFrom (g0 : FuncId) (nat : CallF) : CallF := fun g args H =>
  match Nat.beq g g0 with
  | true => match args with
    | [.int .u64 n] => some (.float .f64 n.toNat, H)
    | _ => none
  | false => nat g args H

theorem natFrom_ok {P : Program} {g0 : FuncId} {nat : CallF} (hn : CallOk P nat) (he : ExtOk P g0 Extern.MathFloatBits.float64frombits) : CallOk P (natFrom g0 nat) := by
  intro g args H v H' h
  unfold natFrom at h
  split at h
  · rename_i hg
    have := Nat.eq_of_beq_eq_true hg
    subst this
    split at h
    · cases h
      obtain ⟨fn, hf, h1, h2, h3, h4⟩ := he
      refine .of_ok fun φ w args' hr ha => ?_
      obtain ⟨x', rfl, hx⟩ := args1 ha
      cases hx
      refine ⟨_, w, ?_, .float _ _, hr, Post.refl φ H w⟩
      rw [run_callFunc_extern hf h1 h2 h3 h4]
      rfl
    · cases h
  · exact hn _ _ _ _ _ h
end Go.AH

