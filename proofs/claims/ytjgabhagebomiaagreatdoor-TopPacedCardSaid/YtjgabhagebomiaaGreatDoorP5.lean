/- A part of the proof: TwP5. -/
import Derived.Test.YtjgabhagebomiaaGreatDoorP4
namespace Go.AH
open Go Go.Proofs

/-! ## The plain law of a rate -/

theorem maxI_comm (v : Int) : maxI v 0 = maxI 0 v := by unfold maxI; split <;> split <;> omega

theorem nP_val {at_ half now : Int} (ha : 0 ≤ at_ ∧ at_ ≤ 1099511627776) (hh : 1 ≤ half ∧ half ≤ 40) :
    at_ ≤ nowP at_ now ∧ nowP at_ now ≤ 1099511627776 ∧ nP at_ half now = (nowP at_ now - at_) / half := by
  have h1 : at_ ≤ nowP at_ now ∧ nowP at_ now ≤ 1099511627776 := by
    unfold nowP minI maxI
    split <;> split <;> omega
  refine ⟨h1.1, h1.2, ?_⟩
  unfold nP
  have e1 := IntWalk.i64_in (nowP at_ now - at_) (by omega)
  rw [e1]
  exact IntWalk.i64_quo _ _ (by omega)

theorem atP_val {at_ half now : Int} (ha : 0 ≤ at_ ∧ at_ ≤ 1099511627776) (hh : 1 ≤ half ∧ half ≤ 40) :
    at_ ≤ atP at_ half now ∧ atP at_ half now ≤ nowP at_ now ∧ (nowP at_ now = at_ → atP at_ half now = at_) := by
  obtain ⟨h1, h2, h3⟩ := nP_val (now := now) ha hh
  unfold atP
  rw [h3]
  have hq0 : 0 ≤ (nowP at_ now - at_) / half := Int.ediv_nonneg (by omega) (by omega)
  have hq1 : (nowP at_ now - at_) / half * half ≤ nowP at_ now - at_ := Int.ediv_mul_le _ (by omega)
  have hq2 : 0 ≤ (nowP at_ now - at_) / half * half := Int.mul_nonneg hq0 (by omega)
  have e1 := IntWalk.i64_in ((nowP at_ now - at_) / half * half) (by omega)
  rw [e1]
  have e2 := IntWalk.i64_in (at_ + (nowP at_ now - at_) / half * half) (by omega)
  rw [e2]
  refine ⟨by omega, by omega, fun h => ?_⟩
  omega

theorem nowP_again {at_ half now : Int} (ha : 0 ≤ at_ ∧ at_ ≤ 1099511627776) (hh : 1 ≤ half ∧ half ≤ 40) : nowP (atP at_ half now) now = nowP at_ now := by
  obtain ⟨h1, h2, h3⟩ := atP_val (now := now) ha hh
  by_cases h : now < at_
  · have hn : nowP at_ now = at_ := by unfold nowP minI maxI; split <;> split <;> omega
    rw [h3 hn]
  · generalize atP at_ half now = A at h1 h2
    have hn : nowP at_ now = minI now 1099511627776 := by
      unfold nowP
      have : maxI now at_ = now := by unfold maxI; split <;> omega
      rw [this]
    rw [hn] at h2 ⊢
    unfold nowP maxI minI at *
    split at h2 <;> split <;> first | omega | (split <;> omega)

theorem first_unique {p : Nat → Bool} {k k' : Nat} (h1 : ∀ j, j < k → p j = false) (h2 : p k = true) (h1' : ∀ j, j < k' → p j = false) (h2' : p k' = true) : k = k' := by
  rcases Nat.lt_trichotomy k k' with h | h | h
  · rw [h1' k h] at h2; cases h2
  · exact h
  · rw [h1 k' h] at h2'; cases h2'

theorem wait_unique {r lim : Nat} {A half Y R R' : Int} (hr : r ≤ infR) (h : WaitIs 3000 r lim A half Y R) (h' : WaitIs 2200 r lim A half Y R') : R = R' := by
  rcases h' with ⟨k', hk', hj', hl', rfl⟩ | ⟨hn', rfl⟩
  · rcases h with ⟨k, hk, hj, hl, rfl⟩ | ⟨hn, rfl⟩
    · rw [first_unique (p := fun j => fcmp .leq (halves j r) lim) hj hl hj' hl']
    · rw [hn k' (by omega)] at hl'; cases hl'
  · rcases h with ⟨k, hk, hj, hl, rfl⟩ | ⟨hn, rfl⟩
    · exfalso
      rw [halves_min hr k, hn' (min k 2200) (by omega)] at hl
      cases hl
    · rfl
end Go.AH

