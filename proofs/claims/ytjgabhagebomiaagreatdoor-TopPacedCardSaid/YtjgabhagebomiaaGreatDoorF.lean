/- A part of the proof: TwF0, TwF1, TwF2, TwF3, TwF4. -/
import GoSem.Core.Float
namespace Go.AH
open Ieee

/-! ## Halving, on rungs -/

def infR : Nat := 9218868437227405312
def binR : Nat := 4503599627370496

def halfR (r : Nat) : Nat :=
  if r = infR then infR
  else if 2 * binR ≤ r then r - binR
  else r / 2 + (if r % 2 = 1 ∧ r / 2 % 2 = 1 then 1 else 0)

theorem read_rung {r : Nat} (h : r ≤ infR) : double.read r =
    if r < binR then .number false r (-1074) else if r < infR then .number false (binR + r % binR) (-1074 + (r / binR - 1 : Nat)) else .infinity false := by
  unfold Format.read
  have h1 : double.signWeight = 9223372036854775808 := by rfl
  have h2 : double.binade = binR := by rfl
  have h3 : double.infRung = infR := by rfl
  have h4 : double.leastPlace = -1074 := by rfl
  rw [h1, h2, h3, h4]
  have hlt : r < 9223372036854775808 := by unfold infR at h; omega
  simp only [Nat.div_eq_of_lt hlt, Nat.mod_eq_of_lt hlt]
  by_cases ha : r < binR
  · simp [ha]
  · by_cases hb : r < infR
    · simp [ha, hb]
    · have : r = infR := by omega
      subst this
      simp [infR, binR]

theorem halfR_le {r : Nat} (h : r ≤ infR) : halfR r ≤ infR := by
  unfold halfR
  unfold infR binR at *
  split
  · omega
  · split
    · omega
    · split <;> omega

/-- So many times halved. -/
def halves : Nat → Nat → Nat
  | 0, r => r
  | n + 1, r => halves n (halfR r)

theorem halves_zero : ∀ n, halves n 0 = 0
  | 0 => rfl
  | n + 1 => by rw [halves, show halfR 0 = 0 by decide, halves_zero n]

theorem halves_inf : ∀ n, halves n infR = infR
  | 0 => rfl
  | n + 1 => by rw [halves, show halfR infR = infR by decide, halves_inf n]

theorem halves_small : ∀ (k r : Nat), r ≤ 2 ^ k → r < 2 * binR → halves (k + 1) r = 0
  | 0, r, h, _ => by
    have : r = 0 ∨ r = 1 := by omega
    rcases this with rfl | rfl <;> decide
  | k + 1, r, h, hb => by
    rw [halves]
    have hne : r ≠ infR := by unfold infR; unfold binR at hb; omega
    have hr : halfR r ≤ 2 ^ k ∧ halfR r < 2 * binR := by
      unfold halfR
      rw [if_neg hne, if_neg (by omega)]
      have hk : 2 ^ (k + 1) = 2 * 2 ^ k := by rw [Nat.pow_succ]; omega
      by_cases hk0 : k = 0
      · subst hk0
        have : r ≤ 2 := by simpa using h
        unfold binR
        split <;> omega
      · have he : 2 ^ k % 2 = 0 := by
          obtain ⟨j, rfl⟩ := Nat.exists_eq_succ_of_ne_zero hk0
          rw [Nat.pow_succ]; omega
        split
        · rename_i hc
          constructor
          · omega
          · unfold binR at *; omega
        · constructor <;> omega
    exact halves_small k _ hr.1 hr.2

theorem halves_add : ∀ (a b r : Nat), halves (a + b) r = halves b (halves a r)
  | 0, b, r => by rw [Nat.zero_add]; rfl
  | a + 1, b, r => by rw [Nat.add_right_comm, halves, halves_add a b]; rfl

theorem halves_big : ∀ (e r : Nat), r < infR → 2 * binR ≤ r → r < (e + 2) * binR → ∃ k, k ≤ e ∧ halves k r < 2 * binR
  | 0, r, _, h1, h2 => by omega
  | e + 1, r, hi, h1, h2 => by
    have hh : halfR r = r - binR := by
      unfold halfR
      rw [if_neg (by omega), if_pos h1]
    by_cases hs : r - binR < 2 * binR
    · exact ⟨1, by omega, by rw [halves, halves, hh]; exact hs⟩
    · obtain ⟨k, hk, hr⟩ := halves_big e (r - binR) (by omega) (by omega) (by unfold binR at *; omega)
      exact ⟨k + 1, by omega, by rw [halves, hh]; exact hr⟩

/-- Any finite one is gone behind 2200 halvings (and sooner). -/
theorem halves_gone {r : Nat} (h : r < infR) : halves 2200 r = 0 := by
  have small : ∀ s, s < 2 * binR → ∀ n, 54 ≤ n → halves n s = 0 := by
    intro s hs n hn
    have h1 := halves_small 53 s (by unfold binR at hs; omega) hs
    obtain ⟨m, rfl⟩ := Nat.exists_eq_add_of_le hn
    rw [halves_add, h1, halves_zero]
  by_cases hb : r < 2 * binR
  · exact small r hb 2200 (by omega)
  · obtain ⟨k, hk, hr⟩ := halves_big 2046 r h (by omega) (by unfold infR at h; unfold binR; omega)
    obtain ⟨m, hm⟩ := Nat.exists_eq_add_of_le (show k ≤ 2200 by omega)
    rw [hm, halves_add]
    exact small _ hr m (by omega)

end Go.AH

namespace Go.AH
open Ieee

def two : Nat := 4611686018427387904

theorem read_two : double.read two = .number false binR (-51) := by decide

theorem log2_mul_pow (m k : Nat) (h : m ≠ 0) : (m * 2 ^ k).log2 = m.log2 + k := by
  induction k with
  | zero => simp
  | succ k ih =>
    have : m * 2 ^ (k + 1) = 2 * (m * 2 ^ k) := by rw [Nat.pow_succ, ← Nat.mul_assoc, Nat.mul_comm]
    have hne : m * 2 ^ k ≠ 0 := Nat.mul_ne_zero h (Nat.pos_iff_ne_zero.1 (Nat.two_pow_pos k))
    rw [this, Nat.log2_two_mul hne, ih]; omega

/-- The quotient by two, exact. -/
theorem quot_two {m : Nat} {i : Int} (hm : m ≠ 0) (hl : m < 2 * binR) : ∃ k : Nat, 3 ≤ k ∧ k ≤ 55 ∧
    (Datum.number false m i).quotient 54 (.number false binR (-51)) = some (.number false (m * 2 ^ k) (i - 1 - k)) := by
  have hlog : m.log2 ≤ 52 := by
    have := (Nat.log2_lt hm (k := 53)).2 (by unfold binR at hl; omega)
    omega
  have hb : binR.log2 = 52 := by decide
  refine ⟨55 - m.log2, by omega, by omega, ?_⟩
  have hn : binR ≠ 0 := by decide
  have hdiv : m <<< (54 + binR.log2 - m.log2) = binR * (m * 2 ^ (54 - m.log2)) := by
    rw [hb, Nat.shiftLeft_eq]
    have : 54 + 52 - m.log2 = 52 + (54 - m.log2) := by omega
    rw [this, Nat.pow_add]
    unfold binR
    rw [show (2 : Nat) ^ 52 = 4503599627370496 by decide, ← Nat.mul_assoc, Nat.mul_comm m 4503599627370496, Nat.mul_assoc]
  unfold Datum.quotient
  simp only [hn, if_false]
  rw [hdiv, Nat.mul_div_cancel_left _ (by decide : 0 < binR), Nat.mul_mod_right]
  simp only [Option.some.injEq, Datum.number.injEq, true_and, bne_self_eq_false, Bool.toNat_false, Nat.add_zero]
  constructor
  · have : 55 - m.log2 = (54 - m.log2) + 1 := by omega
    rw [this, Nat.pow_succ]
    simp only [Nat.mul_assoc, Nat.mul_comm, Nat.mul_left_comm]
  · rw [hb]; omega

theorem cut_pow (n k : Nat) : Toward.even.cut false (n * 2 ^ k) k = n := by
  unfold Toward.cut
  by_cases hn : n = 0
  · subst hn; simp
  · have hlog : k ≤ (n * 2 ^ k).log2 + 2 := by rw [log2_mul_pow n k hn]; omega
    rw [Nat.min_eq_left hlog, Nat.one_shiftLeft]
    simp only
    rw [Nat.mul_div_cancel _ (Nat.two_pow_pos k), Nat.mul_mod_left]
    simp

theorem cut_half (n k : Nat) : Toward.even.cut false (n * 2 ^ k) (k + 1) = n / 2 + (if n % 2 = 1 ∧ n / 2 % 2 = 1 then 1 else 0) := by
  unfold Toward.cut
  by_cases hn : n = 0
  · subst hn; simp
  · have hlog : k + 1 ≤ (n * 2 ^ k).log2 + 2 := by rw [log2_mul_pow n k hn]; omega
    have h2 : 0 < 2 ^ k := Nat.two_pow_pos k
    have hp : 2 ^ (k + 1) = 2 * 2 ^ k := by rw [Nat.pow_succ, Nat.mul_comm]
    have hd : n * 2 ^ k / 2 ^ (k + 1) = n / 2 := by rw [hp, Nat.mul_div_mul_right _ _ h2]
    have hm : n * 2 ^ k % 2 ^ (k + 1) = n % 2 * 2 ^ k := by rw [hp, Nat.mul_mod_mul_right]
    rw [Nat.min_eq_left hlog, Nat.one_shiftLeft]
    simp only
    rw [hd, hm]
    rcases Nat.mod_two_eq_zero_or_one n with h | h
    · rw [h, hp]; simp; omega
    · rw [h, hp]
      simp only [Nat.one_mul, Nat.lt_irrefl, decide_false, Bool.false_or, beq_self_eq_true, Bool.true_and, true_and]
      rcases Nat.mod_two_eq_zero_or_one (n / 2) with h' | h' <;> simp [h']


theorem nearest_half {m : Nat} {i : Int} (hm : m ≠ 0) (hl : m < 2 * binR) (hi : -1074 ≤ i) (hcase : i = -1074 ∨ binR ≤ m) {k : Nat} (hr : (i + 1074).toNat * binR + m ≤ infR) :
    double.nearest false (m * 2 ^ k) (i - 1 - k) = if i = -1074 then m / 2 + (if m % 2 = 1 ∧ m / 2 % 2 = 1 then 1 else 0) else (i + 1073).toNat * binR + m := by
  have hlog : m.log2 ≤ 52 := by
    have := (Nat.log2_lt hm (k := 53)).2 (by unfold binR at hl; omega)
    omega
  have hne : m * 2 ^ k ≠ 0 := Nat.mul_ne_zero hm (Nat.pos_iff_ne_zero.1 (Nat.two_pow_pos k))
  have h2 : double.binade = binR := by rfl
  have h3 : double.infRung = infR := by rfl
  have h4 : double.leastPlace = -1074 := by rfl
  have h5 : (double.fractionBits : Int) = 52 := by rfl
  unfold Format.nearest
  rw [if_neg hne, h2, h3, h4, h5, log2_mul_pow m k hm]
  simp only
  by_cases hc : i = -1074
  · subst hc
    have hlast : max ((-1074 : Int) - 1 - k + (m.log2 + k : Nat) - 52) (-1074) = -1074 := by omega
    rw [hlast, if_pos rfl]
    have e1 : ((-1074 : Int) - 1 - k - -1074).toNat = 0 := by omega
    have e2 : ((-1074 : Int) - (-1074 - 1 - k)).toNat = k + 1 := by omega
    rw [e1, e2, Nat.shiftLeft_zero, cut_half]
    simp only [Int.sub_self, Int.toNat_zero, Nat.zero_mul, Nat.zero_add]
    unfold Format.word
    simp only [Bool.false_eq_true, if_false]
    refine Nat.min_eq_left ?_
    unfold infR binR at *
    split <;> omega
  · have hb : binR ≤ m := hcase.resolve_left hc
    have hl52 : m.log2 = 52 := by
      have h1 := Nat.log2_self_le hm
      have h6 := Nat.lt_log2_self (n := m)
      by_cases h7 : m.log2 ≤ 51
      · have := Nat.pow_le_pow_right (n := 2) (by omega) (show m.log2 + 1 ≤ 52 by omega)
        rw [show (2 : Nat) ^ 52 = 4503599627370496 by decide] at this
        unfold binR at hb; omega
      · omega
    rw [hl52, if_neg hc]
    have hlast : max (i - 1 - k + (52 + k : Nat) - 52) (-1074) = i - 1 := by omega
    rw [hlast]
    have e1 : (i - 1 - k - (i - 1)).toNat = 0 := by omega
    have e2 : (i - 1 - (i - 1 - k)).toNat = k := by omega
    rw [e1, e2, Nat.shiftLeft_zero, cut_pow]
    unfold Format.word
    simp only [Bool.false_eq_true, if_false]
    have e3 : (i - 1 - -1074).toNat = (i + 1073).toNat := by omega
    rw [e3]
    refine Nat.min_eq_left ?_
    have : (i + 1074).toNat = (i + 1073).toNat + 1 := by omega
    rw [this, Nat.add_mul] at hr
    refine Nat.le_trans ?_ hr
    exact Nat.add_le_add_right (Nat.le_add_right _ _) m

/-- Division by two, of a rung that is no NaN. -/
theorem div_two {r : Nat} (h : r ≤ infR) : double.div r two = some (halfR r) := by
  unfold Format.div
  rw [read_two, read_rung h]
  have h5 : double.fractionBits + 2 = 54 := by rfl
  rw [h5]
  by_cases ha : r < binR
  · rw [if_pos ha]
    by_cases h0 : r = 0
    · subst h0; decide
    · obtain ⟨k, _, _, hq⟩ := quot_two (i := -1074) h0 (by omega)
      rw [hq, Option.map_some, Option.some.injEq]
      show double.nearest false (r * 2 ^ k) (-1074 - 1 - k) = _
      rw [nearest_half h0 (by omega) (by omega) (.inl rfl) (by simpa using h), if_pos rfl]
      have e9 : halfR r = r / 2 + (if r % 2 = 1 ∧ r / 2 % 2 = 1 then 1 else 0) := by
        unfold halfR
        rw [if_neg (by unfold binR at ha; unfold infR; omega), if_neg (by omega)]
      exact e9.symm
  · rw [if_neg ha]
    by_cases hb : r < infR
    · rw [if_pos hb]
      have hbin : 0 < binR := by decide
      have hmod : r % binR < binR := Nat.mod_lt _ hbin
      have hdm := Nat.div_add_mod r binR
      have hd1 : 1 ≤ r / binR := (Nat.le_div_iff_mul_le hbin).2 (by omega)
      obtain ⟨k, _, _, hq⟩ := quot_two (m := binR + r % binR) (i := -1074 + (r / binR - 1 : Nat)) (by omega) (by omega)
      rw [hq, Option.map_some, Option.some.injEq]
      show double.nearest false ((binR + r % binR) * 2 ^ k) (-1074 + ((r / binR - 1 : Nat) : Int) - 1 - k) = _
      have hre : ((-1074 + ((r / binR - 1 : Nat) : Int) + 1074).toNat) = r / binR - 1 := by omega
      have hsum : (r / binR - 1) * binR + (binR + r % binR) = r := by
        have : r / binR = (r / binR - 1) + 1 := by omega
        have h9 : binR * (r / binR) = (r / binR - 1) * binR + binR := by
          rw [this, Nat.mul_add, Nat.mul_one, Nat.mul_comm]; simp
        omega
      rw [nearest_half (by omega) (by omega) (by omega) (.inr (by omega)) (by rw [hre, hsum]; omega)]
      by_cases hc : r / binR = 1
      · have hc' : (-1074 + ((r / binR - 1 : Nat) : Int)) = -1074 := by omega
        rw [if_pos hc']
        have hr2 : binR + r % binR = r := by rw [hc] at hsum; simpa using hsum
        rw [hr2]
        have e9 : halfR r = r / 2 + (if r % 2 = 1 ∧ r / 2 % 2 = 1 then 1 else 0) := by
          unfold halfR
          rw [if_neg (by omega), if_neg (by omega)]
        exact e9.symm
      · have hc' : ¬ (-1074 + ((r / binR - 1 : Nat) : Int)) = -1074 := by omega
        rw [if_neg hc']
        have e1 : (-1074 + ((r / binR - 1 : Nat) : Int) + 1073).toNat = r / binR - 2 := by omega
        rw [e1]
        have h2 : 2 * binR ≤ r := by
          have : 2 ≤ r / binR := by omega
          exact (Nat.le_div_iff_mul_le hbin).1 this
        unfold halfR
        rw [if_neg (by omega), if_pos h2]
        have : (r / binR - 1) * binR = (r / binR - 2) * binR + binR := by
          have : r / binR - 1 = (r / binR - 2) + 1 := by omega
          rw [this, Nat.add_mul]; simp
        omega
    · have : r = infR := by omega
      subst this
      rw [if_neg hb]
      decide

end Go.AH

namespace Go.AH
open Ieee

theorem nearest_le (mag : Nat) (place : Int) : double.nearest false mag place ≤ infR := by
  have h3 : double.infRung = infR := by rfl
  unfold Format.nearest
  split
  · unfold Format.word; simp
  · simp only
    unfold Format.word
    simp only [Bool.false_eq_true, if_false]
    rw [h3]
    exact Nat.min_le_right _ _

theorem signed_nonneg (m u : Nat) : 0 ≤ signed false m u := by
  unfold signed
  simp only [Bool.false_eq_true, if_false]
  exact Int.natCast_nonneg _

/-- The sum of two data that are not below nought. -/
theorem sum_good {d e : Datum} (hd : (∃ m i, d = .number false m i) ∨ d = .infinity false) (he : (∃ m i, e = .number false m i) ∨ e = .infinity false) :
    ∃ t, t ≤ infR ∧ (d.sum e).map double.write = some t := by
  have hinf : double.write (.infinity false) = infR := by rfl
  rcases hd with ⟨m, i, rfl⟩ | rfl <;> rcases he with ⟨n, j, rfl⟩ | rfl
  · refine ⟨double.nearest false (signed false m (i - min i j).toNat + signed false n (j - min i j).toNat).natAbs (min i j), nearest_le _ _, ?_⟩
    have h1 := signed_nonneg m (i - min i j).toNat
    have h2 := signed_nonneg n (j - min i j).toNat
    simp only [Datum.sum, Option.map_some, Option.some.injEq, Format.write]
    congr 1
    simp only [Bool.and_self]
    split
    · rfl
    · simp only [decide_eq_false_iff_not]; omega
  · exact ⟨infR, Nat.le_refl _, by simp [Datum.sum, hinf]⟩
  · exact ⟨infR, Nat.le_refl _, by simp [Datum.sum, hinf]⟩
  · exact ⟨infR, Nat.le_refl _, by simp [Datum.sum, hinf]⟩

theorem read_good {r : Nat} (h : r ≤ infR) : (∃ m i, double.read r = .number false m i) ∨ double.read r = .infinity false := by
  rw [read_rung h]
  split
  · exact .inl ⟨_, _, rfl⟩
  · split
    · exact .inl ⟨_, _, rfl⟩
    · exact .inr rfl

theorem read_zero : double.read 0 = .number false 0 (-1074) := by decide

theorem signed_true_le (m u : Nat) : signed true m u ≤ 0 := by
  unfold signed
  simp only [if_true]
  have := Int.natCast_nonneg (m <<< u : Nat)
  omega

/-- What is above nought adds well. -/
theorem good_of_gt {y : Nat} (h : double.order y 0 = some .gt) : (∃ m i, double.read y = .number false m i) ∨ double.read y = .infinity false := by
  unfold Format.order at h
  rw [read_zero] at h
  cases hr : double.read y with
  | nan s t => rw [hr] at h; simp [Datum.order] at h
  | infinity s =>
    rw [hr] at h
    cases s
    · exact .inr rfl
    · simp [Datum.order] at h
  | number s m i =>
    rw [hr] at h
    cases s
    · exact .inl ⟨m, i, rfl⟩
    · exfalso
      simp only [Datum.order, Option.some.injEq] at h
      have h0 : signed false 0 ((-1074) - min i (-1074)).toNat = 0 := by unfold signed; simp
      rw [h0] at h
      have h1 := signed_true_le m (i - min i (-1074)).toNat
      rw [Int.compare_eq_gt] at h
      omega

theorem add_good {r y : Nat} (h : r ≤ infR) (hy : double.order y 0 = some .gt) : ∃ t, t ≤ infR ∧ double.add r y = some t := sum_good (read_good h) (good_of_gt hy)

theorem order_not_lt {r : Nat} (h : r ≤ infR) : double.order r 0 ≠ some .lt ∧ double.order r r = some .eq := by
  unfold Format.order
  rw [read_zero]
  rcases read_good h with ⟨m, i, hr⟩ | hr
  · rw [hr]
    constructor
    · simp only [Datum.order, ne_eq, Option.some.injEq]
      have h0 : signed false 0 ((-1074) - min i (-1074)).toNat = 0 := by unfold signed; simp
      rw [h0]
      have h1 := signed_nonneg m (i - min i (-1074)).toNat
      rw [Int.compare_eq_lt]
      omega
    · simp only [Datum.order, Option.some.injEq, Int.compare_eq_eq]
  · rw [hr]
    constructor <;> simp [Datum.order]

end Go.AH

namespace Go.AH
open Ieee

theorem write_num (m : Nat) (i : Int) : double.write (.number false m i) ≤ infR := nearest_le m i
theorem write_inf : double.write (.infinity false) = infR := by rfl

/-- What divides by a number above nought. -/
theorem div_ex {r c : Nat} (h : r ≤ infR) {n : Nat} {j : Int} (hc : double.read c = .number false n j) (hn : n ≠ 0) : ∃ t, t ≤ infR ∧ double.div r c = some t := by
  unfold Format.div
  rw [hc]
  rcases read_good h with ⟨m, i, hr⟩ | hr
  · rw [hr]
    unfold Datum.quotient
    simp only [hn, if_false, Option.map_some, Option.some.injEq]
    exact ⟨_, write_num _ _, rfl⟩
  · rw [hr]
    simp only [Datum.quotient, Option.map_some, Option.some.injEq]
    exact ⟨_, Nat.le_of_eq write_inf, rfl⟩

theorem mul_ex {r c : Nat} (h : r ≤ infR) {n : Nat} {j : Int} (hc : double.read c = .number false n j) (hn : n ≠ 0) : ∃ t, t ≤ infR ∧ double.mul r c = some t := by
  unfold Format.mul
  rw [hc]
  rcases read_good h with ⟨m, i, hr⟩ | hr
  · rw [hr]
    simp only [Datum.product, Option.map_some, Option.some.injEq]
    exact ⟨_, write_num _ _, rfl⟩
  · rw [hr]
    simp only [Datum.product, hn, if_false, Option.map_some, Option.some.injEq]
    exact ⟨_, Nat.le_of_eq write_inf, rfl⟩

theorem nearest_nat (n : Int) (h : 0 ≤ n) : FloatKind.nearest .f64 n ≤ infR := by
  unfold FloatKind.nearest FloatKind.encode
  have : decide (n < 0) = false := by simp; omega
  rw [this]
  exact write_num _ _

end Go.AH

namespace Go.AH
open Ieee

theorem read_good' {r : Nat} (h : r ≤ infR) : (r = infR ∧ double.read r = .infinity false) ∨ (r < infR ∧ ∃ m i, double.read r = .number false m i ∧ (m = 0 → r = 0) ∧ m < 2 * binR ∧ i ≤ 971) := by
  rw [read_rung h]
  by_cases ha : r < binR
  · rw [if_pos ha]
    refine .inr ⟨by unfold infR; unfold binR at ha; omega, r, -1074, rfl, fun h => h, by omega, by omega⟩
  · rw [if_neg ha]
    by_cases hb : r < infR
    · rw [if_pos hb]
      have hbin : 0 < binR := by decide
      have hmod : r % binR < binR := Nat.mod_lt _ hbin
      have hd : r / binR < 2047 := by
        rw [Nat.div_lt_iff_lt_mul hbin]
        unfold infR at hb; unfold binR; omega
      refine .inr ⟨hb, _, _, rfl, fun h => by omega, by omega, by omega⟩
    · rw [if_neg hb]
      exact .inl ⟨by omega, rfl⟩

theorem signed_false_zero {m u : Nat} (h : signed false m u = 0) : m = 0 := by
  unfold signed at h
  simp only [Bool.false_eq_true, if_false, Nat.shiftLeft_eq] at h
  have h1 : m * 2 ^ u = 0 := by exact_mod_cast h
  exact (Nat.mul_eq_zero.1 h1).resolve_right (Nat.pos_iff_ne_zero.1 (Nat.two_pow_pos u))

theorem eq_zero {r : Nat} (h : r ≤ infR) (he : double.order r 0 = some .eq) : r = 0 := by
  unfold Format.order at he
  rw [read_zero] at he
  rcases read_good' h with ⟨_, hr⟩ | ⟨_, m, i, hr, h0, _⟩
  · rw [hr] at he; simp [Datum.order] at he
  · rw [hr] at he
    simp only [Datum.order, Option.some.injEq, Int.compare_eq_eq] at he
    have hz : signed false 0 ((-1074) - min i (-1074)).toNat = 0 := by unfold signed; simp
    rw [hz] at he
    exact h0 (signed_false_zero he)

def maxF : Nat := 9218868437227405311

theorem read_max : double.read maxF = .number false 9007199254740991 971 := by decide

theorem gt_max {r : Nat} (h : r ≤ infR) (hg : double.order r maxF = some .gt) : r = infR := by
  unfold Format.order at hg
  rw [read_max] at hg
  rcases read_good' h with ⟨hr, _⟩ | ⟨_, m, i, hr, _, hm, hi⟩
  · exact hr
  · exfalso
    rw [hr] at hg
    simp only [Datum.order, Option.some.injEq, Int.compare_eq_gt] at hg
    have h1 : min i 971 = i := by omega
    rw [h1] at hg
    have h2 : (i - i).toNat = 0 := by omega
    rw [h2] at hg
    unfold signed at hg
    simp only [Bool.false_eq_true, if_false, Nat.shiftLeft_eq] at hg
    have h3 : 9007199254740991 * 2 ^ (971 - i).toNat < m * 2 ^ 0 := Int.ofNat_lt.1 hg
    have h4 : 1 ≤ 2 ^ (971 - i).toNat := Nat.two_pow_pos _
    have h5 : 9007199254740991 * 1 ≤ 9007199254740991 * 2 ^ (971 - i).toNat := Nat.mul_le_mul_left _ h4
    unfold binR at hm
    omega

theorem order_zero_pos {r : Nat} : double.order 0 0 = some .eq := by decide

theorem halves_le : ∀ (n : Nat) {r : Nat}, r ≤ infR → halves n r ≤ infR
  | 0, _, h => h
  | n + 1, _, h => halves_le n (halfR_le h)

theorem halves_succ : ∀ (n r : Nat), halves (n + 1) r = halfR (halves n r)
  | 0, r => rfl
  | n + 1, r => by
    show halves (n + 1) (halfR r) = _
    rw [halves_succ n (halfR r)]
    rfl

/-- Behind 2200 halvings nothing changes. -/
theorem halves_min {r : Nat} (h : r ≤ infR) (n : Nat) : halves n r = halves (min n 2200) r := by
  by_cases hn : n ≤ 2200
  · rw [Nat.min_eq_left hn]
  · rw [Nat.min_eq_right (by omega)]
    obtain ⟨k, rfl⟩ := Nat.exists_eq_add_of_le (show 2200 ≤ n by omega)
    rw [halves_add]
    by_cases hi : r = infR
    · subst hi; rw [halves_inf, halves_inf]
    · rw [halves_gone (by omega), halves_zero]

theorem halves_stop {r : Nat} (h : r = 0 ∨ r = infR) (n : Nat) : halves n r = r := by
  rcases h with rfl | rfl
  · exact halves_zero n
  · exact halves_inf n
end Go.AH

