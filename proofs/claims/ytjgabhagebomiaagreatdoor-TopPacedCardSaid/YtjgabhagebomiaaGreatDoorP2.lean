/- A part of the proof: TwP2. -/
import Derived.Test.YtjgabhagebomiaaGreatDoorP1
import Derived.Test.YtjgabhagebomiaaGreatDoorZ0
namespace Go.AH
open Go Go.Proofs

theorem gullN_pos (x : Int) (k : Nat) (hx : -9223372036854775808 ≤ x ∧ x ≤ 9223372036854775807) : 0 ≤ gullN x (.ofNat (k + 1)) ∧ gullN x (.ofNat (k + 1)) < (k + 1 : Nat) := by
  unfold gullN
  have h1 : 0 ≤ (if x < 0 then IntKind.i64.wrap (0 - IntKind.i64.wrap (x + 1)) else x) := by
    split
    · have e1 := IntWalk.i64_in (x + 1) (by omega)
      have e2 := IntWalk.i64_in (0 - (x + 1)) (by omega)
      rw [e1, e2]; omega
    · omega
  exact ⟨Int.tmod_nonneg _ h1, Int.tmod_lt_of_pos _ (by simp)⟩

set_option maxRecDepth 100000 in
set_option maxHeartbeats 4000000 in
theorem gullFloat_calls (hs : Sound Tryz.prog) (a b : Int) (H : AHeap) (ha : inI a) (hb : inI b) :
    CallsA Tryz.prog 7 [.int .i64 a, .int .i64 b] H fun v H' => ∃ w, v = .float .f64 w ∧ H' = H := by
  have h0 := natB_good
  have hd := natB_good.deep hs 40
  refine CallsA.of_wp Tryz.func7 rfl ?_
  refine wp_told 38 [(0, .int .i64 a), (1, .int .i64 b)] rfl rfl ⟨rfl, rfl, trivial⟩ ?_
  refine Wp.seq (wp_reg hs h0 rfl ?_)
  simp only [thenA]
  refine Wp.seq (wr_start ?_)
  refine wr_ev h0 1 rfl (wr_call rfl rfl rfl rfl rfl rfl (gull_calls hs a 999 H) ?_)
  rintro _ _ ⟨rfl, rfl⟩
  generalize hx : gullN a (Int.ofNat (999 + 1)) = x
  have hx0 : 0 ≤ x := hx ▸ (gullN_pos a 999 ha).1
  refine wr_read (v := .float .f64 (FloatKind.nearest .f64 x)) rfl rfl rfl rfl rfl ?_
  have hf : FloatKind.nearest .f64 x ≤ infR := nearest_nat x hx0
  generalize FloatKind.nearest .f64 x = f0 at hf
  obtain ⟨f, hf1, hf2⟩ := div_ex (c := 4620693217682128896) hf (n := 4503599627370496) (j := -49) (by decide) (by decide)
  refine wr_read rfl rfl rfl rfl (rd_fdiv (a := f0) rfl rfl hf2) (wr_ev h0 1 rfl (wr_end ?_))
  simp only [thenA]
  refine wp_told 38 [(0, .int .i64 a), (1, .int .i64 b), (5, .float .f64 f)] rfl rfl ⟨rfl, rfl, rfl, trivial⟩ ?_
  refine Wp.seq (Wp.seq (wr_start ?_))
  refine wr_ev h0 1 rfl (wr_call rfl rfl rfl rfl rfl rfl (gull_calls hs b 11 _) ?_)
  rintro _ _ ⟨rfl, rfl⟩
  generalize gullN b (Int.ofNat (11 + 1)) = m
  refine wr_end ?_
  simp only [thenA]
  refine wp_told 38 [(0, .int .i64 a), (1, .int .i64 b), (5, .float .f64 f), (11, .int .i64 m)] rfl rfl ⟨rfl, rfl, rfl, rfl, trivial⟩ ?_
  refine Wp.block ?_
  by_cases m0 : m = 0
  · refine Wp.seq (wr_start ?_)
    refine wr_read rfl rfl rfl rfl (ev_bool (b := decide (m = 0)) rfl (decide_eq_true m0)) (wr_ev h0 1 rfl (wr_end ?_))
    simp only [thenA]
    refine Wp.cond (t := true) rfl ?_
    refine Wp.seq (wp_reg hs hd rfl ?_)
    simp only [thenA]
    refine Wp.ret ?_
    simp only [inBlockA]
    exact ⟨.inr rfl, _, rfl, _, rfl, rfl⟩
  refine Wp.seq (wr_start ?_)
  refine wr_read rfl rfl rfl rfl (ev_bool (b := decide (m = 0)) rfl (decide_eq_false m0)) (wr_ev h0 1 rfl (wr_end ?_))
  simp only [thenA]
  refine Wp.cond (t := false) rfl ?_
  by_cases m1 : m = 1
  · refine Wp.seq (wr_start ?_)
    refine wr_read rfl rfl rfl rfl (ev_bool (b := decide (m = 1)) rfl (decide_eq_true m1)) (wr_ev h0 1 rfl (wr_end ?_))
    simp only [thenA]
    refine Wp.cond (t := true) rfl ?_
    refine Wp.seq (wp_reg hs h0 rfl ?_)
    simp only [thenA]
    refine Wp.ret ?_
    simp only [inBlockA]
    exact ⟨.inr rfl, _, rfl, _, rfl, rfl⟩
  refine Wp.seq (wr_start ?_)
  refine wr_read rfl rfl rfl rfl (ev_bool (b := decide (m = 1)) rfl (decide_eq_false m1)) (wr_ev h0 1 rfl (wr_end ?_))
  simp only [thenA]
  refine Wp.cond (t := false) rfl ?_
  by_cases m2 : m = 2
  · refine Wp.seq (wr_start ?_)
    refine wr_read rfl rfl rfl rfl (ev_bool (b := decide (m = 2)) rfl (decide_eq_true m2)) (wr_ev h0 1 rfl (wr_end ?_))
    simp only [thenA]
    refine Wp.cond (t := true) rfl ?_
    obtain ⟨g, _, hg⟩ := mul_ex (c := 9184749379333099561) hf1 (n := 6413338752028713) (j := 964) (by decide) (by decide)
    refine Wp.seq (wr_start ?_)
    refine wr_ev h0 1 rfl (wr_read rfl rfl rfl rfl (rd_fmul (a := f) rfl rfl hg) (wr_ev h0 1 rfl (wr_end ?_)))
    simp only [thenA]
    refine Wp.ret ?_
    simp only [inBlockA]
    exact ⟨.inr rfl, _, rfl, _, rfl, rfl⟩
  refine Wp.seq (wr_start ?_)
  refine wr_read rfl rfl rfl rfl (ev_bool (b := decide (m = 2)) rfl (decide_eq_false m2)) (wr_ev h0 1 rfl (wr_end ?_))
  simp only [thenA]
  refine Wp.cond (t := false) rfl ?_
  by_cases m3 : m = 3
  · refine Wp.seq (wr_start ?_)
    refine wr_read rfl rfl rfl rfl (ev_bool (b := decide (m = 3)) rfl (decide_eq_true m3)) (wr_ev h0 1 rfl (wr_end ?_))
    simp only [thenA]
    refine Wp.cond (t := true) rfl ?_
    obtain ⟨g, _, hg⟩ := mul_ex (c := 2024) hf1 (n := 2024) (j := -1074) (by decide) (by decide)
    refine Wp.seq (wr_start ?_)
    refine wr_ev h0 1 rfl (wr_read rfl rfl rfl rfl (rd_fmul (a := f) rfl rfl hg) (wr_ev h0 1 rfl (wr_end ?_)))
    simp only [thenA]
    refine Wp.ret ?_
    simp only [inBlockA]
    exact ⟨.inr rfl, _, rfl, _, rfl, rfl⟩
  refine Wp.seq (wr_start ?_)
  refine wr_read rfl rfl rfl rfl (ev_bool (b := decide (m = 3)) rfl (decide_eq_false m3)) (wr_ev h0 1 rfl (wr_end ?_))
  simp only [thenA]
  refine Wp.cond (t := false) rfl ?_
  by_cases m4 : m = 4
  · refine Wp.seq (wr_start ?_)
    refine wr_read rfl rfl rfl rfl (ev_bool (b := decide (m = 4)) rfl (decide_eq_true m4)) (wr_ev h0 1 rfl (wr_end ?_))
    simp only [thenA]
    refine Wp.cond (t := true) rfl ?_
    refine Wp.seq (wr_start ?_)
    refine wr_ev h0 1 rfl (wr_call rfl rfl rfl rfl rfl rfl (gull_calls hs a 1 _) ?_)
    rintro _ _ ⟨rfl, rfl⟩
    have hz := gullN_pos a 1 ha
    have hz2 : gullN a (Int.ofNat (1 + 1)) = 0 ∨ gullN a (Int.ofNat (1 + 1)) = 1 := by omega
    rcases hz2 with hz2 | hz2
    · rw [hz2]
      refine wr_ev hd 4 rfl (wr_end ?_)
      simp only [thenA]
      refine Wp.ret ?_
      simp only [inBlockA]
      exact ⟨.inr rfl, _, rfl, _, rfl, rfl⟩
    · rw [hz2]
      refine wr_ev hd 4 rfl (wr_end ?_)
      simp only [thenA]
      refine Wp.ret ?_
      simp only [inBlockA]
      exact ⟨.inr rfl, _, rfl, _, rfl, rfl⟩
  refine Wp.seq (wr_start ?_)
  refine wr_read rfl rfl rfl rfl (ev_bool (b := decide (m = 4)) rfl (decide_eq_false m4)) (wr_ev h0 1 rfl (wr_end ?_))
  simp only [thenA]
  refine Wp.cond (t := false) rfl ?_
  by_cases m5 : m = 5
  · refine Wp.seq (wr_start ?_)
    refine wr_read rfl rfl rfl rfl (ev_bool (b := decide (m = 5)) rfl (decide_eq_true m5)) (wr_ev h0 1 rfl (wr_end ?_))
    simp only [thenA]
    refine Wp.cond (t := true) rfl ?_
    refine Wp.seq (wp_reg hs hd rfl ?_)
    simp only [thenA]
    refine Wp.ret ?_
    simp only [inBlockA]
    exact ⟨.inr rfl, _, rfl, _, rfl, rfl⟩
  refine Wp.seq (wr_start ?_)
  refine wr_read rfl rfl rfl rfl (ev_bool (b := decide (m = 5)) rfl (decide_eq_false m5)) (wr_ev h0 1 rfl (wr_end ?_))
  simp only [thenA]
  refine Wp.cond (t := false) rfl ?_
  refine Wp.skip ?_
  simp only [inBlockA, thenA]
  refine Wp.seq (wp_reg hs h0 rfl ?_)
  simp only [thenA]
  refine Wp.ret ?_
  exact ⟨.inr rfl, _, rfl, _, rfl, rfl⟩
end Go.AH

