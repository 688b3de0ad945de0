/- A part of the proof: TwP4. -/
import Derived.Test.YtjgabhagebomiaaGreatDoorP3
namespace Go.AH
open Go Go.Proofs

/-- A level with more. -/
def addR (r y : Nat) : Nat := if fcmp .gtr y 0 = true then (Ieee.double.add r y).getD 0 else r

theorem addR_le {r y : Nat} (h : r ≤ infR) : addR r y ≤ infR := by
  unfold addR
  split
  · rename_i hy
    obtain ⟨t, h1, h2⟩ := add_good h (y := y) (by simpa [fcmp] using hy)
    rw [h2]; exact h1
  · exact h

theorem addR_gt {r y : Nat} (h : r ≤ infR) (hy : fcmp .gtr y 0 = true) : Ieee.double.add r y = some (addR r y) := by
  obtain ⟨t, h1, h2⟩ := add_good h (y := y) (by simpa [fcmp] using hy)
  unfold addR
  rw [if_pos hy, h2]; rfl

set_option maxRecDepth 100000 in
set_option maxHeartbeats 4000000 in
theorem add_calls (hs : Sound Tryz.prog) (a b d : Option AObj) (n : Nat) (half : Int) (r y : Nat) (at_ now : Int) (hr : r ≤ infR) (hh : half ≠ 0) :
    CallsA Tryz.prog 10 [p9, .float .f64 y, .int .i64 now] (Xs a b d n half r at_) fun v H' =>
      v = .float .f64 (addR (halves (nP at_ half now).toNat r) y) ∧ H' = Xs a b d n half (addR (halves (nP at_ half now).toNat r) y) (atP at_ half now) := by
  have h0 := natB_good
  refine CallsA.of_wp Tryz.func10 rfl ?_
  refine wp_told 26 [(0, p9), (1, .float .f64 y), (2, .int .i64 now)] rfl rfl ⟨rfl, rfl, rfl, trivial⟩ ?_
  refine Wp.seq (wp_reg hs h0 rfl ?_)
  simp only [thenA]
  refine Wp.seq (Wp.seq (wp_reg hs h0 rfl ?_))
  simp only [thenA]
  refine Wp.cond (t := false) rfl (Wp.skip ?_)
  simp only [thenA]
  refine Wp.seq (wr_start (wr_ev h0 2 rfl ?_))
  refine wr_call rfl rfl rfl rfl rfl rfl (goOn_calls hs a b d n half r at_ now hr hh) ?_
  rintro _ _ rfl
  refine wr_end ?_
  simp only [thenA]
  have hr1 := halves_le (nP at_ half now).toNat hr
  generalize halves (nP at_ half now).toNat r = r1 at hr1
  generalize atP at_ half now = A
  refine wp_at 26 [(0, p9), (1, .float .f64 y), (2, .int .i64 now)] (Xs a b d n half r1 A) ⟨rfl, rfl, rfl, rfl, rfl, trivial⟩ rfl ?_
  by_cases hy : fcmp .gtr y 0 = true
  · have hadd := addR_gt hr1 hy
    generalize addR r1 y = r2 at hadd
    refine Wp.seq (Wp.seq (wr_start (wr_ev h0 1 rfl (wr_read rfl rfl rfl rfl (ev_bool (rd_fcmp (a := y) (b := 0) rfl rfl rfl) hy) (wr_end ?_)))))
    simp only [thenA]
    refine Wp.cond (t := true) rfl ?_
    refine wr_start (wr_ev h0 5 rfl (wr_read rfl rfl rfl rfl (rd_fadd (a := r1) (b := y) rfl rfl hadd) (wr_ev h0 3 rfl (wr_end ?_))))
    simp only [thenA]
    refine wp_at 26 [(0, p9), (1, .float .f64 y), (2, .int .i64 now)] (Xs a b d n half r2 A) ⟨rfl, rfl, rfl, rfl, rfl, trivial⟩ rfl ?_
    refine Wp.seq (wp_reg hs h0 rfl ?_)
    simp only [thenA]
    exact Wp.ret ⟨.inr rfl, _, rfl, rfl, rfl⟩
  · have hy' : fcmp .gtr y 0 = false := by simpa using hy
    have hadd : addR r1 y = r1 := by unfold addR; rw [if_neg hy]
    rw [hadd]
    refine Wp.seq (Wp.seq (wr_start (wr_ev h0 1 rfl (wr_read rfl rfl rfl rfl (ev_bool (rd_fcmp (a := y) (b := 0) rfl rfl rfl) hy') (wr_end ?_)))))
    simp only [thenA]
    refine Wp.cond (t := false) rfl (Wp.skip ?_)
    simp only [thenA]
    refine Wp.seq (wp_reg hs h0 rfl ?_)
    simp only [thenA]
    exact Wp.ret ⟨.inr rfl, _, rfl, rfl, rfl⟩

theorem addR_zero (r : Nat) : addR r 0 = r := by
  unfold addR
  rw [if_neg (by decide)]

set_option maxRecDepth 100000 in
set_option maxHeartbeats 4000000 in
theorem level_calls (hs : Sound Tryz.prog) (a b d : Option AObj) (n : Nat) (half : Int) (r : Nat) (at_ now : Int) (hr : r ≤ infR) (hh : half ≠ 0) :
    CallsA Tryz.prog 11 [p9, .int .i64 now] (Xs a b d n half r at_) fun v H' =>
      v = .float .f64 (halves (nP at_ half now).toNat r) ∧ H' = Xs a b d n half (halves (nP at_ half now).toNat r) (atP at_ half now) := by
  have h0 := natB_good
  refine CallsA.of_wp Tryz.func11 rfl ?_
  refine wp_told 8 [(0, p9), (1, .int .i64 now)] rfl rfl ⟨rfl, rfl, trivial⟩ ?_
  refine Wp.seq (wp_reg hs h0 rfl ?_)
  simp only [thenA]
  refine Wp.seq (wr_start (wr_ev h0 2 rfl ?_))
  refine wr_call rfl rfl rfl rfl rfl rfl (add_calls hs a b d n half r 0 at_ now hr hh) ?_
  rintro _ _ ⟨rfl, rfl⟩
  rw [addR_zero]
  refine wr_ev h0 1 rfl (wr_end ?_)
  simp only [thenA]
  exact Wp.ret ⟨.inr rfl, _, rfl, rfl, rfl⟩

set_option maxRecDepth 100000 in
set_option maxHeartbeats 4000000 in
theorem over_calls (hs : Sound Tryz.prog) (a b d : Option AObj) (n : Nat) (half : Int) (r y : Nat) (at_ now : Int) (hr : r ≤ infR) (hh : half ≠ 0) :
    CallsA Tryz.prog 12 [p9, .float .f64 y, .int .i64 now] (Xs a b d n half r at_) fun v H' =>
      v = .bool (!(fcmp .leq (halves (nP at_ half now).toNat r) y)) ∧ H' = Xs a b d n half (halves (nP at_ half now).toNat r) (atP at_ half now) := by
  have h0 := natB_good
  refine CallsA.of_wp Tryz.func12 rfl ?_
  refine wp_told 17 [(0, p9), (1, .float .f64 y), (2, .int .i64 now)] rfl rfl ⟨rfl, rfl, rfl, trivial⟩ ?_
  refine Wp.seq (wp_reg hs h0 rfl ?_)
  simp only [thenA]
  refine Wp.seq (wr_start (wr_ev h0 5 rfl ?_))
  refine wr_call rfl rfl rfl rfl rfl rfl (level_calls hs a b d n half r at_ now hr hh) ?_
  rintro _ _ ⟨rfl, rfl⟩
  refine wr_ev h0 1 rfl (wr_read rfl rfl rfl rfl (rd_fcmp (a := halves (nP at_ half now).toNat r) (b := y) rfl rfl rfl) ?_)
  generalize fcmp .leq (halves (nP at_ half now).toNat r) y = c
  refine wr_ev h0 3 rfl (wr_end ?_)
  simp only [thenA]
  exact Wp.ret ⟨.inr rfl, _, rfl, rfl, rfl⟩

def valP (A half y : Int) (k : Nat) : Int := IntKind.i64.wrap (IntKind.i64.wrap (A + IntKind.i64.wrap ((k : Int) * half)) - y)

/-- What a wait answers. -/
def WaitIs (M : Nat) (r lim : Nat) (A half y R : Int) : Prop :=
  (∃ k : Nat, k ≤ M ∧ (∀ j, j < k → fcmp .leq (halves j r) lim = false) ∧ fcmp .leq (halves k r) lim = true ∧ R = maxI (valP A half y k) 0) ∨
  ((∀ j, j ≤ M → fcmp .leq (halves j r) lim = false) ∧ R = -1)

set_option maxRecDepth 100000 in
set_option maxHeartbeats 4000000 in
theorem wait_calls (hs : Sound Tryz.prog) (a b d : Option AObj) (n : Nat) (half : Int) (r lim : Nat) (at_ now : Int) (hr : r ≤ infR) (hh : half ≠ 0) :
    CallsA Tryz.prog 13 [p9, .float .f64 lim, .int .i64 now] (Xs a b d n half r at_) fun v H' =>
      ∃ R, v = .int .i64 R ∧ WaitIs 3000 (halves (nP at_ half now).toNat r) lim (atP at_ half now) half (nowP (atP at_ half now) now) R ∧ H' = Xs a b d n half (halves (nP at_ half now).toNat r) (atP at_ half now) := by
  have h0 := natB_good
  refine CallsA.of_wp Tryz.func13 rfl ?_
  refine wp_told 44 [(0, p9), (1, .float .f64 lim), (2, .int .i64 now)] rfl rfl ⟨rfl, rfl, rfl, trivial⟩ ?_
  refine Wp.seq (wp_reg hs h0 rfl ?_)
  simp only [thenA]
  refine Wp.seq (Wp.seq (wp_reg hs h0 rfl ?_))
  simp only [thenA]
  refine Wp.cond (t := false) rfl (Wp.skip ?_)
  simp only [thenA]
  refine Wp.seq (wr_start (wr_ev h0 2 rfl ?_))
  refine wr_call rfl rfl rfl rfl rfl rfl (level_calls hs a b d n half r at_ now hr hh) ?_
  rintro _ _ ⟨rfl, rfl⟩
  have hr1 := halves_le (nP at_ half now).toNat hr
  generalize halves (nP at_ half now).toNat r = r1 at hr1
  generalize atP at_ half now = A
  refine wr_ev h0 1 rfl (wr_end ?_)
  simp only [thenA]
  refine Wp.seq (wp_reg hs h0 rfl ?_)
  simp only [thenA]
  refine wp_at 44 [(0, p9), (1, .float .f64 lim), (2, .int .i64 (nowP A now)), (7, .float .f64 r1)] (Xs a b d n half r1 A) ⟨rfl, rfl, rfl, rfl, rfl, rfl, trivial⟩ rfl ?_
  refine Wp.seq (Wp.seq (wp_reg hs h0 rfl ?_))
  simp only [thenA]
  generalize nowP A now = Y
  refine Wp.block (Wp.loopS 44 (fun k : Nat => [(0, p9), (1, .float .f64 lim), (2, .int .i64 Y), (7, .float .f64 (halves k r1)), (21, .int .i64 k)]) (fun _ => Xs a b d n half r1 A) (fun k => k ≤ 3001 ∧ ∀ j, j < k → fcmp .leq (halves j r1) lim = false) (fun k => 3001 - k) 0 ⟨by omega, fun j hj => absurd hj (by omega)⟩ ⟨rfl, rfl, rfl, rfl, rfl, rfl, rfl, trivial⟩ ?_)
  rintro k ⟨hk, hj⟩
  by_cases h1 : (k : Int) < 3001
  · refine Wp.seq (wr_start ?_)
    refine wr_read rfl rfl rfl rfl (ev_bool (b := decide ((k : Int) < 3001)) rfl (decide_eq_true h1)) (wr_end ?_)
    simp only [thenA]
    refine Wp.seq (Wp.cond (t := true) rfl (Wp.skip ?_))
    simp only [thenA]
    have hrk := halves_le k hr1
    refine Wp.seq (Wp.block (Wp.seq (wp_reg hs h0 rfl ?_)))
    simp only [thenA]
    by_cases h2 : fcmp .leq (halves k r1) lim = true
    · refine Wp.seq (Wp.seq (wr_start (wr_ev h0 2 rfl (wr_read rfl rfl rfl rfl (ev_bool (rd_fcmp (a := halves k r1) (b := lim) rfl rfl rfl) h2) (wr_end ?_)))))
      simp only [thenA]
      refine Wp.cond (t := true) rfl ?_
      refine Wp.seq (wd_start hs (B := #[0, 1, 3, 7, 0, 0, 32, 96, 224, 496, 1023, 0, 4095, 8191, 16383]) (ord := [0, 1, 2, 3, 4, 5, 6, 7, 8, 9, 10, 11, 12, 13, 14]) (by kernel_rfl) rfl ?_)
      refine wd_ev h0 15 rfl trivial (wd_end ?_)
      simp only [thenA]
      refine Wp.ret ?_
      show (Exit.ret = Exit.normal ∨ Exit.ret = Exit.ret) ∧ _
      exact ⟨.inr rfl, _, rfl, _, rfl, .inl ⟨k, by omega, hj, h2, rfl⟩, rfl⟩
    · have h2' : fcmp .leq (halves k r1) lim = false := by simpa using h2
      refine Wp.seq (Wp.seq (wr_start (wr_ev h0 2 rfl (wr_read rfl rfl rfl rfl (ev_bool (rd_fcmp (a := halves k r1) (b := lim) rfl rfl rfl) h2') (wr_end ?_)))))
      simp only [thenA]
      refine Wp.cond (t := false) rfl (Wp.skip ?_)
      simp only [thenA]
      refine wr_start (wr_ev h0 1 rfl (wr_read rfl rfl rfl rfl (rd_fdiv (a := halves k r1) (b := two) rfl rfl (div_two hrk)) (wr_ev h0 1 rfl (wr_end ?_))))
      simp only [thenA, inBlockA]
      refine wp_reg hs h0 rfl ?_
      simp only [thenA]
      refine ⟨k + 1, ⟨by omega, fun j hj' => ?_⟩, by omega, ⟨rfl, rfl, rfl, rfl, rfl, ?_, ?_, trivial⟩, by first | rfl | trivial⟩
      · by_cases e : j = k
        · rw [e]; exact h2'
        · exact hj j (by omega)
      · rw [halves_succ]; rfl
      · show Value.int .i64 (IntKind.i64.wrap ((k : Int) + 1)) = _
        rw [IntWalk.i64_in _ (by omega)]
        rfl
  · refine Wp.seq (wr_start ?_)
    refine wr_read rfl rfl rfl rfl (ev_bool (b := decide ((k : Int) < 3001)) rfl (decide_eq_false h1)) (wr_end ?_)
    simp only [thenA]
    refine Wp.seq (Wp.cond (t := false) rfl (Wp.exit ?_))
    simp only [thenA]
    refine blk_hit ?_
    simp only [thenA]
    refine Wp.seq (wp_reg hs h0 rfl ?_)
    simp only [thenA]
    exact Wp.ret ⟨.inr rfl, _, rfl, _, rfl, .inr ⟨fun j hj' => hj j (by omega), rfl⟩, rfl⟩
end Go.AH

