/- A part of the proof: TwP3. -/
import Derived.Test.YtjgabhagebomiaaGreatDoorP2
namespace Go.AH
open Go Go.Proofs

set_option maxRecDepth 100000 in
theorem isInf_calls (hs : Sound Tryz.prog) (r : Nat) (H : AHeap) : CallsA Tryz.prog 45 [.float .f64 r, .int .i64 1] H fun v H' => v = .bool (fcmp .gtr r maxF) ∧ H' = H := by
  have h0 := natB_good
  refine CallsA.of_wp Tryz.func45 rfl ?_
  refine wp_told 15 [(0, .float .f64 r), (1, .int .i64 1)] rfl rfl ⟨rfl, rfl, trivial⟩ ?_
  refine Wp.seq (wp_reg hs h0 rfl ?_)
  simp only [thenA]
  refine Wp.seq (Wp.seq (wp_reg hs h0 rfl ?_))
  simp only [thenA]
  refine Wp.cond (t := false) rfl ?_
  refine Wp.seq (wp_reg hs h0 rfl ?_)
  simp only [thenA]
  refine Wp.cond (t := false) rfl (Wp.skip ?_)
  simp only [thenA]
  refine Wp.seq (wr_start ?_)
  refine wr_ev h0 1 rfl (wr_read rfl rfl rfl rfl (rd_fcmp (a := r) (b := maxF) rfl rfl rfl) (wr_ev h0 1 rfl (wr_end ?_)))
  simp only [thenA]
  exact Wp.ret ⟨.inr rfl, _, rfl, rfl, rfl⟩

def Xs (a b d : Option AObj) (n : Nat) (half : Int) (r : Nat) (at_ : Int) : AHeap := Hs a b (some (lv r at_ half 53)) d n

theorem fcmp_eq {r : Nat} (h : r ≤ infR) (he : fcmp .eql r 0 = true) : r = 0 := eq_zero h (by simpa [fcmp] using he)
theorem fcmp_inf {r : Nat} (h : r ≤ infR) (he : fcmp .gtr r maxF = true) : r = infR := gt_max h (by simpa [fcmp] using he)

set_option maxRecDepth 100000 in
set_option maxHeartbeats 4000000 in
theorem goOn_calls (hs : Sound Tryz.prog) (a b d : Option AObj) (n : Nat) (half : Int) (r : Nat) (at_ now : Int) (hr : r ≤ infR) (hh : half ≠ 0) :
    CallsA Tryz.prog 23 [p9, .int .i64 now] (Xs a b d n half r at_) fun _ H' => H' = Xs a b d n half (halves (nP at_ half now).toNat r) (atP at_ half now) := by
  have h0 := natB_good
  refine CallsA.of_wp Tryz.func23 rfl ?_
  refine wp_told 58 [(0, p9), (1, .int .i64 now)] rfl rfl ⟨rfl, rfl, trivial⟩ ?_
  refine Wp.scope (by rintro _ _ _ ⟨h | h, _⟩ <;> cases h) ?_
  refine Wp.seq (wd_start hs (B := #[0, 0, 2, 6, 14, 31, 63, 0, 128, 384, 896, 2047, 0, 4096, 12288, 28672, 65535, 131071]) (ord := [0, 1, 2, 3, 4, 5, 6, 7, 8, 9, 10, 11, 12, 13, 14, 15, 16, 17]) (by kernel_rfl) rfl ?_)
  refine wd_ev h0 16 rfl trivial ?_
  refine wd_read rfl rfl rfl rfl rfl (rd_quo (a := IntKind.i64.wrap (nowP at_ now - at_)) (b := half) rfl rfl hh) ?_
  refine wd_ev h0 1 rfl trivial (wd_end ?_)
  simp only [thenA]
  refine wp_told 58 [(0, p9), (1, .int .i64 now), (4, .int .i64 (nP at_ half now))] rfl rfl ⟨rfl, rfl, rfl, trivial⟩ ?_
  refine Wp.seq (wd_start hs (B := #[0, 1, 3, 7, 0, 0, 32, 96, 224, 496, 1023, 2047, 4095, 8191]) (ord := [0, 1, 2, 3, 4, 5, 6, 7, 8, 9, 10, 11, 12, 13]) (by kernel_rfl) rfl ?_)
  refine wd_ev h0 14 rfl ?_ (wd_end ?_)
  · exact And.intro (by repeat (first | exact Obl.nil | refine Obl.read rfl rfl rfl ?_ | refine Obl.skip (by kernel_rfl) ?_)) trivial
  simp only [thenA]
  refine wp_at 58 [(0, p9), (4, .int .i64 (nP at_ half now))] (Xs a b d n half r (atP at_ half now)) ⟨rfl, rfl, rfl, rfl, trivial⟩ rfl ?_
  refine Wp.seq (Wp.label ?_)
  simp only [thenA]
  refine Wp.seq (wp_reg hs h0 rfl ?_)
  simp only [thenA]
  generalize hN : nP at_ half now = N
  generalize hA : atP at_ half now = A
  refine Wp.block (Wp.loopS 58 (fun k : Nat => [(0, p9), (35, .int .i64 N), (36, .int .i64 k)]) (fun k => Xs a b d n half (halves k r) A) (fun k => k ≤ N.toNat ∧ N ≤ 9223372036854775807) (fun k => N.toNat - k) 0 ⟨Nat.zero_le _, ?_⟩ ⟨rfl, rfl, rfl, rfl, rfl, trivial⟩ ?_)
  · rw [← hN]; unfold nP; rw [IntKind.wrap_i64]; omega
  rintro k ⟨hk, hNb⟩
  by_cases h1 : (k : Int) < N
  · refine Wp.seq (wr_start ?_)
    refine wr_read rfl rfl rfl rfl (ev_bool (b := decide ((k : Int) < N)) rfl (decide_eq_true h1)) (wr_end ?_)
    simp only [thenA]
    refine Wp.seq (Wp.cond (t := true) rfl (Wp.skip ?_))
    simp only [thenA]
    have hrk := halves_le k hr
    refine Wp.seq (Wp.block (Wp.seq (Wp.seq (wr_start ?_))))
    have fin : ∀ F, Told 58 [(0, p9)] F → (halves k r = 0 ∨ halves k r = infR) → (fun e F' H' => (e = Exit.normal ∨ e = Exit.ret) ∧ LeavesA Tryz.prog Tryz.f23 F' (fun x H' => H' = Xs a b d n half (halves N.toNat r) A) F'.ds H') Exit.normal F (Xs a b d n half (halves k r) A) := by
      intro F hF hst
      refine ⟨.inl rfl, ?_⟩
      rw [hF.2.1]
      refine ⟨_, rfl, ?_⟩
      obtain ⟨j, hj⟩ := Nat.exists_eq_add_of_le hk
      rw [hj, halves_add, halves_stop hst j]
    by_cases h2 : fcmp .eql (halves k r) 0 = true
    · refine wr_ev h0 4 rfl (wr_read rfl rfl rfl rfl (ev_bool (rd_fcmp (a := halves k r) (b := 0) rfl rfl rfl) h2) (wr_ev h0 7 rfl (wr_end ?_)))
      simp only [thenA]
      refine Wp.cond (t := true) rfl (Wp.exit ?_)
      simp only [thenA]
      refine blk_miss (by decide) ?_
      simp only [thenA]
      refine blk_hit ?_
      exact fin _ ⟨rfl, rfl, rfl, trivial⟩ (.inl (fcmp_eq hrk h2))
    · have h2' : fcmp .eql (halves k r) 0 = false := by simpa using h2
      refine wr_ev h0 4 rfl (wr_read rfl rfl rfl rfl (ev_bool (rd_fcmp (a := halves k r) (b := 0) rfl rfl rfl) h2') (wr_ev h0 5 rfl ?_))
      refine wr_call rfl rfl rfl rfl rfl rfl (isInf_calls hs (halves k r) _) ?_
      rintro _ _ ⟨rfl, rfl⟩
      by_cases h3 : fcmp .gtr (halves k r) maxF = true
      · rw [h3]
        refine wr_ev h0 1 rfl (wr_end ?_)
        simp only [thenA]
        refine Wp.cond (t := true) rfl (Wp.exit ?_)
        simp only [thenA]
        refine blk_miss (by decide) ?_
        simp only [thenA]
        refine blk_hit ?_
        exact fin _ ⟨rfl, rfl, rfl, trivial⟩ (.inr (fcmp_inf hrk h3))
      · have h3' : fcmp .gtr (halves k r) maxF = false := by simpa using h3
        rw [h3']
        refine wr_ev h0 1 rfl (wr_end ?_)
        simp only [thenA]
        refine Wp.cond (t := false) rfl (Wp.skip ?_)
        simp only [thenA]
        refine wp_at 58 [(0, p9), (35, .int .i64 N), (36, .int .i64 k)] (Xs a b d n half (halves k r) A) ⟨rfl, rfl, rfl, rfl, rfl, trivial⟩ rfl ?_
        refine wr_start ?_
        refine wr_ev h0 4 rfl (wr_read rfl rfl rfl rfl (rd_fdiv (a := halves k r) (b := two) rfl rfl (div_two hrk)) ?_)
        refine wr_ev h0 3 rfl (wr_end ?_)
        simp only [inBlockA, thenA]
        refine wp_reg hs h0 rfl ?_
        simp only [thenA]
        refine ⟨k + 1, ⟨by omega, hNb⟩, by omega, ⟨rfl, rfl, rfl, rfl, ?_, trivial⟩, ?_⟩
        · show Value.int .i64 (IntKind.i64.wrap ((k : Int) + 1)) = _
          rw [IntWalk.i64_in _ (by omega)]
          rfl
        · rw [halves_succ]
          rfl
  · refine Wp.seq (wr_start ?_)
    refine wr_read rfl rfl rfl rfl (ev_bool (b := decide ((k : Int) < N)) rfl (decide_eq_false h1)) (wr_end ?_)
    simp only [thenA]
    refine Wp.seq (Wp.cond (t := false) rfl (Wp.exit ?_))
    simp only [thenA]
    have hk' : k = N.toNat := by omega
    exact blk_hit ⟨.inl rfl, _, rfl, by rw [hk']⟩
end Go.AH

