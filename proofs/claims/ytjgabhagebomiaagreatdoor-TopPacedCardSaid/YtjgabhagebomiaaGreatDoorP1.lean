/- A part of the proof: TwP1. -/
import Derived.Test.YtjgabhagebomiaaGreatDoorP0
import Derived.Test.YtjgabhagebomiaaGreatDoorW1
import Derived.IntWalk
namespace Go.AH
open Go Go.Proofs

def lv (r : Nat) (at_ half : Int) (t : TypeId) : AObj := .row [.float .f64 r, .int .i64 at_, .int .i64 half] t 3 .own
def Hs (a b c d : Option AObj) (n : Nat) : AHeap := ⟨(((PT.nil.put 7 a).put 8 b).put 9 c).put 10 d, n, 7⟩
def p8 : Value := .pointer (some ⟨8, 0, none⟩)
def p9 : Value := .pointer (some ⟨9, 0, none⟩)

def maxI (x y : Int) : Int := if y > x then y else x
def minI (x y : Int) : Int := if y < x then y else x
def nowP (at_ now : Int) : Int := minI (maxI now at_) 1099511627776
def nP (at_ half now : Int) : Int := IntKind.i64.wrap ((IntKind.i64.wrap (nowP at_ now - at_)).tdiv half)
def atP (at_ half now : Int) : Int := IntKind.i64.wrap (at_ + IntKind.i64.wrap (nP at_ half now * half))

set_option maxRecDepth 100000 in
theorem goes_calls (hs : Sound Tryz.prog) (a c d : Option AObj) (n : Nat) (r : Nat) (at_ : Int) (half : Int) (now : Int) (hr : r ≤ infR) (hh : half ≠ 0) :
    CallsA Tryz.prog 8 [p8, .int .i64 now] (Hs a (some (lv r at_ half 28)) c d n)
      fun v H' => v = .int .i64 (nowP at_ now) ∧ H' = Hs a (some (lv (halves (min (nP at_ half now).toNat 2200) r) (atP at_ half now) half 28)) c d n := by
  have h0 := natB_good
  refine CallsA.of_wp Tryz.func8 rfl ?_
  refine wp_told 56 [(0, p8), (1, .int .i64 now)] rfl rfl ⟨rfl, rfl, trivial⟩ ?_
  refine Wp.seq (wp_reg hs h0 rfl ?_)
  simp only [thenA]
  refine Wp.seq (wp_reg hs h0 rfl ?_)
  simp only [thenA]
  refine wp_told 56 [(0, p8), (1, .int .i64 (nowP at_ now))] rfl rfl ⟨rfl, rfl, trivial⟩ ?_
  refine Wp.seq (wd_start hs (B := #[0, 0, 2, 6, 14, 31, 0, 64, 192, 448, 1023, 2047]) (ord := [0, 1, 2, 3, 4, 5, 6, 7, 8, 9, 10, 11]) (by kernel_rfl) rfl ?_)
  refine wd_ev h0 10 rfl trivial ?_
  refine wd_read rfl rfl rfl rfl rfl (rd_quo (a := IntKind.i64.wrap (nowP at_ now - at_)) (b := half) rfl rfl hh) ?_
  refine wd_ev h0 1 rfl trivial ?_
  refine wd_end ?_
  simp only [thenA]
  refine wp_told 56 [(0, p8), (1, .int .i64 (nowP at_ now)), (5, .int .i64 (nP at_ half now))] rfl rfl ⟨rfl, rfl, rfl, trivial⟩ ?_
  refine Wp.seq (wd_start hs (B := #[0, 1, 3, 7, 0, 0, 32, 96, 224, 496, 1023, 2047, 4095, 8191]) (ord := [0, 1, 2, 3, 4, 5, 6, 7, 8, 9, 10, 11, 12, 13]) (by kernel_rfl) rfl ?_)
  refine wd_ev h0 14 rfl ?_ (wd_end ?_)
  · exact And.intro (by repeat (first | exact Obl.nil | refine Obl.read rfl rfl rfl ?_ | refine Obl.skip (by kernel_rfl) ?_)) trivial
  simp only [thenA]
  have key : ∀ k : Nat, k ≤ min (nP at_ half now).toNat 2200 → halves (k + 1) r = halfR (halves k r) := fun k _ => halves_succ k r
  refine wp_at 56 [(0, p8), (1, .int .i64 (nowP at_ now)), (5, .int .i64 (nP at_ half now))] (Hs a (some (lv r (atP at_ half now) half 28)) c d n) ⟨rfl, rfl, rfl, rfl, rfl, trivial⟩ rfl ?_
  refine Wp.seq (Wp.seq (wp_reg hs h0 rfl ?_))
  simp only [thenA]
  refine Wp.block (Wp.loopS 56 (fun k : Nat => [(0, p8), (1, .int .i64 (nowP at_ now)), (5, .int .i64 (nP at_ half now)), (6, .int .i64 k)]) (fun k => Hs a (some (lv (halves k r) (atP at_ half now) half 28)) c d n)
    (fun k => k ≤ min (nP at_ half now).toNat 2200) (fun k => 2200 - k) 0 (Nat.zero_le _) ⟨rfl, rfl, rfl, rfl, rfl, rfl, trivial⟩ ?_)
  intro k hk
  by_cases h1 : (k : Int) < nP at_ half now
  · by_cases h2 : (k : Int) < 2200
    · refine Wp.seq (Wp.seq (wr_start ?_))
      refine wr_ev h0 2 rfl (wr_read rfl rfl rfl rfl (ev_bool (b := decide ((k : Int) < nP at_ half now)) rfl (decide_eq_true h1)) ?_)
      refine wr_ev h0 2 rfl (wr_read rfl rfl rfl rfl (ev_bool (b := decide ((k : Int) < 2200)) rfl (decide_eq_true h2)) ?_)
      refine wr_ev h0 1 rfl (wr_end ?_)
      simp only [thenA]
      refine Wp.cond (t := true) rfl (Wp.skip ?_)
      simp only [thenA]
      refine Wp.seq (Wp.block (wr_start ?_))
      refine wr_ev h0 5 rfl (wr_read rfl rfl rfl rfl (rd_fdiv (a := halves k r) (b := two) rfl rfl (div_two (halves_le k hr))) ?_)
      refine wr_ev h0 3 rfl (wr_end ?_)
      simp only [inBlockA, thenA]
      refine wp_reg hs h0 rfl ?_
      simp only [thenA]
      refine ⟨k + 1, by omega, by omega, ⟨rfl, rfl, rfl, rfl, rfl, ?_, trivial⟩, ?_⟩
      · show Value.int .i64 (IntKind.i64.wrap ((k : Int) + 1)) = _
        rw [IntWalk.i64_in _ (by omega)]
        rfl
      · rw [halves_succ]
        rfl
    · refine Wp.seq (Wp.seq (wr_start ?_))
      refine wr_ev h0 2 rfl (wr_read rfl rfl rfl rfl (ev_bool (b := decide ((k : Int) < nP at_ half now)) rfl (decide_eq_true h1)) ?_)
      refine wr_ev h0 2 rfl (wr_read rfl rfl rfl rfl (ev_bool (b := decide ((k : Int) < 2200)) rfl (decide_eq_false h2)) ?_)
      refine wr_ev h0 1 rfl (wr_end ?_)
      simp only [thenA]
      refine Wp.cond (t := false) rfl (Wp.exit ?_)
      simp only [thenA, inBlockA, if_true]
      refine Wp.seq (wp_reg hs h0 rfl ?_)
      simp only [thenA]
      have hk' : k = min (nP at_ half now).toNat 2200 := by omega
      exact Wp.ret ⟨.inr rfl, _, rfl, rfl, by rw [hk']⟩
  · refine Wp.seq (Wp.seq (wr_start ?_))
    refine wr_ev h0 2 rfl (wr_read rfl rfl rfl rfl (ev_bool (b := decide ((k : Int) < nP at_ half now)) rfl (decide_eq_false h1)) ?_)
    refine wr_ev h0 4 rfl (wr_end ?_)
    simp only [thenA]
    refine Wp.cond (t := false) rfl (Wp.exit ?_)
    simp only [thenA, inBlockA, if_true]
    refine Wp.seq (wp_reg hs h0 rfl ?_)
    simp only [thenA]
    have hk' : k = min (nP at_ half now).toNat 2200 := by omega
    exact Wp.ret ⟨.inr rfl, _, rfl, rfl, by rw [hk']⟩
end Go.AH

