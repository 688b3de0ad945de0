/- A part of the proof: TwP6. -/
import Derived.Test.YtjgabhagebomiaaGreatDoorP5
import Derived.Test.YtjgabhagebomiaaGreatDoorX2
import Derived.Test.YtjgabhagebomiaaGreatDoorZ0
namespace Go.AH
open Go Go.Proofs

def gRow (g : G5) : AObj := .row g.cells 32 5 .own
def p10 : Value := .pointer (some ⟨10, 0, none⟩)

set_option maxRecDepth 100000 in
theorem new_calls (hs : Sound Tryz.prog) (a b d : Option AObj) (half : Int) (hh : 1 ≤ half ∧ half ≤ 40) :
    CallsA Tryz.prog 6 [.int .i64 half] (Hs a b none none 9) fun v H' => v = p9 ∧ H' = Hs a b (some (lv 0 0 half 53)) none 10 := by
  have h0 := natB_good
  refine CallsA.of_wp Tryz.func6 rfl ?_
  refine wp_told 8 [(0, .int .i64 half)] rfl rfl ⟨rfl, trivial⟩ ?_
  refine Wp.seq (wp_reg hs h0 rfl ?_)
  simp only [thenA]
  refine Wp.seq (wr_start (wr_ev h0 2 rfl ?_))
  have e : minI (maxI half 1) 1000 = half := by
    have : maxI half 1 = half := by unfold maxI; split <;> omega
    rw [this]; unfold minI; split <;> omega
  refine wr_read (v := .int .i64 half) rfl rfl rfl rfl ((show _ = some (Value.int .i64 (minI (maxI half 1) 1000)) from rfl).trans (by rw [e])) ?_
  refine wr_ev h0 3 rfl (wr_end ?_)
  simp only [thenA]
  exact Wp.ret ⟨.inr rfl, _, rfl, rfl, rfl⟩

theorem order_nlt {r : Nat} (h : r ≤ infR) : fcmp .lss r 0 = false := by
  have := (order_not_lt h).1
  simpa [fcmp] using this
theorem order_neq {r : Nat} (h : r ≤ infR) : fcmp .neq r r = false := by
  have := (order_not_lt h).2
  simp [fcmp, this]

/-- A heap cut back to four blocks. -/
theorem cut_Hs {H : AHeap} {a b c : Option AObj} (hg : H.ng = 7) (hn : 10 ≤ H.next) (h7 : H.get 7 = a) (h8 : H.get 8 = b) (h9 : H.get 9 = c) (ba : ∀ o, a = some o → belO 10 o = true) (bb : ∀ o, b = some o → belO 10 o = true) (bc : ∀ o, c = some o → belO 10 o = true) :
    Cut H 10 (Hs a b c none 10) := {
  next := rfl
  ng := hg.symm
  low := by omega
  le := hn
  sub k o h := by
    have e : (Hs a b c none 10).get k = if k = 10 then none else if k = 9 then c else if k = 8 then b else if k = 7 then a else none := by
      show (((((PT.nil.put 7 a).put 8 b).put 9 c).put 10 none) : PT AObj).get k = _
      rw [PT.get_put, PT.get_put, PT.get_put, PT.get_put, PT.get_nil]
    rw [e] at h
    split at h
    · cases h
    · split at h
      · rename_i e9; subst e9; exact ⟨h9.trans h, by omega, bc o h⟩
      · split at h
        · rename_i e8; subst e8; exact ⟨h8.trans h, by omega, bb o h⟩
        · split at h
          · rename_i e7; subst e7; exact ⟨h7.trans h, by omega, ba o h⟩
          · cases h }

/-- A heap cut back to four blocks. -/
theorem cut_Hs11 {H : AHeap} {a b c d : Option AObj} (hg : H.ng = 7) (hn : 11 ≤ H.next) (h7 : H.get 7 = a) (h8 : H.get 8 = b) (h9 : H.get 9 = c) (h10 : H.get 10 = d) (ba : ∀ o, a = some o → belO 11 o = true) (bb : ∀ o, b = some o → belO 11 o = true) (bc : ∀ o, c = some o → belO 11 o = true) (bd : ∀ o, d = some o → belO 11 o = true) :
    Cut H 11 (Hs a b c d 11) := {
  next := rfl
  ng := hg.symm
  low := by omega
  le := hn
  sub k o h := by
    have e : (Hs a b c d 11).get k = if k = 10 then d else if k = 9 then c else if k = 8 then b else if k = 7 then a else none := by
      show (((((PT.nil.put 7 a).put 8 b).put 9 c).put 10 d) : PT AObj).get k = _
      rw [PT.get_put, PT.get_put, PT.get_put, PT.get_put, PT.get_nil]
    rw [e] at h
    split at h
    · rename_i e10; subst e10; exact ⟨h10.trans h, by omega, bd o h⟩
    · split at h
      · rename_i e9; subst e9; exact ⟨h9.trans h, by omega, bc o h⟩
      · split at h
        · rename_i e8; subst e8; exact ⟨h8.trans h, by omega, bb o h⟩
        · split at h
          · rename_i e7; subst e7; exact ⟨h7.trans h, by omega, ba o h⟩
          · cases h }

structure WS where
  k : Nat
  R : Int
  z : Nat

structure PS where
  i : Nat
  now : Int
  r : Nat
  A : Int

set_option maxRecDepth 100000 in
set_option maxHeartbeats 40000000 in
theorem paced_calls (hs : Sound Tryz.prog) (gs : List G5) (hok : ∀ g ∈ gs, g.ok) (sa : Option Addr) (cap : Nat) (a : Option AObj) (hin : InAt gs sa a) (half0 : Int) (hh0 : inI half0) (hlen : gs.length ≤ 9223372036854775807) :
    CallsA Tryz.prog 3 [.slice sa gs.length cap, .int .i64 half0] (Hs a none none none 8) fun v _ => v = .bool true := by
  have h0 := natB_good
  refine CallsA.of_wp Tryz.func3 rfl ?_
  refine wp_told 184 [(0, .slice sa gs.length cap), (1, .int .i64 half0)] rfl rfl ⟨rfl, rfl, trivial⟩ ?_
  refine Wp.seq (wp_reg hs h0 rfl ?_)
  simp only [thenA]
  refine Wp.seq (Wp.seq (wr_start (wr_callF rfl rfl rfl rfl rfl (lives_anywhere rfl) (wr_ev h0 1 rfl (wr_end ?_)))))
  simp only [thenA]
  refine Wp.cond (t := false) rfl (Wp.skip ?_)
  simp only [thenA]
  refine Wp.seq (wr_start (wr_ev h0 1 rfl (wr_call rfl rfl rfl rfl rfl rfl (gull_calls hs half0 39 _) ?_)))
  rintro _ _ ⟨rfl, rfl⟩
  have hg := gullN_pos half0 39 hh0
  generalize gullN half0 (Int.ofNat (39 + 1)) = g at hg
  obtain ⟨half, hhalf⟩ : ∃ half, half = 1 + g := ⟨_, rfl⟩
  have hh : 1 ≤ half ∧ half ≤ 40 := by omega
  have e1 := IntWalk.i64_in (1 + g) (by omega)
  refine wr_read (v := .int .i64 half) rfl rfl rfl rfl ((show _ = some (Value.int .i64 (IntKind.i64.wrap (1 + g))) from rfl).trans (by rw [e1, hhalf])) ?_
  refine wr_ev h0 3 rfl (wr_end ?_)
  simp only [thenA]
  refine wp_at 184 [(0, .slice sa gs.length cap), (5, p8)] (Hs a (some (lv 0 0 half 28)) none none 9) ⟨rfl, rfl, rfl, rfl, trivial⟩ rfl ?_
  refine Wp.seq (wr_start (wr_ev h0 4 rfl (wr_call rfl rfl rfl rfl rfl rfl (new_calls hs a _ none half hh) ?_)))
  rintro _ _ ⟨rfl, rfl⟩
  refine wr_ev h0 1 rfl (wr_end ?_)
  simp only [thenA]
  refine Wp.seq (wp_reg hs h0 rfl ?_)
  simp only [thenA]
  refine Wp.seq (Wp.seq (wp_reg hs h0 rfl ?_))
  simp only [thenA]
  refine Wp.cond (t := false) rfl (Wp.skip ?_)
  simp only [thenA]
  refine Wp.seq (Wp.seq (wp_reg hs h0 rfl ?_))
  simp only [thenA]
  refine Wp.block (Wp.loopS 184 (fun s : PS => [(0, .slice sa gs.length cap), (5, p8), (6, p9), (7, .int .i64 s.now), (8, .int .i64 s.i)]) (fun s => Hs a (some (lv s.r s.A half 28)) (some (lv s.r s.A half 53)) none 10)
    (fun s => s.i ≤ gs.length ∧ s.i ≤ 80 ∧ s.r ≤ infR ∧ 0 ≤ s.A ∧ s.A ≤ 1099511627776) (fun s => 80 - s.i) ⟨0, 0, 0, 0⟩ ⟨Nat.zero_le _, Nat.zero_le _, Nat.zero_le _, Int.le_refl 0, by decide⟩ ⟨rfl, rfl, rfl, rfl, rfl, rfl, rfl, trivial⟩ ?_)
  rintro ⟨i, now, r, A⟩ ⟨hi, hi80, hr, hA0, hA1⟩
  simp only at hi hi80 hr hA0 hA1 ⊢
  by_cases h1 : ¬ ((i : Int) < gs.length)
  · refine Wp.seq (Wp.seq (wr_start (wr_ev h0 3 rfl ((wr_read rfl rfl rfl rfl (ev_bool (b := decide ((i : Int) < gs.length)) rfl (decide_eq_false h1)) (wr_ev h0 4 rfl (wr_end ?_)))))))
    simp only [thenA]
    refine Wp.cond (t := false) rfl (Wp.exit ?_)
    simp only [thenA]
    refine blk_hit ?_
    simp only [thenA]
    refine Wp.seq (wp_reg hs h0 rfl ?_)
    simp only [thenA]
    exact Wp.ret ⟨.inr rfl, _, rfl, rfl⟩
  have h1 := Decidable.not_not.1 h1
  by_cases h2 : ¬ ((i : Int) < 80)
  · refine Wp.seq (Wp.seq (wr_start (wr_ev h0 3 rfl ((wr_read rfl rfl rfl rfl (ev_bool (b := decide ((i : Int) < gs.length)) rfl (decide_eq_true h1)) (wr_ev h0 2 rfl (wr_read rfl rfl rfl rfl (ev_bool (b := decide ((i : Int) < 80)) rfl (decide_eq_false h2)) (wr_ev h0 1 rfl (wr_end ?_)))))))))
    simp only [thenA]
    refine Wp.cond (t := false) rfl (Wp.exit ?_)
    simp only [thenA]
    refine blk_hit ?_
    simp only [thenA]
    refine Wp.seq (wp_reg hs h0 rfl ?_)
    simp only [thenA]
    exact Wp.ret ⟨.inr rfl, _, rfl, rfl⟩
  have h2 := Decidable.not_not.1 h2
  have hlt : i < gs.length := by omega
  obtain ⟨rfl, e7, ha⟩ : sa = some ⟨7, 0, none⟩ ∧ ∃ e, a = some (.row (cellsG gs) e 5 .ro) := by
    rcases hin with ⟨rfl, _⟩ | h
    · exact absurd hlt (by simp)
    · exact h
  refine Wp.seq (Wp.seq (wr_start (wr_ev h0 3 rfl (wr_read rfl rfl rfl rfl (ev_bool (b := decide ((i : Int) < gs.length)) rfl (decide_eq_true h1)) (wr_ev h0 2 rfl (wr_read rfl rfl rfl rfl (ev_bool (b := decide ((i : Int) < 80)) rfl (decide_eq_true h2)) (wr_ev h0 1 rfl (wr_end ?_))))))))
  simp only [thenA]
  refine Wp.cond (t := true) rfl (Wp.skip ?_)
  simp only [thenA]
  refine Wp.seq (Wp.join 184 (fun s : PS => [(0, .slice (some ⟨7, 0, none⟩) gs.length cap), (5, p8), (6, p9), (7, .int .i64 s.now), (8, .int .i64 i)]) (fun s => Hs a (some (lv s.r s.A half 28)) (some (lv s.r s.A half 53)) none 10)
    (fun s => s.r ≤ infR ∧ 0 ≤ s.A ∧ s.A ≤ 1099511627776) (Wp.block ?_) ?_)
  rotate_left
  · rintro ⟨_, now', r', A'⟩ ⟨q1, q2, q3⟩
    simp only [thenA]
    refine wp_reg hs h0 rfl ?_
    simp only [thenA]
    refine ⟨⟨i + 1, now', r', A'⟩, ⟨by show i + 1 ≤ _; omega, by show i + 1 ≤ _; omega, q1, q2, q3⟩, by show 80 - (i + 1) < 80 - i; omega, ⟨rfl, rfl, rfl, rfl, rfl, rfl, ?_, trivial⟩, rfl⟩
    show Value.int .i64 (IntKind.i64.wrap ((i : Int) + 1)) = _
    rw [IntWalk.i64_in _ (by omega)]
    rfl
  -- the round's body
  have hgok := hok _ (List.getElem_mem hlt)
  have hcut := cellsG_cut gs i hlt
  generalize gs[i] = g5 at hgok hcut
  obtain ⟨gd, ga, gb, gc, gu⟩ := g5
  obtain ⟨kd, ka, kb, kc, ku⟩ := hgok
  simp only at kd ka kb kc ku
  refine Wp.seq (wr_start (wr_ev h0 2 rfl (wr_read rfl rfl rfl rfl (rd_index (i := i) (k := 5) rfl rfl hlt rfl rfl) ?_)))
  refine wr_read rfl rfl rfl rfl (rd_load_agg rfl (show AHeap.get _ 7 = _ from ha) rfl rfl hcut) ?_
  refine wr_alloc (obj := .row [.int .i64 0, .int .i64 0, .int .i64 0, .int .i64 0, .int .i64 0] 32 5 .own) (hd := .ptr) (n := 10) rfl rfl rfl rfl rfl (by kernel_rfl) ?_
  refine wr_ev h0 1 rfl (wr_end ?_)
  simp only [thenA]
  have HH : ∃ gr, gr = some (gRow ⟨gd, ga, gb, gc, gu⟩) := ⟨_, rfl⟩
  refine wp_at 184 [(0, .slice (some ⟨7, 0, none⟩) gs.length cap), (5, p8), (6, p9), (7, .int .i64 now), (8, .int .i64 i), (9, p10)] (Hs a (some (lv r A half 28)) (some (lv r A half 53)) (some (gRow ⟨gd, ga, gb, gc, gu⟩)) 11) ⟨rfl, rfl, rfl, rfl, rfl, rfl, rfl, rfl, trivial⟩ rfl ?_
  -- now
  refine Wp.seq (wr_start (wr_ev h0 3 rfl (wr_call rfl rfl rfl rfl rfl rfl (gull_calls hs gc 59 _) ?_)))
  rintro _ _ ⟨rfl, rfl⟩
  generalize gullN gc (Int.ofNat (59 + 1)) = x1
  refine wr_ev h0 4 rfl (wr_end ?_)
  simp only [thenA]
  refine wp_at 184 [(0, .slice (some ⟨7, 0, none⟩) gs.length cap), (5, p8), (6, p9), (7, .int .i64 (maxI 0 (IntKind.i64.wrap (IntKind.i64.wrap (now + x1) - 6)))), (8, .int .i64 i), (9, p10)] (Hs a (some (lv r A half 28)) (some (lv r A half 53)) (some (gRow ⟨gd, ga, gb, gc, gu⟩)) 11) ⟨rfl, rfl, rfl, rfl, rfl, rfl, rfl, rfl, trivial⟩ rfl ?_
  generalize maxI 0 (IntKind.i64.wrap (IntKind.i64.wrap (now + x1) - 6)) = now1
  refine Wp.seq (wp_reg hs h0 rfl ?_)
  simp only [thenA]
  -- at
  refine Wp.seq (Wp.join 184 (fun at_ : Int => [(0, .slice (some ⟨7, 0, none⟩) gs.length cap), (5, p8), (6, p9), (7, .int .i64 now1), (8, .int .i64 i), (9, p10), (10, .int .i64 at_)]) (fun _ => Hs a (some (lv r A half 28)) (some (lv r A half 53)) (some (gRow ⟨gd, ga, gb, gc, gu⟩)) 11) (fun _ => True) ?_ ?_)
  · refine Wp.seq (wr_start (wr_ev h0 2 rfl (wr_call rfl rfl rfl rfl rfl rfl (gull_calls hs gu 22 _) ?_)))
    rintro _ _ ⟨rfl, rfl⟩
    generalize gullN gu (Int.ofNat (22 + 1)) = x2
    by_cases h3 : x2 = 22
    · refine wr_read rfl rfl rfl rfl (ev_bool (b := decide (x2 = 22)) rfl (decide_eq_true h3)) (wr_end ?_)
      simp only [thenA]
      refine Wp.cond (t := true) rfl ?_
      refine wr_start (wr_ev h0 2 rfl ?_)
      refine wr_alloc (obj := .row [.int .i64 (-5), .int .i64 1099511627776, .int .i64 1099511627785, .int .i64 (IntKind.i64.wrap (now1 + 100000))] 3 1 .own) (hd := .slice 4 4) (n := 11) rfl rfl rfl rfl rfl (by kernel_rfl) ?_
      refine wr_ev h0 2 rfl (wr_call rfl rfl rfl rfl rfl rfl (gull_calls hs gc 3 _) ?_)
      rintro _ _ ⟨rfl, rfl⟩
      have hz := gullN_pos gc 3 kc
      have hz2 : gullN gc (Int.ofNat (3 + 1)) = 0 ∨ gullN gc (Int.ofNat (3 + 1)) = 1 ∨ gullN gc (Int.ofNat (3 + 1)) = 2 ∨ gullN gc (Int.ofNat (3 + 1)) = 3 := by omega
      have bb : ∀ t, ∀ o, some (lv r A half t) = some o → belO 11 o = true := by rintro t _ ⟨⟩; rfl
      rcases hz2 with hz2 | hz2 | hz2 | hz2
      all_goals
        rw [hz2]
        refine wr_ev h0 3 rfl (wr_end ?_)
        refine ⟨rfl, _, trivial, ⟨rfl, rfl, rfl, rfl, rfl, rfl, rfl, rfl, rfl, trivial⟩, .inr ⟨cut_Hs11 rfl (show 11 ≤ 12 by omega) rfl rfl rfl rfl (fun o h => hin.bel 11 o h) (bb _) (bb _) (by rintro _ ⟨⟩; rfl), Nat.le_refl _, rfl⟩⟩
    · refine wr_read rfl rfl rfl rfl (ev_bool (b := decide (x2 = 22)) rfl (decide_eq_false h3)) (wr_end ?_)
      simp only [thenA]
      refine Wp.cond (t := false) rfl (Wp.skip ?_)
      exact ⟨rfl, _, trivial, ⟨rfl, rfl, rfl, rfl, rfl, rfl, rfl, rfl, rfl, trivial⟩, .inl rfl⟩
  rintro at1 -
  simp only [thenA]
  -- more, y
  refine Wp.seq (wr_start (wr_ev h0 4 rfl (wr_call rfl rfl rfl rfl rfl rfl (gullFloat_calls hs ga gb _ ka kb) ?_)))
  rintro _ _ ⟨more, rfl, rfl⟩
  refine wr_ev h0 1 rfl (wr_end ?_)
  simp only [thenA]
  have hAb : 0 ≤ A ∧ A ≤ 1099511627776 := ⟨hA0, hA1⟩
  have hh0 : half ≠ 0 := by omega
  refine Wp.seq (wr_start (wr_ev h0 2 rfl (wr_call rfl rfl rfl rfl rfl rfl (goes_calls hs a _ _ _ r A half at1 hr hh0) ?_)))
  rintro _ _ ⟨rfl, rfl⟩
  rw [← halves_min hr]
  have hr1 := halves_le (nP A half at1).toNat hr
  have hy := nowP_again (now := at1) hAb hh
  obtain ⟨hA2, hA3, _⟩ := atP_val (now := at1) hAb hh
  have hA4 := (nP_val (now := at1) hAb hh).2.1
  refine wr_ev h0 1 rfl (wr_end ?_)
  simp only [thenA]
  refine Wp.seq (wp_reg hs h0 rfl ?_)
  simp only [thenA]
  refine Wp.seq (Wp.seq (wr_start (wr_ev h0 2 rfl (wr_call rfl rfl rfl rfl rfl rfl (gull_calls hs gd 4 _) ?_))))
  rintro _ _ ⟨rfl, rfl⟩
  generalize gullN gd (Int.ofNat (4 + 1)) = m
  refine wr_end ?_
  simp only [thenA]
  generalize hr1e : halves (nP A half at1).toNat r = r1 at hr1
  generalize hA1e : atP A half at1 = A1 at hy hA2 hA3
  generalize hYe : nowP A at1 = Y at hy hA3 hA4
  have hle1 : A1 ≤ 1099511627776 := by omega
  have hle0 : 0 ≤ A1 := by omega
  refine wp_at 184 [(0, .slice (some ⟨7, 0, none⟩) gs.length cap), (5, p8), (6, p9), (7, .int .i64 now1), (8, .int .i64 i), (10, .int .i64 at1), (11, .float .f64 more), (12, .int .i64 Y), (13, .bool true), (75, .int .i64 m)] (Hs a (some (lv r1 A1 half 28)) (some (lv r A half 53)) (some (gRow ⟨gd, ga, gb, gc, gu⟩)) 11) ⟨rfl, rfl, rfl, rfl, rfl, rfl, rfl, rfl, rfl, rfl, rfl, rfl, trivial⟩ rfl ?_
  refine Wp.join 184 (fun _ : Nat => [(0, .slice (some ⟨7, 0, none⟩) gs.length cap), (5, p8), (6, p9), (7, .int .i64 now1), (8, .int .i64 i), (13, .bool true)]) (fun r' => Hs a (some (lv r' A1 half 28)) (some (lv r' A1 half 53)) (some (gRow ⟨gd, ga, gb, gc, gu⟩)) 11) (fun r' => r' ≤ infR) (Wp.block ?_) ?_
  rotate_left
  · -- behind the switch
    intro r' hr'
    simp only [thenA]
    refine Wp.seq (wd_start hs (B := #[0, 1, 3, 7, 15, 31, 63, 127, 255, 511, 1023, 2047, 4095, 8191, 1023, 17407, 50175, 115711, 262143, 524287]) (ord := [0, 1, 2, 3, 4, 5, 6, 7, 8, 9, 10, 11, 12, 13, 14, 15, 16, 17, 18, 19]) (by kernel_rfl) rfl ?_)
    refine wd_ev h0 7 rfl trivial (wd_read rfl rfl rfl rfl rfl (ev_bool (rd_fcmp (a := r') (b := 0) rfl rfl rfl) (order_nlt hr')) ?_)
    refine wd_ev h0 10 rfl trivial (wd_read rfl rfl rfl rfl rfl (ev_bool (rd_fcmp (a := r') (b := r') rfl rfl rfl) (order_neq hr')) ?_)
    refine wd_ev h0 1 rfl trivial (wd_end ?_)
    simp only [thenA]
    refine Wp.cond (t := false) rfl (Wp.skip ?_)
    exact ⟨rfl, ⟨0, now1, r', A1⟩, ⟨hr', hle0, hle1⟩, ⟨rfl, rfl, rfl, rfl, rfl, rfl, rfl, trivial⟩, .inr ⟨cut_Hs rfl (show 10 ≤ 11 by omega) rfl rfl rfl (fun o h => hin.bel 10 o h) (by rintro _ ⟨⟩; rfl) (by rintro _ ⟨⟩; rfl), Nat.le_refl _, rfl⟩⟩
  -- which way
  refine Wp.seq (Wp.join 184 (fun b : Bool => [(0, .slice (some ⟨7, 0, none⟩) gs.length cap), (5, p8), (6, p9), (7, .int .i64 now1), (8, .int .i64 i), (10, .int .i64 at1), (11, .float .f64 more), (12, .int .i64 Y), (13, .bool true), (75, .int .i64 m), (113, .bool b)]) (fun _ => Hs a (some (lv r1 A1 half 28)) (some (lv r A half 53)) (some (gRow ⟨gd, ga, gb, gc, gu⟩)) 11) (fun b => b = decide (m = 0 ∨ m = 1)) ?_ ?_)
  · by_cases m0 : m = 0
    · refine Wp.seq (wr_start (wr_read rfl rfl rfl rfl (ev_bool (b := decide (m = 0)) rfl (decide_eq_true m0)) (wr_ev h0 1 rfl (wr_end ?_))))
      simp only [thenA]
      refine Wp.cond (t := true) rfl (Wp.skip ?_)
      exact ⟨rfl, true, by simp [m0], ⟨rfl, rfl, rfl, rfl, rfl, rfl, rfl, rfl, rfl, rfl, rfl, rfl, rfl, trivial⟩, .inl rfl⟩
    · refine Wp.seq (wr_start (wr_read rfl rfl rfl rfl (ev_bool (b := decide (m = 0)) rfl (decide_eq_false m0)) (wr_ev h0 1 rfl (wr_end ?_))))
      simp only [thenA]
      refine Wp.cond (t := false) rfl ?_
      by_cases m1 : m = 1
      · refine wr_start (wr_read rfl rfl rfl rfl (ev_bool (b := decide (m = 1)) rfl (decide_eq_true m1)) (wr_ev h0 1 rfl (wr_end ?_)))
        exact ⟨rfl, true, by simp [m1], ⟨rfl, rfl, rfl, rfl, rfl, rfl, rfl, rfl, rfl, rfl, rfl, rfl, rfl, trivial⟩, .inl rfl⟩
      · refine wr_start (wr_read rfl rfl rfl rfl (ev_bool (b := decide (m = 1)) rfl (decide_eq_false m1)) (wr_ev h0 1 rfl (wr_end ?_)))
        exact ⟨rfl, false, by simp [m0, m1], ⟨rfl, rfl, rfl, rfl, rfl, rfl, rfl, rfl, rfl, rfl, rfl, rfl, rfl, trivial⟩, .inl rfl⟩
  intro b hb
  simp only [thenA]
  clear hb
  cases b with
  | true =>
    refine Wp.cond (t := true) rfl ?_
    refine Wp.seq (Wp.join 184 (fun _ : Unit => [(0, .slice (some ⟨7, 0, none⟩) gs.length cap), (5, p8), (6, p9), (7, .int .i64 now1), (8, .int .i64 i), (10, .int .i64 at1), (11, .float .f64 more), (12, .int .i64 Y), (13, .bool true), (75, .int .i64 m)]) (fun _ => Hs a (some (lv (addR r1 more) A1 half 28)) (some (lv r A half 53)) (some (gRow ⟨gd, ga, gb, gc, gu⟩)) 11) (fun _ => True) ?_ ?_)
    · by_cases hm : fcmp .gtr more 0 = true
      · have hadd := addR_gt hr1 hm
        generalize addR r1 more = r2 at hadd
        refine Wp.seq (wr_start (wr_ev h0 1 rfl (wr_read rfl rfl rfl rfl (ev_bool (rd_fcmp (a := more) (b := 0) rfl rfl rfl) hm) (wr_end ?_))))
        simp only [thenA]
        refine Wp.cond (t := true) rfl ?_
        refine wr_start (wr_ev h0 6 rfl (wr_read rfl rfl rfl rfl (rd_fadd (a := r1) (b := more) rfl rfl hadd) (wr_ev h0 3 rfl (wr_end ?_))))
        exact ⟨rfl, (), trivial, ⟨rfl, rfl, rfl, rfl, rfl, rfl, rfl, rfl, rfl, rfl, rfl, rfl, trivial⟩, .inl rfl⟩
      · have hm' : fcmp .gtr more 0 = false := by simpa using hm
        have hadd : addR r1 more = r1 := by unfold addR; rw [if_neg hm]
        rw [hadd]
        refine Wp.seq (wr_start (wr_ev h0 1 rfl (wr_read rfl rfl rfl rfl (ev_bool (rd_fcmp (a := more) (b := 0) rfl rfl rfl) hm') (wr_end ?_))))
        simp only [thenA]
        refine Wp.cond (t := false) rfl (Wp.skip ?_)
        exact ⟨rfl, (), trivial, ⟨rfl, rfl, rfl, rfl, rfl, rfl, rfl, rfl, rfl, rfl, rfl, rfl, trivial⟩, .inl rfl⟩
    rintro - -
    simp only [thenA]
    have hr2 := addR_le (y := more) hr1
    have cAdd := add_calls hs a (some (lv (addR r1 more) A1 half 28)) (some (gRow ⟨gd, ga, gb, gc, gu⟩)) 11 half r more A at1 hr hh0
    rw [hr1e, hA1e] at cAdd
    generalize addR r1 more = r2 at hr2 cAdd
    refine wd_start hs (B := #[0, 0, 0, 7, 15, 0, 32, 96, 224, 511, 1023, 2047]) (ord := [0, 1, 2, 5, 6, 7, 8, 3, 4, 9, 10, 11]) (by kernel_rfl) rfl ?_
    refine wd_ev h0 7 rfl trivial (wd_call rfl rfl rfl rfl rfl rfl rfl cAdd ?_)
    rintro _ _ ⟨rfl, rfl⟩
    refine ⟨(by repeat (first | exact Obl.nil | refine Obl.read rfl rfl rfl ?_ | refine Obl.skip (by kernel_rfl) ?_)), ?_⟩
    refine wd_ev h0 2 rfl ⟨(by repeat (first | exact Obl.nil | refine Obl.read rfl rfl rfl ?_ | refine Obl.skip (by kernel_rfl) ?_)), (by repeat (first | exact Obl.nil | refine Obl.read rfl rfl rfl ?_ | refine Obl.skip (by kernel_rfl) ?_)), trivial⟩ ?_
    refine wd_read rfl rfl rfl rfl rfl (ev_bool (b := decide ((r2 : Int) = r2)) rfl (decide_eq_true rfl)) (wd_ev h0 1 rfl trivial (wd_end ?_))
    exact ⟨rfl, r2, hr2, ⟨rfl, rfl, rfl, rfl, rfl, rfl, rfl, rfl, trivial⟩, .inl rfl⟩
  | false =>
    refine Wp.cond (t := false) rfl ?_
    by_cases m2 : m = 2
    · refine Wp.seq (wr_start (wr_read rfl rfl rfl rfl (ev_bool (b := decide (m = 2)) rfl (decide_eq_true m2)) (wr_ev h0 1 rfl (wr_end ?_))))
      simp only [thenA]
      refine Wp.cond (t := true) rfl ?_
      have cLev := level_calls hs a (some (lv r1 A1 half 28)) (some (gRow ⟨gd, ga, gb, gc, gu⟩)) 11 half r A at1 hr hh0
      rw [hr1e, hA1e] at cLev
      refine wd_start hs (B := #[0, 0, 3, 7, 0, 16, 48, 112, 255, 511, 1023]) (ord := [0, 1, 4, 5, 6, 7, 2, 3, 8, 9, 10]) (by kernel_rfl) rfl ?_
      refine wd_ev h0 6 rfl trivial (wd_call rfl rfl rfl rfl rfl rfl rfl cLev ?_)
      rintro _ _ ⟨rfl, rfl⟩
      refine ⟨(by repeat (first | exact Obl.nil | refine Obl.read rfl rfl rfl ?_ | refine Obl.skip (by kernel_rfl) ?_)), ?_⟩
      refine wd_ev h0 2 rfl ⟨(by repeat (first | exact Obl.nil | refine Obl.read rfl rfl rfl ?_ | refine Obl.skip (by kernel_rfl) ?_)), (by repeat (first | exact Obl.nil | refine Obl.read rfl rfl rfl ?_ | refine Obl.skip (by kernel_rfl) ?_)), trivial⟩ ?_
      refine wd_read rfl rfl rfl rfl rfl (ev_bool (b := decide ((r1 : Int) = r1)) rfl (decide_eq_true rfl)) (wd_ev h0 1 rfl trivial (wd_end ?_))
      exact ⟨rfl, r1, hr1, ⟨rfl, rfl, rfl, rfl, rfl, rfl, rfl, rfl, trivial⟩, .inl rfl⟩
    · refine Wp.seq (wr_start (wr_read rfl rfl rfl rfl (ev_bool (b := decide (m = 2)) rfl (decide_eq_false m2)) (wr_ev h0 1 rfl (wr_end ?_))))
      simp only [thenA]
      refine Wp.cond (t := false) rfl ?_
      by_cases m3 : m = 3
      · refine Wp.seq (wr_start (wr_read rfl rfl rfl rfl (ev_bool (b := decide (m = 3)) rfl (decide_eq_true m3)) (wr_ev h0 1 rfl (wr_end ?_))))
        simp only [thenA]
        refine Wp.cond (t := true) rfl ?_
        have cOv := over_calls hs a (some (lv r1 A1 half 28)) (some (gRow ⟨gd, ga, gb, gc, gu⟩)) 11 half r more A at1 hr hh0
        rw [hr1e, hA1e] at cOv
        refine wd_start hs (B := #[0, 0, 0, 7, 0, 16, 48, 112, 0, 496, 1008, 2047, 4095]) (ord := [0, 1, 2, 4, 5, 6, 7, 8, 9, 10, 3, 11, 12]) (by kernel_rfl) rfl ?_
        refine wd_ev h0 8 rfl trivial (wd_read rfl rfl rfl rfl rfl (rd_fcmp (a := r1) (b := more) rfl rfl rfl) ?_)
        refine wd_ev h0 1 rfl trivial (wd_call rfl rfl rfl rfl rfl rfl rfl cOv ?_)
        rintro _ _ ⟨rfl, rfl⟩
        refine ⟨(by repeat (first | exact Obl.nil | refine Obl.read rfl rfl rfl ?_ | refine Obl.read rfl rfl (rd_fcmp (a := r1) (b := more) rfl rfl rfl) ?_ | refine Obl.skip (by kernel_rfl) ?_)), ?_⟩
        generalize fcmp .leq r1 more = q
        refine wd_read (v := .bool true) rfl rfl rfl rfl rfl (by cases q <;> rfl) (wd_ev h0 1 rfl trivial (wd_end ?_))
        exact ⟨rfl, r1, hr1, ⟨rfl, rfl, rfl, rfl, rfl, rfl, rfl, rfl, trivial⟩, .inl rfl⟩
      · refine Wp.seq (wr_start (wr_read rfl rfl rfl rfl (ev_bool (b := decide (m = 3)) rfl (decide_eq_false m3)) (wr_ev h0 1 rfl (wr_end ?_))))
        simp only [thenA]
        refine Wp.cond (t := false) rfl ?_
        refine Wp.seq (wd_start hs (B := #[0, 1, 3, 7, 0, 31]) (ord := [0, 1, 2, 3, 4, 5]) (by kernel_rfl) rfl ?_)
        refine wd_ev h0 6 rfl trivial (wd_end ?_)
        simp only [thenA]
        refine Wp.seq (Wp.join 184 (fun R : Int => [(0, .slice (some ⟨7, 0, none⟩) gs.length cap), (5, p8), (6, p9), (7, .int .i64 now1), (8, .int .i64 i), (10, .int .i64 at1), (11, .float .f64 more), (12, .int .i64 Y), (13, .bool true), (14, .int .i64 R)]) (fun _ => Hs a (some (lv r1 A1 half 28)) (some (lv r A half 53)) (some (gRow ⟨gd, ga, gb, gc, gu⟩)) 11) (fun R => WaitIs 2200 r1 more A1 half Y R) ?_ ?_)
        rotate_left
        · intro R hW
          simp only [thenA]
          have cWait := wait_calls hs a (some (lv r1 A1 half 28)) (some (gRow ⟨gd, ga, gb, gc, gu⟩)) 11 half r more A at1 hr hh0
          rw [hr1e, hA1e, hy] at cWait
          refine wr_start (wr_ev h0 3 rfl (wr_call rfl rfl rfl rfl rfl rfl cWait ?_))
          rintro _ _ ⟨R2, rfl, hW2, rfl⟩
          have hRR := wait_unique hr1 hW2 hW
          subst hRR
          refine wr_ev h0 1 rfl (wr_read rfl rfl rfl rfl (ev_bool (b := decide (R2 = R2)) rfl (decide_eq_true rfl)) (wr_ev h0 1 rfl (wr_end ?_)))
          exact ⟨rfl, r1, hr1, ⟨rfl, rfl, rfl, rfl, rfl, rfl, rfl, rfl, trivial⟩, .inl rfl⟩
        refine Wp.seq (wp_reg hs h0 rfl ?_)
        simp only [thenA]
        refine Wp.block (Wp.loopS 184 (fun s : WS => [(0, .slice (some ⟨7, 0, none⟩) gs.length cap), (5, p8), (6, p9), (7, .int .i64 now1), (8, .int .i64 i), (10, .int .i64 at1), (11, .float .f64 more), (12, .int .i64 Y), (13, .bool true), (14, .int .i64 s.R), (15, .float .f64 s.z), (16, .int .i64 s.k)]) (fun _ => Hs a (some (lv r1 A1 half 28)) (some (lv r A half 53)) (some (gRow ⟨gd, ga, gb, gc, gu⟩)) 11)
          (fun s => s.k ≤ 2201 ∧ s.z ≤ infR ∧ ((s.R = -1 ∧ s.z = halves s.k r1 ∧ ∀ j, j < s.k → fcmp .leq (halves j r1) more = false) ∨ (0 ≤ s.R ∧ WaitIs 2200 r1 more A1 half Y s.R))) (fun s => 2201 - s.k) ⟨0, -1, r1⟩
          ⟨Nat.zero_le _, hr1, .inl ⟨rfl, rfl, fun j hj => absurd hj (Nat.not_lt_zero j)⟩⟩ ⟨rfl, rfl, rfl, rfl, rfl, rfl, rfl, rfl, rfl, rfl, rfl, rfl, rfl, rfl, trivial⟩ ?_)
        rintro ⟨k, R, z⟩ ⟨hk, hz, hkR⟩
        simp only at hk hz hkR ⊢
        by_cases c1 : ¬ ((k : Int) ≤ 2200)
        · refine Wp.seq (Wp.seq (wr_start (wr_ev h0 1 rfl (wr_read rfl rfl rfl rfl (ev_bool (b := decide ((k : Int) ≤ 2200)) rfl (decide_eq_false c1)) (wr_ev h0 4 rfl (wr_end ?_))))))
          simp only [thenA]
          refine Wp.cond (t := false) rfl (Wp.exit ?_)
          simp only [thenA]
          refine blk_hit ?_
          refine ⟨rfl, R, ?_, ⟨rfl, rfl, rfl, rfl, rfl, rfl, rfl, rfl, rfl, rfl, rfl, rfl, trivial⟩, .inl rfl⟩
          rcases hkR with ⟨rfl, _, hj⟩ | ⟨_, hW⟩
          · exact .inr ⟨fun j hj' => hj j (by omega), rfl⟩
          · exact hW
        have c1 := Decidable.not_not.1 c1
        by_cases c2 : ¬ (R < 0)
        · refine Wp.seq (Wp.seq (wr_start (wr_ev h0 1 rfl (wr_read rfl rfl rfl rfl (ev_bool (b := decide ((k : Int) ≤ 2200)) rfl (decide_eq_true c1)) (wr_ev h0 2 rfl (wr_read rfl rfl rfl rfl (ev_bool (b := decide (R < 0)) rfl (decide_eq_false c2)) (wr_ev h0 1 rfl (wr_end ?_))))))))
          simp only [thenA]
          refine Wp.cond (t := false) rfl (Wp.exit ?_)
          simp only [thenA]
          refine blk_hit ?_
          refine ⟨rfl, R, ?_, ⟨rfl, rfl, rfl, rfl, rfl, rfl, rfl, rfl, rfl, rfl, rfl, rfl, trivial⟩, .inl rfl⟩
          rcases hkR with ⟨rfl, _, hj⟩ | ⟨_, hW⟩
          · exact absurd (by decide) c2
          · exact hW
        have c2 := Decidable.not_not.1 c2
        obtain ⟨rfl, rfl, hj⟩ : R = -1 ∧ z = halves k r1 ∧ ∀ j, j < k → fcmp .leq (halves j r1) more = false := by
          rcases hkR with h | ⟨h, _⟩
          · exact h
          · omega
        refine Wp.seq (Wp.seq (wr_start (wr_ev h0 1 rfl (wr_read rfl rfl rfl rfl (ev_bool (b := decide ((k : Int) ≤ 2200)) rfl (decide_eq_true c1)) (wr_ev h0 4 rfl (wr_end ?_))))))
        simp only [thenA]
        refine Wp.cond (t := true) rfl (Wp.skip ?_)
        simp only [thenA]
        refine Wp.seq (Wp.block ?_)
        by_cases c3 : fcmp .leq (halves k r1) more = true
        · refine Wp.seq (Wp.seq (wr_start (wr_ev h0 2 rfl (wr_read rfl rfl rfl rfl (ev_bool (rd_fcmp (a := halves k r1) (b := more) rfl rfl rfl) c3) (wr_end ?_)))))
          simp only [thenA]
          refine Wp.cond (t := true) rfl ?_
          refine wd_start hs (B := #[0, 1, 3, 7, 0, 0, 32, 96, 224, 496, 1023, 0, 4095, 8191, 16383]) (ord := [0, 1, 2, 3, 4, 5, 6, 7, 8, 9, 10, 11, 12, 13, 14]) (by kernel_rfl) rfl ?_
          refine wd_ev h0 15 rfl trivial (wd_end ?_)
          simp only [thenA]
          refine wp_at 184 [(0, .slice (some ⟨7, 0, none⟩) gs.length cap), (5, p8), (6, p9), (7, .int .i64 now1), (8, .int .i64 i), (10, .int .i64 at1), (11, .float .f64 more), (12, .int .i64 Y), (13, .bool true), (14, .int .i64 (maxI 0 (valP A1 half Y k))), (15, .float .f64 (halves k r1)), (16, .int .i64 k)] (Hs a (some (lv r1 A1 half 28)) (some (lv r A half 53)) (some (gRow ⟨gd, ga, gb, gc, gu⟩)) 11) ⟨rfl, rfl, rfl, rfl, rfl, rfl, rfl, rfl, rfl, rfl, rfl, rfl, rfl, rfl, trivial⟩ rfl ?_
          refine wr_start (wr_ev h0 1 rfl (wr_read rfl rfl rfl rfl (rd_fdiv (a := halves k r1) (b := two) rfl rfl (div_two hz)) (wr_ev h0 1 rfl (wr_end ?_))))
          simp only [inBlockA, thenA]
          refine wp_reg hs h0 rfl ?_
          simp only [thenA]
          refine ⟨⟨k + 1, maxI 0 (valP A1 half Y k), halfR (halves k r1)⟩, ⟨by show k + 1 ≤ 2201; omega, halfR_le hz, .inr ⟨by show 0 ≤ maxI 0 _; unfold maxI; split <;> omega, .inl ⟨k, by omega, hj, c3, (maxI_comm _).symm⟩⟩⟩, by show 2201 - (k + 1) < 2201 - k; omega, ⟨rfl, rfl, rfl, rfl, rfl, rfl, rfl, rfl, rfl, rfl, rfl, rfl, rfl,  ?_, trivial⟩, by first | rfl | trivial⟩
          show Value.int .i64 (IntKind.i64.wrap ((k : Int) + 1)) = _
          rw [IntWalk.i64_in _ (by omega)]
          rfl
        · have c3' : fcmp .leq (halves k r1) more = false := by simpa using c3
          refine Wp.seq (Wp.seq (wr_start (wr_ev h0 2 rfl (wr_read rfl rfl rfl rfl (ev_bool (rd_fcmp (a := halves k r1) (b := more) rfl rfl rfl) c3') (wr_end ?_)))))
          simp only [thenA]
          refine Wp.cond (t := false) rfl (Wp.skip ?_)
          simp only [thenA]
          refine wr_start (wr_ev h0 1 rfl (wr_read rfl rfl rfl rfl (rd_fdiv (a := halves k r1) (b := two) rfl rfl (div_two hz)) (wr_ev h0 1 rfl (wr_end ?_))))
          simp only [inBlockA, thenA]
          refine wp_reg hs h0 rfl ?_
          simp only [thenA]
          refine ⟨⟨k + 1, -1, halfR (halves k r1)⟩, ⟨by show k + 1 ≤ 2201; omega, halfR_le hz, .inl ⟨rfl, (halves_succ _ _).symm, fun j hj' => ?_⟩⟩, by show 2201 - (k + 1) < 2201 - k; omega, ⟨rfl, rfl, rfl, rfl, rfl, rfl, rfl, rfl, rfl, rfl, rfl, rfl, rfl,  ?_, trivial⟩, by first | rfl | trivial⟩
          · by_cases e : j = k
            · rw [e]; exact c3'
            · have : j < k + 1 := hj'
              exact hj j (by omega)
          · show Value.int .i64 (IntKind.i64.wrap ((k : Int) + 1)) = _
            rw [IntWalk.i64_in _ (by omega)]
            rfl
end Go.AH

