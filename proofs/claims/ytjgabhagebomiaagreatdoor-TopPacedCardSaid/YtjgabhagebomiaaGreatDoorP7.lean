/- TopPaced returns true for every input, and leaves its input as it is. Conditions: the listed package-level variables read as the program's text lays them (the card ties them). -/
import Derived.Test.YtjgabhagebomiaaGreatDoorCards
import Derived.Test.YtjgabhagebomiaaGreatDoorTie
import Derived.WalkKit
import Derived.ProofKit
import Derived.OpenShut
import Derived.Below
import Derived.Deep.DeepHandedRow
import Derived.Test.YtjgabhagebomiaaGreatDoorP6
namespace Go.Proofs.YtjgabhagebomiaaGreatDoor.Paced
open Go.ChangeShapes Go.WideShapes Go.ChangeAt Go.RowKit Go.AH

theorem own : ownKnob Tryz.prog.godebug = none := by kernel_rfl
theorem laidOut : laidOutB Tryz.prog = true := by kernel_rfl
theorem sixth : Tryz.prog.globalNamed "math/bits.deBruijn64tab" = some 6 := by kernel_rfl

theorem size7 {W : World} (h : laidMetH Tryz.prog Rows.topPacedRow.laid W) : 7 ≤ W.heap.size := by
  rw [MakeChecks.laidMetH_plain _ _ _ (by kernel_rfl)] at h
  obtain ⟨ps, ⟨g0, t0, cs0, f0, p0, q0, hg0, ht0, hv0, hd0, ⟨g1, t1, cs1, f1, p1, q1, hg1, ht1, hv1, hd1, _, _⟩, _⟩, _, _⟩ := h
  unfold World.var? at hv1
  rw [sixth] at hv1
  simp only [Option.bind_some] at hv1
  split at hv1
  · rename_i c e f hh
    have := (Array.getElem?_eq_some_iff.1 hh).1
    omega
  · cases hv1

theorem gullTy : ∃ fs, GullTy Tryz.prog 22 32 3 fs :=
  ⟨_, Tryz.underlying22, Tryz.underlying32, by kernel_rfl, rfl, fun i f h => by
    match i, h with
    | 0, h => cases h; exact ⟨rfl, rfl⟩
    | 1, h => cases h; exact ⟨rfl, rfl⟩
    | 2, h => cases h; exact ⟨rfl, rfl⟩
    | 3, h => cases h; exact ⟨rfl, rfl⟩
    | 4, h => cases h; exact ⟨rfl, rfl⟩
    | i + 5, h => simp at h, Tryz.underlying3, by kernel_rfl⟩

theorem bareHs (a : Option AObj) : Bare7 a (Hs a none none none 8) := ⟨rfl, rfl, fun b => by
  show (((((PT.nil.put 7 a).put 8 none).put 9 none).put 10 none) : PT AObj).get b = _
  rw [PT.get_put, PT.get_put, PT.get_put, PT.get_put, PT.get_nil]
  by_cases h7 : b = 7
  · subst h7; rfl
  · rw [if_neg h7]
    repeat (first | rfl | split)⟩

set_option maxRecDepth 100000 in
/-- What the walk gives, for every argument. -/
theorem contract (H : Type) (enc : TypeId × Value → H) (W : World) (base : Nat) (args : Array Value) (ds gs : List (DataW H)) (before : List MemPlace)
    (hval : ∀ (j : Nat) t v, Tryz.f3.params[j]? = some t → args[j]? = some v → Value.okWide Tryz.prog W .any base t v)
    (hW : DataW.Whole enc Tryz.prog Tryz.f3.params.toList Rows.topPacedSpec.vars false W args.toList ds gs before) (hL : laidMetH Tryz.prog Rows.topPacedRow.laid W) :
    Calls Tryz.prog 3 args W fun e W' => ∃ v, e = .returned v ∧ Rows.topPacedSpec.post enc Tryz.prog Tryz.f3 false true false false W args v W' := by
  have hW' := hW
  obtain ⟨p, q, hA0, hV, rfl, hfz, hnd⟩ := hW
  have hA : DataW.TrodAll enc Tryz.prog W 0 (fun _ => true) true Tryz.f3.params.toList args.toList ds p := hA0
  rw [Tryz.params3] at hA hval
  obtain ⟨v0, vs0, d0, ds0, p0, q0, hargs, rfl, rfl, h0, r0⟩ := trodAll_cons hA
  obtain ⟨v1, vs1, d1, ds1, p1, q1, rfl, rfl, rfl, h1, r1⟩ := trodAll_cons r0
  obtain ⟨rfl, rfl, rfl⟩ := trodAll_nil r1
  obtain rfl : args = #[v0, v1] := by cases args; simp_all
  obtain ⟨rfl, rfl⟩ := trodVars_none hV
  have k0 := h0
  have lt0 : ∀ x ∈ p0, x.block < W.heap.size := by obtain ⟨m, hm⟩ := k0; exact DataW.trod_lt m _ _ _ hm
  obtain ⟨a1, rfl, rfl, rfl, w1⟩ := open_int Tryz.underlying3 (hval 1 3 v1 rfl rfl) h1
  obtain ⟨a0, len0, cap0, rfl⟩ := okWide_slice Tryz.underlying22 (hval 0 22 v0 rfl rfl)
  obtain ⟨fs, ty⟩ := gullTy
  obtain ⟨fuel, hf⟩ := h0
  obtain ⟨gl, sa, cap, a, φ, st⟩ := starts ty (size7 hL) hf
  clear hA0
  have hc := paced_calls sound_prog gl st.ok sa cap a st.inn a1 (wf_inI w1) st.len
  refine (hc φ W _ (st.rel _ (bareHs a)) (.cons st.vr (.cons (.int _ _) .nil))).mono ?_
  rintro e W' ⟨φ', v, v', H', rfl, rfl, hv, _, hp⟩
  cases hv
  have bel := below_of_post hp (fun r => st.own _ r (bareHs a))
  exact ⟨_, rfl, _, _, _, [], _, [], hW', trodAll_mk1 (shut_bool Tryz.underlying4 _), (trodAll_cons_mk (Below.trod laidOut (by kernel_rfl) (of_decide_eq_true (by kernel_rfl)) k0 bel lt0) (trodAll_cons_mk (shut_int Tryz.underlying3 w1) trodAll_mk0)), rfl, bel.frame _, fun h => by cases h⟩

end Go.Proofs.YtjgabhagebomiaaGreatDoor.Paced

