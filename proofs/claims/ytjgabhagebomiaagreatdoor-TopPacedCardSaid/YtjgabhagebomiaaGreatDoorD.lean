/- A part of the proof: TwA21, TwN2, TwA22, TwA23, TwA24. -/
import Derived.Test.YtjgabhagebomiaaGreatDoorG
import Derived.Test.YtjgabhagebomiaaGreatDoorN
namespace Go.AH
open Go

/-! ## The same, in structures (an elaborator that meets a great program's name unfolds less) -/

structure NatOk (P : Program) (call : CallF) : Prop where
  ok : CallOk P call

structure Answers (P : Program) (f : FuncId) (args : List Value) (H : AHeap) (v : Value) (H' : AHeap) : Prop where
  ok : CallsF P f args H fun v' H'' => v' = v ∧ H'' = H'

structure Sound (P : Program) : Prop where
  mixed : P.follows .mixedOrders = true
  noGor : noGor P = true

theorem NatOk.orc {P : Program} {g0 : FuncId} {a0 : List Value} {S : AHeap} {v : Value} {S' : AHeap} {nat : CallF} (hn : NatOk P nat) (h : Answers P g0 a0 S v S') : NatOk P (orc g0 a0 S v S' nat) :=
  ⟨orc_ok hn.ok h.ok⟩

theorem Answers.of_told {P : Program} (hs : Sound P) {n : CallF} (hn : NatOk P n) {N : Nat} {g : FuncId} {a : List Value} {S : AHeap} {v : Value} {S' : AHeap}
    (h : told (evFn P n (ev P n N) g a S) v S' = true) : Answers P g a S v S' :=
  ⟨evFn_sound hs.noGor hn.ok (ev_both hs.mixed hs.noGor hn.ok N).1 _ _ _ _ _ (told_eq h)⟩

end Go.AH

namespace Go.AH
open Go

/-- The functions of the seat's program that have no body of their own, or are taken whole. -/
def natA : CallF := natIdx 305 (natSame 307 (natLoad 381 .u32 (natStore 391 (natCas 396 .i32 (natAdd 401 .i32 (natMark 395 (natMark 397 (natMarked 398 (natMarked 400 (natSortI 98 168 3 natNone))))))))))

theorem natA_ok {P : Program} (h563 : ExtOk P 305 Extern.BytealgIndexByte.indexByte) (h487 : ExtOk P 307 Extern.AbiNoEscape.same) (h668 : ExtOk P 381 (Extern.Atomic.loadT (.int .u32))) (h703 : ExtOk P 391 Extern.Atomic.storeT)
    (h719 : ExtOk P 396 (Extern.Atomic.casT (.int .i32))) (h724 : ExtOk P 401 (Extern.Atomic.update (Op.intArith .add) .i32 true)) (h718 : ExtOk P 395 (fun _ => do Go.mark .disable; pure Extern.Race.none_))
    (h720 : ExtOk P 397 (fun _ => do Go.mark .enable; pure Extern.Race.none_)) (h721 : ExtOk P 398 (Extern.Race.marked .acquire)) (h723 : ExtOk P 400 (Extern.Race.marked .releaseMerge))
    (hb : bodied P 98 = true) (hT : P.underlying 3 = some (.int .i64)) (hs : SortedSaid P 98 168 3) : CallOk P natA :=
  natIdx_ok (natSame_ok (natLoad_ok (natStore_ok (natCas_ok (natAdd_ok (natMark_ok (natMark_ok (natMarked_ok (natMarked_ok (natSortI_ok (natNone_ok P) hb hT hs) h723) h721) h720) h718) h724) h719) h703) h668) h487) h563

theorem natA_good {P : Program} (h563 : ExtOk P 305 Extern.BytealgIndexByte.indexByte) (h487 : ExtOk P 307 Extern.AbiNoEscape.same) (h668 : ExtOk P 381 (Extern.Atomic.loadT (.int .u32))) (h703 : ExtOk P 391 Extern.Atomic.storeT)
    (h719 : ExtOk P 396 (Extern.Atomic.casT (.int .i32))) (h724 : ExtOk P 401 (Extern.Atomic.update (Op.intArith .add) .i32 true)) (h718 : ExtOk P 395 (fun _ => do Go.mark .disable; pure Extern.Race.none_))
    (h720 : ExtOk P 397 (fun _ => do Go.mark .enable; pure Extern.Race.none_)) (h721 : ExtOk P 398 (Extern.Race.marked .acquire)) (h723 : ExtOk P 400 (Extern.Race.marked .releaseMerge))
    (hb : bodied P 98 = true) (hT : P.underlying 3 = some (.int .i64)) (hs : SortedOk P 98 168 3) : NatOk P natA := ⟨natA_ok h563 h487 h668 h703 h719 h724 h718 h720 h721 h723 hb hT hs.ok⟩
end Go.AH

namespace Go.AH
open Go Go.RowKit

/-! ## A closed call, wherever it stands -/

/-- The heap that has nothing but its package-level variables, of which nothing is known. -/
def bare (n : Nat) : AHeap := ⟨.nil, n, n⟩

theorem bare_get (n b : Nat) : (bare n).get b = none := PT.get_nil b

theorem Rel.bare {φ : Places} {H : AHeap} {w : World} (hr : Rel φ H w) : Rel (fun b => if b < H.ng then φ b else none) (bare H.ng) w := {
  glob g hg := by
    obtain ⟨p, h1, h2⟩ := hr.glob g hg
    have hg' : g < H.ng := hg
    exact ⟨p, by simp only [if_pos hg']; exact h1, h2⟩
  fresh b hb := if_neg (by have : H.ng ≤ b := hb; omega)
  lt b p hp := by
    by_cases h : b < H.ng
    · simp only [if_pos h] at hp; exact hr.lt b p hp
    · simp only [if_neg h] at hp; cases hp
  dom b o h := by rw [bare_get] at h; cases h
  live b o p h := by rw [bare_get] at h; cases h
  inj b b' o o' p p' h := by rw [bare_get] at h; cases h }

theorem L2.of_atoms {φ : Places} : ∀ {l : List Value}, l.all atom = true → L2 (VR φ) l l
  | [], _ => .nil
  | x :: l, h => by
    simp only [List.all_cons, Bool.and_eq_true] at h
    exact .cons (.of_atom h.1) (L2.of_atoms h.2)

/-- What a closed call answers with an atom, it answers at every heap, and leaves that heap as it is. -/
theorem Answers.anywhere {P : Program} {f : FuncId} {args : List Value} {v : Value} {n : Nat} {S' : AHeap} (h : Answers P f args (bare n) v S') (ha : args.all atom = true) (hv : atom v = true) {H : AHeap} (hg : H.ng = n) : Answers P f args H v H := by
  constructor
  intro φ w args' o a next Q hr hargs hn
  have hr0 := hr.bare
  rw [hg] at hr0
  have heq := atoms_eq hargs ha
  refine h.ok _ w args' o a next Q hr0 ?_ ?_
  · rw [heq]
    exact L2.of_atoms ha
  · rintro φ' v' v'' H' w' ⟨rfl, rfl⟩ hvr _ hp
    have := hvr.eq_of_atom hv
    subst this
    have hb : Below w.heap.size w w' := ⟨hp.os, hp.tape, hp.output, hp.size, fun r hr' => hp.unch r hr' (fun ⟨b, o, p, hb, _⟩ => by rw [bare_get] at hb; cases hb)⟩
    obtain ⟨g1, g2⟩ := hr.grew hb
    exact hn φ _ _ H w' ⟨rfl, rfl⟩ (.of_atom hv) g1 g2

end Go.AH

namespace Go.AH
open Go

/-! ## A heap cut back -/

/-- A value that speaks of no block from n on. -/
def belV (n : Nat) : Nat → Value → Bool
  | 0, _ => false
  | k + 1, v => match v with
    | .pointer (some a) => Nat.blt a.block n
    | .slice (some a) _ _ => Nat.blt a.block n
    | .map (some b) => Nat.blt b n
    | .func _ x y => x.toList.all (belV n k) && y.toList.all (belV n k)
    | .iface _ v => belV n k v
    | .agg x => x.toList.all (belV n k)
    | .tuple x => x.toList.all (belV n k)
    | _ => true

def cutP (φ : Places) (n : Nat) : Places := fun b => if b < n then φ b else none

theorem cutP_lt {φ : Places} {n b : Nat} {p : Pl} (h : φ b = some p) (hb : Nat.blt b n = true) : cutP φ n b = some p := by
  have : b < n := Nat.le_of_ble_eq_true hb
  unfold cutP
  rw [if_pos this, h]

theorem VR.cut {φ : Places} {n : Nat} : ∀ {k : Nat} {u v : Value}, VR φ u v → belV n k u = true → VR (cutP φ n) u v
  | 0, _, _, _, h => by cases h
  | k + 1, u, v, hv, h => by
    have arr : ∀ {x x' : Array Value}, (∀ (i : Nat) u v, x[i]? = some u → x'[i]? = some v → VR φ u v) → x.toList.all (belV n k) = true →
        ∀ (i : Nat) u v, x[i]? = some u → x'[i]? = some v → VR (cutP φ n) u v := fun hx ha i u v hu hv =>
      VR.cut (hx i u v hu hv) (List.all_eq_true.1 ha u (List.mem_of_getElem? (by rw [Array.getElem?_toList]; exact hu)))
    cases hv with
    | bool => exact .bool _
    | int => exact .int _ _
    | float => exact .float _ _
    | string => exact .string _
    | ptrNil => exact .ptrNil
    | ptr b o p hp => exact .ptr b o p (cutP_lt hp h)
    | sliceNil => exact .sliceNil _ _
    | slice b o p m c hc hp => exact .slice b o p m c hc (cutP_lt hp h)
    | sliceUnk b o p m C hp hn hC => exact .sliceUnk b o p m C (cutP_lt hp h) hn hC
    | sliceDead b o p a hp => exact .sliceDead b o p a (cutP_lt hp h)
    | mapNil => exact .mapNil
    | map b p hp => exact .map b p (cutP_lt hp h)
    | func fn x x' y y' hx hy h1 h2 =>
      simp only [belV, Bool.and_eq_true] at h
      exact .func fn x x' y y' hx hy (arr h1 h.1) (arr h2 h.2)
    | nilFunc => exact .nilFunc
    | iface t u v hu => exact .iface t u v (hu.cut h)
    | nilIface => exact .nilIface
    | agg x x' hx h1 => exact .agg x x' hx (arr h1 h)
    | tuple x x' hx h1 => exact .tuple x x' hx (arr h1 h)

/-- An object that speaks of no block from n on. -/
def belO (n : Nat) : AObj → Bool
  | .row cells _ _ _ => cells.all (belV n 6)
  | .map es _ => es.all fun e => belV n 6 e.key && belV n 6 e.val
  | .strIter _ _ => true
  | .mapIter m _ _ _ => match m with | some b => Nat.blt b n | none => true

theorem ORel.cut {φ : Places} {n : Nat} {p : Pl} {o : AObj} {c : Obj} (h : ORel φ p o c) (hb : belO n o = true) : ORel (cutP φ n) p o c := by
  cases o <;> cases c <;> simp only [ORel] at h ⊢
  · refine ⟨h.1, h.2.1, h.2.2.1, h.2.2.2.1, h.2.2.2.2.1, fun i u hu => ?_⟩
    obtain ⟨v, hv, hr⟩ := h.2.2.2.2.2 i u hu
    exact ⟨v, hv, hr.cut (List.all_eq_true.1 hb u (List.mem_of_getElem? hu))⟩
  · refine ⟨h.1, h.2.1, fun i e e' he he' => ?_⟩
    have h3 := h.2.2 i e e' he he'
    have h4 := List.all_eq_true.1 hb e (List.mem_of_getElem? he)
    simp only [Bool.and_eq_true] at h4
    exact ⟨h3.born, h3.key.cut h4.1, h3.val.cut h4.2⟩
  · exact h
  · rename_i m _ _ _ _ _ _ _
    refine ⟨h.1, h.2.1.cut (k := 1) ?_, h.2.2.1, h.2.2.2.1, h.2.2.2.2⟩
    cases m <;> exact hb

/-- What a cut heap must be. -/
structure Cut (H : AHeap) (n : Nat) (H' : AHeap) : Prop where
  next : H'.next = n
  ng : H'.ng = H.ng
  low : H.ng ≤ n
  le : n ≤ H.next
  sub : ∀ b o, H'.get b = some o → H.get b = some o ∧ b < n ∧ belO n o = true

theorem Rel.cut {φ : Places} {H H' : AHeap} {w : World} {n : Nat} (hr : Rel φ H w) (hc : Cut H n H') : Rel (cutP φ n) H' w := {
  glob g hg := by
    rw [hc.ng] at hg
    obtain ⟨p, h1, h2⟩ := hr.glob g hg
    have : g < n := Nat.lt_of_lt_of_le hg hc.low
    exact ⟨p, by unfold cutP; rw [if_pos this, h1], h2⟩
  fresh b hb := by rw [hc.next] at hb; exact if_neg (by omega)
  lt b p hp := by
    unfold cutP at hp
    split at hp
    · exact hr.lt b p hp
    · cases hp
  dom b o h := by rw [hc.next]; exact (hc.sub b o h).2.1
  live b o p h hp := by
    obtain ⟨h1, h2, h3⟩ := hc.sub b o h
    unfold cutP at hp
    rw [if_pos h2] at hp
    obtain ⟨c, hcc, ho⟩ := hr.live b o p h1 hp
    exact ⟨c, hcc, ho.cut h3⟩
  inj b b' o o' p p' h h' hp hp' he := by
    obtain ⟨h1, h2, _⟩ := hc.sub b o h
    obtain ⟨h1', h2', _⟩ := hc.sub b' o' h'
    unfold cutP at hp hp'
    rw [if_pos h2] at hp
    rw [if_pos h2'] at hp'
    exact hr.inj b b' o o' p p' h1 h1' hp hp' he }

theorem Post.cut {φ₀ φ : Places} {H₀ H H' : AHeap} {w₀ w : World} {n : Nat} (hp : Post φ₀ H₀ w₀ φ H w) (hc : Cut H n H') (hn : H₀.next ≤ n) : Post φ₀ H₀ w₀ (cutP φ n) H' w := {
  ext b hb := by unfold cutP; rw [if_pos (by omega)]; exact hp.ext b hb
  nx := by rw [hc.next]; exact hn
  ng := hc.ng.trans hp.ng
  size := hp.size
  unch := hp.unch
  own r hr ho := by
    obtain ⟨b, o, p, hb, hown, hq, he⟩ := ho
    obtain ⟨h1, h2, _⟩ := hc.sub b o hb
    unfold cutP at hq
    rw [if_pos h2] at hq
    exact hp.own r hr ⟨b, o, p, h1, hown, hq, he⟩
  tape := hp.tape
  os := hp.os
  output := hp.output }

/-- A frame cut along. -/
theorem FRel.cut {φ : Places} {F : Fr} {a : Act} (h : FRel φ F a) {n : Nat} {t : PT Value} (hd : F.ds = []) (ht : ∀ i v, t.get i = some v → F.get i = v ∧ belV n 6 v = true) : FRel (cutP φ n) (F.keep t) a := by
  refine ⟨?_, h.size, fun i => ?_⟩
  · have := h.defers
    show DsRel _ F.ds _
    rw [hd] at this ⊢
    generalize a.defers = ds at this ⊢
    cases this
    exact .nil
  · unfold Fr.keep Fr.get
    simp only
    cases hg : t.get i with
    | none => exact .inl rfl
    | some v =>
      simp only
      obtain ⟨h1, h2⟩ := ht i v hg
      have := h.get i
      rw [h1] at this
      exact this.imp id (fun h => h.cut h2)

/-- Behind a piece of code the frame may forget, and the heap be cut back. -/
theorem Wp.cut {P : Program} {c : Code} {F : Fr} {H : AHeap} {Q : Exit → Fr → AHeap → Prop} (h : Wp P c F H fun e F' H' => ∃ t n H'', Cut H' n H'' ∧ H.next ≤ n ∧ F'.ds = [] ∧
    (∀ i v, t.get i = some v → F'.get i = v ∧ belV n 6 v = true) ∧ Q e (F'.keep t) H'') : Wp P c F H Q :=
  fun φ w a hr hf => wp_mono (h φ w a hr hf) fun _ _ _ ⟨φ', F', _, ⟨t, n, H'', hc, hn, hd, ht, q⟩, f, r, p⟩ => ⟨cutP φ' n, F'.keep t, H'', q, f.cut hd ht, r.cut hc, p.cut hc hn⟩

end Go.AH

namespace Go.AH
open Go

/-! ## Walking by reflexivity -/

theorem wp_reg {P : Program} (hs : Sound P) {call : CallF} (hc : NatOk P call) {ops : Array Oper} {draw : Bool} {id : Nat} {F F' : Fr} {H H' : AHeap} {Q : Exit → Fr → AHeap → Prop}
    (h : evRegion P call ops draw F H = some (F', H')) (hq : Q .normal F' H') : Wp P (.region id ops draw) F H Q := evRegion_sound hs.mixed hc.ok h hq

/-- A trie out of a list. -/
def ofL : List (Nat × Value) → PT Value
  | [] => .nil
  | (i, v) :: l => (ofL l).put i (some v)

def Holds (F : Fr) : List (Nat × Value) → Prop
  | [] => True
  | (i, v) :: l => F.get i = v ∧ Holds F l

theorem Holds.get {F : Fr} : ∀ {l : List (Nat × Value)}, Holds F l → ∀ i v, (ofL l).get i = some v → F.get i = v
  | [], _, i, v, h => by simp [ofL, PT.get_nil] at h
  | (j, u) :: l, ⟨h1, h2⟩, i, v, h => by
    rw [ofL, PT.get_put] at h
    split at h
    · rename_i e; cases h; rw [e]; exact h1
    · exact h2.get i v h

/-- A frame told by its size and some of its temporaries. -/
def frL (n : Nat) (l : List (Nat × Value)) : Fr := ⟨ofL l, n, [], fun _ => .chan none⟩

/-- The frame told anew. -/
theorem wp_told {P : Program} {c : Code} {F : Fr} {H : AHeap} {Q : Exit → Fr → AHeap → Prop} (n : Nat) (l : List (Nat × Value)) (hn : F.size = n) (hd : F.ds = []) (hl : Holds F l) (h : Wp P c (frL n l) H Q) : Wp P c F H Q := by
  intro φ w a hr hf
  have := hf.keep hl.get
  have e : F.keep (ofL l) = frL n l := by unfold Fr.keep frL; rw [hn, hd]
  rw [e] at this
  exact h φ w a hr this

end Go.AH

