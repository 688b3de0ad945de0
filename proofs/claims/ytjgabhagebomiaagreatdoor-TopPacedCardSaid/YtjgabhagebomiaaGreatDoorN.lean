/- A part of the proof: TwN0, TwN1. -/
import Derived.Test.YtjgabhagebomiaaGreatDoorG
import Derived.Laws.LoneSync
import Derived.Lib.Builder
import Derived.Lib.SlKeysI
import Derived.Laws.AppendOwn
namespace Go.AH
open Go

/-! ## Functions without a body -/

/-- What a program must say of a function without a body. -/
structure ExtOk (P : Program) (f : FuncId) (e : Array Value → Sem Value) : Prop where
  ex : ∃ fn, P.funcs[f]? = some fn ∧ (fn.name == "runtime.NumGoroutine") = false ∧ fn.body.isNone = true ∧ Extern.findNext fn = none ∧ Extern.find fn = some e

theorem ExtOk.of {P : Program} {f : FuncId} {e : Array Value → Sem Value} {fn : Func} (hf : P.funcs[f]? = some fn) (hname : (fn.name == "runtime.NumGoroutine") = false) (hb : fn.body.isNone = true)
    (hn : Extern.findNext fn = none) (he : Extern.find fn = some e) : ExtOk P f e := ⟨fn, hf, hname, hb, hn, he⟩

/-- A function without a body that leaves all as it is. -/
theorem CallsF.of_ok {P : Program} {f : FuncId} {args : List Value} {H H' : AHeap} {v : Value}
    (h : ∀ (φ : Places) (w : World) (args' : Array Value), Rel φ H w → L2 (VR φ) args args'.toList → ∃ v' w', (callFunc f args').run P w = .ok (.value v') w' ∧ VR φ v v' ∧ Rel φ H' w' ∧ Post φ H w φ H' w') :
    CallsF P f args H fun v' H'' => v' = v ∧ H'' = H' := by
  intro φ w args' o a next Q hr ha hn
  obtain ⟨v', w', hrun, hv, h1, h2⟩ := h φ w args' hr ha
  rw [hrun]
  exact hn φ v v' H' w' ⟨rfl, rfl⟩ hv h1 h2

theorem args1 {φ : Places} {x : Value} {args' : Array Value} (h : L2 (VR φ) [x] args'.toList) : ∃ x', args' = #[x'] ∧ VR φ x x' := by
  obtain ⟨x', l1, hl, hx, ht⟩ := h.cons_inv
  cases ht
  exact ⟨x', Array.ext' hl, hx⟩

theorem args2 {φ : Places} {x y : Value} {args' : Array Value} (h : L2 (VR φ) [x, y] args'.toList) : ∃ x' y', args' = #[x', y'] ∧ VR φ x x' ∧ VR φ y y' := by
  obtain ⟨x', l1, hl, hx, ht⟩ := h.cons_inv
  obtain ⟨y', l2, hl2, hy, ht⟩ := ht.cons_inv
  cases ht; subst hl2
  exact ⟨x', y', Array.ext' hl, hx, hy⟩

theorem args3 {φ : Places} {x y z : Value} {args' : Array Value} (h : L2 (VR φ) [x, y, z] args'.toList) : ∃ x' y' z', args' = #[x', y', z'] ∧ VR φ x x' ∧ VR φ y y' ∧ VR φ z z' := by
  obtain ⟨x', l1, hl, hx, ht⟩ := h.cons_inv
  obtain ⟨y', l2, hl2, hy, ht⟩ := ht.cons_inv
  obtain ⟨z', l3, hl3, hz, ht⟩ := ht.cons_inv
  cases ht; subst hl3; subst hl2
  exact ⟨x', y', z', Array.ext' hl, hx, hy, hz⟩

/-! ### IndexByteString -/

def idxL : List UInt8 → UInt8 → Nat → Int
  | [], _, _ => -1
  | b :: l, c, i => match Nat.beq b.toNat c.toNat with
    | true => (i : Int)
    | false => idxL l c (i + 1)

theorem idxL_find (c : UInt8) : ∀ (l : List UInt8) (k : Nat) (p : Nat → Bool), (∀ j b, l[j]? = some b → p (k + j) = (b == c)) →
    (match (List.range' k l.length).find? p with | some i => (i : Int) | none => -1) = idxL l c k
  | [], k, p, _ => rfl
  | b :: l, k, p, h => by
    have h0 := h 0 b rfl
    rw [Nat.add_zero] at h0
    simp only [List.length_cons, List.range'_succ, List.find?_cons, idxL]
    cases hb : Nat.beq b.toNat c.toNat with
    | true =>
      have : b = c := UInt8.toNat_inj.1 (Nat.eq_of_beq_eq_true hb)
      rw [h0, this]
      simp
    | false =>
      have hne : b ≠ c := fun e => Nat.ne_of_beq_eq_false hb (by rw [e])
      have : (b == c) = false := by simpa using hne
      rw [h0, this]
      exact idxL_find c l (k + 1) p (fun j x hx => by
        have := h (j + 1) x (by simpa using hx)
        rw [show k + 1 + j = k + (j + 1) by omega]; exact this)

theorem firstIdx_eq (s : ByteArray) (c : UInt8) : firstIdx s c = idxL s.data.toList c 0 := by
  have := idxL_find c s.data.toList 0 (fun i => s[i]! == c) (fun j b hb => by
    have hlt : j < s.data.toList.length := (List.getElem?_eq_some_iff.1 hb).1
    have hlt' : j < s.size := by simpa using hlt
    rw [Nat.zero_add, getElem!_pos s j hlt']
    have : s[j] = b := by
      have h2 := (List.getElem?_eq_some_iff.1 hb).2
      rw [← h2]
      rfl
    rw [this])
  rw [← this]
  unfold firstIdx
  rw [List.range_eq_range']
  have hs : s.data.toList.length = s.size := rfl
  rw [hs]
  cases List.find? (fun i => s[i]! == c) (List.range' 0 s.size) <;> rfl

def natIdx (g0 : FuncId) (nat : CallF) : CallF := fun g args H =>
  match Nat.beq g g0 with
  | true => match args with
    | [.string s, .int .u8 c] => some (.int .i64 (idxL s.data.toList c.toNat.toUInt8 0), H)
    | _ => none
  | false => nat g args H

theorem natIdx_ok {P : Program} {g0 : FuncId} {nat : CallF} (hn : CallOk P nat) (he : ExtOk P g0 Extern.BytealgIndexByte.indexByte) : CallOk P (natIdx g0 nat) := by
  intro g args H v H' h
  unfold natIdx at h
  split at h
  · rename_i hg
    have := Nat.eq_of_beq_eq_true hg
    subst this
    split at h
    · rename_i s c
      cases h
      obtain ⟨fn, hf, h1, h2, h3, h4⟩ := he
      refine .of_ok fun φ w args' hr ha => ?_
      obtain ⟨x', y', rfl, hx, hy⟩ := args2 ha
      cases hx; cases hy
      refine ⟨_, w, ?_, .int _ _, hr, Post.refl φ H w⟩
      rw [run_callFunc_extern hf h1 h2 h3 h4, run_indexByte_string, firstIdx_eq]
      rfl
    · cases h
  · exact hn _ _ _ _ _ h

/-! ### Marks and NoEscape -/

def natMark (g0 : FuncId) (nat : CallF) : CallF := fun g args H =>
  match Nat.beq g g0 with
  | true => match args with
    | [] => some (.tuple #[], H)
    | _ => none
  | false => nat g args H

theorem natMark_ok {P : Program} {g0 : FuncId} {nat : CallF} (hn : CallOk P nat) {m : Go.Mark} (he : ExtOk P g0 (fun _ => do Go.mark m; pure Extern.Race.none_)) : CallOk P (natMark g0 nat) := by
  intro g args H v H' h
  unfold natMark at h
  split at h
  · rename_i hg
    have := Nat.eq_of_beq_eq_true hg
    subst this
    split at h
    · cases h
      obtain ⟨fn, hf, h1, h2, h3, h4⟩ := he
      refine .of_ok fun φ w args' hr ha => ?_
      have hargs : args' = #[] := Array.ext' ha.nil_inv
      subst hargs
      exact ⟨_, w, run_call_mark0 hf h1 h2 h3 m h4 w, .undef, hr, Post.refl φ H w⟩
    · cases h
  · exact hn _ _ _ _ _ h

def natMarked (g0 : FuncId) (nat : CallF) : CallF := fun g args H =>
  match Nat.beq g g0 with
  | true => match args with
    | [.pointer (some ⟨_, _, none⟩)] => some (.tuple #[], H)
    | _ => none
  | false => nat g args H

theorem natMarked_ok {P : Program} {g0 : FuncId} {nat : CallF} (hn : CallOk P nat) {m : Addr → Go.Mark} (he : ExtOk P g0 (Extern.Race.marked m)) : CallOk P (natMarked g0 nat) := by
  intro g args H v H' h
  unfold natMarked at h
  split at h
  · rename_i hg
    have := Nat.eq_of_beq_eq_true hg
    subst this
    split at h
    · cases h
      obtain ⟨fn, hf, h1, h2, h3, h4⟩ := he
      refine .of_ok fun φ w args' hr ha => ?_
      obtain ⟨x', rfl, hx⟩ := args1 ha
      cases hx
      exact ⟨_, w, run_call_marked hf h1 h2 h3 m h4 _ w, .undef, hr, Post.refl φ H w⟩
    · cases h
  · exact hn _ _ _ _ _ h

def natSame (g0 : FuncId) (nat : CallF) : CallF := fun g args H =>
  match Nat.beq g g0 with
  | true => match args with
    | [x] => some (x, H)
    | _ => none
  | false => nat g args H

theorem natSame_ok {P : Program} {g0 : FuncId} {nat : CallF} (hn : CallOk P nat) (he : ExtOk P g0 Extern.AbiNoEscape.same) : CallOk P (natSame g0 nat) := by
  intro g args H v H' h
  unfold natSame at h
  split at h
  · rename_i hg
    have := Nat.eq_of_beq_eq_true hg
    subst this
    split at h
    · cases h
      obtain ⟨fn, hf, h1, h2, h3, h4⟩ := he
      refine .of_ok fun φ w args' hr ha => ?_
      obtain ⟨x', rfl, hx⟩ := args1 ha
      refine ⟨x', w, ?_, hx, hr, Post.refl φ H w⟩
      rw [run_callFunc_extern hf h1 h2 h3 h4, Lib.run_noEscape]
      rfl
    · cases h
  · exact hn _ _ _ _ _ h

/-! ### Atomics -/

/-- A cell's number, in the world. -/
theorem Rel.intCell {φ : Places} {H : AHeap} {w : World} (hr : Rel φ H w) {b o : Nat} {cells : List Value} {e : TypeId} {k : Nat} {mk : Mark} {p : Pl} {j : IntKind} {n : Int}
    (hb : H.get b = some (.row cells e k mk)) (hp : φ b = some p) (ho : cells[o]? = some (.int j n)) : w.cell? ⟨p.blk, p.sh + o, none⟩ = some (.int j n) := by
  obtain ⟨c, fr, hc, _, _, _, hcell⟩ := hr.row hb hp
  obtain ⟨v, hv, hvr⟩ := hcell _ _ ho
  cases hvr
  rw [cell?_eq hc]; exact hv

/-- A cell written, as a world. -/
theorem Rel.setCell {P : Program} {φ : Places} {H : AHeap} {w : World} (hr : Rel φ H w) {b : Nat} {cells : List Value} {e : TypeId} {k : Nat} {mk : Mark} {p : Pl}
    (hb : H.get b = some (.row cells e k mk)) (hm : mk ≠ .ro) (hp : φ b = some p) {o : Nat} {x y : Value} (ho : cells[o]? = some x) (hy : atom y = true) (hx : w.cell? ⟨p.blk, p.sh + o, none⟩ = some x) :
    w.frozen? ⟨p.blk, p.sh + o, none⟩ = false ∧ Rel φ (H.put b (some (.row (cells.set o y) e k mk))) (w.setCell ⟨p.blk, p.sh + o, none⟩ y) ∧
      Post φ H w φ (H.put b (some (.row (cells.set o y) e k mk))) (w.setCell ⟨p.blk, p.sh + o, none⟩ y) := by
  have hlt : o < cells.length := (List.getElem?_eq_some_iff.1 ho).1
  have hone : oneCell y = true := by cases y <;> first | rfl | cases hy
  obtain ⟨w', h1, h2, h3⟩ := hr.store (P := P) hb hm hp hlt hone (VR.of_atom hy)
  obtain ⟨c, fr, hc, hs, hle, hf, _⟩ := hr.row hb hp
  have hfz : w.frozen? ⟨p.blk, p.sh + o, none⟩ = false := by
    simp only [World.frozen?, hc]
    exact Mark.unfrozen hf hm (by omega)
  have h4 : (Go.store ⟨p.blk, p.sh + o, none⟩ y).run P w = .ok () (w.setCell ⟨p.blk, p.sh + o, none⟩ y) := by
    rw [run_store P w _ y .plain (oneCell_rel (VR.of_atom (φ := φ) hy) hone)]
    simp [hx, hfz]
  rw [h4] at h1
  cases h1
  exact ⟨hfz, h2, h3⟩

def natLoad (g0 : FuncId) (kd : IntKind) (nat : CallF) : CallF := fun g args H =>
  match Nat.beq g g0 with
  | true => match args with
    | [.pointer (some ⟨b, o, none⟩)] => match H.get b with
      | some (.row cells _ _ _) => match cells[o]? with
        | some (.int j n) => match Nat.beq (kindNo j) (kindNo kd) with
          | true => some (.int j n, H)
          | false => none
        | _ => none
      | _ => none
    | _ => none
  | false => nat g args H

theorem natLoad_ok {P : Program} {g0 : FuncId} {kd : IntKind} {nat : CallF} (hn : CallOk P nat) (he : ExtOk P g0 (Extern.Atomic.loadT (.int kd))) : CallOk P (natLoad g0 kd nat) := by
  intro g args H v H' h
  unfold natLoad at h
  split at h
  · rename_i hg
    have := Nat.eq_of_beq_eq_true hg
    subst this
    split at h
    · rename_i b o
      split at h
      · rename_i cells e k mk hb
        split at h
        · rename_i j n ho
          split at h
          · rename_i hk
            have := kindNo_inj (Nat.eq_of_beq_eq_true hk)
            subst this
            cases h
            obtain ⟨fn, hf, h1, h2, h3, h4⟩ := he
            refine .of_ok fun φ w args' hr ha => ?_
            obtain ⟨x', rfl, hx⟩ := args1 ha
            cases hx with | ptr _ _ p hp =>
            exact ⟨_, w, run_call_load hf h1 h2 h3 j h4 (hr.intCell hb hp ho), .int _ _, hr, Post.refl φ H w⟩
          · cases h
        · cases h
      · cases h
    · cases h
  · exact hn _ _ _ _ _ h

def natStore (g0 : FuncId) (nat : CallF) : CallF := fun g args H =>
  match Nat.beq g g0 with
  | true => match args with
    | [.pointer (some ⟨b, o, none⟩), .int j y] => match H.get b with
      | some (.row cells e k mk) => match cells[o]? with
        | some (.int i x) => match mk with
          | .ro => none
          | mk => some (.tuple #[], H.put b (some (.row (cells.set o (.int j y)) e k mk)))
        | _ => none
      | _ => none
    | _ => none
  | false => nat g args H

theorem natStore_ok {P : Program} {g0 : FuncId} {nat : CallF} (hn : CallOk P nat) (he : ExtOk P g0 Extern.Atomic.storeT) : CallOk P (natStore g0 nat) := by
  intro g args H v H' h
  unfold natStore at h
  split at h
  · rename_i hg
    have := Nat.eq_of_beq_eq_true hg
    subst this
    split at h
    · rename_i b o j y
      split at h
      · rename_i cells e k mk hb
        split at h
        · rename_i i x ho
          split at h
          · cases h
          · rename_i hmk
            cases h
            obtain ⟨fn, hf, h1, h2, h3, h4⟩ := he
            refine .of_ok fun φ w args' hr ha => ?_
            obtain ⟨x', y', rfl, hx, hy⟩ := args2 ha
            cases hx with | ptr _ _ p hp =>
            cases hy
            have hc := hr.intCell hb hp ho
            obtain ⟨hz, g1, g2⟩ := hr.setCell (P := P) hb (fun e => hmk e) hp (y := .int j y) ho rfl hc
            exact ⟨_, _, run_call_store hf h1 h2 h3 h4 hc hz, .undef, g1, g2⟩
        · cases h
      · cases h
    · cases h
  · exact hn _ _ _ _ _ h

def natCas (g0 : FuncId) (kd : IntKind) (nat : CallF) : CallF := fun g args H =>
  match Nat.beq g g0 with
  | true => match args with
    | [.pointer (some ⟨b, o, none⟩), .int j x, .int l y] => match Nat.beq (kindNo j) (kindNo kd), Nat.beq (kindNo l) (kindNo kd) with
      | true, true => match H.get b with
        | some (.row cells e k mk) => match cells[o]? with
          | some (.int i z) => match Nat.beq (kindNo i) (kindNo kd) with
            | true => match ieq z x with
              | true => match mk with
                | .ro => none
                | mk => some (.bool true, H.put b (some (.row (cells.set o (.int kd y)) e k mk)))
              | false => none
            | false => none
          | _ => none
        | _ => none
      | _, _ => none
    | _ => none
  | false => nat g args H

theorem natCas_ok {P : Program} {g0 : FuncId} {kd : IntKind} {nat : CallF} (hn : CallOk P nat) (he : ExtOk P g0 (Extern.Atomic.casT (.int kd))) : CallOk P (natCas g0 kd nat) := by
  intro g args H v H' h
  unfold natCas at h
  split at h
  · rename_i hg
    have := Nat.eq_of_beq_eq_true hg
    subst this
    split at h
    · rename_i b o j x l y
      split at h
      · rename_i hj hl
        have := kindNo_inj (Nat.eq_of_beq_eq_true hj)
        subst this
        have := kindNo_inj (Nat.eq_of_beq_eq_true hl)
        subst this
        split at h
        · rename_i cells e k mk hb
          split at h
          · rename_i i z ho
            split at h
            · rename_i hi
              have := kindNo_inj (Nat.eq_of_beq_eq_true hi)
              subst this
              split at h
              · rename_i hzx
                have := ieq_eq hzx
                subst this
                split at h
                · cases h
                · rename_i hmk
                  cases h
                  obtain ⟨fn, hf, h1, h2, h3, h4⟩ := he
                  refine .of_ok fun φ w args' hr ha => ?_
                  obtain ⟨x', y', z', rfl, hx, hy, hz'⟩ := args3 ha
                  cases hx with | ptr _ _ p hp =>
                  cases hy; cases hz'
                  have hc := hr.intCell hb hp ho
                  obtain ⟨hz, g1, g2⟩ := hr.setCell (P := P) hb (fun e => hmk e) hp (y := .int _ y) ho rfl hc
                  exact ⟨_, _, run_call_cas_hit hf h1 h2 h3 _ h4 hc hz, .bool _, g1, g2⟩
              · cases h
            · cases h
          · cases h
        · cases h
      · cases h
    · cases h
  · exact hn _ _ _ _ _ h

def natAdd (g0 : FuncId) (kd : IntKind) (nat : CallF) : CallF := fun g args H =>
  match Nat.beq g g0 with
  | true => match args with
    | [.pointer (some ⟨b, o, none⟩), .int j y] => match Nat.beq (kindNo j) (kindNo kd) with
      | true => match H.get b with
        | some (.row cells e k mk) => match cells[o]? with
          | some (.int i x) => match Nat.beq (kindNo i) (kindNo kd) with
            | true => match mk with
              | .ro => none
              | mk => match pureAtom (Op.intArith .add kd x y) with
                | some (.int l s) => match Nat.beq (kindNo l) (kindNo kd) with
                  | true => some (.int kd s, H.put b (some (.row (cells.set o (.int kd s)) e k mk)))
                  | false => none
                | _ => none
            | false => none
          | _ => none
        | _ => none
      | _ => none
    | _ => none
  | false => nat g args H

theorem natAdd_ok {P : Program} {g0 : FuncId} {kd : IntKind} {nat : CallF} (hn : CallOk P nat) (he : ExtOk P g0 (Extern.Atomic.update (Op.intArith .add) kd true)) : CallOk P (natAdd g0 kd nat) := by
  intro g args H v H' h
  unfold natAdd at h
  split at h
  · rename_i hg
    have := Nat.eq_of_beq_eq_true hg
    subst this
    split at h
    · rename_i b o j y
      split at h
      · rename_i hj
        have := kindNo_inj (Nat.eq_of_beq_eq_true hj)
        subst this
        split at h
        · rename_i cells e k mk hb
          split at h
          · rename_i i x ho
            split at h
            · rename_i hi
              have := kindNo_inj (Nat.eq_of_beq_eq_true hi)
              subst this
              split at h
              · cases h
              · rename_i hmk
                split at h
                · rename_i l s hs
                  split at h
                  · rename_i hl
                    have := kindNo_inj (Nat.eq_of_beq_eq_true hl)
                    subst this
                    cases h
                    obtain ⟨fn, hf, h1, h2, h3, h4⟩ := he
                    refine .of_ok fun φ w args' hr ha => ?_
                    obtain ⟨x', y', rfl, hx, hy⟩ := args2 ha
                    cases hx with | ptr _ _ p hp =>
                    cases hy
                    have hc := hr.intCell hb hp ho
                    obtain ⟨hz, g1, g2⟩ := hr.setCell (P := P) hb (fun e => hmk e) hp (y := .int _ s) ho rfl hc
                    refine ⟨_, _, run_call_add hf h1 h2 h3 _ h4 hc hz ?_, .int _ _, g1, g2⟩
                    rw [(pureAtom_some hs).1]; rfl
                  · cases h
                · cases h
            · cases h
          · cases h
        · cases h
      · cases h
    · cases h
  · exact hn _ _ _ _ _ h

/-- No function at all. -/
def natNone : CallF := fun _ _ _ => none
theorem natNone_ok (P : Program) : CallOk P natNone := fun _ _ _ _ _ h => by cases h

end Go.AH

namespace Go.AH
open Go Go.Maps Go.Proofs Go.RowKit
open Go.WideElems (Fit rd rg)

/-! ## slices.Sorted at a map's keys (ints) -/

/-- What the call does, told of the world. -/
def SortedSaid (P : Program) (f it : FuncId) (T : TypeId) : Prop :=
  ∀ (Bm b nn : Nat) (D0 : DataW Unit) (R : Value → Option (DataW Unit × List MemPlace)) (w : World), Bm < w.heap.size → w.cell? ⟨Bm, 0, none⟩ = some (.map (some b)) → w.ownsMap P T R b nn D0 →
    Maps.size D0 ≤ maxLen → Maps.size D0 * 8 ≤ 140737488355328 →
    Calls P f #[.func (.func it) #[] #[.pointer (some ⟨Bm, 0, none⟩)]] w fun e w' => ∃ (v : Value) (ss : List Int), e = .returned v ∧ ss.Perm (intKeys D0) ∧
      w'.ownsRow w.heap.size T 1 v ss.length ((ss.mergeSort (fun x y => decide (x ≤ y))).map encZ) ∧ (v = .slice none 0 0 ↔ ss = []) ∧ Below w.heap.size w w'

structure SortedOk (P : Program) (f it : FuncId) (T : TypeId) : Prop where
  ok : SortedSaid P f it T

def keysI : List MapEntry → Option (List Int)
  | [] => some []
  | e :: es => match e.key with
    | .int .i64 n => match keysI es with
      | some l => some (n :: l)
      | none => none
    | _ => none

def memI (n : Int) : List Int → Bool
  | [] => false
  | m :: l => match ieq n m with | true => true | false => memI n l

def distI : List Int → Bool
  | [] => true
  | n :: l => match memI n l with | true => false | false => distI l

def memN (n : Nat) : List Nat → Bool
  | [] => false
  | m :: l => match Nat.beq n m with | true => true | false => memN n l

def distN : List Nat → Bool
  | [] => true
  | n :: l => match memN n l with | true => false | false => distN l

def insI : Int → List Int → List Int
  | x, [] => [x]
  | x, y :: l => match decide (x ≤ y) with
    | true => x :: y :: l
    | false => y :: insI x l

def sortI : List Int → List Int
  | [] => []
  | x :: l => insI x (sortI l)

theorem ieq_self (n : Int) : ieq n n = true := by cases n <;> simp [ieq]

theorem memI_false {n : Int} : ∀ {l : List Int}, memI n l = false → n ∉ l
  | [], _ => by simp
  | m :: l, h => by
    simp only [memI] at h
    split at h
    · cases h
    · rename_i hm
      simp only [List.mem_cons, not_or]
      exact ⟨fun e => (by rw [e, ieq_self] at hm; cases hm), memI_false h⟩

theorem distI_nodup : ∀ {l : List Int}, distI l = true → l.Nodup
  | [], _ => by simp
  | n :: l, h => by
    simp only [distI] at h
    split at h
    · cases h
    · rename_i hm
      exact List.nodup_cons.2 ⟨memI_false hm, distI_nodup h⟩

theorem memN_false {n : Nat} : ∀ {l : List Nat}, memN n l = false → n ∉ l
  | [], _ => by simp
  | m :: l, h => by
    simp only [memN] at h
    split at h
    · cases h
    · rename_i hm
      simp only [List.mem_cons, not_or]
      exact ⟨fun e => Nat.ne_of_beq_eq_false hm e, memN_false h⟩

theorem distN_nodup : ∀ {l : List Nat}, distN l = true → l.Nodup
  | [], _ => by simp
  | n :: l, h => by
    simp only [distN] at h
    split at h
    · cases h
    · rename_i hm
      exact List.nodup_cons.2 ⟨memN_false hm, distN_nodup h⟩

theorem insI_perm (x : Int) : ∀ l : List Int, (insI x l).Perm (x :: l)
  | [] => .refl _
  | y :: l => by
    simp only [insI]
    split
    · exact .refl _
    · exact ((insI_perm x l).cons y).trans (.swap ..)

theorem sortI_perm : ∀ l : List Int, (sortI l).Perm l
  | [] => .refl _
  | x :: l => (insI_perm x _).trans ((sortI_perm l).cons x)

theorem insI_sorted {x : Int} : ∀ {l : List Int}, l.Pairwise (· ≤ ·) → (insI x l).Pairwise (· ≤ ·)
  | [], _ => by simp [insI]
  | y :: l, h => by
    simp only [insI]
    split
    · rename_i hxy
      have hxy := of_decide_eq_true hxy
      refine List.pairwise_cons.2 ⟨fun z hz => ?_, h⟩
      rcases List.mem_cons.1 hz with rfl | hz
      · exact hxy
      · exact Int.le_trans hxy ((List.pairwise_cons.1 h).1 z hz)
    · rename_i hxy
      have hxy := of_decide_eq_false hxy
      refine List.pairwise_cons.2 ⟨fun z hz => ?_, insI_sorted (List.pairwise_cons.1 h).2⟩
      rcases List.mem_cons.1 ((insI_perm x l).mem_iff.1 hz) with rfl | hz
      · omega
      · exact (List.pairwise_cons.1 h).1 z hz

theorem sortI_sorted : ∀ l : List Int, (sortI l).Pairwise (· ≤ ·)
  | [] => by simp [sortI]
  | x :: l => insI_sorted (sortI_sorted l)

theorem sortI_eq {l m : List Int} (h : m.Perm l) : m.mergeSort (fun x y => decide (x ≤ y)) = sortI l := by
  have tr : ∀ a b c : Int, leI a b = true → leI b c = true → leI a c = true := fun a b c h1 h2 => by simp only [leI, decide_eq_true_eq] at *; exact Int.le_trans h1 h2
  have to : ∀ a b : Int, (leI a b || leI b a) = true := fun a b => by simp only [leI, Bool.or_eq_true, decide_eq_true_eq]; exact Int.le_total a b
  refine List.Perm.eq_of_pairwise (le := fun a b => leI a b = true) (fun a b _ _ h1 h2 => ?_) (List.pairwise_mergeSort tr to m) ((sortI_sorted l).imp fun h => by simpa [leI] using h)
    ((List.mergeSort_perm m leI).trans (h.trans (sortI_perm l).symm))
  simp only [leI, decide_eq_true_eq] at h1 h2
  exact Int.le_antisymm h1 h2

theorem insert_perm {H : Type} (x : Lit × DataW H) : ∀ l : List (Lit × DataW H), (DataW.insert x l).Perm (x :: l)
  | [] => .refl _
  | y :: l => by
    simp only [DataW.insert]
    split
    · exact .refl _
    · exact ((insert_perm x l).cons y).trans (.swap ..)

theorem foldr_perm {H : Type} : ∀ l : List (Lit × DataW H), (l.foldr DataW.insert []).Perm l
  | [] => .refl _
  | x :: l => (insert_perm x _).trans ((foldr_perm l).cons x)

/-- A world that has grown, a block in it taken for a new one. -/
theorem Rel.grown {φ : Places} {H : AHeap} {w w' : World} (hr : Rel φ H w) (hb : Below w.heap.size w w') {o : AObj} {p : Pl} {c : Obj} (hlo : w.heap.size ≤ p.blk) (hc : w'.heap[p.blk]? = some c) (hrel : ORel φ p o c) :
    Rel (upd φ H.next p) (H.add o) w' ∧ Post φ H w (upd φ H.next p) (H.add o) w' := by
  have hn := hr.fresh H.next (Nat.le_refl _)
  have hhi : p.blk < w'.heap.size := (Array.getElem?_eq_some_iff.1 hc).1
  have hle := upd_le (p := p) hn
  have old : ∀ {b x q}, (H.add o).get b = some x → upd φ H.next p b = some q → (b = H.next ∧ x = o ∧ q = p) ∨ (b ≠ H.next ∧ H.get b = some x ∧ φ b = some q) := by
    intro b x q hb hq
    rw [AHeap.get_add] at hb
    by_cases h : b = H.next
    · rw [if_pos h] at hb; cases hb
      subst h; rw [upd_same] at hq; cases hq
      exact .inl ⟨rfl, rfl, rfl⟩
    · rw [if_neg h] at hb
      rw [upd_other h] at hq
      exact .inr ⟨h, hb, hq⟩
  refine ⟨⟨hr.glob.mono hle, fun b hb' => ?_, fun b q hq => ?_, fun b x hb' => ?_, fun b x q hx hq => ?_, fun b b' x x' q q' hx hx' hq hq' he => ?_⟩, ⟨fun b hb' => upd_other (by omega), by simp, rfl, hb.size, fun r hr' _ => hb.block r hr', fun r hr' ho => ?_, hb.tape, hb.os, hb.output⟩⟩
  · simp only [AHeap.next_add] at hb'
    rw [upd_other (by omega)]; exact hr.fresh b (by omega)
  · by_cases h : b = H.next
    · subst h; rw [upd_same] at hq; cases hq; exact hhi
    · rw [upd_other h] at hq; have := hr.lt b q hq; have := hb.size; omega
  · rw [AHeap.get_add] at hb'
    split at hb'
    · simp; omega
    · have := hr.dom b x hb'; simp; omega
  · rcases old hx hq with ⟨_, rfl, rfl⟩ | ⟨_, hx, hq⟩
    · exact ⟨c, hc, hrel.mono hle⟩
    · obtain ⟨y, hy, hyr⟩ := hr.live b x q hx hq
      exact ⟨y, by rw [hb.block _ (hr.lt b q hq)]; exact hy, hyr.mono hle⟩
  · rcases old hx hq with ⟨h1, _, g1⟩ | ⟨h1, gx, gq⟩ <;> rcases old hx' hq' with ⟨h2, _, g2⟩ | ⟨h2, gx', gq'⟩
    · omega
    · have := hr.lt b' q' gq'; rw [g1] at he; omega
    · have := hr.lt b q gq; rw [g2] at he; omega
    · exact hr.inj b b' x x' q q' gx gx' gq gq' he
  · obtain ⟨b, x, q, hx, hown, hq, he⟩ := ho
    rcases old hx hq with ⟨_, _, rfl⟩ | ⟨_, hx, hq⟩
    · omega
    · exact ⟨b, x, q, hx, hown, hq, he⟩

/-- A world that has grown. -/
theorem Rel.grew {φ : Places} {H : AHeap} {w w' : World} (hr : Rel φ H w) (hb : Below w.heap.size w w') : Rel φ H w' ∧ Post φ H w φ H w' :=
  ⟨⟨hr.glob, hr.fresh, fun b q hq => Nat.lt_of_lt_of_le (hr.lt b q hq) hb.size, hr.dom, fun b x q hx hq => by
      obtain ⟨y, hy, hyr⟩ := hr.live b x q hx hq
      exact ⟨y, by rw [hb.block _ (hr.lt b q hq)]; exact hy, hyr⟩, hr.inj⟩,
   ⟨fun _ _ => rfl, Nat.le_refl _, rfl, hb.size, fun r hr' _ => hb.block r hr', fun _ _ h => h, hb.tape, hb.os, hb.output⟩⟩

theorem keysI_some : ∀ {es : List MapEntry} {ns : List Int}, keysI es = some ns → es.map (·.key) = ns.map (Value.int .i64)
  | [], _, h => by cases h; rfl
  | e :: es, ns, h => by
    simp only [keysI] at h
    split at h
    · rename_i n hk
      split at h
      · rename_i l hl
        cases h
        simp [hk, keysI_some hl]
      · cases h
    · cases h

def inI64 (n : Int) : Bool := decide (-9223372036854775808 ≤ n) && decide (n ≤ 9223372036854775807)

def natSortI (g0 it : FuncId) (T : TypeId) (nat : CallF) : CallF := fun g args H =>
  match Nat.beq g g0 with
  | true => match args with
    | [.func (.func it') first cap] => match first.toList, cap.toList, Nat.beq it' it with
      | [], [.pointer (some ⟨b, 0, none⟩)], true => match H.get b with
        | some (.row (.map (some m) :: _) _ _ .own) => match H.get m with
          | some (.map es clock) => match keysI es with
            | some ns => match ns.all inI64 && distI ns && es.all (fun e => Nat.blt e.born clock) && distN (es.map (·.born)) && Nat.ble es.length 1000000 with
              | true => match sortI ns with
                | [] => some (.slice none 0 0, H)
                | x :: l => some (.slice (some ⟨H.next, 0, none⟩) (l.length + 1) unk, H.add (.row ((x :: l).map (.int .i64)) T 1 .own))
              | false => none
            | none => none
          | _ => none
        | _ => none
      | _, _, _ => none
    | _ => none
  | false => nat g args H

theorem natSortI_ok {P : Program} {g0 it : FuncId} {T : TypeId} {nat : CallF} (hn : CallOk P nat) (hb0 : bodied P g0 = true) (hT : P.underlying T = some (.int .i64)) (hs : SortedSaid P g0 it T) : CallOk P (natSortI g0 it T nat) := by
  intro g args H v H' h
  unfold natSortI at h
  split at h
  rotate_left
  · exact hn _ _ _ _ _ h
  rename_i hg
  have := Nat.eq_of_beq_eq_true hg
  subst this
  split at h
  rotate_left
  · cases h
  rename_i it' first cap
  split at h
  rotate_left
  · cases h
  rename_i b hfirst hcap hit
  have := Nat.eq_of_beq_eq_true hit
  subst this
  split at h
  rotate_left
  · cases h
  rename_i m rest e0 k0 hbox
  split at h
  rotate_left
  · cases h
  rename_i es clock hmap
  split at h
  rotate_left
  · cases h
  rename_i ns hns
  split at h
  rotate_left
  · cases h
  rename_i hck
  simp only [Bool.and_eq_true] at hck
  obtain ⟨⟨⟨⟨h1, h2⟩, h3⟩, h4⟩, h5⟩ := hck
  have h5' := Nat.le_of_ble_eq_true h5
  have hkeys := keysI_some hns
  have hlenns : ns.length = es.length := by simpa using (congrArg List.length hkeys).symm
  refine .of_calls hb0 fun φ w args' hr ha => ?_
  obtain ⟨x', rfl, hx⟩ := args1 ha
  cases hx with | func _ _ first' _ cap' hs1 hs2 hh1 hh2 =>
  have hf' : first' = #[] := by
    apply Array.ext'
    have : first.size = 0 := by simpa using congrArg List.length hfirst
    have : first'.toList.length = 0 := by simp only [Array.length_toList]; omega
    exact List.eq_nil_of_length_eq_zero this
  have hl2 : L2 (VR φ) cap.toList cap'.toList := .of_get (by simpa using hs2) (by simpa using hh2)
  rw [hcap] at hl2
  obtain ⟨y', rfl, hy⟩ := args1 hl2
  cases hy with | ptr _ _ p hp =>
  subst hf'
  obtain ⟨c, fr, hc, hcs, hle, hfit, hcell⟩ := hr.row hbox hp
  have hsh : p.sh = 0 := hfit.2
  obtain ⟨v0, hv0, hvr0⟩ := hcell 0 (.map (some m)) rfl
  cases hvr0 with | map _ q hq =>
  obtain ⟨es', hes', hrel⟩ := hr.map hmap hq
  have hcellw : w.cell? ⟨p.blk, 0, none⟩ = some (.map (some q.blk)) := by
    rw [cell?_eq hc]
    rw [hsh] at hv0
    exact hv0
  have hlen' : es'.toList.length = es.length := hrel.length.symm
  -- the concrete entries' keys and birthdays
  have hk' : es'.toList.map (·.key) = ns.map (Value.int .i64) := by
    rw [← hkeys]
    have hall : ∀ e ∈ es, atom e.key = true := by
      intro e he
      have : e.key ∈ es.map (·.key) := List.mem_map.2 ⟨e, he, rfl⟩
      rw [hkeys] at this
      obtain ⟨n, _, hn⟩ := List.mem_map.1 this
      rw [← hn]; rfl
    clear hkeys hns h3 h4 hlenns hlen' h5 h5' hmap hes'
    generalize es'.toList = l' at hrel
    induction hrel with
    | nil => rfl
    | @cons e e' l l' he _ ih =>
      simp only [List.map_cons]
      rw [he.key.eq_of_atom (hall e (by simp)), ih (fun x hx => hall x (by simp [hx]))]
  have hb' : es'.toList.map (·.born) = es.map (·.born) := by
    clear hkeys hns h3 h4 hlenns hlen' h5 h5' hmap hes' hk'
    generalize es'.toList = l' at hrel
    induction hrel with
    | nil => rfl
    | @cons e e' l l' he _ ih => simp only [List.map_cons]; rw [he.born, ih]
  have hwf : ∀ n ∈ ns, (Lit.int .i64 n).wf = true := fun n hn => by
    have := List.all_eq_true.1 h1 n hn
    simp only [inI64, Bool.and_eq_true, decide_eq_true_eq] at this
    simp only [Lit.wf, Bool.and_eq_true, decide_eq_true_eq]
    exact this
  have hsz : es'.size = es.length := by simpa using hlen'
  let R : Value → Option (DataW Unit × List MemPlace) := fun _ => some (.lit (.bool true), [])
  have hrd : ∀ x ∈ es'.toList, ∃ n ∈ ns, x.key = .int .i64 n ∧ rd P T R x = some (.int .i64 n, .lit (.bool true)) := by
    intro x hx
    have : x.key ∈ es'.toList.map (·.key) := List.mem_map.2 ⟨x, hx, rfl⟩
    rw [hk'] at this
    obtain ⟨n, hn, he⟩ := List.mem_map.1 this
    refine ⟨n, hn, he.symm, ?_⟩
    simp [rd, ← he, keyOf, hT, mapKey, hwf n hn, R]
  have hfitm : Fit P T R es' clock := by
    refine ⟨by rw [hsz]; unfold maxLen; omega, ⟨fun x hx => ?_, ?_, ?_⟩, fun x hx => ?_⟩
    · have : x.born ∈ es'.toList.map (·.born) := List.mem_map.2 ⟨x, hx, rfl⟩
      rw [hb'] at this
      obtain ⟨e, he, hee⟩ := List.mem_map.1 this
      rw [← hee]
      exact Nat.le_of_ble_eq_true (List.all_eq_true.1 h3 e he)
    · rw [hb']; exact distN_nodup h4
    · rw [hk']
      exact List.pairwise_map.2 ((distI_nodup h2).imp fun hne e => hne (by simpa using e))
    · obtain ⟨n, _, _, h⟩ := hrd x hx
      exact ⟨_, h⟩
  have hown : w.ownsMap P T R q.blk es'.size (.map ((es'.toList.map (rg P T R)).foldr DataW.insert [])) := ⟨es', clock, hes', hfitm, Nat.le_refl _, rfl⟩
  have hperm : (intKeys (DataW.map ((es'.toList.map (rg P T R)).foldr DataW.insert []) : DataW Unit)).Perm ns := by
    refine ((foldr_perm (es'.toList.map (rg P T R))).map fun p => intOf p.1).trans ?_
    have : (es'.toList.map (rg P T R)).map (fun p => intOf p.1) = ns := by
      have h0 : ∀ l : List MapEntry, (∀ x ∈ l, ∃ n ∈ ns, x.key = .int .i64 n ∧ rd P T R x = some (.int .i64 n, .lit (.bool true))) → (l.map (rg P T R)).map (fun p => Value.int .i64 (intOf p.1)) = l.map (·.key) := by
        intro l
        induction l with
        | nil => intro _; rfl
        | cons x l ih =>
          intro hall
          obtain ⟨n, _, hx, hr⟩ := hall x (by simp)
          have h9 := ih fun y hy => hall y (by simp [hy])
          have e1 : rg P T R x = (.int .i64 n, .lit (.bool true)) := by simp only [rg, hr, Option.getD_some]
          rw [List.map_cons, List.map_cons, List.map_cons, h9, e1, hx]
          rfl
      have h6 := h0 es'.toList hrd
      rw [hk'] at h6
      have h7 := congrArg (List.map fun v : Value => match v with | .int _ n => n | _ => 0) h6
      simpa [List.map_map, Function.comp_def] using h7
    rw [this]
  have hD : Maps.size (DataW.map ((es'.toList.map (rg P T R)).foldr DataW.insert []) : DataW Unit) = es.length := by
    rw [Maps.size_eq, (foldr_perm _).length_eq, List.length_map, hlen']
  have hcon := hs p.blk q.blk es'.size _ R w (hr.lt b p hp) hcellw hown (by rw [hD]; unfold maxLen; omega) (by rw [hD]; omega)
  have hshape : (⟨p.blk, p.sh + 0, none⟩ : Addr) = ⟨p.blk, 0, none⟩ := by rw [hsh]
  rw [hshape]
  refine hcon.mono ?_
  rintro e w' ⟨v', ss, rfl, hss, hrow, hnil, hbel⟩
  have hsort := sortI_eq (hss.trans hperm)
  have hsl : ss.length = (sortI ns).length := by rw [(hss.trans hperm).length_eq, (sortI_perm ns).length_eq]
  rw [hsort] at hrow
  split at h
  · rename_i hso
    cases h
    have : ss = [] := List.eq_nil_of_length_eq_zero (by rw [hsl, hso]; rfl)
    have hv := hnil.2 this
    subst hv
    obtain ⟨g1, g2⟩ := hr.grew hbel
    exact ⟨φ, _, _, H, ⟨rfl, rfl⟩, rfl, .sliceNil 0 0, g1, g2⟩
  · rename_i x l hso
    cases h
    rw [hso] at hrow hsl
    rcases hrow.2 with ⟨rfl, hz⟩ | ⟨g, cp, cur, rfl, hbase, hg, hncp, hcm, hcur, htk⟩
    · rw [hsl] at hz; simp at hz
    · simp only [List.length_cons] at hsl
      rw [Nat.mul_one] at hcur htk
      have hcl : cur.toList.length = cp := by simpa using hcur
      obtain ⟨g1, g2⟩ := hr.grown (o := .row ((x :: l).map (.int .i64)) T 1 .own) (p := ⟨g, 0, cur.size, 1⟩) (c := .cells cur T (0, 0)) hbel hbase hg
        ⟨rfl, rfl, rfl, by simp only [List.length_map, List.length_cons]; omega, ⟨rfl, rfl⟩, fun i u hu => by
          have hi : i < ((x :: l).map (Value.int .i64)).length := (List.getElem?_eq_some_iff.1 hu).1
          rw [← htk, List.getElem?_take] at hu
          split at hu
          · refine ⟨u, by rw [Nat.zero_add, ← Array.getElem?_toList]; exact hu, ?_⟩
            have hm : u ∈ (x :: l).map (Value.int .i64) := by
              rw [← htk]
              exact List.mem_of_getElem? (i := i) (by rw [List.getElem?_take, if_pos (by assumption)]; exact hu)
            obtain ⟨n, _, rfl⟩ := List.mem_map.1 hm
            exact .int _ _
          · cases hu⟩
      refine ⟨_, _, _, _, ⟨rfl, rfl⟩, rfl, ?_, g1, g2⟩
      have := VR.sliceUnk (φ := upd φ H.next ⟨g, 0, cur.size, 1⟩) H.next 0 ⟨g, 0, cur.size, 1⟩ ss.length cp (upd_same _ _ _) hncp (by simp only; omega)
      rw [hsl] at this ⊢
      exact this

end Go.AH

