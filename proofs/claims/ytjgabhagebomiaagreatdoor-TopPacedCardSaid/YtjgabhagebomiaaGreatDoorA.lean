/- A part of the proof: TwA0, TwA1, TwA2, TwA3, TwA4, TwA5, TwA6. -/
import Derived.Calls
import Derived.Orders
import Derived.WalkKit
import Derived.Great.BuildSlice
import Derived.DeepKeys3
/-- Finite maps from numbers, as trees: quick in the kernel. -/
inductive Go.AH.PT (α : Type) where
  | nil
  | node (l : PT α) (v : Option α) (r : PT α)
namespace Go.AH

def PT.get {α : Type} : PT α → Nat → Option α
  | .nil, _ => none
  | .node l v r, n =>
    match Nat.beq n 0 with
    | true => v
    | false => match Nat.beq (Nat.mod n 2) 1 with
      | true => l.get (Nat.div n 2)
      | false => r.get (Nat.pred (Nat.div n 2))

def PT.left {α : Type} : PT α → PT α
  | .nil => .nil
  | .node l _ _ => l
def PT.right {α : Type} : PT α → PT α
  | .nil => .nil
  | .node _ _ r => r
def PT.here {α : Type} : PT α → Option α
  | .nil => none
  | .node _ v _ => v

def PT.putF {α : Type} : Nat → PT α → Nat → Option α → PT α
  | 0, t, _, _ => t
  | f + 1, .nil, n, v =>
    match Nat.beq n 0 with
    | true => .node .nil v .nil
    | false => match Nat.beq (Nat.mod n 2) 1 with
      | true => .node (PT.putF f .nil (Nat.div n 2) v) none .nil
      | false => .node .nil none (PT.putF f .nil (Nat.pred (Nat.div n 2)) v)
  | f + 1, .node l x r, n, v =>
    match Nat.beq n 0 with
    | true => .node l v r
    | false => match Nat.beq (Nat.mod n 2) 1 with
      | true => .node (PT.putF f l (Nat.div n 2) v) x r
      | false => .node l x (PT.putF f r (Nat.pred (Nat.div n 2)) v)

theorem PT.putF_succ {α : Type} (f : Nat) (t : PT α) (n : Nat) (v : Option α) : PT.putF (f + 1) t n v =
    match Nat.beq n 0 with
    | true => .node t.left v t.right
    | false => match Nat.beq (n % 2) 1 with
      | true => .node (PT.putF f t.left (n / 2) v) t.here t.right
      | false => .node t.left t.here (PT.putF f t.right (n / 2 - 1) v) := by
  cases t <;> rfl

def PT.put {α : Type} (t : PT α) (n : Nat) (v : Option α) : PT α := PT.putF (Nat.succ n) t n v

theorem PT.get_node {α : Type} (l : PT α) (v : Option α) (r : PT α) (n : Nat) :
    (PT.node l v r).get n = if n = 0 then v else if n % 2 = 1 then l.get (n / 2) else r.get (n / 2 - 1) := by
  have e : (PT.node l v r).get n = match Nat.beq n 0 with
    | true => v
    | false => match Nat.beq (n % 2) 1 with
      | true => l.get (n / 2)
      | false => r.get (n / 2 - 1) := rfl
  rw [e]
  cases h : Nat.beq n 0 with
  | true => simp [Nat.eq_of_beq_eq_true h]
  | false =>
    have h0 : n ≠ 0 := Nat.ne_of_beq_eq_false h
    cases h1 : Nat.beq (n % 2) 1 with
    | true => simp [h0, Nat.eq_of_beq_eq_true h1]
    | false => simp [h0, Nat.ne_of_beq_eq_false h1]

theorem PT.get_parts {α : Type} (t : PT α) (n : Nat) :
    t.get n = if n = 0 then t.here else if n % 2 = 1 then t.left.get (n / 2) else t.right.get (n / 2 - 1) := by
  cases t with
  | nil => simp [PT.get, PT.here, PT.left, PT.right]
  | node l v r => rw [PT.get_node]; rfl

theorem PT.get_putF {α : Type} (v : Option α) : ∀ (f : Nat) (t : PT α) (n m : Nat), n < f →
    (PT.putF f t n v).get m = if m = n then v else t.get m := by
  intro f
  induction f with
  | zero => intro t n m h; omega
  | succ f ih =>
    intro t n m h
    rw [PT.putF_succ]
    cases h0 : Nat.beq n 0 with
    | true =>
      have := Nat.eq_of_beq_eq_true h0
      subst this
      rw [PT.get_node, PT.get_parts t m]
      by_cases hm : m = 0 <;> simp [hm]
    | false =>
      have hn := Nat.ne_of_beq_eq_false h0
      cases h1 : Nat.beq (n % 2) 1 with
      | true =>
        have h2 := Nat.eq_of_beq_eq_true h1
        rw [PT.get_node, PT.get_parts t m, ih _ _ _ (by omega)]
        by_cases hm : m = n
        · subst hm; simp [hn, h2]
        · by_cases hm0 : m = 0
          · simp [hm0]; omega
          · by_cases hm1 : m % 2 = 1
            · have : m / 2 ≠ n / 2 := by omega
              simp [hm0, hm1, this, hm]
            · simp [hm0, hm1, hm]
      | false =>
        have h2 := Nat.ne_of_beq_eq_false h1
        rw [PT.get_node, PT.get_parts t m, ih _ _ _ (by omega)]
        by_cases hm : m = n
        · subst hm; simp [hn, h2]
        · by_cases hm0 : m = 0
          · simp [hm0]; omega
          · by_cases hm1 : m % 2 = 1
            · simp [hm0, hm1, hm]
            · have : m / 2 - 1 ≠ n / 2 - 1 := by omega
              simp [hm0, hm1, this, hm]

theorem PT.get_put {α : Type} (t : PT α) (n : Nat) (v : Option α) (m : Nat) : (t.put n v).get m = if m = n then v else t.get m :=
  PT.get_putF v (n + 1) t n m (Nat.lt_succ_self n)

theorem PT.get_nil {α : Type} (n : Nat) : (PT.nil : PT α).get n = none := rfl

/-! ## The abstract heap -/

/-- Whose is a row of cells: own: written at will, never a string's · str: as own, but its block bears a mark behind its end · ro: only read. -/
inductive Mark where
  | own | str | ro
  deriving DecidableEq

inductive AObj where
  | row (cells : List Value) (elem : TypeId) (esz : Nat) (mk : Mark)
  | map (es : List MapEntry) (clock : Nat)
  | strIter (s : ByteArray) (pos : Nat)
  | mapIter (m : Option Nat) (since : Nat) (seen : List Nat) (stepped : Nat)

def AObj.own : AObj → Bool
  | .row _ _ _ .ro => false
  | _ => true

structure AHeap where
  t : PT AObj
  next : Nat
  ng : Nat

def AHeap.get (H : AHeap) (b : Nat) : Option AObj := H.t.get b
def AHeap.put (H : AHeap) (b : Nat) (o : Option AObj) : AHeap :=
  match H with
  | ⟨t, n, g⟩ => ⟨t.put b o, n, g⟩
def AHeap.add (H : AHeap) (o : AObj) : AHeap :=
  match H with
  | ⟨t, n, g⟩ => ⟨t.put n (some o), Nat.succ n, g⟩

theorem AHeap.get_put (H : AHeap) (b : Nat) (o : Option AObj) (c : Nat) : (H.put b o).get c = if c = b then o else H.get c := PT.get_put ..
theorem AHeap.get_add (H : AHeap) (o : AObj) (c : Nat) : (H.add o).get c = if c = H.next then some o else H.get c := PT.get_put ..
@[simp] theorem AHeap.next_put (H : AHeap) (b : Nat) (o : Option AObj) : (H.put b o).next = H.next := rfl
@[simp] theorem AHeap.ng_put (H : AHeap) (b : Nat) (o : Option AObj) : (H.put b o).ng = H.ng := rfl
@[simp] theorem AHeap.ng_add (H : AHeap) (o : AObj) : (H.add o).ng = H.ng := rfl
@[simp] theorem AHeap.next_add (H : AHeap) (o : AObj) : (H.add o).next = H.next + 1 := rfl

/-- The capacity that is not known. -/
def unk : Nat := 9223372036854775808

/-- Where an abstract block lies: its block, how far its first cell is shifted, how many cells the block has, how many cells an element has. -/
structure Pl where
  blk : Nat
  sh : Nat
  size : Nat
  esz : Nat

abbrev Places := Nat → Option Pl

/-- A value of the model as an abstract value has it. -/
inductive VR (φ : Places) : Value → Value → Prop where
  | bool (b : Bool) : VR φ (.bool b) (.bool b)
  | int (k : IntKind) (n : Int) : VR φ (.int k n) (.int k n)
  | float (k : FloatKind) (n : Nat) : VR φ (.float k n) (.float k n)
  | string (s : ByteArray) : VR φ (.string s) (.string s)
  | ptrNil : VR φ (.pointer none) (.pointer none)
  | ptr (b o : Nat) (p : Pl) (h : φ b = some p) : VR φ (.pointer (some ⟨b, o, none⟩)) (.pointer (some ⟨p.blk, p.sh + o, none⟩))
  | sliceNil (n c : Nat) : VR φ (.slice none n c) (.slice none n c)
  | slice (b o : Nat) (p : Pl) (n c : Nat) (hc : c ≠ unk) (h : φ b = some p) :
      VR φ (.slice (some ⟨b, o, none⟩) n c) (.slice (some ⟨p.blk, p.sh + o, none⟩) n c)
  | sliceUnk (b o : Nat) (p : Pl) (n C : Nat) (h : φ b = some p) (hn : n ≤ C) (hC : p.sh + o + C * p.esz ≤ p.size) :
      VR φ (.slice (some ⟨b, o, none⟩) n unk) (.slice (some ⟨p.blk, p.sh + o, none⟩) n C)
  | sliceDead (b o : Nat) (p : Pl) (a : Addr) (h : φ b = some p) : VR φ (.slice (some ⟨b, o, none⟩) 0 unk) (.slice (some a) 0 0)
  | mapNil : VR φ (.map none) (.map none)
  | map (b : Nat) (p : Pl) (h : φ b = some p) : VR φ (.map (some b)) (.map (some p.blk))
  | func (fn : Fn) (x x' y y' : Array Value) (hx : x.size = x'.size) (hy : y.size = y'.size)
      (h : ∀ (i : Nat) u v, x[i]? = some u → x'[i]? = some v → VR φ u v) (h' : ∀ (i : Nat) u v, y[i]? = some u → y'[i]? = some v → VR φ u v) :
      VR φ (.func fn x y) (.func fn x' y')
  | nilFunc : VR φ .nilFunc .nilFunc
  | iface (t : TypeId) (u v : Value) (h : VR φ u v) : VR φ (.iface t u) (.iface t v)
  | nilIface : VR φ .nilIface .nilIface
  | agg (x x' : Array Value) (hx : x.size = x'.size) (h : ∀ (i : Nat) u v, x[i]? = some u → x'[i]? = some v → VR φ u v) : VR φ (.agg x) (.agg x')
  | tuple (x x' : Array Value) (hx : x.size = x'.size) (h : ∀ (i : Nat) u v, x[i]? = some u → x'[i]? = some v → VR φ u v) : VR φ (.tuple x) (.tuple x')

def Le (φ φ' : Places) : Prop := ∀ b p, φ b = some p → φ' b = some p
theorem Le.refl (φ : Places) : Le φ φ := fun _ _ h => h
theorem Le.trans {φ φ' φ'' : Places} (h : Le φ φ') (h' : Le φ' φ'') : Le φ φ'' := fun b p hb => h' b p (h b p hb)

theorem VR.mono {φ φ' : Places} (hl : Le φ φ') {u v : Value} (h : VR φ u v) : VR φ' u v := by
  induction h with
  | bool => exact .bool _
  | int => exact .int _ _
  | float => exact .float _ _
  | string => exact .string _
  | ptrNil => exact .ptrNil
  | ptr b o p h => exact .ptr b o p (hl _ _ h)
  | sliceNil => exact .sliceNil _ _
  | slice b o p n c hc h => exact .slice b o p n c hc (hl _ _ h)
  | sliceUnk b o p n C h hn hC => exact .sliceUnk b o p n C (hl _ _ h) hn hC
  | sliceDead b o p a h => exact .sliceDead b o p a (hl _ _ h)
  | mapNil => exact .mapNil
  | map b p h => exact .map b p (hl _ _ h)
  | func fn x x' y y' hx hy _ _ ih ih' => exact .func fn x x' y y' hx hy ih ih'
  | nilFunc => exact .nilFunc
  | iface t u v _ ih => exact .iface t u v ih
  | nilIface => exact .nilIface
  | agg x x' hx _ ih => exact .agg x x' hx ih
  | tuple x x' hx _ ih => exact .tuple x x' hx ih

/-- Values all of one list. -/
def VRs (φ : Places) (x x' : List Value) : Prop := x.length = x'.length ∧ ∀ (i : Nat) u v, x[i]? = some u → x'[i]? = some v → VR φ u v
theorem VRs.mono {φ φ' : Places} (hl : Le φ φ') {x x' : List Value} (h : VRs φ x x') : VRs φ' x x' := ⟨h.1, fun i u v a b => (h.2 i u v a b).mono hl⟩
theorem VRs.nil {φ : Places} : VRs φ [] [] := ⟨rfl, by simp⟩
theorem VRs.cons {φ : Places} {u v : Value} {x x' : List Value} (h : VR φ u v) (hs : VRs φ x x') : VRs φ (u :: x) (v :: x') :=
  ⟨by simp [hs.1], fun i a b ha hb => by
    cases i with
    | zero => simp at ha hb; subst ha; subst hb; exact h
    | succ i => simp at ha hb; exact hs.2 i a b ha hb⟩
theorem VRs.append {φ : Places} {x x' y y' : List Value} (h : VRs φ x x') (h' : VRs φ y y') : VRs φ (x ++ y) (x' ++ y') := by
  refine ⟨by simp [h.1, h'.1], fun i a b ha hb => ?_⟩
  by_cases hi : i < x.length
  · rw [List.getElem?_append_left hi] at ha
    rw [List.getElem?_append_left (by rw [← h.1]; exact hi)] at hb
    exact h.2 i a b ha hb
  · rw [List.getElem?_append_right (by omega)] at ha
    rw [List.getElem?_append_right (by rw [← h.1]; omega), ← h.1] at hb
    exact h'.2 _ a b ha hb

/-! ## An abstract heap is met by a world -/

def Mark.fits (mk : Mark) (p : Pl) (fr : Nat × Nat) : Prop :=
  match mk with
  | .own => fr = (0, 0) ∧ p.sh = 0
  | .str => fr = (0, 0) ∨ p.size ≤ fr.1
  | .ro => True

structure ERel (φ : Places) (e e' : MapEntry) : Prop where
  born : e.born = e'.born
  key : VR φ e.key e'.key
  val : VR φ e.val e'.val

def ORel (φ : Places) (p : Pl) : AObj → Obj → Prop
  | .row cells elem esz mk, .cells c elem' fr =>
    elem = elem' ∧ p.esz = esz ∧ c.size = p.size ∧ p.sh + cells.length ≤ p.size ∧ mk.fits p fr ∧ ∀ (i : Nat) u, cells[i]? = some u → ∃ v, c[p.sh + i]? = some v ∧ VR φ u v
  | .map es clock, .map es' clock' => clock = clock' ∧ es.length = es'.size ∧ ∀ (i : Nat) e e', es[i]? = some e → es'[i]? = some e' → ERel φ e e'
  | .strIter s pos, .stringIter s' pos' => p.sh = 0 ∧ s = s' ∧ pos = pos'
  | .mapIter m since seen stepped, .mapIter m' since' seen' stepped' => p.sh = 0 ∧ VR φ (.map m) (.map m') ∧ since = since' ∧ seen = seen'.toList ∧ stepped = stepped'
  | _, _ => False

theorem ERel.mono {φ φ' : Places} (hl : Le φ φ') {e e' : MapEntry} (h : ERel φ e e') : ERel φ' e e' := ⟨h.born, h.key.mono hl, h.val.mono hl⟩

theorem ORel.mono {φ φ' : Places} (hl : Le φ φ') {p : Pl} {o : AObj} {c : Obj} (h : ORel φ p o c) : ORel φ' p o c := by
  cases o <;> cases c <;> simp only [ORel] at h ⊢
  · exact ⟨h.1, h.2.1, h.2.2.1, h.2.2.2.1, h.2.2.2.2.1, fun i u hu => let ⟨v, hv, hr⟩ := h.2.2.2.2.2 i u hu; ⟨v, hv, hr.mono hl⟩⟩
  · exact ⟨h.1, h.2.1, fun i e e' he he' => (h.2.2 i e e' he he').mono hl⟩
  · exact h
  · exact ⟨h.1, h.2.1.mono hl, h.2.2.1, h.2.2.2.1, h.2.2.2.2⟩

def GOk (ng : Nat) (φ : Places) : Prop := ∀ g, g < ng → ∃ p, φ g = some p ∧ p.blk = g ∧ p.sh = 0
theorem GOk.mono {ng : Nat} {φ φ' : Places} (hl : Le φ φ') (h : GOk ng φ) : GOk ng φ' := fun g hg => let ⟨p, a, b⟩ := h g hg; ⟨p, hl _ _ a, b⟩

structure Rel (φ : Places) (H : AHeap) (w : World) : Prop where
  glob : GOk H.ng φ
  fresh : ∀ b, H.next ≤ b → φ b = none
  lt : ∀ b p, φ b = some p → p.blk < w.heap.size
  dom : ∀ b o, H.get b = some o → b < H.next
  live : ∀ b o p, H.get b = some o → φ b = some p → ∃ c, w.heap[p.blk]? = some c ∧ ORel φ p o c
  inj : ∀ b b' o o' p p', H.get b = some o → H.get b' = some o' → φ b = some p → φ b' = some p' → p.blk = p'.blk → b = b'

/-- A block of the world that the abstract heap may write. -/
def Owned (φ : Places) (H : AHeap) (r : Nat) : Prop := ∃ b o p, H.get b = some o ∧ o.own = true ∧ φ b = some p ∧ p.blk = r

/-- What a step does to the world beside what the abstract heap tells. -/
structure Post (φ : Places) (H : AHeap) (w : World) (φ' : Places) (H' : AHeap) (w' : World) : Prop where
  ext : ∀ b, b < H.next → φ' b = φ b
  nx : H.next ≤ H'.next
  ng : H'.ng = H.ng
  size : w.heap.size ≤ w'.heap.size
  unch : ∀ r, r < w.heap.size → ¬ Owned φ H r → w'.heap[r]? = w.heap[r]?
  own : ∀ r, r < w.heap.size → Owned φ' H' r → Owned φ H r
  tape : w'.tape = w.tape
  os : w'.os = w.os
  output : w'.output = w.output

theorem Post.refl (φ : Places) (H : AHeap) (w : World) : Post φ H w φ H w :=
  ⟨fun _ _ => rfl, Nat.le_refl _, rfl, Nat.le_refl _, fun _ _ _ => rfl, fun _ _ h => h, rfl, rfl, rfl⟩

theorem Post.trans {φ φ' φ'' : Places} {H H' H'' : AHeap} {w w' w'' : World} (h : Post φ H w φ' H' w') (h' : Post φ' H' w' φ'' H'' w'') :
    Post φ H w φ'' H'' w'' := {
  ext b hb := (h'.ext b (Nat.lt_of_lt_of_le hb h.nx)).trans (h.ext b hb)
  nx := Nat.le_trans h.nx h'.nx
  ng := h'.ng.trans h.ng
  size := Nat.le_trans h.size h'.size
  unch r hr ho := (h'.unch r (Nat.lt_of_lt_of_le hr h.size) fun h1 => ho (h.own r hr h1)).trans (h.unch r hr ho)
  own r hr ho := h.own r hr (h'.own r (Nat.lt_of_lt_of_le hr h.size) ho)
  tape := h'.tape.trans h.tape
  os := h'.os.trans h.os
  output := h'.output.trans h.output }

theorem Post.le {φ φ' : Places} {H H' : AHeap} {w w' : World} (h : Post φ H w φ' H' w') (hr : Rel φ H w) : Le φ φ' := by
  intro b p hb
  by_cases hlt : b < H.next
  · rw [h.ext b hlt, hb]
  · rw [hr.fresh b (by omega)] at hb; cases hb

end Go.AH

namespace Go.AH
open Go

/-! ## Frames and operands -/

structure Fr where
  t : PT Value
  size : Nat
  ds : List (FuncId × List Value)
  dflt : Nat → Value

def Fr.get (F : Fr) (i : Nat) : Value :=
  match F with
  | ⟨t, _, _, df⟩ => match t.get i with
    | some v => v
    | none => df i

def Fr.put (F : Fr) (dst : Option Tmp) (v : Value) : Fr :=
  match dst with
  | none => F
  | some d => match F with
    | ⟨t, sz, ds, df⟩ => match Nat.ble (Nat.succ d) sz with
      | true => ⟨t.put d (some v), sz, ds, df⟩
      | false => ⟨t, sz, ds, df⟩

@[simp] theorem Fr.size_put (F : Fr) (dst : Option Tmp) (v : Value) : (F.put dst v).size = F.size := by
  cases F; unfold Fr.put; split
  · rfl
  · simp only; split <;> rfl

@[simp] theorem Fr.ds_put (F : Fr) (dst : Option Tmp) (v : Value) : (F.put dst v).ds = F.ds := by
  cases F; unfold Fr.put; split
  · rfl
  · simp only; split <;> rfl

theorem Fr.get_put (F : Fr) (d : Tmp) (v : Value) (i : Nat) : (F.put (some d) v).get i = if i = d ∧ d < F.size then v else F.get i := by
  obtain ⟨t, sz, ds, df⟩ := F
  cases h : Nat.ble (Nat.succ d) sz with
  | true =>
    have h' : d < sz := Nat.le_of_ble_eq_true h
    simp only [Fr.put, Fr.get, h, PT.get_put]
    by_cases hi : i = d <;> simp [hi, h']
  | false =>
    have h' : ¬ d < sz := fun hlt => by
      have := Nat.ble_eq_true_of_le (show Nat.succ d ≤ sz from hlt)
      rw [this] at h; cases h
    simp [Fr.put, h, h']

def atom : Value → Bool
  | .bool _ | .int .. | .float .. | .string _ | .pointer none | .slice none _ _ | .map none | .nilFunc | .nilIface => true
  | _ => false

def flat : Value → Bool
  | .agg x => x.toList.all atom
  | .tuple x => x.toList.all atom
  | .iface _ v => atom v
  | v => atom v

theorem VR.of_atom {φ : Places} {v : Value} (h : atom v = true) : VR φ v v := by
  cases v with
  | bool => exact .bool _
  | int => exact .int _ _
  | float => exact .float _ _
  | string => exact .string _
  | pointer a => cases a with
    | none => exact .ptrNil
    | some a => cases h
  | slice a n c => cases a with
    | none => exact .sliceNil _ _
    | some a => cases h
  | map a => cases a with
    | none => exact .mapNil
    | some a => cases h
  | nilFunc => exact .nilFunc
  | nilIface => exact .nilIface
  | _ => cases h

theorem VR.of_flat {φ : Places} {v : Value} (h : flat v = true) : VR φ v v := by
  have key : ∀ (x : Array Value), x.toList.all atom = true → ∀ (i : Nat) u v, x[i]? = some u → x[i]? = some v → VR φ u v := by
    intro x hx i u v hu hv
    rw [hu] at hv; cases hv
    have : u ∈ x.toList := by
      rw [← Array.getElem?_toList] at hu
      exact List.mem_of_getElem? hu
    exact .of_atom (List.all_eq_true.1 hx u this)
  cases v with
  | agg x => exact .agg x x rfl (key x h)
  | tuple x => exact .tuple x x rfl (key x h)
  | iface t v => exact .iface t v v (.of_atom h)
  | bool => exact .of_atom h
  | int => exact .of_atom h
  | float => exact .of_atom h
  | string => exact .of_atom h
  | pointer => exact .of_atom h
  | slice => exact .of_atom h
  | map => exact .of_atom h
  | nilFunc => exact .of_atom h
  | nilIface => exact .of_atom h
  | complex => cases h
  | chan => cases h
  | func => cases h

theorem VR.eq_of_atom {φ : Places} {u v : Value} (h : VR φ u v) (ha : atom u = true) : v = u := by
  cases h <;> first | rfl | cases ha

theorem VR.undef {φ : Places} : VR φ Go.undef Go.undef := .of_flat rfl

/-- A deferred call as it was laid. -/
def DRel (φ : Places) (x : FuncId × List Value) (d : Deferred) : Prop :=
  ∃ cap, d.target = .fn (.func x.1) cap ∧ VRs φ x.2 (d.args ++ cap).toList

inductive DsRel (φ : Places) : List (FuncId × List Value) → List Deferred → Prop where
  | nil : DsRel φ [] []
  | cons {x : FuncId × List Value} {d : Deferred} {l : List (FuncId × List Value)} {m : List Deferred} (h : DRel φ x d) (t : DsRel φ l m) : DsRel φ (x :: l) (d :: m)

theorem DsRel.mono {φ φ' : Places} (hl : Le φ φ') {l : List (FuncId × List Value)} {m : List Deferred} (h : DsRel φ l m) : DsRel φ' l m := by
  induction h with
  | nil => exact .nil
  | cons h _ ih => obtain ⟨cap, h1, h2⟩ := h; exact .cons ⟨cap, h1, h2.mono hl⟩ ih

/-- Not known. -/
def isTop : Value → Bool
  | .chan _ => true
  | _ => false

/-- Related, or not known. -/
def VO (φ : Places) (u v : Value) : Prop := isTop u = true ∨ VR φ u v

theorem VO.mono {φ φ' : Places} (hl : Le φ φ') {u v : Value} (h : VO φ u v) : VO φ' u v := h.imp id (fun h => h.mono hl)
theorem VO.known {φ : Places} {u v : Value} (h : VO φ u v) (hu : isTop u = false) : VR φ u v := h.resolve_left (by rw [hu]; simp)

structure FRel (φ : Places) (F : Fr) (a : Act) : Prop where
  defers : DsRel φ F.ds a.defers
  size : a.tmps.size = F.size
  get : ∀ i, VO φ (F.get i) (a.tmps.getD i Go.undef)

theorem FRel.mono {φ φ' : Places} (hl : Le φ φ') {F : Fr} {a : Act} (h : FRel φ F a) : FRel φ' F a := ⟨h.defers.mono hl, h.size, fun i => (h.get i).mono hl⟩

theorem FRel.put {φ : Places} {F : Fr} {a : Act} (h : FRel φ F a) (dst : Option Tmp) {u v : Value} (hv : VR φ u v) : FRel φ (F.put dst u) (a.put dst v) := by
  cases dst with
  | none => exact h
  | some d =>
    refine ⟨by rw [Fr.ds_put]; exact h.defers, by simp [Act.put, h.size], fun i => ?_⟩
    rw [Fr.get_put]
    simp only [Act.put, Array.getD_eq_getD_getElem?, Array.getElem?_setIfInBounds]
    have hg := h.get i
    rw [Array.getD_eq_getD_getElem?] at hg
    by_cases hi : i = d
    · subst hi
      by_cases hs : i < F.size
      · rw [if_pos ⟨rfl, hs⟩]; simp [h.size, hs]; exact .inr hv
      · rw [if_neg (fun hh => hs hh.2)]
        have : a.tmps[i]? = none := Array.getElem?_eq_none (by rw [h.size]; omega)
        rw [this] at hg
        simp [h.size, hs]; exact hg
    · rw [if_neg (fun hh => hi hh.1)]
      have : ¬ d = i := fun e => hi e.symm
      simp [this]; exact hg

def look (ng : Nat) (F : Fr) : Operand → Option Value
  | .tmp t => match isTop (F.get t) with | true => none | false => some (F.get t)
  | .const v => match flat v with | true => some v | false => none
  | .global g => match Nat.ble (g + 1) ng with | true => some (.pointer (some ⟨g, 0, none⟩)) | false => none
  | .func f => some (.func (.func f) #[] #[])

theorem look_sound {ng : Nat} {φ : Places} {F : Fr} {a : Act} (hg : GOk ng φ) (hf : FRel φ F a) {x : Operand} {v : Value} (h : look ng F x = some v) :
    VR φ v (a.eval x) := by
  cases x with
  | tmp t =>
    simp only [look] at h
    split at h
    · cases h
    · rename_i ht
      cases h
      exact (hf.get t).known ht
  | const c =>
    simp only [look] at h
    split at h
    · cases h; exact .of_flat ‹_›
    · cases h
  | global g =>
    simp only [look] at h
    split at h
    · cases h
      rename_i hb
      obtain ⟨p, hp, hb', hs⟩ := hg g (by have := Nat.le_of_ble_eq_true hb; omega)
      have := VR.ptr (φ := φ) g 0 p hp
      rw [hb', hs] at this
      exact this
    · cases h
  | func f => cases h; exact .func _ _ _ _ _ rfl rfl (by simp) (by simp)

/-! ## The rows of a heap -/

theorem Rel.row {φ : Places} {H : AHeap} {w : World} (hr : Rel φ H w) {b : Nat} {cells : List Value} {e : TypeId} {k : Nat} {mk : Mark} {p : Pl}
    (hb : H.get b = some (.row cells e k mk)) (hp : φ b = some p) :
    ∃ c fr, w.heap[p.blk]? = some (.cells c e fr) ∧ c.size = p.size ∧ p.sh + cells.length ≤ p.size ∧ mk.fits p fr ∧
      ∀ (i : Nat) u, cells[i]? = some u → ∃ v, c[p.sh + i]? = some v ∧ VR φ u v := by
  obtain ⟨c, hc, ho⟩ := hr.live b _ p hb hp
  cases c <;> simp only [ORel] at ho
  obtain ⟨rfl, _, h1, h2, h3, h4⟩ := ho
  exact ⟨_, _, hc, h1, h2, h3, h4⟩

theorem Addr.add_none (b o n : Nat) : (⟨b, o, none⟩ : Addr).add n = ⟨b, o + n, none⟩ := by
  unfold Addr.add; split
  · rename_i h; subst h; rfl
  · rfl

theorem cell?_eq {w : World} {r : Nat} {c : Array Value} {e : TypeId} {fr : Nat × Nat} (h : w.heap[r]? = some (.cells c e fr)) (o : Nat) :
    w.cell? ⟨r, o, none⟩ = c[o]? := by simp [World.cell?, h]

theorem Rel.esz {φ : Places} {H : AHeap} {w : World} (hr : Rel φ H w) {b : Nat} {cells : List Value} {e : TypeId} {k : Nat} {mk : Mark} {p : Pl}
    (hb : H.get b = some (.row cells e k mk)) (hp : φ b = some p) : p.esz = k := by
  obtain ⟨c, hc, ho⟩ := hr.live b _ p hb hp
  cases c <;> simp only [ORel] at ho
  exact ho.2.1

/-- Some cells behind one another. -/
def cut (cells : List Value) (o n : Nat) : Option (List Value) :=
  let l := (cells.drop o).take n
  match Nat.beq l.length n with | true => some l | false => none

theorem cut_some {cells l : List Value} {o n : Nat} (h : cut cells o n = some l) : l.length = n ∧ (∀ i, i < n → l[i]? = cells[o + i]?) ∧ (n = 0 ∨ o + n ≤ cells.length) := by
  unfold cut at h
  simp only at h
  split at h
  · cases h
    rename_i hb
    have hl := Nat.eq_of_beq_eq_true hb
    refine ⟨hl, fun i hi => ?_, ?_⟩
    · rw [List.getElem?_take_of_lt hi, List.getElem?_drop]
    · rw [List.length_take, List.length_drop] at hl; omega
  · cases h

/-- The cells of a row, read in the world. -/
theorem Rel.cells {φ : Places} {H : AHeap} {w : World} (hr : Rel φ H w) {b : Nat} {cells : List Value} {e : TypeId} {k : Nat} {mk : Mark} {p : Pl}
    (hb : H.get b = some (.row cells e k mk)) (hp : φ b = some p) {o n : Nat} {l : List Value} (hl : cut cells o n = some l) :
    ∃ l' : List Value, VRs φ l l' ∧ ∀ j v, l'[j]? = some v → w.cell? ((⟨p.blk, p.sh + o, none⟩ : Addr).add j) = some v := by
  obtain ⟨c, fr, hc, hs, hle, _, hcell⟩ := hr.row hb hp
  obtain ⟨hlen, hget, hin⟩ := cut_some hl
  refine ⟨(List.range n).map fun i => (c[p.sh + o + i]?).getD Go.undef, ⟨by simp [hlen], fun i u v hu hv => ?_⟩, fun j v hv => ?_⟩
  · have hi : i < n := by have := (List.getElem?_eq_some_iff.1 hu).1; omega
    simp only [List.getElem?_map, List.getElem?_range hi, Option.map_some, Option.some.injEq] at hv
    rw [hget i hi] at hu
    obtain ⟨v', hv', hr'⟩ := hcell _ _ hu
    rw [← Nat.add_assoc] at hv'
    rw [hv'] at hv
    simp at hv
    exact hv ▸ hr'
  · have hj : j < n := by have := (List.getElem?_eq_some_iff.1 hv).1; simpa using this
    simp only [List.getElem?_map, List.getElem?_range hj, Option.map_some, Option.some.injEq] at hv
    rw [Addr.add_none, cell?_eq hc]
    have : p.sh + o + j < c.size := by omega
    rw [← hv, Array.getElem?_eq_getElem this]; rfl

/-! ## Loads -/

def isAggOf (P : Program) (t : TypeId) : Option Bool :=
  match P.underlying t with
  | some (.struct _) => some true
  | some (.array _ _) => some true
  | some _ => some false
  | none => none

def sizeA (P : Program) (t : TypeId) : Option Nat :=
  match P.info? t with
  | some i => some i.size
  | none => none

theorem sizeA_run {P : Program} {t : TypeId} {n : Nat} (h : sizeA P t = some n) (w : World) : (sizeOf t).run P w = .ok n w := by
  unfold sizeA at h
  split at h
  · cases h; rename_i i hi; simp [sizeOf, typeInfo, hi]
  · cases h

theorem isAggOf_run {P : Program} {t : TypeId} {b : Bool} (h : isAggOf P t = some b) (w : World) : (isAgg t).run P w = .ok b w := by
  unfold isAggOf at h
  split at h <;> cases h <;> rename_i hu
  · simp [isAgg, run_underlying hu]
  · simp [isAgg, run_underlying hu]
  · rename_i d h1 h2
    cases d <;> simp_all [isAgg, run_underlying hu]

def loadA (P : Program) (t : TypeId) (H : AHeap) (a : Value) : Option Value :=
  match a with
  | .pointer (some ⟨b, o, none⟩) =>
    match H.get b with
    | some (.row cells _ _ _) =>
      match isAggOf P t with
      | some true => match sizeA P t with
        | some n => match cut cells o n with
          | some l => some (.agg l.toArray)
          | none => none
        | none => none
      | some false => cells[o]?
      | none => none
    | _ => none
  | _ => none

theorem VR.agg_list {φ : Places} {l l' : List Value} (h : VRs φ l l') : VR φ (.agg l.toArray) (.agg l'.toArray) :=
  .agg _ _ (by simp [h.1]) (by simpa using h.2)
theorem VR.tuple_list {φ : Places} {l l' : List Value} (h : VRs φ l l') : VR φ (.tuple l.toArray) (.tuple l'.toArray) :=
  .tuple _ _ (by simp [h.1]) (by simpa using h.2)

theorem loadA_sound {P : Program} {φ : Places} {H : AHeap} {w : World} (hr : Rel φ H w) {t : TypeId} {a a' v : Value} (ha : VR φ a a') (h : loadA P t H a = some v) :
    ∃ v', (Instr.loadAt t a').run P w = .ok v' w ∧ VR φ v v' := by
  unfold loadA at h
  split at h
  rotate_left
  · cases h
  rename_i b o
  cases ha with | ptr _ _ p hp =>
  split at h
  rotate_left
  · cases h
  rename_i cells e k mk hb
  split at h
  · rename_i hagg
    split at h
    rotate_left
    · cases h
    rename_i n hn
    split at h
    rotate_left
    · cases h
    rename_i l hl
    cases h
    obtain ⟨l', hrel, hcells⟩ := hr.cells hb hp hl
    refine ⟨.agg l'.toArray, ?_, .agg_list hrel⟩
    have hlen : l'.length = n := by rw [← hrel.1]; exact (cut_some hl).1
    have := run_loadCells_list (P := P) w ⟨p.blk, p.sh + o, none⟩ l' hcells
    rw [hlen] at this
    simp [Instr.loadAt, Instr.sureAddr, loadVar, isAggOf_run hagg, sizeA_run hn, this]
  · rename_i hagg
    obtain ⟨c, fr, hc, hs, hle, _, hcell⟩ := hr.row hb hp
    obtain ⟨v', hv', hrel⟩ := hcell _ _ h
    refine ⟨v', ?_, hrel⟩
    have : w.cell? ⟨p.blk, p.sh + o, none⟩ = some v' := by rw [cell?_eq hc, hv']
    simp [Instr.loadAt, Instr.sureAddr, loadVar, isAggOf_run hagg, this]
  · cases h


/-- A frame of which some temporaries are known. -/
def Fr.keep (F : Fr) (t : PT Value) : Fr := { t := t, size := F.size, ds := F.ds, dflt := fun _ => .chan none }

theorem FRel.keep {φ : Places} {F : Fr} {a : Act} (h : FRel φ F a) {t : PT Value} (ht : ∀ i v, t.get i = some v → F.get i = v) : FRel φ (F.keep t) a := by
  refine ⟨h.defers, h.size, fun i => ?_⟩
  unfold Fr.keep Fr.get
  simp only
  cases hg : t.get i with
  | none => exact .inl rfl
  | some v => simp only; rw [← ht i v hg]; exact h.get i

end Go.AH

namespace Go.AH
open Go

/-! ## Operations that leave memory alone: values out of values -/

def pureAtom (s : Sem Value) : Option Value :=
  match s with
  | .pure v => match atom v with | true => some v | false => none
  | _ => none

theorem pureAtom_some {s : Sem Value} {v : Value} (h : pureAtom s = some v) : s = .pure v ∧ atom v = true := by
  unfold pureAtom at h
  split at h
  · split at h
    · cases h; exact ⟨rfl, ‹_›⟩
    · cases h
  · cases h

def plainOps : Value → Value → Bool
  | .int .., .int .. => true
  | .float .., .float .. => true
  | .string _, .string _ => true
  | _, _ => false

def ownRow (H : AHeap) (b : Nat) : Bool :=
  match H.get b with
  | some (.row _ _ _ .own) => true
  | _ => false

def samePtrA (H : AHeap) (b o b' o' : Nat) : Option Bool :=
  match Nat.beq b b' with
  | true => some (Nat.beq o o')
  | false => match ownRow H b, ownRow H b' with
    | true, true => some false
    | _, _ => none

/-- Is a conversion's kind of type so? -/
def eqA (P : Program) (H : AHeap) : Nat → TypeId → Value → Value → Option Bool
  | 0, _, _, _ => none
  | n + 1, t, x, y =>
    match P.underlying t, x, y with
    | some .bool, .bool a, .bool b => some (a == b)
    | some (.int _), .int k a, .int k' b => if k = k' then some (a == b) else none
    | some .string, .string a, .string b => some (a == b)
    | some (.pointer _), .pointer none, .pointer none => some true
    | some (.pointer _), .pointer none, .pointer (some _) => some false
    | some (.pointer _), .pointer (some _), .pointer none => some false
    | some (.pointer e), .pointer (some ⟨b, o, none⟩), .pointer (some ⟨b', o', none⟩) =>
      match sizeA P e with
      | some (_ + 1) => samePtrA H b o b' o'
      | _ => none
    | some (.interface _), .nilIface, .nilIface => some true
    | some (.interface _), .nilIface, .iface _ _ => some false
    | some (.interface _), .iface _ _, .nilIface => some false
    | some (.interface _), .iface tx vx, .iface ty vy =>
      match Nat.beq tx ty with
      | false => some false
      | true => match P.info? tx with
        | some i => match i.comparable with
          | true => eqA P H n tx vx vy
          | false => none
        | none => none
    | some (.slice _), .slice none _ _, .slice b _ _ => some b.isNone
    | some (.slice _), .slice (some _) _ _, .slice none _ _ => some false
    | some (.map _ _), .map none, .map b => some b.isNone
    | some (.map _ _), .map (some _), .map none => some false
    | some (.func _ _ _), .nilFunc, .nilFunc => some true
    | some (.func _ _ _), .nilFunc, .func _ _ _ => some false
    | some (.func _ _ _), .func _ _ _, .nilFunc => some false
    | _, _, _ => none

theorem Mark.own_fits {p : Pl} {fr : Nat × Nat} (h : Mark.own.fits p fr) : fr = (0, 0) := h.1

theorem ownRow_world {φ : Places} {H : AHeap} {w : World} (hr : Rel φ H w) {b : Nat} {p : Pl} (h : ownRow H b = true) (hp : φ b = some p) :
    ∃ c e, w.heap[p.blk]? = some (.cells c e (0, 0)) := by
  unfold ownRow at h
  split at h
  · rename_i cells e k hb
    obtain ⟨c, fr, hc, _, _, hf, _⟩ := hr.row hb hp
    exact ⟨c, e, by rw [hc, Mark.own_fits hf]⟩
  · cases h

theorem frozen_zero {w : World} {r o : Nat} {c : Array Value} {e : TypeId} (h : w.heap[r]? = some (.cells c e (0, 0))) (s : Option Nat) : w.frozen? ⟨r, o, s⟩ = false := by
  simp [World.frozen?, h]

theorem run_sameAddr_other {P : Program} {w : World} {a b : Addr} {c c' : Array Value} {e e' : TypeId} (hne : a.block ≠ b.block)
    (ha : w.heap[a.block]? = some (.cells c e (0, 0))) (hb : w.heap[b.block]? = some (.cells c' e' (0, 0))) : (sameAddr a b).run P w = .ok false w := by
  obtain ⟨ab, ao, as⟩ := a
  obtain ⟨bb, bo, bs⟩ := b
  simp only at hne ha hb
  simp [sameAddr, hne, frozen_zero ha, frozen_zero hb, noView, viewAt, mayBeOne, stringish, World.shape?, ha, hb]

theorem run_sameAddr_same {P : Program} {w : World} {r o o' : Nat} : (sameAddr ⟨r, o, none⟩ ⟨r, o', none⟩).run P w = .ok (Nat.beq o o') w := by
  simp only [sameAddr, beq_self_eq_true, if_true, Sem.run_pure, Result.ok.injEq, and_true]
  rw [Bool.eq_iff_iff]
  simp

theorem samePtrA_sound {P : Program} {φ : Places} {H : AHeap} {w : World} (hr : Rel φ H w) {b o b' o' : Nat} {p p' : Pl} {r : Bool}
    (hp : φ b = some p) (hp' : φ b' = some p') (h : samePtrA H b o b' o' = some r) :
    (sameAddr ⟨p.blk, p.sh + o, none⟩ ⟨p'.blk, p'.sh + o', none⟩).run P w = .ok r w := by
  unfold samePtrA at h
  split at h
  · rename_i hb
    have := Nat.eq_of_beq_eq_true hb
    subst this
    rw [hp] at hp'; cases hp'
    cases h
    rw [run_sameAddr_same]
    congr 1
    rw [Bool.eq_iff_iff]; simp
  · split at h
    · cases h
      rename_i hne _ _ h1 h2
      obtain ⟨c, e, hc⟩ := ownRow_world hr h1 hp
      obtain ⟨c', e', hc'⟩ := ownRow_world hr h2 hp'
      refine run_sameAddr_other (fun heq => ?_) hc hc'
      have hbb : b ≠ b' := Nat.ne_of_beq_eq_false hne
      unfold ownRow at h1 h2
      split at h1
      · rename_i x1 y1 z1 hb1
        split at h2
        · rename_i x2 y2 z2 hb2
          exact hbb (hr.inj b b' _ _ p p' hb1 hb2 hp hp' heq)
        · cases h2
      · cases h1
    · cases h

theorem eqA_sound {P : Program} {φ : Places} {H : AHeap} {w : World} (hr : Rel φ H w) : ∀ (n : Nat) (t : TypeId) (x y x' y' : Value) (r : Bool), VR φ x x' → VR φ y y' →
    eqA P H n t x y = some r → ∀ d, (Op.equalIn (d + n) t x' y').run P w = .ok r w := by
  intro n
  induction n with
  | zero => intro t x y x' y' r _ _ h; cases h
  | succ n ih =>
    intro t x y x' y' r hx hy h d
    rw [show d + (n + 1) = (d + n) + 1 from rfl, Op.equalIn, Sem.run_bind]
    unfold eqA at h
    split at h
    · rename_i hu; rw [run_underlying hu]; cases hx; cases hy; cases h; rfl
    · rename_i hu; rw [run_underlying hu]; cases hx; cases hy
      by_cases hk : ‹IntKind› = ‹IntKind›
      all_goals
        split at h
        · cases h; rename_i hk; subst hk; simp
        · cases h
    · rename_i hu; rw [run_underlying hu]; cases hx; cases hy; cases h; rfl
    · rename_i hu; rw [run_underlying hu]; cases hx; cases hy; cases h; rfl
    · rename_i hu; rw [run_underlying hu]; cases hx; cases hy; cases h; rfl
    · rename_i hu; rw [run_underlying hu]; cases hx; cases hy; cases h; rfl
    · rename_i hu; rw [run_underlying hu]; cases hx; cases hy
      split at h
      · rename_i m hs
        have := samePtrA_sound (P := P) hr ‹φ _ = some _› ‹φ _ = some _› h
        simp [sizeA_run hs, this]
      · cases h
    · rename_i hu; rw [run_underlying hu]; cases hx; cases hy; cases h; rfl
    · rename_i hu; rw [run_underlying hu]; cases hx; cases hy; cases h; rfl
    · rename_i hu; rw [run_underlying hu]; cases hx; cases hy; cases h; rfl
    · rename_i hu; rw [run_underlying hu]
      cases hx with | iface _ _ vx' hvx =>
      cases hy with | iface _ _ vy' hvy =>
      split at h
      · rename_i hb
        cases h
        have := Nat.ne_of_beq_eq_false hb
        simp [this]
      · rename_i hb
        have := Nat.eq_of_beq_eq_true hb
        subst this
        split at h
        · rename_i i hi
          split at h
          · rename_i hc
            have := ih _ _ _ _ _ _ hvx hvy h d
            simp [typeInfo, hi, hc, this]
          · cases h
        · cases h
    · rename_i hu; rw [run_underlying hu]; cases hx; cases h; cases hy <;> rfl
    · rename_i hu; rw [run_underlying hu]; cases hy; cases h; cases hx <;> rfl
    · rename_i hu; rw [run_underlying hu]; cases hx; cases h; cases hy <;> rfl
    · rename_i hu; rw [run_underlying hu]; cases hx; cases hy; cases h; rfl
    · rename_i hu; rw [run_underlying hu]; cases hx; cases hy; cases h; rfl
    · rename_i hu; rw [run_underlying hu]; cases hx; cases hy; cases h; rfl
    · rename_i hu; rw [run_underlying hu]; cases hx; cases hy; cases h; rfl
    · cases h

def isConstB : Operand → Bool
  | .const _ => true
  | _ => false

def nilNil : Value → Value → Bool
  | .nilIface, .nilIface => true
  | _, _ => false

def aggAgg : Value → Value → Bool
  | .agg _, .agg _ => true
  | _, _ => false

def binA (P : Program) (H : AHeap) (op : BinOp) (t : TypeId) (x y : Operand) (a b : Value) : Option Value :=
  match plainOps a b with
  | true => pureAtom (binOp op t a b)
  | false =>
    match aggAgg a b with
    | true => none
    | false =>
      match nilNil a b && !(isConstB x || isConstB y) with
      | true => none
      | false =>
        match op with
        | .eql => match eqA P H 4 t a b with | some r => some (.bool r) | none => none
        | .neq => match eqA P H 4 t a b with | some r => some (.bool !r) | none => none
        | _ => none

theorem run_eqGuard_of {P : Program} {w : World} (op : BinOp) (t : TypeId) (x y : Operand) (a b : Value) (h1 : aggAgg a b = false) (h2 : (nilNil a b && !(isConstB x || isConstB y)) = false) :
    (eqGuard op t x y a b).run P w = .ok () w := by
  unfold eqGuard
  cases op <;> simp only [Bool.not_true, Bool.not_false, if_true, Sem.run_pure] <;> try rfl
  all_goals
    cases a <;> cases b <;> simp_all [aggAgg, nilNil] <;> (cases x <;> cases y <;> simp_all [isConstB])

theorem plainOps_eq {φ : Places} {a b a' b' : Value} (h : plainOps a b = true) (ha : VR φ a a') (hb : VR φ b b') : a' = a ∧ b' = b := by
  unfold plainOps at h
  split at h <;> first | (cases h; done) | (cases ha; cases hb; exact ⟨rfl, rfl⟩)

theorem run_binOp_eql {P : Program} {φ : Places} {w : World} {t : TypeId} {x y a b : Value} {r : Bool} (hx : VR φ x a) (hy : VR φ y b) (hp : plainOps x y = false)
    (h : (Op.equal t a b).run P w = .ok r w) : (binOp .eql t a b).run P w = .ok (.bool r) w ∧ (binOp .neq t a b).run P w = .ok (.bool !r) w := by
  constructor
  · cases hx <;> cases hy <;> first | (cases hp; done) | simp [binOp, h]
  · cases hx <;> cases hy <;> first | (cases hp; done) | simp [binOp, h]

theorem VR.shape2 {φ : Places} {x y a b : Value} (hx : VR φ x a) (hy : VR φ y b) : aggAgg a b = aggAgg x y ∧ nilNil a b = nilNil x y := by
  cases hx <;> cases hy <;> exact ⟨rfl, rfl⟩

theorem binA_sound {P : Program} {φ : Places} {H : AHeap} {w : World} (hr : Rel φ H w) {op : BinOp} {t : TypeId} {x y : Operand} {a b a' b' v : Value} (ha : VR φ a a') (hb : VR φ b b')
    (h : binA P H op t x y a b = some v) : ∃ v', (do eqGuard op t x y a' b'; binOp op t a' b' : Sem Value).run P w = .ok v' w ∧ VR φ v v' := by
  unfold binA at h
  split at h
  · rename_i hp
    obtain ⟨rfl, rfl⟩ := plainOps_eq hp ha hb
    obtain ⟨h1, h2⟩ := pureAtom_some h
    have hg : (eqGuard op t x y a' b').run P w = .ok () w := by
      refine run_eqGuard_of op t x y a' b' ?_ ?_ <;> (unfold plainOps at hp; split at hp <;> first | rfl | cases hp)
    exact ⟨v, by simp [hg, h1], .of_atom h2⟩
  · rename_i hp
    split at h
    · cases h
    · rename_i hagg
      split at h
      · cases h
      · rename_i hnil
        have hsh := VR.shape2 ha hb
        have hg : (eqGuard op t x y a' b').run P w = .ok () w := run_eqGuard_of op t x y a' b' (by rw [hsh.1]; exact hagg) (by rw [hsh.2]; exact hnil)
        split at h
        · split at h
          · cases h
            rename_i r he
            have hq : (Op.equal t a' b').run P w = .ok r w := eqA_sound hr 4 t a b a' b' r ha hb he 9996
            exact ⟨.bool r, by simp [hg, (run_binOp_eql ha hb hp hq).1], .bool _⟩
          · cases h
        · split at h
          · cases h
            rename_i r he
            have hq : (Op.equal t a' b').run P w = .ok r w := eqA_sound hr 4 t a b a' b' r ha hb he 9996
            exact ⟨.bool !r, by simp [hg, (run_binOp_eql ha hb hp hq).2], .bool _⟩
          · cases h
        · cases h

end Go.AH

namespace Go.AH
open Go

/-! ## Lists side by side -/

inductive L2 {α β : Type} (R : α → β → Prop) : List α → List β → Prop where
  | nil : L2 R [] []
  | cons {a : α} {b : β} {l : List α} {m : List β} (h : R a b) (t : L2 R l m) : L2 R (a :: l) (b :: m)

theorem L2.of_get {α β : Type} {R : α → β → Prop} : ∀ {l : List α} {m : List β}, l.length = m.length → (∀ (i : Nat) a b, l[i]? = some a → m[i]? = some b → R a b) → L2 R l m
  | [], [], _, _ => .nil
  | [], _ :: _, h, _ => by simp at h
  | _ :: _, [], h, _ => by simp at h
  | a :: l, b :: m, h, g => .cons (g 0 a b rfl rfl) (of_get (by simpa using h) fun i x y hx hy => g (i + 1) x y (by simpa using hx) (by simpa using hy))

theorem L2.length {α β : Type} {R : α → β → Prop} {l : List α} {m : List β} (h : L2 R l m) : l.length = m.length := by
  induction h with
  | nil => rfl
  | cons _ _ ih => simp [ih]

theorem L2.get {α β : Type} {R : α → β → Prop} {l : List α} {m : List β} (h : L2 R l m) : ∀ (i : Nat) a b, l[i]? = some a → m[i]? = some b → R a b := by
  induction h with
  | nil => intro i a b ha; simp at ha
  | cons h _ ih =>
    intro i a b ha hb
    cases i with
    | zero => simp at ha hb; subst ha; subst hb; exact h
    | succ i => simp at ha hb; exact ih i a b ha hb

theorem VRs.l2 {φ : Places} {l m : List Value} (h : VRs φ l m) : L2 (VR φ) l m := .of_get h.1 h.2
theorem L2.vrs {φ : Places} {l m : List Value} (h : L2 (VR φ) l m) : VRs φ l m := ⟨h.length, h.get⟩

theorem L2.append {α β : Type} {R : α → β → Prop} {l l' : List α} {m m' : List β} (h : L2 R l m) (h' : L2 R l' m') : L2 R (l ++ l') (m ++ m') := by
  induction h with
  | nil => exact h'
  | cons h _ ih => exact .cons h ih

theorem L2.map {α β α' β' : Type} {R : α → β → Prop} {S : α' → β' → Prop} {f : α → α'} {g : β → β'} (hfg : ∀ a b, R a b → S (f a) (g b)) {l : List α} {m : List β} (h : L2 R l m) :
    L2 S (l.map f) (m.map g) := by
  induction h with
  | nil => exact .nil
  | cons h _ ih => exact .cons (hfg _ _ h) ih

theorem L2.take {α β : Type} {R : α → β → Prop} {l : List α} {m : List β} (h : L2 R l m) : ∀ n, L2 R (l.take n) (m.take n) := by
  induction h with
  | nil => intro n; simp; exact .nil
  | cons h _ ih => intro n; cases n with
    | zero => exact .nil
    | succ n => simpa using L2.cons h (ih n)

theorem L2.drop {α β : Type} {R : α → β → Prop} {l : List α} {m : List β} (h : L2 R l m) : ∀ n, L2 R (l.drop n) (m.drop n) := by
  induction h with
  | nil => intro n; simp; exact .nil
  | cons h t ih => intro n; cases n with
    | zero => exact .cons h t
    | succ n => simpa using ih n

theorem L2.set {α β : Type} {R : α → β → Prop} {l : List α} {m : List β} (h : L2 R l m) {a : α} {b : β} (hab : R a b) : ∀ n, L2 R (l.set n a) (m.set n b) := by
  induction h with
  | nil => intro n; simp; exact .nil
  | cons h t ih => intro n; cases n with
    | zero => exact .cons hab t
    | succ n => exact .cons h (ih n)

theorem L2.refl_of {α : Type} {R : α → α → Prop} : ∀ (l : List α), (∀ a ∈ l, R a a) → L2 R l l
  | [], _ => .nil
  | a :: l, h => .cons (h a (.head _)) (refl_of l fun b hb => h b (.tail _ hb))

theorem L2.mono {α β : Type} {R S : α → β → Prop} (hRS : ∀ a b, R a b → S a b) {l : List α} {m : List β} (h : L2 R l m) : L2 S l m := by
  induction h with
  | nil => exact .nil
  | cons h _ ih => exact .cons (hRS _ _ h) ih

theorem VR.cells {φ : Places} {u v : Value} (h : VR φ u v) : L2 (VR φ) u.cells.toList v.cells.toList := by
  cases h with
  | agg x x' hx h => exact (show L2 (VR φ) x.toList x'.toList from .of_get (by simpa using hx) (by simpa using h))
  | bool => exact .cons (.bool _) .nil
  | int => exact .cons (.int _ _) .nil
  | float => exact .cons (.float _ _) .nil
  | string => exact .cons (.string _) .nil
  | ptrNil => exact .cons .ptrNil .nil
  | ptr b o p h => exact .cons (.ptr b o p h) .nil
  | sliceNil => exact .cons (.sliceNil _ _) .nil
  | slice b o p n c hc h => exact .cons (.slice b o p n c hc h) .nil
  | sliceUnk b o p n C h hn hC => exact .cons (.sliceUnk b o p n C h hn hC) .nil
  | sliceDead b o p a h => exact .cons (.sliceDead b o p a h) .nil
  | mapNil => exact .cons .mapNil .nil
  | map b p h => exact .cons (.map b p h) .nil
  | func fn x x' y y' hx hy h h' => exact .cons (.func fn x x' y y' hx hy h h') .nil
  | nilFunc => exact .cons .nilFunc .nil
  | iface t u v h => exact .cons (.iface t u v h) .nil
  | nilIface => exact .cons .nilIface .nil
  | tuple x x' hx h => exact .cons (.tuple x x' hx h) .nil

/-! ## Building -/

theorem foldl_rel {φ : Places} (off : Nat) : ∀ {l l' : List Value}, L2 (VR φ) l l' → ∀ (k : Nat) (cs cs' : Array Value), L2 (VR φ) cs.toList cs'.toList →
    L2 (VR φ) ((l.zipIdx k).foldl (fun cs (x : Value × Nat) => cs.setIfInBounds (off + x.2) x.1) cs).toList
      ((l'.zipIdx k).foldl (fun cs (x : Value × Nat) => cs.setIfInBounds (off + x.2) x.1) cs').toList := by
  intro l l' h
  induction h with
  | nil => intro k cs cs' hcs; simpa using hcs
  | cons h _ ih =>
    intro k cs cs' hcs
    simp only [List.zipIdx_cons, List.foldl_cons]
    refine ih _ _ _ ?_
    simp only [Array.toList_setIfInBounds]
    exact hcs.set h _

def PRel (φ : Places) (a b : Nat × Value) : Prop := a.1 = b.1 ∧ VR φ a.2 b.2

theorem fill_rel {φ : Places} (place : Nat → Option (Nat × Nat)) : ∀ {parts parts' : List (Nat × Value)}, L2 (PRel φ) parts parts' → ∀ (cells cells' out : Array Value),
    L2 (VR φ) cells.toList cells'.toList → Instr.fill place cells parts = some out → ∃ out', Instr.fill place cells' parts' = some out' ∧ L2 (VR φ) out.toList out'.toList := by
  intro parts parts' h
  induction h with
  | nil => intro cells cells' out hc h; simp only [Instr.fill, Option.some.injEq] at h; subst h; exact ⟨cells', rfl, hc⟩
  | @cons a b l m hab _ ih =>
    intro cells cells' out hc h
    obtain ⟨i, v⟩ := a
    obtain ⟨i', v'⟩ := b
    obtain ⟨hi, hv⟩ := hab
    simp only at hi hv
    subst hi
    simp only [Instr.fill] at h ⊢
    cases hp : place i with
    | none => simp [hp] at h
    | some os =>
      obtain ⟨off, size⟩ := os
      simp only [hp] at h ⊢
      have hl := hv.cells.length
      have hl' := hc.length
      simp only [Array.length_toList] at hl hl'
      rw [← hl, ← hl']
      split at h
      · cases h
      · rename_i hcond
        rw [if_neg hcond]
        refine ih _ _ _ ?_ h
        have := foldl_rel off hv.cells 0 cells cells' hc
        rw [← Array.foldl_toList, ← Array.foldl_toList, Array.toList_zipIdx, Array.toList_zipIdx]
        exact this

def flatCells (x : Array Value) : Bool := x.toList.all atom

theorem flatCells_rel {φ : Places} {x : Array Value} (h : flatCells x = true) : L2 (VR φ) x.toList x.toList :=
  .refl_of _ fun a ha => .of_atom (List.all_eq_true.1 h a ha)

def zeroA (P : Program) (t : TypeId) : Option Value :=
  match P.info? t with
  | some i => match i.zero with
    | some z => match flat z && flatCells z.cells with | true => some z | false => none
    | none => none
  | none => none

theorem zeroA_some {P : Program} {t : TypeId} {z : Value} (h : zeroA P t = some z) : ∃ i, P.info? t = some i ∧ i.zero = some z ∧ flat z = true ∧ flatCells z.cells = true := by
  unfold zeroA at h
  split at h
  · rename_i i hi
    split at h
    · split at h
      · cases h
        rename_i hz hb
        simp only [Bool.and_eq_true] at hb
        exact ⟨i, hi, hz, hb.1, hb.2⟩
      · cases h
    · cases h
  · cases h

theorem zeroA_run {P : Program} {t : TypeId} {z : Value} (h : zeroA P t = some z) (w : World) : (zeroValue t).run P w = .ok z w := by
  obtain ⟨i, hi, hz, _⟩ := zeroA_some h
  simp [zeroValue, typeInfo, hi, hz]

def buildA (P : Program) (t : TypeId) (parts : List (Nat × Value)) : Option Value :=
  match zeroA P t with
  | some _ => match P.built t parts with
    | some cells => some (.agg cells)
    | none => none
  | none => none

theorem built_rel {P : Program} {φ : Places} {t : TypeId} {z : Value} (hz : zeroA P t = some z) {parts parts' : List (Nat × Value)} (hp : L2 (PRel φ) parts parts') {cells : Array Value}
    (h : P.built t parts = some cells) : ∃ cells', P.built t parts' = some cells' ∧ L2 (VR φ) cells.toList cells'.toList := by
  obtain ⟨i, hi, hz, _, hfl⟩ := zeroA_some hz
  unfold Program.built at h ⊢
  rw [hi] at h ⊢
  cases hu : P.underlying t with
  | none => simp [hu] at h
  | some d =>
    cases d <;> simp only [hu, hz] at h ⊢ <;> try (cases h; done)
    · rename_i n e
      cases he : P.info? e with
      | none => simp [he] at h
      | some ie =>
        simp only [he] at h ⊢
        exact fill_rel _ hp _ _ _ (flatCells_rel hfl) h
    · rename_i fields
      cases hf : fields.toList.mapM (fun f => (P.info? f.type).map fun i => (f.offset, i.size)) with
      | none => simp [hf] at h
      | some places =>
        simp only [hf] at h ⊢
        exact fill_rel _ hp _ _ _ (flatCells_rel hfl) h

theorem VR.agg_l2 {φ : Places} {x y : Array Value} (h : L2 (VR φ) x.toList y.toList) : VR φ (.agg x) (.agg y) :=
  .agg _ _ (by simpa using h.length) (by simpa using h.get)
theorem VR.tuple_l2 {φ : Places} {x y : Array Value} (h : L2 (VR φ) x.toList y.toList) : VR φ (.tuple x) (.tuple y) :=
  .tuple _ _ (by simpa using h.length) (by simpa using h.get)

theorem buildA_sound {P : Program} {φ : Places} {w : World} {t : TypeId} {parts : List (Nat × Value)} {parts' : Array (Nat × Value)} {v : Value} (hp : L2 (PRel φ) parts parts'.toList)
    (h : buildA P t parts = some v) : ∃ v', (Instr.build t parts').run P w = .ok v' w ∧ VR φ v v' := by
  unfold buildA at h
  split at h
  · rename_i z hz
    split at h
    · cases h
      rename_i cells hb
      obtain ⟨cells', hb', hr⟩ := built_rel hz hp hb
      exact ⟨.agg cells', run_build w t parts' cells' hb', .agg_l2 hr⟩
    · cases h
  · cases h

/-! ## Addresses, fields, elements -/

def fieldOf (P : Program) (s : TypeId) (f : Nat) : Option (Field × Nat) :=
  match P.underlying s with
  | some (.struct fields) => match fields[f]? with
    | some x => match sizeA P x.type with
      | some n => some (x, n)
      | none => none
    | none => none
  | _ => none

theorem fieldOf_some {P : Program} {s : TypeId} {f : Nat} {x : Field} {n : Nat} (h : fieldOf P s f = some (x, n)) :
    ∃ fields, P.underlying s = some (.struct fields) ∧ fields[f]? = some x ∧ sizeA P x.type = some n := by
  unfold fieldOf at h
  split at h
  · rename_i fields hu
    split at h
    · rename_i y hy
      split at h
      · cases h; rename_i hs; exact ⟨fields, hu, hy, hs⟩
      · cases h
    · cases h
  · cases h

def fieldAddrA (P : Program) (s : TypeId) (a : Value) (f : Nat) : Option Value :=
  match a, fieldOf P s f with
  | .pointer (some ⟨b, o, none⟩), some (x, _ + 1) => some (.pointer (some ⟨b, o + x.offset, none⟩))
  | _, _ => none

theorem fieldAddrA_sound {P : Program} {φ : Places} {w : World} {s : TypeId} {f : Nat} {a a' v : Value} (ha : VR φ a a') (h : fieldAddrA P s a f = some v) :
    ∃ v', (Instr.fieldAt s a' f).run P w = .ok v' w ∧ VR φ v v' := by
  unfold fieldAddrA at h
  split at h
  · rename_i b o x n hf
    cases h
    cases ha with | ptr _ _ p hp =>
    obtain ⟨fields, hu, hx, hs⟩ := fieldOf_some hf
    refine ⟨_, ?_, .ptr b (o + x.offset) p hp⟩
    simp [Instr.fieldAt, run_underlying hu, hx, Instr.sureAddr, fieldPlace, sizeA_run hs, Addr.add_none, Nat.add_assoc]
  · cases h

def partA (P : Program) (t : TypeId) (cs : List Value) (off : Nat) : Option Value :=
  match isAggOf P t with
  | some true => match sizeA P t with
    | some n => some (.agg ((cs.take (off + n)).drop off).toArray)
    | none => none
  | some false => cs[off]?
  | none => none

theorem partA_sound {P : Program} {φ : Places} {w : World} {t : TypeId} {cs cs' : Array Value} (hc : L2 (VR φ) cs.toList cs'.toList) {off : Nat} {v : Value} (h : partA P t cs.toList off = some v) :
    ∃ v', (part t cs' off).run P w = .ok v' w ∧ VR φ v v' := by
  unfold partA at h
  split at h
  · rename_i hagg
    split at h
    · cases h
      rename_i n hn
      refine ⟨.agg (cs'.extract off (off + n)), by simp [part, isAggOf_run hagg, sizeA_run hn], ?_⟩
      refine .agg_l2 ?_
      rw [Array.toList_extract, List.extract_eq_drop_take']
      simpa using (hc.take (off + n)).drop off
    · cases h
  · rename_i hagg
    have hlt : off < cs.toList.length := (List.getElem?_eq_some_iff.1 h).1
    have hlt' : off < cs'.size := by have := hc.length; simp only [Array.length_toList] at this hlt; omega
    refine ⟨cs'[off], by simp [part, isAggOf_run hagg, Array.getElem?_eq_getElem hlt'], hc.get off _ _ h ?_⟩
    simp [Array.getElem?_toList, Array.getElem?_eq_getElem hlt']
  · cases h

def fieldA (P : Program) (s : TypeId) (a : Value) (f : Nat) : Option Value :=
  match a, fieldOf P s f with
  | .agg cs, some (x, _) => partA P x.type cs.toList x.offset
  | _, _ => none

theorem VR.of_agg {φ : Places} {x : Array Value} {v : Value} (h : VR φ (.agg x) v) : ∃ y, v = .agg y ∧ L2 (VR φ) x.toList y.toList := by
  cases h with | agg _ y hx h => exact ⟨y, rfl, .of_get (by simpa using hx) (by simpa using h)⟩
theorem VR.of_tuple {φ : Places} {x : Array Value} {v : Value} (h : VR φ (.tuple x) v) : ∃ y, v = .tuple y ∧ L2 (VR φ) x.toList y.toList := by
  cases h with | tuple _ y hx h => exact ⟨y, rfl, .of_get (by simpa using hx) (by simpa using h)⟩

theorem fieldA_sound {P : Program} {φ : Places} {w : World} {s : TypeId} {f : Nat} {a a' v : Value} (ha : VR φ a a') (h : fieldA P s a f = some v) :
    ∃ v', (Instr.field s a' f).run P w = .ok v' w ∧ VR φ v v' := by
  unfold fieldA at h
  split at h
  · rename_i cs x n hf
    obtain ⟨cs', rfl, hc⟩ := ha.of_agg
    obtain ⟨fields, hu, hx, _⟩ := fieldOf_some hf
    obtain ⟨v', hv', hr⟩ := partA_sound (w := w) hc h
    exact ⟨v', by simp [Instr.field, run_underlying hu, hx, asAgg, hv'], hr⟩
  · cases h

def intOfA : Value → Option Int
  | .int _ n => some n
  | _ => none

/-- An index within a length. -/
def within (x : Value) (len : Nat) : Option Nat :=
  match x with
  | .int _ (.ofNat i) => match Nat.ble (i + 1) len with | true => some i | false => none
  | _ => none

theorem within_some {x : Value} {len i : Nat} (h : within x len = some i) : (∃ k, x = .int k (Int.ofNat i)) ∧ i < len := by
  unfold within at h
  split at h
  · split at h
    · cases h; rename_i hb; exact ⟨⟨_, rfl⟩, Nat.le_of_ble_eq_true hb⟩
    · cases h
  · cases h

def indexAddrA (P : Program) (t : TypeId) (x ix : Value) : Option Value :=
  match P.underlying t, x with
  | some (.slice e), .slice (some ⟨b, o, none⟩) n _ => match within ix n, sizeA P e with
    | some i, some k => some (.pointer (some ⟨b, o + i * k, none⟩))
    | _, _ => none
  | some (.array n e), .pointer (some ⟨b, o, none⟩) => match within ix n, sizeA P e with
    | some i, some k => some (.pointer (some ⟨b, o + i * k, none⟩))
    | _, _ => none
  | _, _ => none

theorem indexAddrA_sound {P : Program} {φ : Places} {w : World} {t : TypeId} {x x' ix ix' v : Value} (hx : VR φ x x') (hi : VR φ ix ix') (h : indexAddrA P t x ix = some v) :
    ∃ v', (Instr.indexAt t x' ix').run P w = .ok v' w ∧ VR φ v v' := by
  unfold indexAddrA at h
  split at h
  · rename_i e b o n c hu
    split at h
    · rename_i i k hw hk
      cases h
      obtain ⟨⟨kd, rfl⟩, hlt⟩ := within_some hw
      cases hi
      have hcond : (0 : Int) ≤ Int.ofNat i ∧ Int.ofNat i < (n : Int) := ⟨Int.natCast_nonneg _, Int.ofNat_lt.2 hlt⟩
      cases hx with
      | slice _ _ p _ _ hc hp =>
        refine ⟨_, ?_, .ptr b (o + i * k) p hp⟩
        simp only [Instr.indexAt, asIntOf, Sem.run_bind, Sem.run_pure, Result.andThen_ok, run_underlying hu]
        rw [if_pos hcond]
        simp [sizeA_run hk, Addr.add_none, Nat.add_assoc]
      | sliceUnk _ _ p _ C hp hn hC =>
        refine ⟨_, ?_, .ptr b (o + i * k) p hp⟩
        simp only [Instr.indexAt, asIntOf, Sem.run_bind, Sem.run_pure, Result.andThen_ok, run_underlying hu]
        rw [if_pos hcond]
        simp [sizeA_run hk, Addr.add_none, Nat.add_assoc]
      | sliceDead => omega
    · cases h
  · rename_i n e b o hu
    split at h
    · rename_i i k hw hk
      cases h
      obtain ⟨⟨kd, rfl⟩, hlt⟩ := within_some hw
      cases hi
      have hcond : (0 : Int) ≤ Int.ofNat i ∧ Int.ofNat i < (n : Int) := ⟨Int.natCast_nonneg _, Int.ofNat_lt.2 hlt⟩
      cases hx with | ptr _ _ p hp =>
      refine ⟨_, ?_, .ptr b (o + i * k) p hp⟩
      simp only [Instr.indexAt, asIntOf, Sem.run_bind, Sem.run_pure, Result.andThen_ok, run_underlying hu, Instr.sureAddr]
      rw [if_pos hcond]
      simp [sizeA_run hk, Addr.add_none, Nat.add_assoc]
    · cases h
  · cases h

def indexA (P : Program) (t : TypeId) (x ix : Value) : Option Value :=
  match P.underlying t, x with
  | some (.array n e), .agg cs => match within ix n, sizeA P e with
    | some i, some k => partA P e cs.toList (i * k)
    | _, _ => none
  | some .string, .string s => match within ix s.size with
    | some i => match s.data.toList[i]? with
      | some b => some (.int .u8 b.toNat)
      | none => none
    | none => none
  | _, _ => none

theorem indexA_sound {P : Program} {φ : Places} {w : World} {t : TypeId} {x x' ix ix' v : Value} (hx : VR φ x x') (hi : VR φ ix ix') (h : indexA P t x ix = some v) :
    ∃ v', (Instr.index t x' ix').run P w = .ok v' w ∧ VR φ v v' := by
  unfold indexA at h
  split at h
  · rename_i n e cs hu
    split at h
    · rename_i i k hw hk
      obtain ⟨⟨kd, rfl⟩, hlt⟩ := within_some hw
      cases hi
      obtain ⟨cs', rfl, hc⟩ := hx.of_agg
      obtain ⟨v', hv', hr⟩ := partA_sound (w := w) hc h
      refine ⟨v', ?_, hr⟩
      have hcond : (0 : Int) ≤ Int.ofNat i ∧ Int.ofNat i < (n : Int) := ⟨Int.natCast_nonneg _, Int.ofNat_lt.2 hlt⟩
      simp only [Instr.index, asIntOf, Sem.run_bind, Sem.run_pure, Result.andThen_ok, run_underlying hu]
      rw [if_pos hcond]
      simp [sizeA_run hk, hv']
    · cases h
  · rename_i s hu
    split at h
    · rename_i i hw
      split at h
      · rename_i b hb
        cases h
        obtain ⟨⟨kd, rfl⟩, hlt⟩ := within_some hw
        cases hi
        cases hx
        refine ⟨_, ?_, .int _ _⟩
        have h0 : (0 : Int) ≤ Int.ofNat i := Int.natCast_nonneg _
        simp only [Instr.index, asIntOf, Sem.run_bind, Sem.run_pure, Result.andThen_ok, run_underlying hu]
        rw [if_pos h0]
        have : s[(Int.ofNat i).toNat]? = some b := by
          show s[i]? = some b
          rw [ByteArray.getElem?_lt' s i hlt]
          rw [← hb]
          have : i < s.data.toList.length := hlt
          rw [List.getElem?_eq_getElem this]
          rfl
        rw [this]
        rfl
      · cases h
    · cases h
  · cases h

end Go.AH

namespace Go.AH
open Go

/-! ## Cuts of strings and slices -/

/-- A bound of a cut, or what stands for it. -/
def boundA (x : Option Value) (els lim : Nat) : Option Nat :=
  match x with
  | none => match Nat.ble els lim with | true => some els | false => none
  | some v => within v (lim + 1)

theorem boundA_le {x : Option Value} {els lim n : Nat} (h : boundA x els lim = some n) : n ≤ lim := by
  unfold boundA at h
  split at h
  · split at h
    · cases h; exact Nat.le_of_ble_eq_true ‹_›
    · cases h
  · have := (within_some h).2; omega

def ORelV (φ : Places) : Option Value → Option Value → Prop
  | none, none => True
  | some u, some v => VR φ u v
  | _, _ => False

theorem sliceBound_sound {P : Program} {φ : Places} {w : World} {v v' : Value} {lim y n : Nat} (hv : VR φ v v') (h : within v (lim + 1) = some n) (hy : n ≤ y) (code : BoundsCode) :
    (Instr.sliceBound v' y code).run P w = .ok n w := by
  obtain ⟨⟨k, rfl⟩, hlt⟩ := within_some h
  cases hv
  have h1 : (0 : Int) ≤ Int.ofNat n ∧ Int.ofNat n ≤ (y : Int) := ⟨Int.natCast_nonneg _, Int.ofNat_le.2 hy⟩
  simp only [Instr.sliceBound, asIntOf, Sem.run_bind, Sem.run_pure, Result.andThen_ok]
  rw [if_pos h1]
  rfl

/-- Both bounds of a cut: low and high, where 'lim' bounds the high one. -/
def boundsA (lo hi : Option Value) (len lim : Nat) : Option (Nat × Nat) :=
  match boundA hi len lim with
  | some h => match boundA lo 0 h with
    | some l => some (l, h)
    | none => none
  | none => none

theorem boundsA_le {lo hi : Option Value} {len lim l h : Nat} (hh : boundsA lo hi len lim = some (l, h)) : l ≤ h ∧ h ≤ lim := by
  unfold boundsA at hh
  split at hh
  · rename_i h' hb
    split at hh
    · cases hh; rename_i hl; exact ⟨boundA_le hl, boundA_le hb⟩
    · cases hh
  · cases hh

theorem boundsA_sound {P : Program} {φ : Places} {w : World} {lo hi lo' hi' : Option Value} (hlo : ORelV φ lo lo') (hhi : ORelV φ hi hi') {len lim l h cap : Nat} (isSlice : Bool)
    (hh : boundsA lo hi len lim = some (l, h)) (hcap : lim ≤ cap) : (Instr.sliceBounds isSlice len cap lo' hi' none).run P w = .ok (l, h, cap) w := by
  unfold boundsA at hh
  split at hh
  rotate_left
  · cases hh
  rename_i h' hb
  split at hh
  rotate_left
  · cases hh
  rename_i hl
  cases hh
  have e1 : (match hi', (none : Option Value) with
      | some v, some _ => Instr.sliceBound v cap .slice3B
      | some v, none => Instr.sliceBound v cap (if isSlice then .sliceAcap else .sliceAlen)
      | none, none => pure len
      | none, some _ => (stuck "Slice: max without high" : Sem Nat)).run P w = .ok h w := by
    cases hi with
    | none =>
      cases hi' with
      | none =>
        simp only [boundA] at hb
        split at hb
        · cases hb; rfl
        · cases hb
      | some v => cases hhi
    | some u =>
      cases hi' with
      | none => cases hhi
      | some v => exact sliceBound_sound hhi hb (Nat.le_trans (boundA_le hb) hcap) _
  have e2 : (match lo' with
      | some v => Instr.sliceBound v h (if (none : Option Value).isSome then .slice3C else .sliceB)
      | none => pure 0).run P w = .ok l w := by
    cases lo with
    | none =>
      cases lo' with
      | none =>
        simp only [boundA] at hl
        split at hl
        · cases hl; rfl
        · cases hl
      | some v => cases hlo
    | some u =>
      cases lo' with
      | none => cases hlo
      | some v => exact sliceBound_sound hlo hl (boundA_le hl) _
  unfold Instr.sliceBounds
  simp only [Sem.run_bind, Sem.run_pure, Result.andThen_ok]
  cases hi' with
  | none =>
    simp only at e1 ⊢
    rw [Sem.run_bind, e1]; simp only [Result.andThen_ok]
    cases lo' with
    | none => simp only [Sem.run_pure] at e2; cases e2; rfl
    | some v => simp only at e2 ⊢; rw [Sem.run_bind, e2]; rfl
  | some u =>
    simp only at e1 ⊢
    rw [Sem.run_bind, e1]; simp only [Result.andThen_ok]
    cases lo' with
    | none => simp only [Sem.run_pure] at e2; cases e2; rfl
    | some v => simp only at e2 ⊢; rw [Sem.run_bind, e2]; rfl

def sliceA (P : Program) (H : AHeap) (t : TypeId) (x : Value) (lo hi : Option Value) : Option Value :=
  match P.underlying t, x with
  | some .string, .string s => match boundsA lo hi s.size s.size with
    | some (l, h) => some (.string (s.extract l h))
    | none => none
  | some (.array n e), .pointer (some ⟨b, o, none⟩) => match boundsA lo hi n n, sizeA P e, Nat.blt n unk with
    | some (l, h), some k, true => some (.slice (some ⟨b, if n = l then o else o + l * k, none⟩) (h - l) (n - l))
    | _, _, _ => none
  | some (.slice e), .slice none n c => match boundsA lo hi n n, Nat.beq n c, sizeA P e with
    | some (l, h), true, some _ => some (.slice none (h - l) (c - l))
    | _, _, _ => none
  | some (.slice e), .slice (some ⟨b, o, none⟩) n c =>
    match Nat.beq c unk with
    | true => match boundsA lo hi n n, sizeA P e, H.get b with
      | some (l, h), some k, some (.row _ _ k' _) => match Nat.beq k k' with
        | true => some (.slice (some ⟨b, o + l * k, none⟩) (h - l) unk)
        | false => none
      | _, _, _ => none
    | false => match boundsA lo hi n c, sizeA P e, Nat.blt c unk with
      | some (l, h), some k, true => some (.slice (some ⟨b, if c = l then o else o + l * k, none⟩) (h - l) (c - l))
      | _, _, _ => none
  | _, _ => none

theorem sliceA_sound {P : Program} {φ : Places} {H : AHeap} {w : World} (hr : Rel φ H w) {t : TypeId} {x x' v : Value} {lo hi lo' hi' : Option Value} (hx : VR φ x x') (hlo : ORelV φ lo lo') (hhi : ORelV φ hi hi')
    (h : sliceA P H t x lo hi = some v) : ∃ v', (Instr.sliceAt t x' lo' hi' none).run P w = .ok v' w ∧ VR φ v v' := by
  unfold sliceA at h
  split at h
  · rename_i s hu
    split at h
    · rename_i l hh hb
      cases h
      cases hx
      refine ⟨_, ?_, .string _⟩
      simp [Instr.sliceAt, Instr.slice, run_underlying hu, boundsA_sound (P := P) (w := w) hlo hhi false hb (Nat.le_refl _)]
    · cases h
  · rename_i n e b o hu
    split at h
    · rename_i l hh k hb hk hlt
      cases h
      cases hx with | ptr _ _ p hp =>
      have hn : n < unk := Nat.le_of_ble_eq_true hlt
      have hbnd := boundsA_sound (P := P) (w := w) hlo hhi false hb (Nat.le_refl _)
      have hrun : (Instr.sliceAt t (.pointer (some ⟨p.blk, p.sh + o, none⟩)) lo' hi' none).run P w =
          .ok (.slice (some (if n = l then ⟨p.blk, p.sh + o, none⟩ else (⟨p.blk, p.sh + o, none⟩ : Addr).add (l * k))) (hh - l) (n - l)) w := by
        simp only [Instr.sliceAt, Sem.run_bind, run_underlying hu, Instr.sureAddr, Sem.run_pure, Result.andThen_ok, hbnd, sizeA_run hk]
      refine ⟨_, hrun, ?_⟩
      by_cases hnl : n = l
      · rw [if_pos hnl, if_pos hnl]; exact .slice b o p _ _ (by omega) hp
      · rw [if_neg hnl, if_neg hnl, Addr.add_none, Nat.add_assoc]; exact .slice b (o + l * k) p _ _ (by omega) hp
    · cases h
  · rename_i e n c hu
    split at h
    · rename_i l hh k hb hbeq hk
      cases h
      cases hx
      have hnc := Nat.eq_of_beq_eq_true hbeq
      subst hnc
      have hbnd := boundsA_sound (P := P) (w := w) hlo hhi true hb (Nat.le_refl _)
      refine ⟨.slice none (hh - l) (n - l), ?_, .sliceNil _ _⟩
      simp only [Instr.sliceAt, Instr.slice, Sem.run_bind, run_underlying hu, Sem.run_pure, Result.andThen_ok, hbnd, sizeA_run hk]
      split <;> rfl
    · cases h
  · rename_i e b o n c hu
    split at h
    · rename_i hc
      have := Nat.eq_of_beq_eq_true hc
      clear hc
      subst this
      split at h
      · rename_i l hh k cells el k' mk hb hk hrow
        split at h
        · rename_i hkk
          cases h
          have := Nat.eq_of_beq_eq_true hkk
          subst this
          have hle := boundsA_le hb
          cases hx with
          | slice _ _ p _ _ hc hp => exact absurd rfl hc
          | sliceUnk _ _ p _ C hp hn hC =>
            have hes := hr.esz hrow hp
            have hbnd := boundsA_sound (P := P) (w := w) hlo hhi true hb hn
            have hrun : (Instr.sliceAt t (.slice (some ⟨p.blk, p.sh + o, none⟩) n C) lo' hi' none).run P w =
                .ok (.slice (if C = l then some ⟨p.blk, p.sh + o, none⟩ else some ((⟨p.blk, p.sh + o, none⟩ : Addr).add (l * k))) (hh - l) (C - l)) w := by
              simp only [Instr.sliceAt, Instr.slice, Sem.run_bind, run_underlying hu, Sem.run_pure, Result.andThen_ok, hbnd, sizeA_run hk, Option.map_some]
            refine ⟨_, hrun, ?_⟩
            by_cases hCl : C = l
            · have h0 : hh - l = 0 := by omega
              have h1 : C - l = 0 := by omega
              rw [if_pos hCl, h0, h1]
              exact .sliceDead b (o + l * k) p _ hp
            · rw [if_neg hCl, Addr.add_none, Nat.add_assoc]
              refine .sliceUnk b (o + l * k) p _ (C - l) hp (by omega) ?_
              rw [hes] at hC ⊢
              have : l * k + (C - l) * k = C * k := by rw [← Nat.add_mul]; congr 1; omega
              omega
          | sliceDead _ _ p a hp =>
            have hl0 : l = 0 := by omega
            have hh0 : hh = 0 := by omega
            subst hl0; subst hh0
            have hbnd := boundsA_sound (P := P) (w := w) hlo hhi true hb (Nat.le_refl _)
            refine ⟨.slice (some a) 0 0, ?_, .sliceDead b (o + 0 * k) p a hp⟩
            simp only [Instr.sliceAt, Instr.slice, Sem.run_bind, run_underlying hu, Sem.run_pure, Result.andThen_ok, hbnd, sizeA_run hk, if_true]
        · cases h
      · cases h
    · rename_i hc0
      clear hc0
      split at h
      · rename_i l hh k hb hk hlt
        cases h
        have hclt : c < unk := Nat.le_of_ble_eq_true hlt
        have hle := boundsA_le hb
        cases hx with
        | slice _ _ p _ _ hc hp =>
          have hbnd := boundsA_sound (P := P) (w := w) hlo hhi true hb (Nat.le_refl _)
          have hrun : (Instr.sliceAt t (.slice (some ⟨p.blk, p.sh + o, none⟩) n c) lo' hi' none).run P w =
              .ok (.slice (if c = l then some ⟨p.blk, p.sh + o, none⟩ else some ((⟨p.blk, p.sh + o, none⟩ : Addr).add (l * k))) (hh - l) (c - l)) w := by
            simp only [Instr.sliceAt, Instr.slice, Sem.run_bind, run_underlying hu, Sem.run_pure, Result.andThen_ok, hbnd, sizeA_run hk, Option.map_some]
          refine ⟨_, hrun, ?_⟩
          by_cases hcl : c = l
          · rw [if_pos hcl, if_pos hcl]; exact .slice b o p _ _ (by omega) hp
          · rw [if_neg hcl, if_neg hcl, Addr.add_none, Nat.add_assoc]; exact .slice b (o + l * k) p _ _ (by omega) hp
        | sliceUnk => omega
        | sliceDead => omega
      · cases h
  · cases h

/-! ## Conversions, maps, interfaces, built-in functions -/

theorem depth_pos (P : Program) : ∃ d, P.depth = d + 1 := ⟨_, rfl⟩

theorem liesAt_elem {P : Program} {e u : TypeId} {count off n : Nat} (hs : sameLayout P P.depth e u = true) (h0 : P.cellsOf e ≠ 0) (hd : P.cellsOf e ∣ off) (hn : off / P.cellsOf e + n ≤ count) :
    liesAt P P.depth e count off u n = true := by
  obtain ⟨d, hd'⟩ := depth_pos P
  have hr : rowAt P (sameLayout P P.depth · u) P.depth e count off n = true := by
    generalize hf : (sameLayout P P.depth · u) = f at *
    have hfe : f e = true := by rw [← hf]; exact hs
    rw [hd', rowAt]
    simp [h0, Nat.mod_eq_zero_of_dvd hd, hn, hfe]
  have key : ∀ D, D = d + 1 → liesAt P D e count off u n = true := by
    intro D hD
    subst hD
    unfold liesAt
    rw [hr, Bool.true_or]
  exact key _ hd'

theorem sameLayout_self {P : Program} (e : TypeId) : sameLayout P P.depth e e = true := by
  obtain ⟨d, hd⟩ := depth_pos P
  rw [hd, sameLayout]
  simp

def bytesA : List Value → Option (List UInt8)
  | [] => some []
  | .int .u8 n :: l => match bytesA l with
    | some r => some (UInt8.ofNat n.toNat :: r)
    | none => none
  | _ => none

theorem bytesA_some : ∀ {l : List Value} {r : List UInt8}, bytesA l = some r → ∃ ns : List Int, l = ns.map (Value.int .u8) ∧ r = ns.map fun n => UInt8.ofNat n.toNat
  | [], r, h => by cases h; exact ⟨[], rfl, rfl⟩
  | v :: l, r, h => by
    unfold bytesA at h
    split at h
    · rename_i heq; cases heq
    · rename_i n l' heq
      cases heq
      split at h
      · rename_i r' hr
        cases h
        obtain ⟨ns, rfl, rfl⟩ := bytesA_some hr
        exact ⟨n :: ns, rfl, rfl⟩
      · cases h
    · cases h

theorem foldl_push (ns : List Int) : ∀ (s : ByteArray), ns.foldl (fun r n => r.push (UInt8.ofNat n.toNat)) s = ⟨s.data ++ (ns.map fun n => UInt8.ofNat n.toNat).toArray⟩ := by
  induction ns with
  | nil => intro s; simp
  | cons n ns ih =>
    intro s
    simp only [List.foldl_cons, ih]
    congr 1
    apply Array.ext'
    simp [ByteArray.push]

def convA (P : Program) (H : AHeap) (src dst : TypeId) (x : Value) : Option Value :=
  match P.underlying src, P.underlying dst, x with
  | some _, some (.int k), .int _ n => pureAtom (Conv.intToInt k n)
  | some _, some (.float k), .int _ n => pureAtom (Conv.intToFloat k n)
  | some _, some (.int k), .float s b => pureAtom (Conv.floatToInt s b k)
  | some _, some (.float k), .float s b => pureAtom (Conv.floatToFloat s b k)
  | some _, some .string, .int _ n => pureAtom (Conv.intToString n)
  | some _, some .string, .string s => some (.string s)
  | some (.slice e), some .string, .slice none _ _ => match P.underlying e with
    | some (.int .u8) => some (.string .empty)
    | _ => none
  | some (.slice e), some .string, .slice (some ⟨b, o, none⟩) n _ => match P.underlying e, H.get b with
    | some (.int .u8), some (.row cells _ _ _) => match cut cells o n with
      | some l => match bytesA l with
        | some r => some (.string ⟨r.toArray⟩)
        | none => none
      | none => none
    | _, _ => none
  | some (.pointer t), some .unsafePointer, .pointer (some ⟨b, o, none⟩) => match H.get b, sizeA P t with
    | some (.row cells _ _ _), some (_ + 1) => match Nat.blt o cells.length with
      | true => some (.pointer (some ⟨b, o, none⟩))
      | false => none
    | _, _ => none
  | some .unsafePointer, some (.pointer u), .pointer (some ⟨b, o, none⟩) => match H.get b, sizeA P u with
    | some (.row cells e k .own), some (_ + 1) => match Nat.beq (P.cellsOf e) k && Nat.beq (Nat.mod o k) 0 && Nat.ble (o + k) cells.length && !Nat.beq k 0 && sameLayout P P.depth e u with
      | true => some (.pointer (some ⟨b, o, none⟩))
      | false => none
    | _, _ => none
  | _, _, _ => none

theorem convA_sound {P : Program} {φ : Places} {H : AHeap} {w : World} (hr : Rel φ H w) {src dst : TypeId} {x x' v : Value} (hx : VR φ x x') (h : convA P H src dst x = some v) :
    ∃ v', (convert src dst x').run P w = .ok v' w ∧ VR φ v v' := by
  unfold convA at h
  split at h
  · rename_i hs hd; cases hx; obtain ⟨h1, h2⟩ := pureAtom_some h
    exact ⟨v, by simp [convert, run_underlying hs, run_underlying hd, h1], .of_atom h2⟩
  · rename_i hs hd; cases hx; obtain ⟨h1, h2⟩ := pureAtom_some h
    exact ⟨v, by simp [convert, run_underlying hs, run_underlying hd, h1], .of_atom h2⟩
  · rename_i hs hd; cases hx; obtain ⟨h1, h2⟩ := pureAtom_some h
    exact ⟨v, by simp [convert, run_underlying hs, run_underlying hd, h1], .of_atom h2⟩
  · rename_i hs hd; cases hx; obtain ⟨h1, h2⟩ := pureAtom_some h
    exact ⟨v, by simp [convert, run_underlying hs, run_underlying hd, h1], .of_atom h2⟩
  · rename_i hs hd; cases hx; obtain ⟨h1, h2⟩ := pureAtom_some h
    exact ⟨v, by simp [convert, run_underlying hs, run_underlying hd, h1], .of_atom h2⟩
  · rename_i hs hd; cases hx; cases h
    exact ⟨_, by simp [convert, run_underlying hs, run_underlying hd], .string _⟩
  · rename_i hs hd
    split at h
    · rename_i he
      cases hx; cases h
      exact ⟨.string .empty, by simp [run_convert_bytes_string w src dst _ _ _ _ hs he hd, Conv.bytesToString], .string _⟩
    · cases h
  · rename_i e b o n c hs hd
    split at h
    rotate_left
    · cases h
    rename_i cells el k mk he hrow
    split at h
    rotate_left
    · cases h
    rename_i l hl
    split at h
    rotate_left
    · cases h
    rename_i r hb
    cases h
    obtain ⟨ns, rfl, rfl⟩ := bytesA_some hb
    have key : ∀ (p : Pl) (C : Nat), φ b = some p → (convert src dst (.slice (some ⟨p.blk, p.sh + o, none⟩) n C)).run P w = .ok (.string ⟨(ns.map fun n => UInt8.ofNat n.toNat).toArray⟩) w := by
      intro p C hp
      obtain ⟨l', hrel, hcells⟩ := hr.cells hrow hp hl
      have hl' : l' = ns.map (Value.int .u8) := by
        have := hrel.l2
        clear hcells hrel hl hb
        generalize hm : ns.map (Value.int .u8) = m at this
        induction this generalizing ns with
        | nil => rfl
        | cons h _ ih =>
          cases ns with
          | nil => cases hm
          | cons n ns =>
            simp only [List.map_cons, List.cons.injEq] at hm
            obtain ⟨rfl, rfl⟩ := hm
            cases h
            rw [ih ns rfl]
      have hlen : l'.length = n := by rw [← hrel.1]; exact (cut_some hl).1
      have hload := run_loadCells_list (P := P) w ⟨p.blk, p.sh + o, none⟩ l' hcells
      rw [hlen, hl'] at hload
      rw [run_convert_bytes_string w src dst _ _ _ _ hs he hd, run_bytesToString w _ n C ns (by simpa using hload), foldl_push]
      simp
    cases hx with
    | slice _ _ p _ _ hc hp => exact ⟨_, key p c hp, .string _⟩
    | sliceUnk _ _ p _ C hp hn hC => exact ⟨_, key p C hp, .string _⟩
    | sliceDead _ _ p a hp =>
      have : ns = [] := by have := (cut_some hl).1; simpa using this
      subst this
      refine ⟨.string ⟨#[]⟩, ?_, .string _⟩
      rw [run_convert_bytes_string w src dst _ _ _ _ hs he hd, run_bytesToString w a 0 0 [] (by rfl)]
      rfl
  · rename_i t b o hs hd
    split at h
    · rename_i cells e k mk n hrow hsz
      split at h
      · rename_i hlt
        have hlt' : o < cells.length := Nat.le_of_ble_eq_true hlt
        cases h
        cases hx with | ptr _ _ p hp =>
        obtain ⟨c, fr, hc, hcs, hle, _, _⟩ := hr.row hrow hp
        refine ⟨_, ?_, .ptr b o p hp⟩
        have hsh : w.shape? p.blk = some (e, c.size) := by simp [World.shape?, hc]
        have hno : ¬ (c.size ≤ p.sh + o) := by omega
        unfold convert
        rw [Sem.run_bind, run_underlying hs, Result.andThen_ok, Sem.run_bind, run_underlying hd, Result.andThen_ok]
        simp only [Conv.unsafePointer, Sem.run_bind, run_underlying hs, run_underlying hd, Result.andThen_ok]
        simp [Conv.seenAt, viewAt, cellsIn, hsh, sizeA_run hsz, hno]
      · cases h
    · cases h
  · rename_i u b o hs hd
    split at h
    · rename_i cells e k n hrow hsz
      split at h
      · rename_i hck
        simp only [Bool.and_eq_true, Bool.not_eq_true'] at hck
        obtain ⟨⟨⟨⟨h1, h2⟩, h3⟩, h4⟩, h5⟩ := hck
        have hk := Nat.eq_of_beq_eq_true h1
        have ho : k ∣ o := Nat.dvd_of_mod_eq_zero (Nat.eq_of_beq_eq_true h2)
        have hle' := Nat.le_of_ble_eq_true h3
        have hk0 : k ≠ 0 := Nat.ne_of_beq_eq_false h4
        cases h
        cases hx with | ptr _ _ p hp =>
        obtain ⟨c, fr, hc, hcs, hle, hfit, _⟩ := hr.row hrow hp
        have hsd : k ∣ p.sh + o := by rw [hfit.2, Nat.zero_add]; exact ho
        refine ⟨_, ?_, .ptr b o p hp⟩
        have hsh : w.shape? p.blk = some (e, c.size) := by simp [World.shape?, hc]
        have hlies : liesAt P P.depth e (c.size / P.cellsOf e) (p.sh + o) u 1 = true := by
          refine liesAt_elem h5 (by omega) (by rw [hk]; exact hsd) ?_
          rw [hk]
          have : (p.sh + o) / k + 1 = (p.sh + o + k) / k := by rw [Nat.add_div_right _ (Nat.pos_of_ne_zero hk0)]
          rw [this]
          exact Nat.div_le_div_right (by omega)
        unfold convert
        rw [Sem.run_bind, run_underlying hs, Result.andThen_ok, Sem.run_bind, run_underlying hd, Result.andThen_ok]
        simp only [Conv.unsafePointer, Sem.run_bind, run_underlying hs, run_underlying hd, Result.andThen_ok]
        simp [Conv.seenAt, viewAt, hsh, sizeA_run hsz, variablesAt, hlies]
      · cases h
    · cases h
  · cases h

end Go.AH

namespace Go.AH
open Go

/-! ## Maps read, interfaces asked, built-in functions -/

theorem sameNow_rel {φ : Places} {d : TypeDesc} {k u v : Value} {b : Bool} (h : VR φ u v) (hs : Instr.sameNow d k u = some b) : Instr.sameNow d k v = some b := by
  cases h <;> first | exact hs | (unfold Instr.sameNow at hs; split at hs <;> first | (cases hs; done) | (rename_i heq; cases heq))

def FindRel (φ : Places) : Option (Nat × Value) → Option (Nat × Value) → Prop
  | none, none => True
  | some (i, u), some (j, v) => i = j ∧ VR φ u v
  | _, _ => False

theorem findNow_rel {φ : Places} {d : TypeDesc} {k : Value} : ∀ {es es' : List MapEntry}, L2 (ERel φ) es es' → ∀ (i : Nat) r, Instr.findNow d k es i = some r →
    ∃ r', Instr.findNow d k es' i = some r' ∧ FindRel φ r r' := by
  intro es es' h
  induction h with
  | nil => intro i r h; simp only [Instr.findNow, Option.some.injEq] at h; subst h; exact ⟨none, rfl, trivial⟩
  | @cons e e' l m he _ ih =>
    intro i r h
    simp only [Instr.findNow] at h ⊢
    cases hs : Instr.sameNow d k e.key with
    | none => simp [hs] at h
    | some b =>
      rw [sameNow_rel he.key hs]
      rw [hs] at h
      cases b with
      | true => simp only [Option.some.injEq] at h; subst h; exact ⟨_, rfl, rfl, he.val⟩
      | false => exact ih _ _ h

/-- A key's kind: one that is compared at once. -/
def keyKind (P : Program) (kt : TypeId) (k : Value) : Option TypeDesc :=
  match P.underlying kt, k with
  | some (.int i), .int _ _ => some (.int i)
  | some .string, .string _ => some .string
  | some .bool, .bool _ => some .bool
  | _, _ => none

theorem keyKind_some {P : Program} {kt : TypeId} {k : Value} {d : TypeDesc} (h : keyKind P kt k = some d) :
    P.underlying kt = some d ∧ atom k = true ∧ ∀ (e : Bool) (w : World), (Instr.checkKey e 10000 kt k).run P w = .ok () w := by
  unfold keyKind at h
  split at h <;> cases h <;> rename_i hu <;> refine ⟨hu, rfl, fun e w => ?_⟩ <;>
    (rw [Instr.checkKey, Sem.run_bind, run_underlying hu]; rfl)

def mapOf (H : AHeap) (m : Value) : Option (List MapEntry) :=
  match m with
  | .map none => some []
  | .map (some b) => match H.get b with
    | some (.map es _) => some es
    | _ => none
  | _ => none

theorem Rel.map {φ : Places} {H : AHeap} {w : World} (hr : Rel φ H w) {b : Nat} {es : List MapEntry} {clock : Nat} {p : Pl} (hb : H.get b = some (.map es clock)) (hp : φ b = some p) :
    ∃ es', w.heap[p.blk]? = some (.map es' clock) ∧ L2 (ERel φ) es es'.toList := by
  obtain ⟨c, hc, ho⟩ := hr.live b _ p hb hp
  cases c <;> simp only [ORel] at ho
  obtain ⟨rfl, h1, h2⟩ := ho
  exact ⟨_, hc, .of_get (by simpa using h1) (by simpa using h2)⟩

theorem getObj_run {P : Program} {w : World} {r : Nat} {o : Obj} (h : w.heap[r]? = some o) (hn : ∀ c e f, o ≠ .cells c e f) : (getObj r).run P w = .ok o w := by
  unfold getObj
  cases o <;> first | (exact absurd rfl (hn _ _ _)) | simp [Sem.run, h]

/-! ### Keys, found -/

theorem sameNow_bits {d : TypeDesc} {k u : Value} (h : Instr.sameNow d k u = some true) : Instr.sameBits 10000 u k = true := by
  unfold Instr.sameNow at h
  split at h
  · split at h
    · rename_i hk; subst hk
      simp only [Option.some.injEq, beq_iff_eq] at h
      subst h
      simp [Instr.sameBits]
    · cases h
  · simp only [Option.some.injEq] at h
    rw [beq_toListBytes, beq_iff_eq] at h
    simp only [Instr.sameBits]
    rw [beq_toListBytes, beq_iff_eq, h]
  · simp only [Option.some.injEq, beq_iff_eq] at h
    subst h
    simp [Instr.sameBits]
  · cases h

theorem find_lt {d : TypeDesc} {k : Value} : ∀ {es : List MapEntry} (i j : Nat) (v : Value), Instr.findNow d k es i = some (some (j, v)) →
    ∃ n, j = i + n ∧ ∃ e, es[n]? = some e ∧ Instr.sameNow d k e.key = some true ∧ e.val = v
  | [], i, j, v, h => by simp [Instr.findNow] at h
  | e :: es, i, j, v, h => by
    simp only [Instr.findNow] at h
    cases hs : Instr.sameNow d k e.key with
    | none => simp [hs] at h
    | some b =>
      rw [hs] at h
      cases b with
      | true => simp only [Option.some.injEq, Prod.mk.injEq] at h; exact ⟨0, by omega, e, rfl, hs, h.2⟩
      | false =>
        obtain ⟨n, hn, e', he, hr⟩ := find_lt (i + 1) j v h
        exact ⟨n + 1, by omega, e', by simpa using he, hr⟩

theorem findKey_run {P : Program} {w : World} {kt : TypeId} {d : TypeDesc} {k : Value} {es : List MapEntry} {r : Option (Nat × Value)} (hu : P.underlying kt = some d) (h : Instr.findNow d k es 0 = some r) :
    (Instr.findKey kt k es).run P w = .ok r w := by
  simp [Instr.findKey, run_underlying hu, h]

theorem atoms_eq {φ : Places} : ∀ {l l' : List Value}, L2 (VR φ) l l' → l.all atom = true → l' = l := by
  intro l l' h
  induction h with
  | nil => intro _; rfl
  | cons h _ ih => intro ha; simp only [List.all_cons, Bool.and_eq_true] at ha; rw [h.eq_of_atom ha.1, ih ha.2]

/-- A cell of a wide key. -/
def keyCell : Value → Bool
  | .string _ => true
  | .int _ _ => true
  | .bool _ => true
  | _ => false

def cellEq : Value → Value → Bool
  | .string a, .string b => a == b
  | .int k a, .int l b => decide (k = l) && a == b
  | .bool a, .bool b => a == b
  | _, _ => false

def cellsEq : List Value → List Value → Bool
  | [], [] => true
  | a :: l, b :: m => cellEq a b && cellsEq l m
  | _, _ => false

def keyAgg : Value → Bool
  | .agg cs => cs.toList.all keyCell
  | _ => false

def aggEq : Value → Value → Bool
  | .agg a, .agg b => cellsEq a.toList b.toList
  | _, _ => false

theorem beq_bytes_iff {a b : ByteArray} : (a == b) = true ↔ a = b := by
  rw [beq_toListBytes, beq_iff_eq]
  refine ⟨fun h => ?_, fun h => by rw [h]⟩
  rw [ByteArray.toList_eq, ByteArray.toList_eq] at h
  exact ByteArray.ext (Array.toList_inj.mp h)

theorem keyCell_atom {v : Value} (h : keyCell v = true) : atom v = true := by
  cases v <;> first | rfl | simp [keyCell] at h

theorem cellEq_iff {a b : Value} (ha : keyCell a = true) : cellEq a b = true ↔ a = b := by
  cases a <;> simp only [keyCell, Bool.false_eq_true] at ha <;> cases b <;> simp [cellEq, beq_bytes_iff]

theorem cellsEq_iff : ∀ {l m : List Value}, l.all keyCell = true → (cellsEq l m = true ↔ l = m)
  | [], [], _ => by simp [cellsEq]
  | [], _ :: _, _ => by simp [cellsEq]
  | _ :: _, [], _ => by simp [cellsEq]
  | a :: l, b :: m, h => by
    simp only [List.all_cons, Bool.and_eq_true] at h
    simp only [cellsEq, Bool.and_eq_true, cellEq_iff h.1, cellsEq_iff h.2, List.cons.injEq]

theorem aggEq_iff {a b : Value} (ha : keyAgg a = true) : aggEq a b = true ↔ a = b := by
  cases a <;> simp only [keyAgg, Bool.false_eq_true] at ha
  rename_i cs
  cases b <;> simp only [aggEq, Bool.false_eq_true, reduceCtorEq]
  rename_i ds
  rw [cellsEq_iff ha, Value.agg.injEq]
  exact ⟨fun h => Array.ext' h, fun h => by rw [h]⟩

theorem keyAgg_eq {φ : Places} {k k' : Value} (h : VR φ k k') (hk : keyAgg k = true) : k' = k := by
  cases k <;> simp only [keyAgg, Bool.false_eq_true] at hk
  obtain ⟨y, rfl, hl⟩ := h.of_agg
  have : y.toList = _ := atoms_eq hl (List.all_eq_true.2 fun x hx => keyCell_atom (List.all_eq_true.1 hk x hx))
  rw [Array.ext' this]

def findAgg (k : Value) : List MapEntry → Nat → Option (Option (Nat × Value))
  | [], _ => some none
  | e :: es, i => match aggEq k e.key with
    | true => match es.all (fun e => !aggEq k e.key) with
      | true => some (some (i, e.val))
      | false => none
    | false => findAgg k es (i + 1)

theorem findAgg_none {k : Value} : ∀ {es : List MapEntry} {i : Nat}, findAgg k es i = some none → ∀ e ∈ es, aggEq k e.key = false
  | [], _, _ => by simp
  | e :: es, i, h => by
    simp only [findAgg] at h
    cases ha : aggEq k e.key with
    | true => simp only [ha] at h; split at h <;> simp at h
    | false =>
      rw [ha] at h
      intro x hx
      rcases List.mem_cons.1 hx with rfl | hx
      · exact ha
      · exact findAgg_none h x hx

theorem findAgg_some {k : Value} : ∀ {es : List MapEntry} {i j : Nat} {v : Value}, findAgg k es i = some (some (j, v)) →
    ∃ n e, j = i + n ∧ es[n]? = some e ∧ e.val = v ∧ aggEq k e.key = true ∧ ∀ m x, es[m]? = some x → aggEq k x.key = true → m = n
  | [], _, _, _, h => by simp [findAgg] at h
  | e :: es, i, j, v, h => by
    simp only [findAgg] at h
    cases ha : aggEq k e.key with
    | true =>
      simp only [ha] at h
      split at h
      · rename_i hall
        simp only [Option.some.injEq, Prod.mk.injEq] at h
        refine ⟨0, e, by omega, rfl, h.2, ha, fun m x hm hx => ?_⟩
        cases m with
        | zero => rfl
        | succ m =>
          have := List.all_eq_true.1 hall x (List.mem_of_getElem? (by simpa using hm))
          simp [hx] at this
      · simp at h
    | false =>
      rw [ha] at h
      obtain ⟨n, e', hn, he, hv, hb, hu⟩ := findAgg_some h
      refine ⟨n + 1, e', by omega, by simpa using he, hv, hb, fun m x hm hx => ?_⟩
      cases m with
      | zero => simp only [List.getElem?_cons_zero, Option.some.injEq] at hm; subst hm; rw [ha] at hx; cases hx
      | succ m => rw [hu m x (by simpa using hm) hx]

/-- A wide key's type. -/
def wideKey (P : Program) (kt : TypeId) : Bool :=
  match P.underlying kt with
  | some (.array _ _) => P.keyTypeAt 3 kt && P.tiled 3 kt
  | some (.struct _) => P.keyTypeAt 3 kt && P.tiled 3 kt
  | _ => false

theorem wideKey_law {P : Program} {kt : TypeId} (h : wideKey P kt = true) : WideMaps.KeyLaw P kt := by
  unfold wideKey at h
  split at h <;> first | (cases h; done) | skip
  all_goals
    rename_i hu
    simp only [Bool.and_eq_true] at h
    exact deep_law (m := 3) (by omega) h.1 h.2 (by rw [hu])

def isKeyA (P : Program) (kt : TypeId) (k : Value) : Bool := keyAgg k && (keyOf P kt k).isSome

def findA (P : Program) (kt : TypeId) (k : Value) (es : List MapEntry) : Option (Option (Nat × Value)) :=
  match keyKind P kt k with
  | some d => Instr.findNow d k es 0
  | none => match wideKey P kt with
    | true => match isKeyA P kt k with
      | true => match es.all (fun e => isKeyA P kt e.key) with
        | true => findAgg k es 0
        | false => none
      | false => none
    | false => none

theorem findA_sound {P : Program} {φ : Places} {kt : TypeId} {k k' : Value} {es es' : List MapEntry} {r : Option (Nat × Value)} (hk : VR φ k k') (hes : L2 (ERel φ) es es') (h : findA P kt k es = some r) :
    k' = k ∧ (∀ (e : Bool) (w : World), (Instr.checkKey e 10000 kt k).run P w = .ok () w) ∧
    ∃ r', (∀ w : World, (Instr.findKey kt k es').run P w = .ok r' w) ∧ FindRel φ r r' ∧
      ∀ i v, r' = some (i, v) → ∃ e', es'[i]? = some e' ∧ ∀ w : World, (Instr.keyThatStays e'.key k).run P w = .ok k w := by
  unfold findA at h
  split at h
  · rename_i d hd
    obtain ⟨hku, hka, hck⟩ := keyKind_some hd
    have := hk.eq_of_atom hka
    subst this
    obtain ⟨r', hf', hfr⟩ := findNow_rel hes 0 _ h
    refine ⟨rfl, hck, r', fun w => findKey_run hku hf', hfr, fun i v e => ?_⟩
    subst e
    obtain ⟨n, hn, e', he', hsn, _⟩ := find_lt 0 _ _ hf'
    rw [Nat.zero_add] at hn
    subst hn
    exact ⟨e', he', fun w => by simp [Instr.keyThatStays, sameNow_bits hsn]⟩
  · split at h
    rotate_left
    · cases h
    rename_i hw
    split at h
    rotate_left
    · cases h
    rename_i hik
    split at h
    rotate_left
    · cases h
    rename_i hall
    have K := wideKey_law hw
    simp only [isKeyA, Bool.and_eq_true] at hik
    have := keyAgg_eq hk hik.1
    subst this
    obtain ⟨lx, hlx⟩ := Option.isSome_iff_exists.1 hik.2
    have hkeys : ∀ (n : Nat) (e e' : MapEntry), es[n]? = some e → es'[n]? = some e' → e'.key = e.key ∧ ∃ l, keyOf P kt e'.key = some l := by
      intro n e e' h1 h2
      have h3 := hes.get n e e' h1 h2
      have h4 := List.all_eq_true.1 hall e (List.mem_of_getElem? h1)
      simp only [isKeyA, Bool.and_eq_true] at h4
      have h5 := keyAgg_eq h3.key h4.1
      exact ⟨h5, by rw [h5]; exact Option.isSome_iff_exists.1 h4.2⟩
    have hlen := hes.length
    have get1 : ∀ (n : Nat) (e' : MapEntry), es'[n]? = some e' → ∃ e, es[n]? = some e := fun n e' h2 =>
      ⟨_, List.getElem?_eq_getElem (by have := (List.getElem?_eq_some_iff.1 h2).1; omega)⟩
    have get2 : ∀ (n : Nat) (e : MapEntry), es[n]? = some e → ∃ e', es'[n]? = some e' := fun n e h2 =>
      ⟨_, List.getElem?_eq_getElem (by have := (List.getElem?_eq_some_iff.1 h2).1; omega)⟩
    have hall' : ∀ e ∈ es', ∃ l, keyOf P kt e.key = some l := by
      intro e' he'
      obtain ⟨n, hn⟩ := List.getElem?_of_mem he'
      obtain ⟨e, he⟩ := get1 n e' hn
      exact (hkeys n e e' he hn).2
    refine ⟨rfl, fun em w => K.check w em hlx, ?_⟩
    cases r with
    | none =>
      refine ⟨none, fun w => ?_, trivial, by intro i v e; cases e⟩
      rcases K.find w hlx es' hall' with ⟨h1, _⟩ | ⟨j, e', h1, h2, h3⟩
      · exact h1
      · obtain ⟨e, he⟩ := get1 j e' h2
        have h4 := findAgg_none h e (List.mem_of_getElem? he)
        have h5 := (hkeys j e e' he h2).1
        rw [h3] at h5
        rw [(aggEq_iff hik.1).2 h5] at h4
        cases h4
    | some iv =>
      obtain ⟨i, v⟩ := iv
      obtain ⟨n, e, hn, he, hv, hb, hu⟩ := findAgg_some h
      rw [Nat.zero_add] at hn
      subst hn
      obtain ⟨e', he'⟩ := get2 i e he
      have h5 := hes.get i e e' he he'
      have h6 := (hkeys i e e' he he').1
      have hbk := (aggEq_iff hik.1).1 hb
      refine ⟨some (i, e'.val), fun w => ?_, ⟨rfl, by rw [← hv]; exact h5.val⟩, ?_⟩
      · rcases K.find w hlx es' hall' with ⟨_, h2⟩ | ⟨j, f', h1, h2, h3⟩
        · exact absurd (by rw [h6, ← hbk]) (h2 e' (List.mem_of_getElem? he'))
        · obtain ⟨f, hf⟩ := get1 j f' h2
          have h7 := (hkeys j f f' hf h2).1
          rw [h3] at h7
          have := hu j f hf ((aggEq_iff hik.1).2 h7)
          subst this
          rw [he'] at h2
          cases h2
          exact h1
      · intro j u hju
        simp only [Option.some.injEq, Prod.mk.injEq] at hju
        obtain ⟨rfl, _⟩ := hju
        exact ⟨e', he', fun w => by rw [h6, ← hbk]; exact K.stays w hlx⟩

def lookupA (P : Program) (H : AHeap) (t : TypeId) (m k : Value) (commaOk : Bool) : Option Value :=
  match P.underlying t with
  | some (.map kt et) =>
    match mapOf H m with
    | some es =>
      match findA P kt k es with
      | some (some (_, v)) => some (match commaOk with | true => .tuple #[v, .bool true] | false => v)
      | some none => match zeroA P et with
        | some z => some (match commaOk with | true => .tuple #[z, .bool false] | false => z)
        | none => none
      | none => none
    | _ => none
  | _ => none

theorem VR.pair {φ : Places} {a b a' b' : Value} (h : VR φ a a') (h' : VR φ b b') : VR φ (.tuple #[a, b]) (.tuple #[a', b']) :=
  .tuple_l2 (.cons h (.cons h' .nil))

theorem lookupA_sound {P : Program} {φ : Places} {H : AHeap} {w : World} (hr : Rel φ H w) {t : TypeId} {m m' k k' v : Value} {ok : Bool} (hm : VR φ m m') (hk : VR φ k k')
    (h : lookupA P H t m k ok = some v) : ∃ v', (Instr.lookup t m' k' ok).run P w = .ok v' w ∧ VR φ v v' := by
  unfold lookupA at h
  split at h
  rotate_left
  · cases h
  rename_i kt et hu
  split at h
  rotate_left
  · cases h
  rename_i es hes
  have hbody : ∃ es' : Array MapEntry, L2 (ERel φ) es es'.toList ∧ (Instr.lookup t m' k' ok).run P w =
      ((do
        Instr.checkKey es'.isEmpty 10000 kt k'
        let (v, o) ← match ← Instr.findKey kt k' es'.toList with
          | some (_, v) => pure (v, true)
          | none => pure (← zeroValue et, false)
        pure (if ok then .tuple #[v, .bool o] else v) : Sem Value)).run P w := by
    unfold mapOf at hes
    split at hes
    · cases hes; cases hm
      exact ⟨#[], .nil, by simp [Instr.lookup, run_underlying hu]; rfl⟩
    · split at hes
      · cases hes
        rename_i b es clock hb
        cases hm with | map _ p hp =>
        obtain ⟨es', he, hrel⟩ := hr.map hb hp
        have hg := getObj_run (P := P) he (by intro c e f h; cases h)
        exact ⟨es', hrel, by simp [Instr.lookup, run_underlying hu, hg]; rfl⟩
      · cases hes
    · cases hes
  obtain ⟨es', hrel, hrun⟩ := hbody
  rw [hrun]
  split at h
  · rename_i i u hf
    cases h
    obtain ⟨rfl, hck, r', hf', hfr, _⟩ := findA_sound hk hrel hf
    cases r' with
    | none => exact hfr.elim
    | some iv =>
      obtain ⟨j, v'⟩ := iv
      obtain ⟨rfl, hv⟩ := hfr
      cases ok with
      | true => exact ⟨.tuple #[v', .bool true], by simp [hck, hf'], .pair hv (.bool _)⟩
      | false => exact ⟨v', by simp [hck, hf'], hv⟩
  · rename_i hf
    split at h
    · rename_i z hz
      cases h
      obtain ⟨rfl, hck, r', hf', hfr, _⟩ := findA_sound hk hrel hf
      cases r' with
      | some _ => exact hfr.elim
      | none =>
        have hzr := zeroA_run hz w
        obtain ⟨_, _, _, hfl, _⟩ := zeroA_some hz
        cases ok with
        | true => exact ⟨.tuple #[z, .bool false], by simp [hck, hf', hzr], .pair (.of_flat hfl) (.bool _)⟩
        | false => exact ⟨z, by simp [hck, hf', hzr], .of_flat hfl⟩
    · cases h
  · cases h

def extractA (x : Value) (i : Nat) : Option Value :=
  match x with
  | .tuple vs => vs.toList[i]?
  | _ => none

theorem extractA_sound {P : Program} {φ : Places} {w : World} {x x' v : Value} {i : Nat} (hx : VR φ x x') (h : extractA x i = some v) :
    ∃ v', (Instr.extract x' i).run P w = .ok v' w ∧ VR φ v v' := by
  unfold extractA at h
  split at h
  · obtain ⟨y, rfl, hl⟩ := hx.of_tuple
    have hlt : i < y.size := by have := (List.getElem?_eq_some_iff.1 h).1; have := hl.length; simp only [Array.length_toList] at *; omega
    exact ⟨y[i], by simp [Instr.extract, Array.getElem?_eq_getElem hlt], hl.get i _ _ h (by simp [Array.getElem?_eq_getElem hlt])⟩
  · cases h

def makeIfaceA (P : Program) (t : TypeId) (x : Value) : Option Value :=
  match P.underlying t with
  | some (.interface _) => none
  | some _ => some (.iface t x)
  | none => none

theorem makeIfaceA_sound {P : Program} {φ : Places} {w : World} {t : TypeId} {x x' v : Value} (hx : VR φ x x') (h : makeIfaceA P t x = some v) :
    ∃ v', (Instr.makeInterface t x').run P w = .ok v' w ∧ VR φ v v' := by
  unfold makeIfaceA at h
  split at h
  · cases h
  · rename_i d hd hu
    cases h
    refine ⟨.iface t x', ?_, .iface t _ _ hx⟩
    unfold Instr.makeInterface
    rw [Sem.run_bind, run_underlying hu]
    cases d <;> first | rfl | (exact (hd _ rfl).elim)
  · cases h

def assertA (P : Program) (x : Value) (asserted : TypeId) (commaOk : Bool) : Option Value :=
  match P.underlying asserted, x with
  | some (.interface _), _ => none
  | some _, .iface t v => match Nat.beq t asserted with
    | true => some (match commaOk with | true => .tuple #[v, .bool true] | false => v)
    | false => match commaOk, zeroA P asserted with
      | true, some z => some (.tuple #[z, .bool false])
      | _, _ => none
  | some _, .nilIface => match commaOk, zeroA P asserted with
      | true, some z => some (.tuple #[z, .bool false])
      | _, _ => none
  | _, _ => none

theorem assertA_sound {P : Program} {φ : Places} {w : World} {x x' v : Value} {xt asserted : TypeId} {ok : Bool} (hx : VR φ x x') (h : assertA P x asserted ok = some v) :
    ∃ v', (Instr.typeAssert x' xt asserted ok).run P w = .ok v' w ∧ VR φ v v' := by
  unfold assertA at h
  split at h
  · cases h
  · rename_i d t u hd hu
    cases hx with | iface _ _ u' hv =>
    split at h
    · rename_i hb
      have := Nat.eq_of_beq_eq_true hb
      subst this
      cases h
      cases ok with
      | true =>
        refine ⟨.tuple #[u', .bool true], ?_, .pair hv (.bool _)⟩
        unfold Instr.typeAssert
        rw [Sem.run_bind, run_underlying hu]
        cases d <;> first | (exact (hd _ rfl).elim) | simp
      | false =>
        refine ⟨u', ?_, hv⟩
        unfold Instr.typeAssert
        rw [Sem.run_bind, run_underlying hu]
        cases d <;> first | (exact (hd _ rfl).elim) | simp
    · rename_i hb
      have := Nat.ne_of_beq_eq_false hb
      split at h
      · rename_i z hz
        cases h
        have hzr := zeroA_run hz w
        obtain ⟨_, _, _, hfl, _⟩ := zeroA_some hz
        refine ⟨.tuple #[z, .bool false], ?_, .pair (.of_flat hfl) (.bool _)⟩
        unfold Instr.typeAssert
        rw [Sem.run_bind, run_underlying hu]
        cases d <;> first | (exact (hd _ rfl).elim) | simp [this, hzr]
      · cases h
  · rename_i d hd hu
    cases hx
    split at h
    · rename_i z hz
      cases h
      have hzr := zeroA_run hz w
      obtain ⟨_, _, _, hfl, _⟩ := zeroA_some hz
      refine ⟨.tuple #[z, .bool false], ?_, .pair (.of_flat hfl) (.bool _)⟩
      unfold Instr.typeAssert
      rw [Sem.run_bind, run_underlying hu]
      cases d <;> first | (exact (hd _ rfl).elim) | simp [hzr]
    · cases h
  · cases h

def lenA (P : Program) (H : AHeap) (t : TypeId) (x : Value) : Option Value :=
  match P.underlying t, x with
  | some .string, .string s => some (goInt s.size)
  | some (.array n _), _ => some (goInt n)
  | some (.slice _), .slice _ n _ => some (goInt n)
  | some (.map _ _), .map none => some (goInt 0)
  | some (.map _ _), .map (some b) => match H.get b with
    | some (.map es _) => some (goInt es.length)
    | _ => none
  | _, _ => none

theorem lenA_sound {P : Program} {φ : Places} {H : AHeap} {w : World} (hr : Rel φ H w) {t rt : TypeId} {x x' v : Value} (hx : VR φ x x') (h : lenA P H t x = some v) :
    ∃ v', (Builtin.len_ #[t] rt #[x']).run P w = .ok v' w ∧ VR φ v v' := by
  unfold lenA at h
  split at h
  · rename_i hu; cases hx; cases h; exact ⟨_, by simp [Builtin.len_, run_underlying hu, goInt], .int _ _⟩
  · rename_i hu; cases h; exact ⟨_, by simp [Builtin.len_, run_underlying hu, goInt], .int _ _⟩
  · rename_i hu; cases h; cases hx <;> exact ⟨_, by simp [Builtin.len_, run_underlying hu, goInt], .int _ _⟩
  · rename_i hu; cases hx; cases h; exact ⟨_, by simp [Builtin.len_, run_underlying hu, goInt], .int _ _⟩
  · rename_i hu
    cases hx with | map b p hp =>
    split at h
    · rename_i es clock hb
      cases h
      obtain ⟨es', he, hrel⟩ := hr.map hb hp
      have hg := getObj_run (P := P) he (by intro c e f h; cases h)
      have hl := hrel.length
      simp only [Array.length_toList] at hl
      refine ⟨_, by simp [Builtin.len_, run_underlying hu, hg, hl.symm, goInt], .int _ _⟩
    · cases h
  · cases h

def capA (P : Program) (t : TypeId) (x : Value) : Option Value :=
  match P.underlying t, x with
  | some (.array n _), _ => some (goInt n)
  | some (.slice _), .slice _ _ c => match Nat.blt c unk with | true => some (goInt c) | false => none
  | _, _ => none

theorem capA_sound {P : Program} {φ : Places} {w : World} {t rt : TypeId} {x x' v : Value} (hx : VR φ x x') (h : capA P t x = some v) :
    ∃ v', (Builtin.cap_ #[t] rt #[x']).run P w = .ok v' w ∧ VR φ v v' := by
  unfold capA at h
  split at h
  · rename_i hu; cases h; exact ⟨_, by simp [Builtin.cap_, run_underlying hu, goInt], .int _ _⟩
  · rename_i hu
    split at h
    · rename_i hlt
      have hc : _ < unk := Nat.le_of_ble_eq_true hlt
      cases h
      cases hx with
      | sliceNil => exact ⟨_, by simp [Builtin.cap_, run_underlying hu, goInt], .int _ _⟩
      | slice => exact ⟨_, by simp [Builtin.cap_, run_underlying hu, goInt], .int _ _⟩
      | sliceUnk => omega
      | sliceDead => omega
    · cases h
  · cases h

def builtinA (P : Program) (H : AHeap) (b : Builtin) (argTypes : Array TypeId) (t : TypeId) (args : List Value) : Option Value :=
  match b, argTypes.toList, args with
  | .len, [at_], [x] => lenA P H at_ x
  | .cap, [at_], [x] => capA P at_ x
  | .min, _, args => match args.all atom with | true => pureAtom (Builtin.min_ argTypes t args.toArray) | false => none
  | .max, _, args => match args.all atom with | true => pureAtom (Builtin.max_ argTypes t args.toArray) | false => none
  | .unsafeSliceData, _, [.slice none _ _] => some (.pointer none)
  | .unsafeSliceData, _, [.slice (some ⟨b, o, none⟩) n c] => match Nat.beq n 0, Nat.beq c 0 with
    | false, false => some (.pointer (some ⟨b, o, none⟩))
    | _, _ => none
  | _, _, _ => none

theorem L2.cons_inv {α β : Type} {R : α → β → Prop} {a : α} {l : List α} {m : List β} (h : L2 R (a :: l) m) : ∃ b m', m = b :: m' ∧ R a b ∧ L2 R l m' := by
  cases h with | cons h t => exact ⟨_, _, rfl, h, t⟩
theorem L2.nil_inv {α β : Type} {R : α → β → Prop} {m : List β} (h : L2 R ([] : List α) m) : m = [] := by cases h; rfl

end Go.AH

namespace Go.AH
open Go

/-! ## All operations that leave memory alone -/

def lookAll (ρ : Operand → Option Value) : List Operand → Option (List Value)
  | [] => some []
  | x :: l => match ρ x with
    | some v => match lookAll ρ l with
      | some r => some (v :: r)
      | none => none
    | none => none

def lookParts (ρ : Operand → Option Value) : List (Nat × Operand) → Option (List (Nat × Value))
  | [] => some []
  | x :: l => match ρ x.2 with
    | some v => match lookParts ρ l with
      | some r => some ((x.1, v) :: r)
      | none => none
    | none => none

theorem lookAll_sound {φ : Places} {ρ : Operand → Option Value} {ρ' : Operand → Value} (hρ : ∀ x v, ρ x = some v → VR φ v (ρ' x)) :
    ∀ {l : List Operand} {r : List Value}, lookAll ρ l = some r → L2 (VR φ) r (l.map ρ')
  | [], r, h => by cases h; exact .nil
  | x :: l, r, h => by
    unfold lookAll at h
    split at h
    · rename_i v hv
      split at h
      · cases h; rename_i r' hr; exact .cons (hρ _ _ hv) (lookAll_sound hρ hr)
      · cases h
    · cases h

theorem lookParts_sound {φ : Places} {ρ : Operand → Option Value} {ρ' : Operand → Value} (hρ : ∀ x v, ρ x = some v → VR φ v (ρ' x)) :
    ∀ {l : List (Nat × Operand)} {r : List (Nat × Value)}, lookParts ρ l = some r → L2 (PRel φ) r (l.map fun (i, x) => (i, ρ' x))
  | [], r, h => by cases h; exact .nil
  | x :: l, r, h => by
    unfold lookParts at h
    split at h
    · rename_i v hv
      split at h
      · cases h; rename_i r' hr; exact .cons ⟨rfl, hρ _ _ hv⟩ (lookParts_sound hρ hr)
      · cases h
    · cases h

theorem builtinA_sound {P : Program} {φ : Places} {H : AHeap} {w : World} (hr : Rel φ H w) {b : Builtin} {argTypes : Array TypeId} {t : TypeId} {args : List Value} {args' : Array Value} {v : Value}
    (ha : L2 (VR φ) args args'.toList) (consts : Array Bool) (h : builtinA P H b argTypes t args = some v) :
    ∃ v', (builtin b argTypes t consts args').run P w = .ok (.value v') w ∧ VR φ v v' := by
  obtain ⟨args'⟩ := args'
  obtain ⟨argTypes⟩ := argTypes
  simp only at ha
  unfold builtinA at h
  split at h
  · rename_i at_ x heq
    cases heq
    obtain ⟨x', m', rfl, hx, ht⟩ := ha.cons_inv
    cases ht
    obtain ⟨v', hv, hrel⟩ := lenA_sound (rt := t) hr hx h
    exact ⟨v', by simp [builtin, hv], hrel⟩
  · rename_i at_ x heq
    cases heq
    obtain ⟨x', m', rfl, hx, ht⟩ := ha.cons_inv
    cases ht
    obtain ⟨v', hv, hrel⟩ := capA_sound (w := w) (rt := t) hx h
    exact ⟨v', by simp [builtin, hv], hrel⟩
  · split at h
    · rename_i hat
      have := atoms_eq ha hat
      subst this
      obtain ⟨h1, h2⟩ := pureAtom_some h
      exact ⟨v, by simp [builtin, h1], .of_atom h2⟩
    · cases h
  · split at h
    · rename_i hat
      have := atoms_eq ha hat
      subst this
      obtain ⟨h1, h2⟩ := pureAtom_some h
      exact ⟨v, by simp [builtin, h1], .of_atom h2⟩
    · cases h
  · obtain ⟨x', m', rfl, hx, ht⟩ := ha.cons_inv
    cases ht; cases hx; cases h
    exact ⟨_, rfl, .ptrNil⟩
  · obtain ⟨x', m', rfl, hx, ht⟩ := ha.cons_inv
    cases ht
    split at h
    · rename_i hn hc
      have hn' := Nat.ne_of_beq_eq_false hn
      have hc' := Nat.ne_of_beq_eq_false hc
      cases h
      have key : ∀ (a : Addr) (n c : Nat), c ≠ 0 → (builtin .unsafeSliceData ⟨argTypes⟩ t consts ⟨[.slice (some a) n c]⟩).run P w = .ok (.value (.pointer (some a))) w := by
        intro a n c hc
        cases c with
        | zero => exact absurd rfl hc
        | succ c => rfl
      cases hx with
      | slice _ o p n c hc hp => exact ⟨_, key _ _ _ hc', .ptr _ _ _ ‹_›⟩
      | sliceUnk _ o p n C hp hn hC => exact ⟨_, key _ _ _ (by omega), .ptr _ _ _ ‹_›⟩
      | sliceDead => exact absurd rfl hn'
    · cases h
  · cases h

def nilCheckA (v : Value) : Option Value :=
  match v with
  | .pointer (some a) => some (.pointer (some a))
  | .func (.func f) x y => some (.func (.func f) x y)
  | .iface t u => some (.iface t u)
  | _ => none

def lookO (ρ : Operand → Option Value) (x : Option Operand) : Option (Option Value) :=
  match x with
  | none => some none
  | some x => match ρ x with
    | some v => some (some v)
    | none => none

theorem lookO_sound {φ : Places} {ρ : Operand → Option Value} {ρ' : Operand → Value} (hρ : ∀ x v, ρ x = some v → VR φ v (ρ' x)) {x : Option Operand} {r : Option Value}
    (h : lookO ρ x = some r) : ORelV φ r (x.map ρ') := by
  unfold lookO at h
  split at h
  · cases h; trivial
  · split at h
    · cases h; rename_i hv; exact hρ _ _ hv
    · cases h

/-- What an operation yields that leaves memory as it is. -/
def evRead (P : Program) (H : AHeap) (ρ : Operand → Option Value) (op : Op) (type : TypeId) : Option Value :=
  match op with
  | .move x => ρ x
  | .assign x => ρ x
  | .pick c a b => match ρ c with
    | some (.bool true) => ρ a
    | some (.bool false) => ρ b
    | _ => none
  | .load t a => match ρ a with
    | some a => loadA P t H a
    | none => none
  | .nilCheck x => match ρ x with
    | some v => nilCheckA v
    | none => none
  | .binOp op t x y _ => match ρ x, ρ y with
    | some a, some b => binA P H op t x y a b
    | _, _ => none
  | .unOp op _ x => match ρ x with
    | some v => match atom v with
      | true => pureAtom (Op.unary op v)
      | false => none
    | none => none
  | .convert s d x => match ρ x with
    | some v => convA P H s d v
    | none => none
  | .makeInterface t x => match ρ x with
    | some v => makeIfaceA P t v
    | none => none
  | .makeFunc fn first captured => match lookAll ρ first.toList, lookAll ρ captured.toList with
    | some a, some b => some (.func fn a.toArray b.toArray)
    | _, _ => none
  | .build t parts => match lookParts ρ parts.toList with
    | some ps => buildA P t ps
    | none => none
  | .slice t x lo hi none => match ρ x, lookO ρ lo, lookO ρ hi with
    | some v, some l, some h => sliceA P H t v l h
    | _, _, _ => none
  | .fieldAddr s x f => match ρ x with
    | some v => fieldAddrA P s v f
    | none => none
  | .field s x f => match ρ x with
    | some v => fieldA P s v f
    | none => none
  | .indexAddr t x ix => match ρ x, ρ ix with
    | some v, some i => indexAddrA P t v i
    | _, _ => none
  | .index t x ix => match ρ x, ρ ix with
    | some v, some i => indexA P t v i
    | _, _ => none
  | .lookup t m k ok => match ρ m, ρ k with
    | some v, some i => lookupA P H t v i ok
    | _, _ => none
  | .typeAssert x _ t ok => match ρ x with
    | some v => assertA P v t ok
    | none => none
  | .extract x i => match ρ x with
    | some v => extractA v i
    | none => none
  | .call c => match c.callee with
    | .builtin b => match lookAll ρ c.args.toList with
      | some args => builtinA P H b c.argTypes type args
      | none => none
    | _ => none
  | _ => none

theorem evRead_sound {P : Program} {φ : Places} {H : AHeap} {w : World} (hr : Rel φ H w) {ρ : Operand → Option Value} {ρ' : Operand → Value} (hρ : ∀ x v, ρ x = some v → VR φ v (ρ' x))
    {o : Oper} {v : Value} (h : evRead P H ρ o.op o.type = some v) : ∃ v', (execOp ρ' o).run P w = .ok (.value v') w ∧ VR φ v v' := by
  obtain ⟨dst, op, type, pos, after, guard⟩ := o
  simp only at h
  unfold evRead at h
  split at h
  · exact ⟨_, rfl, hρ _ _ h⟩
  · exact ⟨_, rfl, hρ _ _ h⟩
  · rename_i c a b
    split at h
    · rename_i hc
      have := hρ _ _ hc
      generalize hc' : ρ' c = c' at this
      cases this
      exact ⟨_, by simp [execOp, hc', asBool], hρ _ _ h⟩
    · rename_i hc
      have := hρ _ _ hc
      generalize hc' : ρ' c = c' at this
      cases this
      exact ⟨_, by simp [execOp, hc', asBool], hρ _ _ h⟩
    · cases h
  · split at h
    · rename_i ha
      obtain ⟨v', hv, hrel⟩ := loadA_sound hr (hρ _ _ ha) h
      exact ⟨v', by simp [execOp, hv], hrel⟩
    · cases h
  · rename_i x
    split at h
    · rename_i u hu
      have hx := hρ _ _ hu
      generalize hx' : ρ' x = x' at hx
      unfold nilCheckA at h
      split at h
      · cases h; cases hx with | ptr b o p hp => exact ⟨_, by simp [execOp, hx'], .ptr b o p hp⟩
      · cases h; cases hx with | func _ _ x1 _ y1 h1 h2 h3 h4 => exact ⟨_, by simp [execOp, hx'], .func _ _ _ _ _ h1 h2 h3 h4⟩
      · cases h; cases hx with | iface _ _ u' hh => exact ⟨_, by simp [execOp, hx'], .iface _ _ _ hh⟩
      · cases h
    · cases h
  · split at h
    · rename_i ha hb
      obtain ⟨v', hv, hrel⟩ := binA_sound (P := P) hr (hρ _ _ ha) (hρ _ _ hb) h
      exact ⟨v', by simp only [execOp]; rw [Sem.run_bind, hv]; rfl, hrel⟩
    · cases h
  · split at h
    · rename_i hu
      split at h
      · rename_i hat
        have := (hρ _ _ hu).eq_of_atom hat
        obtain ⟨h1, h2⟩ := pureAtom_some h
        exact ⟨v, by simp [execOp, this, h1], .of_atom h2⟩
      · cases h
    · cases h
  · split at h
    · rename_i hu
      obtain ⟨v', hv, hrel⟩ := convA_sound hr (hρ _ _ hu) h
      exact ⟨v', by simp [execOp, hv], hrel⟩
    · cases h
  · split at h
    · rename_i hu
      obtain ⟨v', hv, hrel⟩ := makeIfaceA_sound (w := w) (hρ _ _ hu) h
      exact ⟨v', by simp [execOp, hv], hrel⟩
    · cases h
  · rename_i fn first captured
    split at h
    · rename_i a b ha hb
      cases h
      have h1 := lookAll_sound hρ ha
      have h2 := lookAll_sound hρ hb
      exact ⟨.func fn (first.map ρ') (captured.map ρ'), by simp [execOp, Instr.makeFunc], .func _ _ _ _ _ (by simpa using h1.length) (by simpa using h2.length)
        (fun i u w hu hw => h1.get i u w (by simpa using hu) (by simpa [← Array.getElem?_toList] using hw)) (fun i u w hu hw => h2.get i u w (by simpa using hu) (by simpa [← Array.getElem?_toList] using hw))⟩
    · cases h
  · split at h
    · rename_i ps hps
      have h1 := lookParts_sound hρ hps
      obtain ⟨v', hv, hrel⟩ := buildA_sound (P := P) (w := w) (parts' := _) (by rw [Array.toList_map]; exact h1) h
      exact ⟨v', by simp only [execOp]; rw [Sem.run_bind, hv]; rfl, hrel⟩
    · cases h
  · split at h
    · rename_i hx hlo hhi
      obtain ⟨v', hv, hrel⟩ := sliceA_sound (P := P) hr (hρ _ _ hx) (lookO_sound hρ hlo) (lookO_sound hρ hhi) h
      exact ⟨v', by simp [execOp, hv], hrel⟩
    · cases h
  · split at h
    · rename_i hx
      obtain ⟨v', hv, hrel⟩ := fieldAddrA_sound (w := w) (hρ _ _ hx) h
      exact ⟨v', by simp [execOp, hv], hrel⟩
    · cases h
  · split at h
    · rename_i hx
      obtain ⟨v', hv, hrel⟩ := fieldA_sound (w := w) (hρ _ _ hx) h
      exact ⟨v', by simp [execOp, hv], hrel⟩
    · cases h
  · split at h
    · rename_i hx hi
      obtain ⟨v', hv, hrel⟩ := indexAddrA_sound (w := w) (hρ _ _ hx) (hρ _ _ hi) h
      exact ⟨v', by simp [execOp, hv], hrel⟩
    · cases h
  · split at h
    · rename_i hx hi
      obtain ⟨v', hv, hrel⟩ := indexA_sound (w := w) (hρ _ _ hx) (hρ _ _ hi) h
      exact ⟨v', by simp [execOp, hv], hrel⟩
    · cases h
  · split at h
    · rename_i hx hi
      obtain ⟨v', hv, hrel⟩ := lookupA_sound hr (hρ _ _ hx) (hρ _ _ hi) h
      exact ⟨v', by simp [execOp, hv], hrel⟩
    · cases h
  · rename_i xt _ _
    split at h
    · rename_i hx
      obtain ⟨v', hv, hrel⟩ := assertA_sound (w := w) (xt := xt) (hρ _ _ hx) h
      exact ⟨v', by simp [execOp, hv], hrel⟩
    · cases h
  · split at h
    · rename_i hx
      obtain ⟨v', hv, hrel⟩ := extractA_sound (P := P) (w := w) (hρ _ _ hx) h
      exact ⟨v', by simp [execOp, hv], hrel⟩
    · cases h
  · rename_i c
    split at h
    · rename_i b hb
      split at h
      · rename_i args hargs
        have h1 := lookAll_sound hρ hargs
        obtain ⟨v', hv, hrel⟩ := builtinA_sound (P := P) (args' := c.args.map ρ') hr (by rw [Array.toList_map]; exact h1) (c.args.map fun | .const _ => true | _ => false) h
        exact ⟨v', by simp [execOp, resolve, hb, invoke]; exact hv, hrel⟩
      · cases h
    · cases h
  · cases h

end Go.AH

