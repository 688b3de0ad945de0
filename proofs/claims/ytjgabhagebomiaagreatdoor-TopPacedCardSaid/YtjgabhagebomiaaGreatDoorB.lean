/- A part of the proof: TwA7, TwA8, TwA9, TwA10, TwA11, TwA12, TwA13. -/
import Derived.Test.YtjgabhagebomiaaGreatDoorA
import Derived.Lib.UnsafeStr
namespace Go.AH
open Go

/-! ## Operations that make a block -/

def upd (φ : Places) (n : Nat) (p : Pl) : Places := fun b => if b = n then some p else φ b

theorem upd_same (φ : Places) (n : Nat) (p : Pl) : upd φ n p n = some p := if_pos rfl
theorem upd_other {φ : Places} {n b : Nat} {p : Pl} (h : b ≠ n) : upd φ n p b = φ b := if_neg h
theorem upd_le {φ : Places} {n : Nat} {p : Pl} (h : φ n = none) : Le φ (upd φ n p) := fun b q hb => by
  rw [upd_other (fun e => by rw [e, h] at hb; cases hb), hb]

theorem Rel.ghost {φ : Places} {H : AHeap} {w : World} (hr : Rel φ H w) (o : AObj) : Rel φ (H.add o) w := {
  glob := hr.glob
  fresh b hb := hr.fresh b (by simp at hb; omega)
  lt := hr.lt
  dom b x hb := by
    rw [AHeap.get_add] at hb
    split at hb
    · simp; omega
    · have := hr.dom b x hb; simp; omega
  live b x p hb hp := by
    rw [AHeap.get_add] at hb
    split at hb
    · rename_i h; rw [h, hr.fresh _ (Nat.le_refl _)] at hp; cases hp
    · exact hr.live b x p hb hp
  inj b b' x x' p p' hb hb' hp hp' he := by
    rw [AHeap.get_add] at hb hb'
    split at hb
    · rename_i h; rw [h, hr.fresh _ (Nat.le_refl _)] at hp; cases hp
    · split at hb'
      · rename_i h; rw [h, hr.fresh _ (Nat.le_refl _)] at hp'; cases hp'
      · exact hr.inj b b' x x' p p' hb hb' hp hp' he }

theorem Rel.realize {φ : Places} {H : AHeap} {w w' : World} (hr : Rel φ H w) {n : Nat} {o : AObj} {p : Pl} {c : Obj} (hn : φ n = none) (hlt : n < H.next) (ho : H.get n = some o)
    (hw : w'.heap = w.heap.push c) (hp : p.blk = w.heap.size) (hrel : ORel φ p o c) : Rel (upd φ n p) H w' := {
  glob := hr.glob.mono (upd_le hn)
  fresh b hb := by rw [upd_other (by omega)]; exact hr.fresh b hb
  lt b q hq := by
    rw [hw, Array.size_push]
    by_cases h : b = n
    · subst h; rw [upd_same] at hq; cases hq; omega
    · rw [upd_other h] at hq; have := hr.lt b q hq; omega
  dom := hr.dom
  live b x q hb hq := by
    by_cases h : b = n
    · subst h
      rw [upd_same] at hq; cases hq
      rw [ho] at hb; cases hb
      exact ⟨c, by rw [hw, hp]; simp, hrel.mono (upd_le hn)⟩
    · rw [upd_other h] at hq
      obtain ⟨c', hc', hr'⟩ := hr.live b x q hb hq
      have := hr.lt b q hq
      exact ⟨c', by rw [hw, Array.getElem?_push, if_neg (by omega)]; exact hc', hr'.mono (upd_le hn)⟩
  inj b b' x x' q q' hb hb' hq hq' he := by
    by_cases h : b = n
    · by_cases h' : b' = n
      · omega
      · rw [upd_other h'] at hq'
        subst h; rw [upd_same] at hq; cases hq
        have := hr.lt b' q' hq'; omega
    · rw [upd_other h] at hq
      by_cases h' : b' = n
      · subst h'; rw [upd_same] at hq'; cases hq'
        have := hr.lt b q hq; omega
      · rw [upd_other h'] at hq'
        exact hr.inj b b' x x' q q' hb hb' hq hq' he }

theorem Post.realize {φ₀ φ : Places} {H₀ H : AHeap} {w₀ w w' : World} (h : Post φ₀ H₀ w₀ φ H w) {n : Nat} {p : Pl} {c : Obj} (hn : H₀.next ≤ n)
    (hw : w'.heap = w.heap.push c) (hp : p.blk = w.heap.size) (ht : w'.tape = w.tape) (hos : w'.os = w.os) (hou : w'.output = w.output) : Post φ₀ H₀ w₀ (upd φ n p) H w' := {
  ext b hb := by rw [upd_other (by omega)]; exact h.ext b hb
  nx := h.nx
  ng := h.ng
  size := by rw [hw, Array.size_push]; have := h.size; omega
  unch r hr ho := by
    have := h.size
    rw [hw, Array.getElem?_push, if_neg (by omega)]; exact h.unch r hr ho
  own r hr ho := by
    obtain ⟨b, o, q, hb, hown, hq, he⟩ := ho
    by_cases hbn : b = n
    · subst hbn; rw [upd_same] at hq; cases hq; have := h.size; omega
    · rw [upd_other hbn] at hq; exact h.own r hr ⟨b, o, q, hb, hown, hq, he⟩
  tape := ht.trans h.tape
  os := hos.trans h.os
  output := hou.trans h.output }

/-- What a new block is reached by. -/
inductive Hand where
  | ptr
  | slice (len cap : Nat)
  | map

def Hand.val : Hand → Nat → Value
  | .ptr, n => .pointer (some ⟨n, 0, none⟩)
  | .slice l c, n => .slice (some ⟨n, 0, none⟩) l c
  | .map, n => .map (some n)

def zeroRow (z : Array Value) (n : Nat) : Array Value := (Array.range n).map (z[· % z.size]!)

def bcells (b : ByteArray) (cap : Nat) : Array Value := b.data.map (fun x : UInt8 => Value.int .u8 x.toNat) ++ Array.replicate (cap - b.size) (Value.int .u8 0)

theorem bcells_size {b : ByteArray} {cap : Nat} (h : b.size ≤ cap) : (bcells b cap).size = cap := by
  unfold bcells
  simp only [Array.size_append, Array.size_map, Array.size_replicate]
  show b.size + (cap - b.size) = cap
  omega

def evAlloc (P : Program) (ρ : Operand → Option Value) (op : Op) : Option (AObj × Hand) :=
  match op with
  | .alloc t => match zeroA P t, sizeA P t with
    | some z, some k => some (.row z.cells.toList t k .own, .ptr)
    | _, _ => none
  | .box t x => match ρ x, sizeA P t with
    | some v, some k => some (.row v.cells.toList t k .own, .ptr)
    | _, _ => none
  | .buildSlice t len parts => match P.underlying t, lookParts ρ parts.toList with
    | some (.slice e), some ps => match sizeA P e, zeroA P e with
      | some k, some z => match Nat.ble (len * k) 16777216 && Nat.ble len 16777216, flatCells (zeroRow z.cells (len * k)), Instr.fill (fun i => some (i * k, k)) (zeroRow z.cells (len * k)) ps with
        | true, true, some cells => some (.row cells.toList e k .own, .slice len len)
        | _, _, _ => none
      | _, _ => none
    | _, _ => none
  | .makeMap t none => match P.underlying t with
    | some (.map _ _) => some (.map [] 0, .map)
    | _ => none
  | .makeMap t (some x) => match P.underlying t, ρ x with
    | some (.map _ _), some (.int _ _) => some (.map [] 0, .map)
    | _, _ => none
  | .makeSlice t l c => match P.underlying t, ρ l, ρ c with
    | some (.slice e), some (.int _ (.ofNat l)), some (.int _ (.ofNat c)) => match P.info? e, sizeA P e, zeroA P e with
      | some i, some k, some z => match Nat.ble l c && Nat.ble (c * i.size) 16777216 && Nat.ble (i.bytes * c) 1099511627776 && Nat.ble c 1099511627776, flatCells (zeroRow z.cells (c * k)) with
        | true, true => some (.row (zeroRow z.cells (c * k)).toList e k .own, .slice l c)
        | _, _ => none
      | _, _, _ => none
    | _, _, _ => none
  | .convert s d x => match P.underlying s, P.underlying d, ρ x with
    | some .string, some (.slice e), some (.string b) => match P.underlying e, sizeA P e with
      | some (.int .u8), some 1 => some (.row (b.data.toList.map fun x => .int .u8 x.toNat) e 1 .str, .slice b.size unk)
      | _, _ => none
    | _, _, _ => none
  | _ => none

/-- What a new block's making does to the world. -/
structure Made (P : Program) (φ : Places) (w : World) (n : Nat) (o : AObj) (hd : Hand) (r : Result Next) : Prop where
  ex : ∃ p c v' w', r = .ok (.value v') w' ∧ w'.heap = w.heap.push c ∧ w'.tape = w.tape ∧ w'.os = w.os ∧ w'.output = w.output ∧ p.blk = w.heap.size ∧ ORel φ p o c ∧ VR (upd φ n p) (hd.val n) v'

theorem ORel.new_row {φ : Places} {cells : List Value} {c : Array Value} (h : L2 (VR φ) cells c.toList) (t : TypeId) (k r : Nat) :
    ORel φ ⟨r, 0, c.size, k⟩ (.row cells t k .own) (.cells c t (0, 0)) := by
  refine ⟨rfl, rfl, rfl, by have := h.length; simp at this ⊢; omega, ⟨rfl, rfl⟩, fun i u hu => ?_⟩
  have hlt : i < c.size := by have := (List.getElem?_eq_some_iff.1 hu).1; have := h.length; simp only [Array.length_toList] at this; omega
  exact ⟨c[i], by simp [Array.getElem?_eq_getElem hlt], h.get i _ _ hu (by simp [Array.getElem?_eq_getElem hlt])⟩

theorem Made.row {P : Program} {φ : Places} {w : World} {n : Nat} {cells : List Value} {c : Array Value} (h : L2 (VR φ) cells c.toList) (t : TypeId) (k : Nat) (hd : Hand) {v' : Value}
    (hv : ∀ p : Pl, p.sh = 0 → p.blk = w.heap.size → VR (upd φ n p) (hd.val n) v') : Made P φ w n (.row cells t k .own) hd (.ok (.value v') (w.alloc (.cells c t))) :=
  ⟨⟨w.heap.size, 0, c.size, k⟩, .cells c t, v', w.alloc (.cells c t), rfl, rfl, rfl, rfl, rfl, rfl, .new_row h t k _, hv _ rfl rfl⟩

theorem hand_ptr {φ : Places} {n r : Nat} (p : Pl) (hs : p.sh = 0) (hb : p.blk = r) : VR (upd φ n p) (Hand.ptr.val n) (.pointer (some ⟨r, 0, none⟩)) := by
  have := VR.ptr (φ := upd φ n p) n 0 p (upd_same _ _ _)
  rw [hs, hb] at this
  exact this

theorem hand_slice {φ : Places} {n r l c : Nat} (hc : c ≠ unk) (p : Pl) (hs : p.sh = 0) (hb : p.blk = r) : VR (upd φ n p) ((Hand.slice l c).val n) (.slice (some ⟨r, 0, none⟩) l c) := by
  have := VR.slice (φ := upd φ n p) n 0 p l c hc (upd_same _ _ _)
  rw [hs, hb] at this
  exact this

theorem World.freeze_heap_last {w : World} {c : Array Value} {e : TypeId} (k : Nat) :
    ((w.alloc (.cells c e)).freeze { block := w.heap.size, off := k } 1).heap = w.heap.push (.cells c e (k, k + 1)) := by
  simp only [World.freeze, World.alloc]
  apply Array.ext_getElem?
  intro i
  simp only [if_neg (show ¬ (1 = 0) by omega), Array.getElem?_modify, Array.getElem?_push]
  by_cases h : w.heap.size = i
  · subst h; simp
  · have : ¬ i = w.heap.size := fun e => h e.symm
    simp [h, this]

theorem evAlloc_sound {P : Program} {φ : Places} {w : World} {ρ : Operand → Option Value} {ρ' : Operand → Value} (hρ : ∀ x v, ρ x = some v → VR φ v (ρ' x))
    {o : Oper} {obj : AObj} {hd : Hand} (h : evAlloc P ρ o.op = some (obj, hd)) (n : Nat) : Made P φ w n obj hd ((execOp ρ' o).run P w) := by
  obtain ⟨dst, op, type, pos, after, guard⟩ := o
  simp only at h
  unfold evAlloc at h
  split at h
  · split at h
    · rename_i z k hz hk
      cases h
      obtain ⟨_, _, _, _, hfl⟩ := zeroA_some hz
      simp only [execOp, Instr.alloc, Sem.run_bind, zeroA_run hz, Result.andThen_ok]
      exact Made.row (P := P) (w := w) (n := n) (flatCells_rel (φ := φ) hfl) _ k .ptr (fun p hs hb => hand_ptr p hs hb)
    · cases h
  · split at h
    · rename_i v k hv hk
      cases h
      exact Made.row (P := P) (w := w) (n := n) (hρ _ _ hv).cells _ k .ptr (fun p hs hb => hand_ptr p hs hb)
    · cases h
  · rename_i t len parts
    split at h
    rotate_left
    · cases h
    rename_i e ps hu hps
    split at h
    rotate_left
    · cases h
    rename_i k z hk hz
    split at h
    rotate_left
    · cases h
    rename_i cells hsm hfl hfill
    cases h
    simp only [Bool.and_eq_true] at hsm
    have hsm1 := Nat.le_of_ble_eq_true hsm.1
    have hsm2 := Nat.le_of_ble_eq_true hsm.2
    have hparts := lookParts_sound hρ hps
    obtain ⟨cells', hfill', hrel⟩ := fill_rel _ hparts _ _ _ (flatCells_rel (φ := φ) hfl) hfill
    have hm := Made.row (P := P) (w := w) (n := n) hrel e k (.slice len len) (fun p hs hb => hand_slice (by unfold unk; omega) p hs hb)
    have hrun : (Instr.buildSlice t len (parts.map fun (i, x) => (i, ρ' x))).run P w = .ok (.slice (some ⟨w.heap.size, 0, none⟩) len len) (w.alloc (.cells cells' e)) := by
      have hgt : ¬ (len * k > 2 ^ 24) := by omega
      have hf2 : Instr.fill (fun i => some (i * k, k)) (zeroRow z.cells (len * k)) (parts.map fun (i, x) => (i, ρ' x)).toList = some cells' := by rw [Array.toList_map]; exact hfill'
      unfold zeroRow at hf2
      by_cases h0 : len * k = 0
      · rw [h0] at hf2
        unfold Instr.buildSlice
        simp only [Sem.run_bind, run_underlying hu, Result.andThen_ok, sizeA_run hk]
        rw [if_neg hgt]
        simp only [h0, if_true, Sem.run_bind, Sem.run_pure, Result.andThen_ok]
        have he : (Array.range 0).map ((#[] : Array Value)[· % (#[] : Array Value).size]!) = (Array.range 0).map (z.cells[· % z.cells.size]!) := by simp
        rw [he, hf2]
        rfl
      · unfold Instr.buildSlice
        simp only [Sem.run_bind, run_underlying hu, Result.andThen_ok, sizeA_run hk]
        rw [if_neg hgt]
        simp only [h0, if_false, Sem.run_bind, Sem.run_pure, Result.andThen_ok, zeroA_run hz]
        rw [hf2]
        rfl
    simp only [execOp, Sem.run_bind, hrun, Result.andThen_ok]
    exact hm
  · split at h
    · rename_i hu
      cases h
      exact ⟨⟨w.heap.size, 0, 0, 0⟩, .map #[] 0, .map (some w.heap.size), w.alloc (.map #[] 0), by simp only [execOp, Instr.makeMap, Option.map_none, Sem.run_bind, run_newObj, Sem.run_pure, Result.andThen_ok]; rfl, rfl, rfl, rfl, rfl, rfl,
        ⟨rfl, rfl, by simp⟩, .map n _ (upd_same _ _ _)⟩
    · cases h
  · rename_i x
    split at h
    · rename_i hu hx
      cases h
      have hx' := hρ _ _ hx
      generalize hxx : ρ' x = x' at hx'
      cases hx'
      exact ⟨⟨w.heap.size, 0, 0, 0⟩, .map #[] 0, .map (some w.heap.size), w.alloc (.map #[] 0), by simp only [execOp, Instr.makeMap, Option.map_some, hxx, Sem.run_bind, run_underlying hu, asInt, asIntOf, run_newObj, Sem.run_pure, Result.andThen_ok]; rfl, rfl, rfl, rfl, rfl, rfl,
        ⟨rfl, rfl, by simp⟩, .map n _ (upd_same _ _ _)⟩
    · cases h
  · rename_i t l c
    split at h
    rotate_left
    · cases h
    rename_i e kl l kc c hu hl hc
    split at h
    rotate_left
    · cases h
    rename_i i k z hi hk hz
    split at h
    rotate_left
    · cases h
    rename_i hsm hfl
    cases h
    simp only [Bool.and_eq_true] at hsm
    have h1 := Nat.le_of_ble_eq_true hsm.1.1.1
    have h2 := Nat.le_of_ble_eq_true hsm.1.1.2
    have h3 := Nat.le_of_ble_eq_true hsm.1.2
    have h4 := Nat.le_of_ble_eq_true hsm.2
    have hl' := hρ _ _ hl
    have hc' := hρ _ _ hc
    generalize hll : ρ' _ = l' at hl'
    generalize hcc : ρ' _ = c' at hc'
    cases hl'
    cases hc'
    have hm := Made.row (P := P) (w := w) (n := n) (flatCells_rel (φ := φ) hfl) e k (.slice l c) (fun p hs hb => hand_slice (by unfold unk; omega) p hs hb)
    obtain ⟨i', hi', hz', _, _⟩ := zeroA_some hz
    rw [hi] at hi'; cases hi'
    have hki : i.size = k := by
      unfold sizeA at hk; rw [hi] at hk; cases hk; rfl
    have hrun := run_makeSlice (P := P) w t e i z hu hi hz' kl kc (Int.ofNat l) (Int.ofNat c) (Int.natCast_nonneg _) (Int.ofNat_le.2 h1) h2
      (by have : (i.bytes : Int) * Int.ofNat c = ((i.bytes * c : Nat) : Int) := by simp
          rw [this]; omega) (by simp only [Int.ofNat_eq_natCast]; omega)
    rw [hki] at hrun
    simp only [execOp, hll, hcc, Sem.run_bind, hrun, Result.andThen_ok]
    exact hm
  · rename_i s d x
    split at h
    rotate_left
    · cases h
    rename_i e b hs hd hx
    split at h
    rotate_left
    · cases h
    rename_i he hk
    cases h
    have hx' := hρ _ _ hx
    generalize hxx : ρ' x = x' at hx'
    cases hx'
    generalize hcap : b.size + w.tape w.drawn (.appendCap b.size 0 e) % (2 ^ 63 - b.size) = cap
    have hle : b.size ≤ cap := by omega
    have hsz : (bcells b cap).size = cap := bcells_size hle
    refine ⟨⟨w.heap.size, 0, cap, 1⟩, .cells (bcells b cap) e (cap, cap + 1), .slice (some ⟨w.heap.size, 0, none⟩) b.size cap,
      (w.drew.alloc (.cells (bcells b cap) e)).freeze { block := w.heap.size, off := cap } 1, ?_, ?_, ?_, ?_, ?_, rfl, ?_, ?_⟩
    · have hconv : (Conv.stringToBytes e b).run P w = .ok (.slice (some ⟨w.heap.size, 0, none⟩) b.size cap)
          ((w.drew.alloc (.cells (bcells b cap) e)).freeze { block := w.heap.size, off := cap } 1) := by
        unfold Conv.stringToBytes
        simp only [Sem.run_bind, run_choose, Question.forced, Question.cut, hcap, Bool.false_eq_true, if_false, Result.andThen_ok, newRow, run_newObj, Sem.run_pure, markStringish, run_shape, World.alloc_eq, World.drew_eq]
        show (Sem.run P (do let x ← shape w.drew.heap.size; match x with | some (_, n) => freeze ⟨w.drew.heap.size, n, none⟩ 1 | _ => pure ()) (w.drew.alloc (.cells (bcells b cap) e))).andThen _ = _
        have hshape : (w.drew.alloc (.cells (bcells b cap) e)).shape? w.heap.size = some (e, cap) := by
          have h1 : (w.drew.alloc (.cells (bcells b cap) e)).heap[w.heap.size]? = some (.cells (bcells b cap) e) := by
            show (w.heap.push _)[w.heap.size]? = _
            simp
          unfold World.shape?
          rw [h1]
          simp [hsz]
        have hdd : w.drew.heap.size = w.heap.size := rfl
        rw [hdd, Sem.run_bind, run_shape, hshape]
        simp [run_freeze]
      simp only [execOp, hxx, convert, Sem.run_bind, run_underlying hs, run_underlying hd, run_underlying he, Result.andThen_ok, hconv]
      rfl
    · rw [show w.heap.size = w.drew.heap.size from rfl, World.freeze_heap_last]; rfl
    · simp [World.freeze]
    · simp [World.freeze]; rfl
    · simp [World.freeze]; rfl
    · refine ⟨rfl, rfl, hsz, by show 0 + _ ≤ cap; simp only [List.length_map, Array.length_toList]; show 0 + b.size ≤ cap; omega, by right; show cap ≤ cap; exact Nat.le_refl _, fun i u hu => ?_⟩
      simp only [List.getElem?_map, Option.map_eq_some_iff] at hu
      obtain ⟨y, hy, rfl⟩ := hu
      refine ⟨.int .u8 y.toNat, ?_, .int _ _⟩
      have hlt : i < b.data.size := by have := (List.getElem?_eq_some_iff.1 hy).1; simpa using this
      unfold bcells
      rw [Nat.zero_add, Array.getElem?_append_left (by simpa using hlt), Array.getElem?_map]
      rw [← Array.getElem?_toList, hy]; rfl
    · have := VR.sliceUnk (φ := upd φ n ⟨w.heap.size, 0, cap, 1⟩) n 0 ⟨w.heap.size, 0, cap, 1⟩ b.size cap (upd_same _ _ _) hle (by simp)
      exact this
  · cases h

end Go.AH

namespace Go.AH
open Go

/-! ## Blocks written -/

theorem Rel.write {φ : Places} {H : AHeap} {w w' : World} (hr : Rel φ H w) {b : Nat} {o o' : AObj} {p : Pl} {c' : Obj} (hb : H.get b = some o) (hp : φ b = some p)
    (hs : w'.heap.size = w.heap.size) (hw : ∀ r, w'.heap[r]? = if r = p.blk then some c' else w.heap[r]?) (ho : ORel φ p o' c') : Rel φ (H.put b (some o')) w' := {
  glob := hr.glob
  fresh := hr.fresh
  lt c q hq := by rw [hs]; exact hr.lt c q hq
  dom c x hc := by
    rw [AHeap.get_put] at hc
    split at hc
    · rename_i h; subst h; exact hr.dom c _ hb
    · exact hr.dom c x hc
  live c x q hc hq := by
    rw [AHeap.get_put] at hc
    split at hc
    · rename_i h; subst h; cases hc
      rw [hp] at hq; cases hq
      exact ⟨c', by rw [hw, if_pos rfl], ho⟩
    · rename_i h
      obtain ⟨y, hy, hyr⟩ := hr.live c x q hc hq
      refine ⟨y, ?_, hyr⟩
      rw [hw, if_neg (fun e => h (hr.inj c b x o q p hc hb hq hp e))]
      exact hy
  inj c d x y q q' hc hd hq hq' he := by
    rw [AHeap.get_put] at hc hd
    have hc' : ∃ x', H.get c = some x' := by
      split at hc
      · rename_i h; exact ⟨o, h ▸ hb⟩
      · exact ⟨x, hc⟩
    have hd' : ∃ x', H.get d = some x' := by
      split at hd
      · rename_i h; exact ⟨o, h ▸ hb⟩
      · exact ⟨y, hd⟩
    obtain ⟨x', hx'⟩ := hc'
    obtain ⟨y', hy'⟩ := hd'
    exact hr.inj c d x' y' q q' hx' hy' hq hq' he }

theorem Post.write {φ : Places} {H : AHeap} {w w' : World} {b : Nat} {o o' : AObj} {p : Pl} {c' : Obj} (hb : H.get b = some o) (hown : o.own = true) (hp : φ b = some p)
    (hs : w'.heap.size = w.heap.size) (hw : ∀ r, w'.heap[r]? = if r = p.blk then some c' else w.heap[r]?) (ht : w'.tape = w.tape) (hos : w'.os = w.os) (hou : w'.output = w.output) :
    Post φ H w φ (H.put b (some o')) w' := {
  ext _ _ := rfl
  nx := Nat.le_refl _
  ng := rfl
  size := by omega
  unch r hr ho := by rw [hw, if_neg (fun e => ho ⟨b, o, p, hb, hown, hp, e.symm⟩)]
  own r hr ho := by
    obtain ⟨c, x, q, hc, hx, hq, he⟩ := ho
    rw [AHeap.get_put] at hc
    split at hc
    · rename_i h; subst h; rw [hp] at hq; cases hq; exact ⟨c, o, p, hb, hown, hp, he⟩
    · exact ⟨c, x, q, hc, hx, hq, he⟩
  tape := ht
  os := hos
  output := hou }

theorem setCell_heap {w : World} {r o : Nat} {c : Array Value} {e : TypeId} {fr : Nat × Nat} {v : Value} (h : w.heap[r]? = some (.cells c e fr)) (i : Nat) :
    (w.setCell ⟨r, o, none⟩ v).heap[i]? = if i = r then some (.cells (c.setIfInBounds o v) e fr) else w.heap[i]? := by
  simp only [World.setCell, Array.getElem?_modify]
  by_cases hi : i = r
  · subst hi; simp [h]
  · have : ¬ r = i := fun e => hi e.symm
    simp [hi, this]

def oneCell : Value → Bool
  | .agg _ => false
  | .tuple _ => false
  | _ => true

theorem oneCell_rel {φ : Places} {u v : Value} (h : VR φ u v) (ho : oneCell u = true) : v.oneCell' = true := by
  cases h <;> first | rfl | cases ho

theorem Mark.unfrozen {mk : Mark} {p : Pl} {fr : Nat × Nat} (h : mk.fits p fr) (hm : mk ≠ .ro) {i : Nat} (hi : i < p.size) : (decide (fr.1 ≤ i) && decide (i < fr.2)) = false := by
  cases mk with
  | own => rw [Mark.own_fits h]; simp
  | str =>
    rcases h with h | h
    · rw [h]; simp
    · have : ¬ fr.1 ≤ i := by omega
      simp [this]
  | ro => exact absurd rfl hm

/-- One cell stored. -/
theorem Rel.store {P : Program} {φ : Places} {H : AHeap} {w : World} (hr : Rel φ H w) {b : Nat} {cells : List Value} {e : TypeId} {k : Nat} {mk : Mark} {p : Pl}
    (hb : H.get b = some (.row cells e k mk)) (hm : mk ≠ .ro) (hp : φ b = some p) {o : Nat} (ho : o < cells.length) {u v : Value} (hu : oneCell u = true) (hv : VR φ u v) :
    ∃ w', (store ⟨p.blk, p.sh + o, none⟩ v).run P w = .ok () w' ∧ Rel φ (H.put b (some (.row (cells.set o u) e k mk))) w' ∧ Post φ H w φ (H.put b (some (.row (cells.set o u) e k mk))) w' := by
  obtain ⟨c, fr, hc, hs, hle, hf, hcell⟩ := hr.row hb hp
  have hes := hr.esz hb hp
  have hlt : p.sh + o < c.size := by omega
  have hcell0 : w.cell? ⟨p.blk, p.sh + o, none⟩ = some c[p.sh + o] := by rw [cell?_eq hc, Array.getElem?_eq_getElem hlt]
  have hfz : w.frozen? ⟨p.blk, p.sh + o, none⟩ = false := by
    simp only [World.frozen?, hc]
    exact Mark.unfrozen hf hm (by omega)
  have hsz : (w.setCell ⟨p.blk, p.sh + o, none⟩ v).heap.size = w.heap.size := World.size_setCell _ _ _
  have hown : (AObj.row cells e k mk).own = true := by cases mk <;> first | rfl | exact absurd rfl hm
  refine ⟨w.setCell ⟨p.blk, p.sh + o, none⟩ v, ?_, hr.write hb hp hsz (setCell_heap hc) ?_, Post.write hb hown hp hsz (setCell_heap hc) rfl rfl rfl⟩
  · rw [run_store P w _ v .plain (oneCell_rel hv hu)]
    simp [hcell0, hfz]
  · refine ⟨rfl, hes, by simpa using hs, by simpa using hle, hf, fun i x hx => ?_⟩
    rw [List.getElem?_set] at hx
    split at hx
    · rename_i h
      subst h
      cases hx
      exact ⟨v, by simp [hlt], hv⟩
    · rename_i h
      obtain ⟨y, hy, hyr⟩ := hcell i x hx
      refine ⟨y, ?_, hyr⟩
      rw [Array.getElem?_setIfInBounds_ne (by omega)]
      exact hy

/-- Cells stored one behind the other. -/
def setL : List Value → Nat → List Value → List Value
  | [], _, _ => []
  | c :: cs, 0, l => match l with
    | [] => c :: cs
    | v :: l => v :: setL cs 0 l
  | c :: cs, n + 1, l => match l with
    | [] => c :: cs
    | v :: l => c :: setL cs n (v :: l)

theorem setL_nil (cells : List Value) (o : Nat) : setL cells o [] = cells := by
  cases cells <;> cases o <;> rfl

theorem setL_cons (v : Value) (l : List Value) : ∀ (cells : List Value) (o : Nat), setL cells o (v :: l) = setL (cells.set o v) (o + 1) l
  | [], o => by cases o <;> cases l <;> rfl
  | c :: cs, 0 => by cases l <;> simp [setL, setL_nil]
  | c :: cs, o + 1 => by
    rw [List.set_cons_succ]
    cases l with
    | nil => simp only [setL]; rw [setL_cons v [] cs o, setL_nil]
    | cons u l => simp only [setL]; rw [setL_cons v (u :: l) cs o]

theorem setL_length (l : List Value) : ∀ (cells : List Value) (o : Nat), (setL cells o l).length = cells.length := by
  induction l with
  | nil => intro cells o; rw [setL_nil]
  | cons v l ih => intro cells o; rw [setL_cons, ih, List.length_set]

theorem PT.put_put {α : Type} (t : PT α) (n : Nat) (u v : Option α) (m : Nat) : ((t.put n u).put n v).get m = (t.put n v).get m := by
  rw [PT.get_put, PT.get_put, PT.get_put]
  split <;> simp_all

/-- Two heaps that read alike. -/
def Same (H H' : AHeap) : Prop := (∀ b, H.get b = H'.get b) ∧ H.next = H'.next ∧ H.ng = H'.ng

theorem Rel.same {φ : Places} {H H' : AHeap} {w : World} (h : Same H H') (hr : Rel φ H w) : Rel φ H' w := {
  glob := h.2.2 ▸ hr.glob
  fresh b hb := hr.fresh b (by rw [h.2.1]; exact hb)
  lt := hr.lt
  dom b o hb := by rw [← h.2.1]; exact hr.dom b o (by rw [h.1]; exact hb)
  live b o p hb hp := hr.live b o p (by rw [h.1]; exact hb) hp
  inj b b' o o' p p' hb hb' := hr.inj b b' o o' p p' (by rw [h.1]; exact hb) (by rw [h.1]; exact hb') }

theorem Post.same {φ φ' : Places} {H H' H'' : AHeap} {w w' : World} (h : Same H' H'') (hp : Post φ H w φ' H' w') : Post φ H w φ' H'' w' := {
  ext := hp.ext
  nx := by rw [← h.2.1]; exact hp.nx
  ng := by rw [← h.2.2]; exact hp.ng
  size := hp.size
  unch := hp.unch
  own r hr ho := hp.own r hr (by obtain ⟨b, o, p, hb, x⟩ := ho; exact ⟨b, o, p, by rw [h.1]; exact hb, x⟩)
  tape := hp.tape
  os := hp.os
  output := hp.output }

theorem Same.put_put (H : AHeap) (b : Nat) (o o' : Option AObj) : Same ((H.put b o).put b o') (H.put b o') :=
  ⟨fun _ => PT.put_put _ _ _ _ _, rfl, rfl⟩

theorem Same.put_self {H : AHeap} {b : Nat} {o : AObj} (h : H.get b = some o) : Same H (H.put b (some o)) :=
  ⟨fun c => by
    rw [AHeap.get_put]
    by_cases hc : c = b
    · rw [if_pos hc, hc, h]
    · rw [if_neg hc], rfl, rfl⟩

theorem Rel.storeCells {P : Program} {φ : Places} {e : TypeId} {k : Nat} {mk : Mark} {b : Nat} {p : Pl} (hm : mk ≠ .ro) (hp : φ b = some p) (o : Nat) :
    ∀ {l l' : List Value}, L2 (VR φ) l l' → l.all oneCell = true → ∀ (i : Nat) (H : AHeap) (w : World) (cells : List Value), Rel φ H w → H.get b = some (.row cells e k mk) → o + i + l.length ≤ cells.length →
    ∃ w', (storeCells ⟨p.blk, p.sh + o, none⟩ l' i).run P w = .ok () w' ∧ Rel φ (H.put b (some (.row (setL cells (o + i) l) e k mk))) w' ∧
      Post φ H w φ (H.put b (some (.row (setL cells (o + i) l) e k mk))) w' := by
  intro l l' h
  induction h with
  | nil =>
    intro _ i H w cells hr hb _
    rw [setL_nil]
    exact ⟨w, rfl, hr.same (Same.put_self hb), (Post.refl φ H w).same (Same.put_self hb)⟩
  | @cons u v l l' huv _ ih =>
    intro hall i H w cells hr hb hle
    simp only [List.all_cons, Bool.and_eq_true] at hall
    simp only [List.length_cons] at hle
    obtain ⟨w1, hrun, hr1, hp1⟩ := hr.store (P := P) hb hm hp (o := o + i) (by omega) hall.1 huv
    obtain ⟨w2, hrun2, hr2, hp2⟩ := ih hall.2 (i + 1) _ w1 (cells.set (o + i) u) hr1 (by rw [AHeap.get_put, if_pos rfl]) (by simp; omega)
    have hsm := Same.put_put H b (some (.row (cells.set (o + i) u) e k mk)) (some (.row (setL (cells.set (o + i) u) (o + (i + 1)) l) e k mk))
    rw [setL_cons]
    refine ⟨w2, ?_, hr2.same hsm, (hp1.trans hp2).same hsm⟩
    rw [Go.storeCells]
    rw [Addr.add_none, Nat.add_assoc, Sem.run_bind, hrun]
    exact hrun2

/-! ## What an operation that writes does -/

structure Eff (P : Program) (φ : Places) (H : AHeap) (w : World) (v : Value) (H' : AHeap) (r : Result Next) : Prop where
  ex : ∃ n φ' v' w', r = .ok n w' ∧ (n = .value v' ∨ n = .skip ∧ v' = Go.undef) ∧ VR φ' v v' ∧ Rel φ' H' w' ∧ Post φ H w φ' H' w'

def storeA (P : Program) (H : AHeap) (t : TypeId) (a v : Value) : Option AHeap :=
  match a with
  | .pointer (some ⟨b, o, none⟩) =>
    match H.get b, sizeA P t with
    | some (.row cells e k mk), some n =>
      match mk with
      | .ro => none
      | mk => match Nat.beq v.cells.toList.length n && v.cells.toList.all oneCell && Nat.ble (o + n) cells.length with
        | true => some (H.put b (some (.row (setL cells o v.cells.toList) e k mk)))
        | false => none
    | _, _ => none
  | _ => none

theorem storeA_sound {P : Program} {φ : Places} {H H' : AHeap} {w : World} (hr : Rel φ H w) {t : TypeId} {a a' v v' : Value} (ha : VR φ a a') (hv : VR φ v v') (h : storeA P H t a v = some H') :
    ∃ w', (Instr.storeAt t a' v').run P w = .ok () w' ∧ Rel φ H' w' ∧ Post φ H w φ H' w' := by
  unfold storeA at h
  split at h
  rotate_left
  · cases h
  rename_i b o
  cases ha with | ptr _ _ p hp =>
  split at h
  rotate_left
  · cases h
  rename_i cells e k mk n hb hn
  split at h
  · cases h
  · rename_i hm
    split at h
    · rename_i hc
      cases h
      simp only [Bool.and_eq_true] at hc
      have h1 := Nat.eq_of_beq_eq_true hc.1.1
      have h3 := Nat.le_of_ble_eq_true hc.2
      obtain ⟨w', hrun, hr', hp'⟩ := Rel.storeCells (P := P) (e := e) (k := k) (b := b) (by simpa using hm) hp o hv.cells hc.1.2 0 H w cells hr hb (by omega)
      refine ⟨w', ?_, hr', hp'⟩
      have hlen := hv.cells.length
      have hsz : ¬ (v'.cells.size ≠ n) := by simp only [Array.length_toList] at hlen h1; omega
      simp only [Instr.storeAt, Instr.sureAddr, storeVar, Sem.run_bind, Sem.run_pure, Result.andThen_ok, sizeA_run hn]
      rw [if_neg hsz]
      exact hrun
    · cases h

end Go.AH

namespace Go.AH
open Go

/-! ## Maps written -/

theorem setObj_run {P : Program} {w : World} {r : Nat} {o c : Obj} (h : w.heap[r]? = some c) (hn : ∀ x e f, c ≠ .cells x e f) :
    (setObj r o).run P w = .ok () { w with heap := w.heap.setIfInBounds r o } := by
  unfold setObj
  cases c <;> first | (exact absurd rfl (hn _ _ _)) | simp [Sem.run, h]

theorem set_heap {w : World} {r : Nat} {o c : Obj} (h : w.heap[r]? = some c) (i : Nat) : (w.heap.setIfInBounds r o)[i]? = if i = r then some o else w.heap[i]? := by
  have hlt : r < w.heap.size := (Array.getElem?_eq_some_iff.1 h).1
  rw [Array.getElem?_setIfInBounds]
  by_cases hi : i = r
  · subst hi; simp [hlt]
  · have : ¬ r = i := fun e => hi e.symm
    simp [hi, this]

/-- A map (or an iterator) put in another one's place. -/
theorem Rel.setObj {P : Program} {φ : Places} {H : AHeap} {w : World} (hr : Rel φ H w) {b : Nat} {o o' : AObj} {p : Pl} {c c' : Obj} (hb : H.get b = some o) (hown : o.own = true) (hp : φ b = some p)
    (hc : w.heap[p.blk]? = some c) (hn : ∀ x e f, c ≠ .cells x e f) (ho : ORel φ p o' c') :
    ∃ w', (Go.setObj p.blk c').run P w = .ok () w' ∧ Rel φ (H.put b (some o')) w' ∧ Post φ H w φ (H.put b (some o')) w' :=
  ⟨_, setObj_run hc hn, hr.write hb hp (by simp) (set_heap hc) ho, Post.write hb hown hp (by simp) (set_heap hc) rfl rfl rfl⟩

def mapUpdateA (P : Program) (H : AHeap) (t : TypeId) (m k v : Value) : Option AHeap :=
  match P.underlying t, m with
  | some (.map kt _), .map (some b) =>
    match H.get b with
    | some (.map es clock) =>
      match findA P kt k es with
      | some (some (i, _)) => some (H.put b (some (.map (es.modify i fun e => { e with key := k, val := v }) clock)))
      | some none => some (H.put b (some (.map (es ++ [{ key := k, val := v, born := clock }]) (clock + 1))))
      | none => none
    | _ => none
  | _, _ => none

theorem L2.modify {α β : Type} {R : α → β → Prop} {f : α → α} {g : β → β} (hfg : ∀ a b, R a b → R (f a) (g b)) {l : List α} {m : List β} (h : L2 R l m) : ∀ n, L2 R (l.modify n f) (m.modify n g) := by
  induction h with
  | nil => intro n; simp; exact .nil
  | cons h t ih => intro n; cases n with
    | zero => exact .cons (hfg _ _ h) t
    | succ n => exact .cons h (ih n)

theorem L2.erase {α β : Type} {R : α → β → Prop} {l : List α} {m : List β} (h : L2 R l m) : ∀ n, L2 R (l.eraseIdx n) (m.eraseIdx n) := by
  induction h with
  | nil => intro n; simp; exact .nil
  | cons h t ih => intro n; cases n with
    | zero => exact t
    | succ n => exact .cons h (ih n)

theorem ORel.map_of {φ : Places} {p : Pl} {es : List MapEntry} {es' : Array MapEntry} (clock : Nat) (h : L2 (ERel φ) es es'.toList) : ORel φ p (.map es clock) (.map es' clock) :=
  ⟨rfl, by simpa using h.length, by simpa using h.get⟩

theorem mapUpdateA_sound {P : Program} {φ : Places} {H H' : AHeap} {w : World} (hr : Rel φ H w) {t : TypeId} {m m' k k' v v' : Value} (hm : VR φ m m') (hk : VR φ k k') (hv : VR φ v v')
    (h : mapUpdateA P H t m k v = some H') : ∃ w', (Instr.mapUpdate t m' k' v').run P w = .ok () w' ∧ Rel φ H' w' ∧ Post φ H w φ H' w' := by
  unfold mapUpdateA at h
  split at h
  rotate_left
  · cases h
  rename_i kt et b hu
  cases hm with | map _ p hp =>
  split at h
  rotate_left
  · cases h
  rename_i es clock hb
  obtain ⟨es', he, hrel⟩ := hr.map hb hp
  have hg := getObj_run (P := P) he (by intro c e f h; cases h)
  split at h
  · rename_i i u hf
    cases h
    obtain ⟨rfl, hck, r', hf', hfr, hst⟩ := findA_sound hk hrel hf
    cases r' with
    | none => exact hfr.elim
    | some iv =>
      obtain ⟨j, u'⟩ := iv
      obtain ⟨rfl, _⟩ := hfr
      obtain ⟨e', he', hbits⟩ := hst _ _ rfl
      obtain ⟨w', hrun, hr', hp'⟩ := hr.setObj (P := P) (o' := .map (es.modify i fun e => { e with key := k', val := v }) clock) (c' := .map (es'.modify i fun e => { e with key := k', val := v' }) clock)
        hb rfl hp he (by intro c e f h; cases h) (.map_of clock (by rw [Array.toList_modify]; exact hrel.modify (fun a b hab => ⟨hab.born, hk, hv⟩) i))
      refine ⟨w', ?_, hr', hp'⟩
      have hget : es'[i]? = some e' := by rw [← Array.getElem?_toList]; exact he'
      simp only [Instr.mapUpdate, Sem.run_bind, run_underlying hu, Result.andThen_ok, hg, hck, hf', hget, Option.map_some, Option.getD_some, hbits, Sem.run_pure]
      exact hrun
  · rename_i hf
    cases h
    obtain ⟨rfl, hck, r', hf', hfr, hst⟩ := findA_sound hk hrel hf
    cases r' with
    | some _ => exact hfr.elim
    | none =>
      obtain ⟨w', hrun, hr', hp'⟩ := hr.setObj (P := P) (o' := .map (es ++ [{ key := k', val := v, born := clock }]) (clock + 1)) (c' := .map (es'.push { key := k', val := v', born := clock }) (clock + 1))
        hb rfl hp he (by intro c e f h; cases h) (.map_of _ (by rw [Array.toList_push]; exact hrel.append (.cons ⟨rfl, hk, hv⟩ .nil)))
      refine ⟨w', ?_, hr', hp'⟩
      simp only [Instr.mapUpdate, Sem.run_bind, run_underlying hu, Result.andThen_ok, hg, hck, hf']
      exact hrun
  · cases h

def deleteA (P : Program) (H : AHeap) (t : TypeId) (m k : Value) : Option AHeap :=
  match P.underlying t, m with
  | some (.map kt _), .map (some b) =>
    match H.get b with
    | some (.map es clock) =>
      match findA P kt k es with
      | some (some (i, _)) => some (H.put b (some (.map (es.eraseIdx i) clock)))
      | some none => some H
      | none => none
    | _ => none
  | some (.map kt _), .map none => match findA P kt k [] with
    | some none => some H
    | _ => none
  | _, _ => none

theorem deleteA_sound {P : Program} {φ : Places} {H H' : AHeap} {w : World} (hr : Rel φ H w) {t rt : TypeId} {m m' k k' : Value} (hm : VR φ m m') (hk : VR φ k k') {ats : Array TypeId} (hat : ats[0]? = some t)
    (h : deleteA P H t m k = some H') : ∃ w', (Builtin.delete_ ats rt #[m', k']).run P w = .ok (.tuple #[]) w' ∧ Rel φ H' w' ∧ Post φ H w φ H' w' := by
  unfold deleteA at h
  split at h
  · rename_i kt et b hu
    cases hm with | map _ p hp =>
    split at h
    rotate_left
    · cases h
    rename_i es clock hb
    obtain ⟨es', he, hrel⟩ := hr.map hb hp
    have hg := getObj_run (P := P) he (by intro c e f h; cases h)
    split at h
    · rename_i i u hf
      cases h
      obtain ⟨rfl, hck, r', hf', hfr, hst⟩ := findA_sound hk hrel hf
      cases r' with
      | none => exact hfr.elim
      | some iv =>
        obtain ⟨j, u'⟩ := iv
        obtain ⟨rfl, _⟩ := hfr
        obtain ⟨w', hrun, hr', hp'⟩ := hr.setObj (P := P) (o' := .map (es.eraseIdx i) clock) (c' := .map (es'.eraseIdxIfInBounds i) clock)
          hb rfl hp he (by intro c e f h; cases h) (.map_of clock (by
            rw [Array.eraseIdxIfInBounds_eq]
            split
            · rw [Array.toList_eraseIdx]; exact hrel.erase i
            · rename_i hlt
              have h1 := hrel.erase i
              rw [List.eraseIdx_of_length_le (l := es'.toList) (by simpa using hlt)] at h1
              exact h1))
        refine ⟨w', ?_, hr', hp'⟩
        simp [Builtin.delete_, hat, run_underlying hu, hg, hck, hf', hrun]
    · rename_i hf
      cases h
      obtain ⟨rfl, hck, r', hf', hfr, hst⟩ := findA_sound hk hrel hf
      cases r' with
      | some _ => exact hfr.elim
      | none =>
        have hset : (Go.setObj p.blk (.map es' clock)).run P w = .ok () w := by
          rw [setObj_run he (by intro c e f h; cases h)]
          congr 1
          have : w.heap.setIfInBounds p.blk (.map es' clock) = w.heap := by
            apply Array.ext_getElem?
            intro i
            rw [set_heap he]
            by_cases hi : i = p.blk
            · rw [if_pos hi, hi, he]
            · rw [if_neg hi]
          rw [this]
        refine ⟨w, ?_, hr, Post.refl φ H w⟩
        simp [Builtin.delete_, hat, run_underlying hu, hg, hck, hf', hset]
    · cases h
  · rename_i kt et hu
    cases hm
    split at h
    · cases h
      rename_i hf
      obtain ⟨rfl, hck, _⟩ := findA_sound hk (.nil) hf
      exact ⟨w, by simp [Builtin.delete_, hat, run_underlying hu, hck], hr, Post.refl φ H w⟩
    · cases h
  · cases h

/-! ## Iterators -/

def rangeA (P : Program) (H : AHeap) (t : TypeId) (x : Value) : Option AObj :=
  match P.underlying t, x with
  | some .string, .string s => some (.strIter s 0)
  | some (.map _ _), .map none => some (.mapIter none 0 [] 0)
  | some (.map _ _), .map (some b) => match H.get b with
    | some (.map _ clock) => some (.mapIter (some b) clock [] clock)
    | _ => none
  | _, _ => none

/-- A block that is new beside all. -/
theorem Rel.new {φ : Places} {H : AHeap} {w w' : World} (hr : Rel φ H w) {o : AObj} {p : Pl} {c : Obj} (hw : w'.heap = w.heap.push c) (hp : p.blk = w.heap.size) (hrel : ORel φ p o c)
    (ht : w'.tape = w.tape) (hos : w'.os = w.os) (hou : w'.output = w.output) :
    Rel (upd φ H.next p) (H.add o) w' ∧ Post φ H w (upd φ H.next p) (H.add o) w' := by
  have hn := hr.fresh H.next (Nat.le_refl _)
  have hg := hr.ghost o
  refine ⟨hg.realize hn (by simp) (by rw [AHeap.get_add, if_pos rfl]) hw hp hrel, ?_⟩
  have h0 : Post φ H w φ (H.add o) w := by
    refine ⟨fun _ _ => rfl, by simp, rfl, Nat.le_refl _, fun _ _ _ => rfl, fun r _ ho => ?_, rfl, rfl, rfl⟩
    obtain ⟨b, x, q, hb, hx, hq, he⟩ := ho
    rw [AHeap.get_add] at hb
    split at hb
    · rename_i h; rw [h, hn] at hq; cases hq
    · exact ⟨b, x, q, hb, hx, hq, he⟩
  exact h0.realize (Nat.le_refl _) hw hp ht hos hou

theorem rangeA_sound {P : Program} {φ : Places} {H : AHeap} {w : World} (hr : Rel φ H w) {t : TypeId} {x x' : Value} {o : AObj} (hx : VR φ x x') (h : rangeA P H t x = some o) :
    ∃ φ' v' w', (Instr.range t x').run P w = .ok v' w' ∧ VR φ' (.pointer (some ⟨H.next, 0, none⟩)) v' ∧ Rel φ' (H.add o) w' ∧ Post φ H w φ' (H.add o) w' := by
  have fin : ∀ (c : Obj), ORel φ ⟨w.heap.size, 0, 0, 0⟩ o c → (Instr.range t x').run P w = .ok (.pointer (some ⟨w.heap.size, 0, none⟩)) (w.alloc c) →
      ∃ φ' v' w', (Instr.range t x').run P w = .ok v' w' ∧ VR φ' (.pointer (some ⟨H.next, 0, none⟩)) v' ∧ Rel φ' (H.add o) w' ∧ Post φ H w φ' (H.add o) w' := by
    intro c hc hrun
    obtain ⟨h1, h2⟩ := hr.new (w' := w.alloc c) (p := ⟨w.heap.size, 0, 0, 0⟩) rfl rfl hc rfl rfl rfl
    exact ⟨_, _, _, hrun, .ptr _ 0 _ (upd_same _ _ _), h1, h2⟩
  unfold rangeA at h
  split at h
  · rename_i s hu
    cases h; cases hx
    exact fin (.stringIter s 0) ⟨rfl, rfl, rfl⟩ (by simp [Instr.range, run_underlying hu])
  · rename_i hu
    cases h; cases hx
    exact fin (.mapIter none 0 #[] 0) ⟨rfl, .mapNil, rfl, rfl, rfl⟩ (by simp [Instr.range, run_underlying hu])
  · rename_i b hu
    split at h
    · rename_i es clock hb
      cases h
      cases hx with | map _ p hp =>
      obtain ⟨es', he, hrel⟩ := hr.map hb hp
      have hg := getObj_run (P := P) he (by intro c e f h; cases h)
      exact fin (.mapIter (some p.blk) clock #[] clock) ⟨rfl, .map b p hp, rfl, rfl, rfl⟩ (by simp [Instr.range, run_underlying hu, hg])
    · cases h
  · cases h

def nextA (H : AHeap) (it : Value) (isString : Bool) : Option (Value × AHeap) :=
  match it with
  | .pointer (some ⟨b, 0, none⟩) =>
    match H.get b, isString with
    | some (.strIter s pos), true =>
      match Nat.blt pos s.size with
      | true => match Utf8.decode s pos with
        | (c, width) => some (.tuple #[.bool true, goInt pos, .int .i32 c], H.put b (some (.strIter s (pos + width))))
      | false => some (.tuple #[.bool false], H)
    | some (.mapIter none _ _ _), false => some (.tuple #[.bool false], H)
    | some (.mapIter (some m) since seen last), false =>
      match H.get m with
      | some (.map es clock) =>
        match !seen.isEmpty && !es.isEmpty && es.all (fun e => Nat.ble last e.born) with
        | true => none
        | false =>
          match es.filter (fun e => !seen.contains e.born) with
          | [] => some (.tuple #[.bool false], H)
          | [e] => match Nat.blt e.born since with
            | true => some (.tuple #[.bool true, e.key, e.val], H.put b (some (.mapIter (some m) since (seen ++ [e.born]) clock)))
            | false => none
          | _ => none
      | _ => none
    | _, _ => none
  | _ => none

end Go.AH

namespace Go.AH
open Go

theorem L2.filter {α β : Type} {R : α → β → Prop} {f : α → Bool} {g : β → Bool} (hfg : ∀ a b, R a b → f a = g b) {l : List α} {m : List β} (h : L2 R l m) : L2 R (l.filter f) (m.filter g) := by
  induction h with
  | nil => exact .nil
  | @cons a b l m h t ih =>
    simp only [List.filter_cons, hfg a b h]
    split
    · exact .cons h ih
    · exact ih

theorem L2.all {α β : Type} {R : α → β → Prop} {f : α → Bool} {g : β → Bool} (hfg : ∀ a b, R a b → f a = g b) {l : List α} {m : List β} (h : L2 R l m) : l.all f = m.all g := by
  induction h with
  | nil => rfl
  | cons h _ ih => simp only [List.all_cons, hfg _ _ h, ih]

theorem nextA_sound {P : Program} {φ : Places} {H H' : AHeap} {w : World} (hr : Rel φ H w) {it it' v : Value} {isString : Bool} {type : TypeId} (hit : VR φ it it') (h : nextA H it isString = some (v, H')) :
    ∃ v' w', (Instr.next it' isString type).run P w = .ok v' w' ∧ VR φ v v' ∧ Rel φ H' w' ∧ Post φ H w φ H' w' := by
  unfold nextA at h
  split at h
  rotate_left
  · cases h
  rename_i b
  cases hit with | ptr _ _ p hp =>
  split at h
  · rename_i s pos hb
    obtain ⟨c, hc, ho⟩ := hr.live b _ p hb hp
    cases c <;> simp only [ORel] at ho
    obtain ⟨hsh, rfl, rfl⟩ := ho
    have hsh : p.sh + 0 = 0 := by omega
    have hg := getObj_run (P := P) hc (by intro c e f h; cases h)
    split at h
    · rename_i hlt
      have hlt' : pos < s.size := Nat.le_of_ble_eq_true hlt
      split at h
      rename_i c width hdec
      cases h
      obtain ⟨w', hrun, hr', hp'⟩ := hr.setObj (P := P) (o' := .strIter s (pos + width)) (c' := .stringIter s (pos + width)) hb rfl hp hc (by intro c e f h; cases h) ⟨by omega, rfl, rfl⟩
      refine ⟨.tuple #[.bool true, goInt pos, .int .i32 c], w', ?_, .of_flat rfl, hr', hp'⟩
      rw [hsh]
      simp [Instr.next, hg, hlt', hdec, hrun]
    · rename_i hlt
      have hlt' : ¬ pos < s.size := fun hh => by
        have := Nat.ble_eq_true_of_le (show pos + 1 ≤ s.size from hh)
        unfold Nat.blt at hlt; rw [this] at hlt; cases hlt
      cases h
      refine ⟨.tuple #[.bool false], w, ?_, .of_flat rfl, hr, Post.refl φ H w⟩
      rw [hsh]
      simp [Instr.next, hg, hlt']
  · rename_i since seen last hb
    cases h
    obtain ⟨c, hc, ho⟩ := hr.live b _ p hb hp
    cases c <;> simp only [ORel] at ho
    obtain ⟨hsh, hm, rfl, rfl, rfl⟩ := ho
    have hsh : p.sh + 0 = 0 := by omega
    have hg := getObj_run (P := P) hc (by intro c e f h; cases h)
    refine ⟨.tuple #[.bool false], w, ?_, .of_flat rfl, hr, Post.refl φ H w⟩
    rw [hsh]
    cases hm
    simp [Instr.next, hg]
  · rename_i m since seen last hb
    obtain ⟨c, hc, ho⟩ := hr.live b _ p hb hp
    cases c <;> simp only [ORel] at ho
    rename_i m' since' seen' stepped'
    obtain ⟨hsh, hm, rfl, rfl, rfl⟩ := ho
    have hsh : p.sh + 0 = 0 := by omega
    have hg := getObj_run (P := P) hc (by intro c e f h; cases h)
    rw [hsh]
    cases hm with | map _ q hq =>
    split at h
    rotate_left
    · cases h
    rename_i es clock hmb
    obtain ⟨es', he, hrel⟩ := hr.map hmb hq
    have hgm := getObj_run (P := P) he (by intro c e f h; cases h)
    split at h
    · cases h
    rename_i hcond
    have hcond' : (!seen'.isEmpty && !es'.isEmpty && es'.all (fun e => decide (e.born ≥ last))) = false := by
      rw [← hcond]
      have h1 : es'.isEmpty = es.isEmpty := by
        rw [Bool.eq_iff_iff, Array.isEmpty_iff, List.isEmpty_iff]
        constructor
        · intro e; subst e; have := hrel.length; simp at this; exact this
        · intro e; subst e; have := hrel.nil_inv; simpa using this
      have h2 : es'.all (fun e => decide (e.born ≥ last)) = es.all (fun e => Nat.ble last e.born) := by
        rw [← Array.all_toList]
        symm
        refine hrel.all fun a b hab => ?_
        rw [hab.born, Bool.eq_iff_iff, Nat.ble_eq]
        simp
      have h3 : seen'.isEmpty = seen'.toList.isEmpty := by simp
      rw [h1, h2, h3]
    have hfilt : L2 (ERel φ) (es.filter (fun e => !seen'.toList.contains e.born)) (es'.filter (fun e => !seen'.contains e.born)).toList := by
      rw [Array.toList_filter]
      refine hrel.filter fun a b hab => ?_
      rw [hab.born]
      simp
    generalize hleft : es'.filter (fun e => !seen'.contains e.born) = left at hfilt
    split at h
    · rename_i hnil
      cases h
      rw [hnil] at hfilt
      have hl : left = #[] := by have := hfilt.nil_inv; simpa using this
      refine ⟨.tuple #[.bool false], w, ?_, .of_flat rfl, hr, Post.refl φ H w⟩
      subst hl
      have hcand : ((if ((#[] : Array MapEntry).filter (fun x => decide (x.born < since))).isEmpty = true then #[none] else #[]) ++
          Array.map some ((#[] : Array MapEntry).filter (fun x => decide (x.born < since)) ++ (#[] : Array MapEntry).filter (fun x => decide (x.born ≥ since))) : Array (Option MapEntry)) = #[none] := by
        simp
      simp only [Instr.next, Sem.run_bind, hg, Result.andThen_ok, hgm, hcond', Bool.false_eq_true, if_false, hleft]
      rw [hcand]
      simp [Question.forced]
    · rename_i e hone
      split at h
      · rename_i hlt
        cases h
        have hlt' : e.born < since := Nat.le_of_ble_eq_true hlt
        rw [hone] at hfilt
        obtain ⟨e', m', hl, hee, ht⟩ := hfilt.cons_inv
        cases ht
        have hl' : left = #[e'] := by
          apply Array.ext'; simpa using hl
        obtain ⟨w', hrun, hr', hp'⟩ := hr.setObj (P := P) (o' := .mapIter (some m) since (seen'.toList ++ [e.born]) clock) (c' := .mapIter (some q.blk) since (seen'.push e'.born) clock) hb rfl hp hc
          (by intro c e f h; cases h) ⟨by omega, .map m q hq, rfl, by simp [hee.born], rfl⟩
        refine ⟨.tuple #[.bool true, e'.key, e'.val], w', ?_, .tuple_l2 (.cons (.bool _) (.cons hee.key (.cons hee.val .nil))), hr', hp'⟩
        have hb' : e'.born < since := by rw [← hee.born]; exact hlt'
        have hb2 : ¬ (e'.born ≥ since) := by omega
        subst hl'
        have hcand : ((if ((#[e'] : Array MapEntry).filter (fun x => decide (x.born < since))).isEmpty = true then #[none] else #[]) ++
            Array.map some ((#[e'] : Array MapEntry).filter (fun x => decide (x.born < since)) ++ (#[e'] : Array MapEntry).filter (fun x => decide (x.born ≥ since))) : Array (Option MapEntry)) = #[some e'] := by
          have hold : (#[e'] : Array MapEntry).filter (fun x => decide (x.born < since)) = #[e'] := by
            apply Array.ext'; simp [hb']
          have hnew : (#[e'] : Array MapEntry).filter (fun x => decide (x.born ≥ since)) = #[] := by
            apply Array.ext'; simp [hb']
          rw [hold, hnew]
          simp
        simp only [Instr.next, Sem.run_bind, hg, Result.andThen_ok, hgm, hcond', Bool.false_eq_true, if_false, hleft]
        rw [hcand]
        simp [Question.forced, hrun]
      · cases h
    · cases h
  · cases h

/-! ## append and copy -/

/-- What is appended: how many elements, and their cells. -/
def newsA (H : AHeap) (k : Nat) (x : Value) : Option (Nat × List Value) :=
  match x with
  | .slice none n _ => match Nat.beq n 0 with | true => some (0, []) | false => none
  | .slice (some ⟨b, o, none⟩) n _ => match H.get b with
    | some (.row cells _ _ _) => match cut cells o (n * k) with
      | some l => some (n, l)
      | none => none
    | _ => none
  | .string s => match Nat.beq k 1 with
    | true => some (s.size, s.data.toList.map fun b => .int .u8 b.toNat)
    | false => none
  | _ => none

theorem Rel.drew {φ : Places} {H : AHeap} {w : World} (hr : Rel φ H w) : Rel φ H w.drew :=
  ⟨hr.glob, hr.fresh, hr.lt, hr.dom, hr.live, hr.inj⟩

theorem newsA_sound {P : Program} {φ : Places} {H : AHeap} {w : World} (hr : Rel φ H w) {k n : Nat} {x x' : Value} {l : List Value} (hx : VR φ x x') (h : newsA H k x = some (n, l)) :
    ∃ l', L2 (VR φ) l l' ∧ l.length = n * k ∧ (Builtin.lenOf x').run P w = .ok n w ∧ (Builtin.firstCells k n x').run P w = .ok l'.toArray w ∧ (Builtin.firstCells k n x').run P w.drew = .ok l'.toArray w.drew := by
  unfold newsA at h
  split at h
  · split at h
    · rename_i hn
      have := Nat.eq_of_beq_eq_true hn
      subst this
      cases h; cases hx
      exact ⟨[], .nil, by simp, rfl, run_firstCells_none _ _ _ _ _, run_firstCells_none _ _ _ _ _⟩
    · cases h
  · rename_i b o n' c
    split at h
    rotate_left
    · cases h
    rename_i cells e k' mk hb
    split at h
    rotate_left
    · cases h
    rename_i l1 hl
    cases h
    have hlen := (cut_some hl).1
    have key : ∀ (p : Pl) (C : Nat), φ b = some p → ∃ l', L2 (VR φ) l l' ∧ l.length = n * k ∧ (Builtin.lenOf (.slice (some ⟨p.blk, p.sh + o, none⟩) n C)).run P w = .ok n w ∧
        (Builtin.firstCells k n (.slice (some ⟨p.blk, p.sh + o, none⟩) n C)).run P w = .ok l'.toArray w ∧ (Builtin.firstCells k n (.slice (some ⟨p.blk, p.sh + o, none⟩) n C)).run P w.drew = .ok l'.toArray w.drew := by
      intro p C hp
      obtain ⟨l', hrel, hcells⟩ := hr.cells hb hp hl
      have hl2 : l'.length = n * k := by rw [← hrel.1]; exact hlen
      exact ⟨l', hrel.l2, hlen, rfl, run_firstCells_some w k n _ n C l' hl2 hcells, run_firstCells_some w.drew k n _ n C l' hl2 hcells⟩
    cases hx with
    | slice _ _ p _ _ hc hp => exact key p c hp
    | sliceUnk _ _ p _ C hp hn hC => exact key p C hp
    | sliceDead _ _ p a hp =>
      have hl0 : l = [] := by have := hlen; simp at this; exact this
      subst hl0
      exact ⟨[], .nil, by simp, rfl, run_firstCells_some w k 0 _ 0 0 [] (by simp) (by simp), run_firstCells_some w.drew k 0 _ 0 0 [] (by simp) (by simp)⟩
  · rename_i s
    split at h
    · rename_i hk
      have := Nat.eq_of_beq_eq_true hk
      subst this
      cases h; cases hx
      have hext : s.extract 0 s.size = s := by
        simp
      refine ⟨s.data.toList.map fun b => .int .u8 b.toNat, .refl_of _ (fun a ha => ?_), by simp, rfl, ?_, ?_⟩
      · simp only [List.mem_map] at ha
        obtain ⟨b, _, rfl⟩ := ha
        exact .int _ _
      · simp only [Builtin.firstCells, hext, Sem.run_pure, Result.ok.injEq, and_true]
        apply Array.ext'; simp
      · simp only [Builtin.firstCells, hext, Sem.run_pure, Result.ok.injEq, and_true]
        apply Array.ext'; simp
    · cases h
  · cases h

end Go.AH

namespace Go.AH
open Go

def appendA (P : Program) (H : AHeap) (argTypes : List TypeId) (args : List Value) : Option (Value × AHeap) :=
  match argTypes, args with
  | [st, xt], [s, x] =>
    match P.underlying st, isIntB P xt with
    | some (.slice e), some false =>
      match P.info? e, zeroA P e with
      | some i, some z =>
        match newsA H i.size x, Nat.beq z.cells.toList.length i.size with
        | some (n, news), true =>
          match s with
          | .slice none l c =>
            match Nat.beq l 0 && Nat.beq c 0 with
            | true => match Nat.beq n 0 with
              | true => some (.slice none 0 0, H)
              | false => match Nat.ble (n * i.bytes) 1099511627776 && Nat.ble n 1099511627776 with
                | true => some (.slice (some ⟨H.next, 0, none⟩) n unk, H.add (.row news e i.size .own))
                | false => none
            | false => none
          | .slice (some ⟨b, o, none⟩) l c =>
            match Nat.beq n 0 with
            | true => match Nat.ble l c with
              | true => some (.slice (some ⟨b, o, none⟩) l c, H)
              | false => none
            | false =>
              match Nat.ble ((l + n) * i.bytes) 1099511627776 && Nat.ble (l + n) 1099511627776, H.get b with
              | true, some (.row cells e' k' mk) =>
                match mk with
                | .ro => none
                | mk =>
                  match cut cells o (l * i.size) with
                  | none => none
                  | some old =>
                    match Nat.beq c unk with
                    | true => match Nat.beq e e' && Nat.beq i.size k' && news.all oneCell && (match mk with | .own => Nat.beq o 0 | _ => true) with
                      | true => some (.slice (some ⟨H.next, 0, none⟩) (l + n) unk, (H.put b none).add (.row (old ++ news) e i.size mk))
                      | false => none
                    | false =>
                      match Nat.ble (l + n) c with
                      | true => match news.all oneCell && Nat.ble (o + (l + n) * i.size) cells.length with
                        | true => some (.slice (some ⟨b, o, none⟩) (l + n) c, H.put b (some (.row (setL cells (o + l * i.size) news) e' k' mk)))
                        | false => none
                      | false => some (.slice (some ⟨H.next, 0, none⟩) (l + n) unk, H.add (.row (old ++ news) e i.size .own))
              | _, _ => none
          | _ => none
        | _, _ => none
      | _, _ => none
    | _, _ => none
  | _, _ => none
where isIntB (P : Program) (t : TypeId) : Option Bool :=
  match P.underlying t with
  | some (.int _) => some true
  | some _ => some false
  | none => none

theorem isIntB_run {P : Program} {t : TypeId} (h : appendA.isIntB P t = some false) : ∃ d, P.underlying t = some d ∧ ∀ k, d ≠ .int k := by
  unfold appendA.isIntB at h
  split at h
  · cases h
  · rename_i d hd hu; exact ⟨d, hu, fun k e => hd k e⟩
  · cases h

section grow
variable {P : Program} {w : World} {st xt e : TypeId} {d : TypeDesc} {i : TypeInfo} {z : Value}

theorem notInt (d : TypeDesc) : (∀ k, d ≠ .int k) → Sem.run P (pure (d matches .int _) : Sem Bool) w = .ok false w := by
  intro hd
  rw [Sem.run_pure]
  cases d <;> first | rfl | exact absurd rfl (hd _)

/-- An append that has no room: a new row. -/
theorem run_append_new (rt : TypeId) (hu : P.underlying st = some (.slice e)) (hx : P.underlying xt = some d) (hd : ∀ k, d ≠ .int k) (hi : P.info? e = some i) (hz : i.zero = some z)
    {base : Option Addr} {l c n : Nat} {x : Value} {old news : List Value} (hlen : (Builtin.lenOf x).run P w = .ok n w) (hnew : (Builtin.firstCells i.size n x).run P w.drew = .ok news.toArray w.drew)
    (hold : (Builtin.firstCells i.size l (.slice base l c)).run P w.drew = .ok old.toArray w.drew) (hc : c < l + n) (hb : (l + n) * i.bytes ≤ 1099511627776) (hl : l + n ≤ 1099511627776) :
    (Builtin.append_ #[st, xt] rt #[.slice base l c, x]).run P w = .ok (.slice (some ⟨w.heap.size, 0, none⟩) (l + n) (grownCap w (l + n) c e))
      (w.drew.alloc (.cells (old.toArray ++ news.toArray ++ Builtin.zeroCells z.cells (grownCap w (l + n) c e - (l + n))) e)) := by
  have hn : ¬ (l + n ≤ c) := by omega
  have h63 : ¬ (9223372036854775807 < ((l : Int) + (n : Int))) := by omega
  have h48 : ¬ (281474976710656 < Builtin.nextslicecap (l + n) c * i.bytes) := by
    have := growslice_fits hc (bytes := i.bytes) (by omega); omega
  have hs : (sizeOf e).run P w = .ok i.size w := by simp [sizeOf, typeInfo, hi]
  unfold Builtin.append_
  simp only [List.getElem?_toArray, List.getElem?_cons_zero, List.getElem?_cons_succ]
  rw [Sem.run_bind, run_underlying hu, Result.andThen_ok]
  simp only
  rw [Sem.run_bind, hs, Result.andThen_ok, Sem.run_bind, run_underlying hx, Result.andThen_ok, Sem.run_bind]
  erw [notInt d hd]
  rw [Result.andThen_ok]
  simp [typeInfo, zeroValue, hi, hz, hlen, hn, h63, h48, Question.forced, hnew, hold, newRow, grownCap]
  congr 2
  apply Array.ext'
  simp [List.append_assoc]

/-- An append that has room. -/
theorem run_append_in (rt : TypeId) (hu : P.underlying st = some (.slice e)) (hx : P.underlying xt = some d) (hd : ∀ k, d ≠ .int k) (hi : P.info? e = some i)
    {base : Option Addr} {l c n : Nat} {x : Value} {news : List Value} (hlen : (Builtin.lenOf x).run P w = .ok n w) (hnew : (Builtin.firstCells i.size n x).run P w = .ok news.toArray w)
    (hc : l + n ≤ c) {w' : World} (hs : ∀ a, base = some a → (storeCells (a.add (l * i.size)) news).run P w = .ok () w') (hb : base = none → w' = w) :
    (Builtin.append_ #[st, xt] rt #[.slice base l c, x]).run P w = .ok (.slice base (l + n) c) w' := by
  have hsz : (sizeOf e).run P w = .ok i.size w := by simp [sizeOf, typeInfo, hi]
  unfold Builtin.append_
  simp only [List.getElem?_toArray, List.getElem?_cons_zero, List.getElem?_cons_succ]
  rw [Sem.run_bind, run_underlying hu, Result.andThen_ok]
  simp only
  rw [Sem.run_bind, hsz, Result.andThen_ok, Sem.run_bind, run_underlying hx, Result.andThen_ok, Sem.run_bind]
  erw [notInt d hd]
  rw [Result.andThen_ok]
  cases base with
  | none =>
    have := hb rfl
    subst this
    simp [hlen, hc, hnew]
  | some a =>
    have := hs a rfl
    simp [hlen, hc, hnew, this]
end grow

theorem grownCap_le {w : World} {need old : Nat} {e : TypeId} : need ≤ grownCap w need old e := by
  unfold grownCap Question.cut
  simp only
  omega

/-- A new row out of an append. -/
theorem grow_rel {φ : Places} {H : AHeap} {w : World} (hr : Rel φ H w) {cells cells' : List Value} (hrel : L2 (VR φ) cells cells') {m C k : Nat} {z : Array Value} (hz : z.size = k) (hlen : cells.length = m * k) (hC : m ≤ C)
    (e : TypeId) (mk : Mark) (hmk : mk ≠ .ro) {c : Array Value} (hc : c = cells'.toArray ++ Builtin.zeroCells z (C - m)) :
    ∃ φ', VR φ' (.slice (some ⟨H.next, 0, none⟩) m unk) (.slice (some ⟨w.heap.size, 0, none⟩) m C) ∧ Rel φ' (H.add (.row cells e k mk)) (w.drew.alloc (.cells c e)) ∧
      Post φ H w φ' (H.add (.row cells e k mk)) (w.drew.alloc (.cells c e)) := by
  have hl := hrel.length
  have hcs : c.size = C * k := by
    rw [hc, Array.size_append, size_zeroCells, hz]
    simp only [List.size_toArray]
    rw [← hl, hlen, ← Nat.add_mul]
    congr 1; omega
  have hmC : m * k ≤ C * k := Nat.mul_le_mul_right k hC
  have ho : ORel φ ⟨w.heap.size, 0, c.size, k⟩ (.row cells e k mk) (.cells c e (0, 0)) := by
    refine ⟨rfl, rfl, rfl, by simp only; omega, by cases mk <;> first | exact ⟨rfl, rfl⟩ | exact .inl rfl | exact absurd rfl hmk, fun i u hu => ?_⟩
    have hlt : i < cells.length := (List.getElem?_eq_some_iff.1 hu).1
    have hlt' : i < cells'.length := by omega
    refine ⟨cells'[i], ?_, hrel.get i _ _ hu (List.getElem?_eq_getElem hlt')⟩
    rw [hc, Nat.zero_add, Array.getElem?_append_left (by simpa using hlt')]
    simp [hlt']
  obtain ⟨h1, h2⟩ := hr.new (w' := w.drew.alloc (.cells c e)) (p := ⟨w.heap.size, 0, c.size, k⟩) (c := .cells c e) rfl rfl ho rfl rfl rfl
  exact ⟨_, .sliceUnk _ 0 ⟨w.heap.size, 0, c.size, k⟩ m C (upd_same _ _ _) hC (by simp only; omega), h1, h2⟩

theorem Post.drop {φ : Places} {H : AHeap} {w : World} (b : Nat) : Post φ H w φ (H.put b none) w :=
  ⟨fun _ _ => rfl, Nat.le_refl _, rfl, Nat.le_refl _, fun _ _ _ => rfl, fun r _ ho => by
    obtain ⟨c, x, q, hc, hx⟩ := ho
    rw [AHeap.get_put] at hc
    split at hc
    · cases hc
    · exact ⟨c, x, q, hc, hx⟩, rfl, rfl, rfl⟩

theorem Rel.drop {φ : Places} {H : AHeap} {w : World} (hr : Rel φ H w) (b : Nat) : Rel φ (H.put b none) w := {
  glob := hr.glob
  fresh := hr.fresh
  lt := hr.lt
  dom c o hc := by
    rw [AHeap.get_put] at hc
    split at hc
    · cases hc
    · exact hr.dom c o hc
  live c o p hc hp := by
    rw [AHeap.get_put] at hc
    split at hc
    · cases hc
    · exact hr.live c o p hc hp
  inj c c' o o' p p' hc hc' := by
    rw [AHeap.get_put] at hc hc'
    split at hc
    · cases hc
    · split at hc'
      · cases hc'
      · exact hr.inj c c' o o' p p' hc hc' }

end Go.AH

namespace Go.AH
open Go

/-- Cells stored one behind the other, in the world. -/
theorem run_storeCells_world {P : Program} {r : Nat} {e : TypeId} {fr : Nat × Nat} : ∀ (l : List Value) (o i : Nat) (w : World) (c : Array Value), w.heap[r]? = some (.cells c e fr) →
    (∀ j, j < c.size → (decide (fr.1 ≤ j) && decide (j < fr.2)) = false) → o + i + l.length ≤ c.size → (∀ v ∈ l, v.oneCell' = true) →
    ∃ w' c', (storeCells ⟨r, o, none⟩ l i).run P w = .ok () w' ∧ w'.heap.size = w.heap.size ∧ (∀ j, w'.heap[j]? = if j = r then some (.cells c' e fr) else w.heap[j]?) ∧
      w'.tape = w.tape ∧ w'.os = w.os ∧ w'.output = w.output ∧ c'.size = c.size ∧ (∀ j, c'[j]? = if o + i ≤ j ∧ j < o + i + l.length then l[j - (o + i)]? else c[j]?)
  | [], o, i, w, c, hc, _, _, _ => ⟨w, c, rfl, rfl, fun j => by by_cases h : j = r <;> simp [h, hc], rfl, rfl, rfl, rfl, fun j => by rw [if_neg (by simp only [List.length_nil]; omega)]⟩
  | v :: l, o, i, w, c, hc, hf, hle, hall => by
    simp only [List.length_cons] at hle
    have hlt : o + i < c.size := by omega
    have hcell0 : w.cell? ⟨r, o + i, none⟩ = some c[o + i] := by rw [cell?_eq hc, Array.getElem?_eq_getElem hlt]
    have hfz : w.frozen? ⟨r, o + i, none⟩ = false := by simp only [World.frozen?, hc]; exact hf _ hlt
    have hrun : (store ⟨r, o + i, none⟩ v).run P w = .ok () (w.setCell ⟨r, o + i, none⟩ v) := by
      rw [run_store P w _ v .plain (hall v (.head _))]
      simp [hcell0, hfz]
    have hh := setCell_heap (o := o + i) (v := v) hc
    obtain ⟨w', c', h1, h2, h3, h4, h5, h6, h7, h8⟩ := run_storeCells_world (P := P) (e := e) (fr := fr) l o (i + 1) (w.setCell ⟨r, o + i, none⟩ v) (c.setIfInBounds (o + i) v)
      (by rw [hh, if_pos rfl]) (by simpa using hf) (by simp; omega) (fun u hu => hall u (.tail _ hu))
    refine ⟨w', c', ?_, h2.trans (World.size_setCell _ _ _), fun j => ?_, h4, h5, h6, by simpa using h7, fun j => ?_⟩
    · rw [Go.storeCells, Addr.add_none, Sem.run_bind, hrun]
      exact h1
    · rw [h3, hh]
      by_cases hj : j = r <;> simp [hj]
    · rw [h8]
      simp only [List.length_cons]
      by_cases hj : o + (i + 1) ≤ j ∧ j < o + (i + 1) + l.length
      · rw [if_pos hj, if_pos (by omega)]
        have : j - (o + i) = (j - (o + (i + 1))) + 1 := by omega
        rw [this, List.getElem?_cons_succ]
      · rw [if_neg hj]
        by_cases hj2 : j = o + i
        · subst hj2
          rw [if_pos (by omega)]
          simp [hlt]
        · rw [if_neg (by omega), Array.getElem?_setIfInBounds_ne (by omega)]

theorem get_move {H : AHeap} {b : Nat} {o : AObj} {x : Nat} {y : AObj} (h : ((H.put b none).add o).get x = some y) : (x = H.next ∧ y = o) ∨ (x ≠ H.next ∧ x ≠ b ∧ H.get x = some y) := by
  rw [AHeap.get_add, AHeap.get_put, AHeap.next_put] at h
  by_cases hx : x = H.next
  · rw [if_pos hx] at h; cases h; exact .inl ⟨hx, rfl⟩
  · rw [if_neg hx] at h
    by_cases hb : x = b
    · rw [if_pos hb] at h; cases h
    · rw [if_neg hb] at h; exact .inr ⟨hx, hb, h⟩

/-- An append into cells that nobody holds: the old row is given up for a new one. -/
theorem Rel.move {P : Program} {φ : Places} {H : AHeap} {w : World} (hr : Rel φ H w) {b o l n C k : Nat} {cells old news news' : List Value} {e : TypeId} {mk : Mark} {p : Pl}
    (hb : H.get b = some (.row cells e k mk)) (hm : mk ≠ .ro) (hp : φ b = some p) (hold : cut cells o (l * k) = some old) (hnew : L2 (VR φ) news news') (hone : news.all oneCell = true)
    (hlen : news.length = n * k) (hC : p.sh + o + C * k ≤ p.size) (hln : l + n ≤ C) (hal : mk = .own → o = 0) :
    ∃ w' φ', (Go.storeCells ⟨p.blk, p.sh + o + l * k, none⟩ news').run P w = .ok () w' ∧ VR φ' (.slice (some ⟨H.next, 0, none⟩) (l + n) unk) (.slice (some ⟨p.blk, p.sh + o, none⟩) (l + n) C) ∧
      Rel φ' ((H.put b none).add (.row (old ++ news) e k mk)) w' ∧ Post φ H w φ' ((H.put b none).add (.row (old ++ news) e k mk)) w' := by
  obtain ⟨c, fr, hc, hs, hle, hf, hcell⟩ := hr.row hb hp
  have hes := hr.esz hb hp
  obtain ⟨ho1, ho2, ho3⟩ := cut_some hold
  have hnl := hnew.length
  have hlt := hr.lt b p hp
  have hkk : (l + n) * k ≤ C * k := Nat.mul_le_mul_right k hln
  have hsplit : (l + n) * k = l * k + n * k := Nat.add_mul _ _ _
  have hall : ∀ v ∈ news', v.oneCell' = true := by
    clear hnl hlen
    induction hnew with
    | nil => simp
    | cons h _ ih =>
      simp only [List.all_cons, Bool.and_eq_true] at hone
      intro v hv
      cases hv with
      | head => exact oneCell_rel h hone.1
      | tail _ hv => exact ih hone.2 v hv
  obtain ⟨w', c', h1, h2, h3, h4, h5, h6, h7, h8⟩ := run_storeCells_world (P := P) (r := p.blk) (e := e) (fr := fr) news' (p.sh + o + l * k) 0 w c hc
    (fun j hj => Mark.unfrozen hf hm (by omega)) (by omega) hall
  have hφn := hr.fresh H.next (Nat.le_refl _)
  have hbn : b ≠ H.next := fun e => by have := hr.dom b _ hb; omega
  have hle1 : Le φ (upd φ H.next ⟨p.blk, p.sh + o, p.size, k⟩) := upd_le hφn
  refine ⟨w', upd φ H.next ⟨p.blk, p.sh + o, p.size, k⟩, h1, ?_, ?_, ?_⟩
  · have := VR.sliceUnk (φ := upd φ H.next ⟨p.blk, p.sh + o, p.size, k⟩) H.next 0 ⟨p.blk, p.sh + o, p.size, k⟩ (l + n) C (upd_same _ _ _) hln (by simpa using hC)
    exact this
  · constructor
    · exact hr.glob.mono hle1
    · intro x hx; simp at hx; rw [upd_other (by omega)]; exact hr.fresh x (by omega)
    · intro x q hq
      rw [h2]
      by_cases hx : x = H.next
      · subst hx; rw [upd_same] at hq; cases hq; exact hlt
      · rw [upd_other hx] at hq; exact hr.lt x q hq
    · intro x y hx
      simp only [AHeap.next_add, AHeap.next_put]
      rcases get_move hx with ⟨h, _⟩ | ⟨_, _, h⟩
      · omega
      · have := hr.dom x y h; omega
    · intro x y q hx hq
      rcases get_move hx with ⟨hxn, hy⟩ | ⟨hxn, hxb, hx⟩
      · subst hxn; subst hy
        rw [upd_same] at hq; cases hq
        refine ⟨.cells c' e fr, by rw [h3, if_pos rfl], rfl, rfl, by simp only; omega, ?_, ?_, fun i u hu => ?_⟩
        · simp only [List.length_append, ho1, hlen]; omega
        · cases mk with
          | own => exact ⟨hf.1, by simp only; rw [hf.2, hal rfl]⟩
          | str => exact hf
          | ro => exact absurd rfl hm
        · by_cases hi : i < old.length
          · rw [List.getElem?_append_left hi, ho2 i (by omega)] at hu
            obtain ⟨v, hv, hvr⟩ := hcell _ _ hu
            refine ⟨v, ?_, hvr.mono hle1⟩
            rw [h8, if_neg (by simp only; omega)]
            simp only
            rw [← hv]; congr 1; omega
          · rw [List.getElem?_append_right (by omega)] at hu
            have hi2 : i - old.length < news.length := (List.getElem?_eq_some_iff.1 hu).1
            have hi3 : i - old.length < news'.length := by omega
            refine ⟨news'[i - old.length], ?_, (hnew.get _ _ _ hu (List.getElem?_eq_getElem hi3)).mono hle1⟩
            rw [h8, if_pos (by simp only; omega)]
            have : p.sh + o + i - (p.sh + o + l * k + 0) = i - old.length := by omega
            simp only
            rw [this, List.getElem?_eq_getElem hi3]
      · rw [upd_other hxn] at hq
        obtain ⟨y', hy', hyr⟩ := hr.live x y q hx hq
        refine ⟨y', ?_, hyr.mono hle1⟩
        rw [h3, if_neg (fun e => hxb (hr.inj x b y _ q p hx hb hq hp e))]
        exact hy'
    · intro x x' y y' q q' hx hx' hq hq' he
      rcases get_move hx with ⟨hxn, hy⟩ | ⟨hxn, hxb, hx⟩ <;> rcases get_move hx' with ⟨hxn', hy'⟩ | ⟨hxn', hxb', hx'⟩
      · omega
      · subst hxn
        rw [upd_same] at hq; cases hq
        rw [upd_other hxn'] at hq'
        exact absurd (hr.inj x' b y' _ q' p hx' hb hq' hp he.symm) hxb'
      · subst hxn'
        rw [upd_same] at hq'; cases hq'
        rw [upd_other hxn] at hq
        exact absurd (hr.inj x b y _ q p hx hb hq hp he) hxb
      · rw [upd_other hxn] at hq
        rw [upd_other hxn'] at hq'
        exact hr.inj x x' y y' q q' hx hx' hq hq' he
  · have hown : Owned φ H p.blk := ⟨b, _, p, hb, by cases mk <;> first | rfl | exact absurd rfl hm, hp, rfl⟩
    constructor
    · intro x hx; rw [upd_other (by omega)]
    · simp
    · rfl
    · omega
    · intro r hrr ho
      rw [h3, if_neg (fun (e : r = p.blk) => ho (e ▸ hown))]
    · intro r hrr ho
      obtain ⟨x, y, q, hx, hy, hq, he⟩ := ho
      rcases get_move hx with ⟨hxn, _⟩ | ⟨hxn, hxb, hx⟩
      · subst hxn
        rw [upd_same] at hq; cases hq
        exact he ▸ hown
      · rw [upd_other hxn] at hq
        exact ⟨x, y, q, hx, hy, hq, he⟩
    · exact h4
    · exact h5
    · exact h6


theorem appendA_sound {P : Program} {φ : Places} {H H' : AHeap} {w : World} (hr : Rel φ H w) {argTypes : Array TypeId} {rt : TypeId} {args : List Value} {args' : Array Value} {v : Value}
    (ha : L2 (VR φ) args args'.toList) (h : appendA P H argTypes.toList args = some (v, H')) :
    ∃ φ' v' w', (Builtin.append_ argTypes rt args').run P w = .ok v' w' ∧ VR φ' v v' ∧ Rel φ' H' w' ∧ Post φ H w φ' H' w' := by
  obtain ⟨args'⟩ := args'
  obtain ⟨argTypes⟩ := argTypes
  simp only at ha h
  unfold appendA at h
  split at h
  rotate_left
  · cases h
  rename_i st xt s x
  obtain ⟨s', m', rfl, hs, ht⟩ := ha.cons_inv
  obtain ⟨x', m'', rfl, hx, ht⟩ := ht.cons_inv
  cases ht
  split at h
  rotate_left
  · cases h
  rename_i e hu hint
  obtain ⟨d, hxt, hd⟩ := isIntB_run hint
  split at h
  rotate_left
  · cases h
  rename_i i z hi hz
  obtain ⟨_, hi', hz', hfl, hflc⟩ := zeroA_some hz
  rw [hi] at hi'; cases hi'
  split at h
  rotate_left
  · cases h
  rename_i n news hnews hzs
  have hzs' := Nat.eq_of_beq_eq_true hzs
  simp only [Array.length_toList] at hzs'
  obtain ⟨l', hrel, hlen, hlo, hf, hfd⟩ := newsA_sound (P := P) hr hx hnews
  split at h
  · -- a nil slice
    rename_i l c
    split at h
    rotate_left
    · cases h
    rename_i hlc
    simp only [Bool.and_eq_true] at hlc
    have h1 := Nat.eq_of_beq_eq_true hlc.1
    have h2 := Nat.eq_of_beq_eq_true hlc.2
    subst h1; subst h2
    cases hs
    split at h
    · rename_i hn
      have := Nat.eq_of_beq_eq_true hn
      subst this
      cases h
      exact ⟨φ, _, w, run_append_in (news := l') rt hu hxt hd hi hlo hf (by omega) (fun a ha => by cases ha) (fun _ => rfl), .sliceNil _ _, hr, Post.refl φ H w⟩
    · rename_i hn
      have hn' := Nat.ne_of_beq_eq_false hn
      split at h
      · rename_i hb
        simp only [Bool.and_eq_true] at hb
        have hb1 := Nat.le_of_ble_eq_true hb.1
        have hb2 := Nat.le_of_ble_eq_true hb.2
        cases h
        have hrun := run_append_new (P := P) (w := w) (old := []) (l := 0) (c := 0) (base := none) rt hu hxt hd hi hz' hlo hfd (run_firstCells_none _ _ _ _ _) (by omega) (by rw [Nat.zero_add]; exact hb1) (by omega)
        rw [Nat.zero_add] at hrun
        obtain ⟨φ', g1, g2, g3⟩ := grow_rel hr hrel (m := n) (C := grownCap w n 0 e) (k := i.size) (z := z.cells) hzs' hlen grownCap_le e .own (by simp) (c := [].toArray ++ l'.toArray ++ Builtin.zeroCells z.cells (grownCap w n 0 e - n)) (by simp)
        exact ⟨φ', _, _, hrun, g1, g2, g3⟩
      · cases h
  · -- a slice
    rename_i b o l c
    split at h
    · rename_i hn
      have := Nat.eq_of_beq_eq_true hn
      subst this
      have hl0 : l' = [] := by
        have h1 := hrel.length
        rw [hlen] at h1
        simpa using h1.symm
      subst hl0
      split at h
      · rename_i hle
        have hle' := Nat.le_of_ble_eq_true hle
        cases h
        have fin : ∀ (base : Option Addr) (C : Nat), l ≤ C → (Builtin.append_ #[st, xt] rt #[.slice base l C, x']).run P w = .ok (.slice base l C) w := fun base C hC =>
          run_append_in (news := []) rt hu hxt hd hi hlo hf (by omega) (fun a _ => rfl) (fun _ => rfl)
        cases hs with
        | slice _ _ p _ _ hc hp => exact ⟨φ, _, w, fin _ _ hle', .slice b o p l c hc hp, hr, Post.refl φ H w⟩
        | sliceUnk _ _ p _ C hp hln hC => exact ⟨φ, _, w, fin _ _ hln, .sliceUnk b o p l C hp hln hC, hr, Post.refl φ H w⟩
        | sliceDead _ _ p a hp => exact ⟨φ, _, w, fin _ _ (Nat.le_refl _), .sliceDead b o p a hp, hr, Post.refl φ H w⟩
      · cases h
    · rename_i hn
      have hn' := Nat.ne_of_beq_eq_false hn
      split at h
      rotate_left
      · cases h
      rename_i cells e' k' mk hb hrow
      simp only [Bool.and_eq_true] at hb
      have hb1 := Nat.le_of_ble_eq_true hb.1
      have hb2 := Nat.le_of_ble_eq_true hb.2
      split at h
      · cases h
      rename_i hmk
      have hmk' : mk ≠ .ro := fun e => hmk e
      split at h
      · cases h
      rename_i old hold
      -- the old cells, read in the world
      have holdrun : ∀ (p : Pl) (C : Nat), φ b = some p → ∃ old' : List Value, L2 (VR φ) old old' ∧ (Builtin.firstCells i.size l (.slice (some ⟨p.blk, p.sh + o, none⟩) l C)).run P w.drew = .ok old'.toArray w.drew := by
        intro p C hp
        obtain ⟨old', hor, hoc⟩ := hr.cells hrow hp hold
        exact ⟨old', hor.l2, run_firstCells_some w.drew i.size l _ l C old' (by rw [← hor.1]; exact (cut_some hold).1) hoc⟩
      have grow : ∀ (p : Pl) (C : Nat) (mk' : Mark), mk' ≠ .ro → φ b = some p → C < l + n → ∃ φ' v' w', (Builtin.append_ #[st, xt] rt #[.slice (some ⟨p.blk, p.sh + o, none⟩) l C, x']).run P w = .ok v' w' ∧
          VR φ' (.slice (some ⟨H.next, 0, none⟩) (l + n) unk) v' ∧ Rel φ' (H.add (.row (old ++ news) e i.size mk')) w' ∧ Post φ H w φ' (H.add (.row (old ++ news) e i.size mk')) w' := by
        intro p C mk' hmk2 hp hC
        obtain ⟨old', hor, horun⟩ := holdrun p C hp
        have hrun := run_append_new (P := P) (w := w) rt hu hxt hd hi hz' hlo hfd horun hC hb1 hb2
        have hol := (cut_some hold).1
        obtain ⟨φ', g1, g2, g3⟩ := grow_rel hr (hor.append hrel) (m := l + n) (C := grownCap w (l + n) C e) (k := i.size) (z := z.cells) hzs' (by rw [List.length_append, hol, hlen, ← Nat.add_mul]) grownCap_le e mk' hmk2
          (c := old'.toArray ++ l'.toArray ++ Builtin.zeroCells z.cells (grownCap w (l + n) C e - (l + n))) (by simp)
        exact ⟨φ', _, _, hrun, g1, g2, g3⟩
      split at h
      · rename_i hcu
        have hcu' := Nat.eq_of_beq_eq_true hcu
        clear hcu
        subst hcu'
        split at h
        · rename_i hck
          simp only [Bool.and_eq_true] at hck
          have he := Nat.eq_of_beq_eq_true hck.1.1.1
          have hk := Nat.eq_of_beq_eq_true hck.1.1.2
          have hal : mk = .own → o = 0 := fun e => by have h2 := hck.2; subst e; exact Nat.eq_of_beq_eq_true h2
          cases h
          subst he
          -- dropping first, then growing
          have growDrop : ∀ (p : Pl) (C : Nat), φ b = some p → C < l + n → ∃ φ' v' w', (Builtin.append_ #[st, xt] rt #[.slice (some ⟨p.blk, p.sh + o, none⟩) l C, x']).run P w = .ok v' w' ∧
              VR φ' (.slice (some ⟨H.next, 0, none⟩) (l + n) unk) v' ∧ Rel φ' ((H.put b none).add (.row (old ++ news) e i.size mk)) w' ∧ Post φ H w φ' ((H.put b none).add (.row (old ++ news) e i.size mk)) w' := by
            intro p C hp hC
            obtain ⟨old', hor, horun⟩ := holdrun p C hp
            have hrun := run_append_new (P := P) (w := w) rt hu hxt hd hi hz' hlo hfd horun hC hb1 hb2
            have hol := (cut_some hold).1
            obtain ⟨φ', g1, g2, g3⟩ := grow_rel (hr.drop b) (hor.append hrel) (m := l + n) (C := grownCap w (l + n) C e) (k := i.size) (z := z.cells) hzs' (by rw [List.length_append, hol, hlen, ← Nat.add_mul]) grownCap_le e mk hmk'
              (c := old'.toArray ++ l'.toArray ++ Builtin.zeroCells z.cells (grownCap w (l + n) C e - (l + n))) (by simp)
            exact ⟨φ', _, _, hrun, g1, g2, (Post.drop b).trans g3⟩
          cases hs with
          | slice _ _ p _ _ hc hp => exact absurd rfl hc
          | sliceUnk _ _ p _ C hp hln hC =>
            by_cases hCn : l + n ≤ C
            · have hes := hr.esz hrow hp
              rw [hes, ← hk] at hC
              rw [← hk] at hrow
              obtain ⟨w', φ', g0, g1, g2, g3⟩ := hr.move (P := P) hrow hmk' hp hold hrel hck.1.2 hlen hC hCn hal
              refine ⟨φ', _, w', run_append_in (news := l') rt hu hxt hd hi hlo hf hCn (fun a ha => ?_) (fun hh => by cases hh), g1, g2, g3⟩
              cases ha
              rw [Addr.add_none]; exact g0
            · exact growDrop p C hp (by omega)
          | sliceDead _ _ p a hp =>
            have hol := (cut_some hold).1
            have hold0 : old = [] := by simpa using hol
            subst hold0
            have hrun := run_append_new (P := P) (w := w) (old := []) (l := 0) (c := 0) (base := some a) rt hu hxt hd hi hz' hlo hfd (run_firstCells_some w.drew i.size 0 a 0 0 [] (by simp) (by simp)) (by omega) hb1 hb2
            obtain ⟨φ', g1, g2, g3⟩ := grow_rel (hr.drop b) hrel (m := 0 + n) (C := grownCap w (0 + n) 0 e) (k := i.size) (z := z.cells) hzs' (by rw [hlen, Nat.zero_add]) grownCap_le e mk hmk'
              (c := [].toArray ++ l'.toArray ++ Builtin.zeroCells z.cells (grownCap w (0 + n) 0 e - (0 + n))) (by simp)
            exact ⟨φ', _, _, hrun, g1, g2, (Post.drop b).trans g3⟩
        · cases h
      · rename_i hcu
        have hcu' := Nat.ne_of_beq_eq_false hcu
        cases hs with
        | sliceUnk => exact absurd rfl hcu'
        | sliceDead => exact absurd rfl hcu'
        | slice _ _ p _ _ hc hp =>
          split at h
          · rename_i hle
            have hle' := Nat.le_of_ble_eq_true hle
            split at h
            · rename_i hon
              simp only [Bool.and_eq_true] at hon
              have hon2 := Nat.le_of_ble_eq_true hon.2
              cases h
              have hsplit : (l + n) * i.size = l * i.size + n * i.size := Nat.add_mul _ _ _
              obtain ⟨w', g0, g1, g2⟩ := Rel.storeCells (P := P) (e := e') (k := k') (b := b) hmk' hp (o + l * i.size) hrel hon.1 0 H w cells hr hrow (by omega)
              refine ⟨φ, _, w', run_append_in (news := l') rt hu hxt hd hi hlo hf hle' (fun a ha => ?_) (fun hh => by cases hh), .slice b o p _ c hc hp, g1, g2⟩
              cases ha
              rw [Addr.add_none, Nat.add_assoc]; exact g0
            · cases h
          · rename_i hle
            have hle' : ¬ l + n ≤ c := fun hh => by rw [Nat.ble_eq_true_of_le hh] at hle; cases hle
            cases h
            exact grow p c .own (by simp) hp (by omega)
  · cases h

end Go.AH

namespace Go.AH
open Go

def copyA (P : Program) (H : AHeap) (argTypes : List TypeId) (args : List Value) : Option (Value × AHeap) :=
  match argTypes, args with
  | dt :: _, [dst, src] =>
    match P.underlying dt with
    | some (.slice e) =>
      match sizeA P e, dst, lenOfA src with
      | some k, .slice (some ⟨b, o, none⟩) dl _, some sl =>
        match Nat.beq (Nat.min sl dl) 0 with
        | true => some (goInt 0, H)
        | false =>
        match cellsOfA H k (Nat.min sl dl) src, H.get b with
        | some l, some (.row cells e' k' mk) =>
          match mk with
          | .ro => none
          | mk => match l.all oneCell && Nat.ble (o + l.length) cells.length with
            | true => some (goInt (Nat.min sl dl), H.put b (some (.row (setL cells o l) e' k' mk)))
            | false => none
        | _, _ => none
      | some _, .slice none dl _, some sl => match Nat.beq (Nat.min sl dl) 0 with
        | true => some (goInt 0, H)
        | false => none
      | _, _, _ => none
    | _ => none
  | _, _ => none
where
  lenOfA : Value → Option Nat
    | .slice _ n _ => some n
    | .string s => some s.size
    | _ => none
  cellsOfA (H : AHeap) (k n : Nat) : Value → Option (List Value)
    | .slice none _ _ => match Nat.beq n 0 with | true => some [] | false => none
    | .slice (some ⟨b, o, none⟩) _ _ => match H.get b with
      | some (.row cells _ _ _) => cut cells o (n * k)
      | _ => none
    | .string s => some ((s.extract 0 n).data.toList.map fun b => .int .u8 b.toNat)
    | _ => none

theorem lenOfA_run {P : Program} {φ : Places} {w : World} {x x' : Value} {n : Nat} (hx : VR φ x x') (h : copyA.lenOfA x = some n) : (Builtin.lenOf x').run P w = .ok n w := by
  unfold copyA.lenOfA at h
  split at h
  · cases h; cases hx <;> rfl
  · cases h; cases hx; rfl
  · cases h

theorem cellsOfA_run {P : Program} {φ : Places} {H : AHeap} {w : World} (hr : Rel φ H w) {k n : Nat} {x x' : Value} {l : List Value} {m : Nat} (hx : VR φ x x') (hm : copyA.lenOfA x = some m) (hnm : n ≤ m) (h : copyA.cellsOfA H k n x = some l) :
    ∃ l', L2 (VR φ) l l' ∧ (Builtin.firstCells k n x').run P w = .ok l'.toArray w := by
  unfold copyA.cellsOfA at h
  split at h
  · split at h
    · cases h; cases hx; exact ⟨[], .nil, run_firstCells_none _ _ _ _ _⟩
    · cases h
  · rename_i b o n' c
    split at h
    rotate_left
    · cases h
    rename_i cells e k' mk hb
    have hlen := (cut_some h).1
    have key : ∀ (p : Pl) (C : Nat), φ b = some p → ∃ l', L2 (VR φ) l l' ∧ (Builtin.firstCells k n (.slice (some ⟨p.blk, p.sh + o, none⟩) n' C)).run P w = .ok l'.toArray w := by
      intro p C hp
      obtain ⟨l', hrel, hcells⟩ := hr.cells hb hp h
      exact ⟨l', hrel.l2, run_firstCells_some w k n _ n' C l' (by rw [← hrel.1]; exact hlen) hcells⟩
    cases hx with
    | slice _ _ p _ _ hc hp => exact key p c hp
    | sliceUnk _ _ p _ C hp hn hC => exact key p C hp
    | sliceDead _ _ p a hp =>
      cases hm
      have hn0 : n = 0 := by omega
      subst hn0
      have hl0 : l = [] := by simpa using hlen
      subst hl0
      exact ⟨[], .nil, run_firstCells_some w k 0 _ 0 0 [] (by simp) (by simp)⟩
  · cases h; cases hx
    exact ⟨_, .refl_of _ (fun a ha => by simp only [List.mem_map] at ha; obtain ⟨b, _, rfl⟩ := ha; exact .int _ _), by simp only [Builtin.firstCells, Sem.run_pure, Result.ok.injEq, and_true]; apply Array.ext'; simp⟩
  · cases h

theorem firstCells_zero {P : Program} {φ : Places} {w : World} {x x' : Value} {n : Nat} (k : Nat) (hx : VR φ x x') (h : copyA.lenOfA x = some n) : (Builtin.firstCells k 0 x').run P w = .ok #[] w := by
  unfold copyA.lenOfA at h
  split at h
  · cases hx with
    | sliceNil => exact run_firstCells_none _ _ _ _ _
    | slice => exact run_firstCells_some w k 0 _ _ _ [] (by simp) (by simp)
    | sliceUnk => exact run_firstCells_some w k 0 _ _ _ [] (by simp) (by simp)
    | sliceDead => exact run_firstCells_some w k 0 _ _ _ [] (by simp) (by simp)
  · cases hx
    rename_i s
    simp only [Builtin.firstCells, Sem.run_pure, Result.ok.injEq, and_true]
    apply Array.ext'; simp
  · cases h

theorem copyA_sound {P : Program} {φ : Places} {H H' : AHeap} {w : World} (hr : Rel φ H w) {argTypes : Array TypeId} {rt : TypeId} {args : List Value} {args' : Array Value} {v : Value}
    (ha : L2 (VR φ) args args'.toList) (h : copyA P H argTypes.toList args = some (v, H')) :
    ∃ v' w', (Builtin.copy_ argTypes rt args').run P w = .ok v' w' ∧ VR φ v v' ∧ Rel φ H' w' ∧ Post φ H w φ H' w' := by
  obtain ⟨args'⟩ := args'
  obtain ⟨argTypes⟩ := argTypes
  simp only at ha h
  unfold copyA at h
  split at h
  rotate_left
  · cases h
  rename_i dt rest dst src
  obtain ⟨dst', m', rfl, hd, ht⟩ := ha.cons_inv
  obtain ⟨src', m'', rfl, hs, ht⟩ := ht.cons_inv
  cases ht
  split at h
  rotate_left
  · cases h
  rename_i e hu
  have fin : ∀ (k sl dl C : Nat) (base : Option Addr) (l' : List Value) (w' : World), sizeA P e = some k → copyA.lenOfA src = some sl → (Builtin.firstCells k (Nat.min sl dl) src').run P w = .ok l'.toArray w →
      (∀ a, base = some a → (storeCells a l').run P w = .ok () w') → (base = none → w' = w) →
      (Builtin.copy_ ⟨dt :: rest⟩ rt ⟨[.slice base dl C, src']⟩).run P w = .ok (goInt (Nat.min sl dl)) w' := by
    intro k sl dl C base l' w' hk hsl hf h1 h2
    have hlen := lenOfA_run (P := P) (w := w) hs hsl
    unfold Builtin.copy_
    simp only [List.getElem?_toArray, List.getElem?_cons_zero, List.getElem?_cons_succ]
    rw [Sem.run_bind, run_underlying hu, Result.andThen_ok]
    simp only
    rw [Sem.run_bind, hlen, Result.andThen_ok, Sem.run_bind, sizeA_run hk, Result.andThen_ok, Sem.run_bind, hf, Result.andThen_ok]
    cases base with
    | none => rw [h2 rfl]; rfl
    | some a =>
      simp only
      rw [Sem.run_bind, h1 a rfl]; rfl
  have fin0 : ∀ (k sl dl C : Nat) (base : Option Addr), sizeA P e = some k → copyA.lenOfA src = some sl → Nat.min sl dl = 0 → (Builtin.copy_ ⟨dt :: rest⟩ rt ⟨[.slice base dl C, src']⟩).run P w = .ok (goInt 0) w := by
    intro k sl dl C base hk hsl h0
    have := fin k sl dl C base [] w hk hsl (by rw [h0]; exact firstCells_zero k hs hsl) (fun _ _ => rfl) (fun _ => rfl)
    rw [h0] at this
    exact this
  split at h
  · rename_i k b o dl c sl hk hsl
    split at h
    · rename_i h0
      have h0' := Nat.eq_of_beq_eq_true h0
      cases h
      cases hd with
      | slice _ _ p _ _ hc' hp => exact ⟨_, w, fin0 k sl dl _ _ hk hsl h0', .int _ _, hr, Post.refl φ H w⟩
      | sliceUnk _ _ p _ C hp hn hC => exact ⟨_, w, fin0 k sl dl _ _ hk hsl h0', .int _ _, hr, Post.refl φ H w⟩
      | sliceDead _ _ p a hp => exact ⟨_, w, fin0 k sl 0 _ _ hk hsl h0', .int _ _, hr, Post.refl φ H w⟩
    rename_i h0
    have h0' := Nat.ne_of_beq_eq_false h0
    split at h
    rotate_left
    · cases h
    rename_i l cells e' k' mk hl hb
    split at h
    · cases h
    rename_i hmk
    have hmk' : mk ≠ .ro := fun e => hmk e
    split at h
    rotate_left
    · cases h
    rename_i hc
    simp only [Bool.and_eq_true] at hc
    have hc2 := Nat.le_of_ble_eq_true hc.2
    cases h
    obtain ⟨l', hrel, hf⟩ := cellsOfA_run (P := P) (m := sl) hr hs hsl (Nat.min_le_left _ _) hl
    cases hd with
    | slice _ _ p _ _ hc' hp =>
      obtain ⟨w', g0, g1, g2⟩ := Rel.storeCells (P := P) (e := e') (k := k') (b := b) hmk' hp o hrel hc.1 0 H w cells hr hb (by omega)
      exact ⟨_, w', fin k sl dl _ _ l' w' hk hsl hf (fun a ha => by cases ha; exact g0) (fun hh => by cases hh), .int _ _, g1, g2⟩
    | sliceUnk _ _ p _ C hp hn hC =>
      obtain ⟨w', g0, g1, g2⟩ := Rel.storeCells (P := P) (e := e') (k := k') (b := b) hmk' hp o hrel hc.1 0 H w cells hr hb (by omega)
      exact ⟨_, w', fin k sl dl _ _ l' w' hk hsl hf (fun a ha => by cases ha; exact g0) (fun hh => by cases hh), .int _ _, g1, g2⟩
    | sliceDead _ _ p a hp => exact absurd (Nat.min_eq_right (Nat.zero_le _)) h0'
  · rename_i k dl c sl hk hsl
    split at h
    · rename_i h0
      have h0' := Nat.eq_of_beq_eq_true h0
      cases h
      cases hd
      exact ⟨_, w, fin0 k sl dl _ _ hk hsl h0', .int _ _, hr, Post.refl φ H w⟩
    · cases h
  · cases h

/-! ### unsafe.String -/

theorem loadBytes_run {P : Program} {w : World} : ∀ (ns : List Int) (a : Addr) (acc : ByteArray), (∀ j n, ns[j]? = some n → w.cell? (a.add j) = some (.int .u8 n)) →
    (loadBytes a acc ns.length).run P w = .ok ⟨acc.data ++ (ns.map fun n => UInt8.ofNat n.toNat).toArray⟩ w
  | [], a, acc, _ => by simp [loadBytes]
  | n :: ns, a, acc, h => by
    have h0 : w.cell? a = some (.int .u8 n) := by
      have := h 0 n rfl
      simpa [Addr.add] using this
    have ih := loadBytes_run (P := P) ns (a.add 1) (acc.push n.toNat.toUInt8) (fun j y hy => by
      have := h (j + 1) y (by simpa using hy)
      have e : (a.add 1).add j = a.add (j + 1) := by
        unfold Addr.add
        by_cases hj : j = 0
        · subst hj; simp
        · simp [hj]; omega
      rw [e]; exact this)
    simp only [List.length_cons, loadBytes, Sem.run_bind, run_load, h0, Result.andThen]
    rw [ih]
    congr 1
    apply ByteArray.ext
    simp [ByteArray.push]

def unsafeStringA (P : Program) (H : AHeap) (ats : List TypeId) (args : List Value) : Option (Value × AHeap) :=
  match ats, args with
  | [pt, _], [.pointer a, .int .i64 (.ofNat n)] =>
    match Nat.beq n 0 with
    | true => some (.string .empty, H)
    | false => match a, P.underlying pt with
      | some ⟨b, o, none⟩, some (.pointer e0) => match H.get b with
        | some (.row cells e k mk) => match mk with
          | .ro => none
          | mk => match Nat.beq e e0 && Nat.beq (P.cellsOf e) 1 && Nat.ble n 9223372036854775807, cut cells o n with
            | true, some l => match bytesA l with
              | some r => some (.string ⟨r.toArray⟩, H.put b (some (.row cells e k .ro)))
              | none => none
            | _, _ => none
        | _ => none
      | _, _ => none
  | _, _ => none

theorem freeze_heap {w : World} {r o n : Nat} {c : Array Value} {e : TypeId} {fr : Nat × Nat} (h : w.heap[r]? = some (.cells c e fr)) :
    ∃ fr', ∀ i : Nat, (w.freeze ⟨r, o, none⟩ n).heap[i]? = if i = r then some (.cells c e fr') else w.heap[i]? := by
  unfold World.freeze
  split
  · refine ⟨fr, fun i => ?_⟩
    by_cases hi : i = r
    · subst hi; simp [h]
    · simp [hi]
  · refine ⟨if fr.1 == fr.2 then (o, o + n) else (min fr.1 o, max fr.2 (o + n)), fun i => ?_⟩
    simp only [Array.getElem?_modify]
    by_cases hi : i = r
    · subst hi; simp [h]
    · have : ¬ r = i := fun e => hi e.symm
      simp [hi, this]

theorem freeze_size {w : World} {a : Addr} {n : Nat} : (w.freeze a n).heap.size = w.heap.size := by
  unfold World.freeze; split <;> simp

theorem unsafeStringA_sound {P : Program} {φ : Places} {H H' : AHeap} {w : World} (hr : Rel φ H w) {ats : Array TypeId} {rt : TypeId} {args : List Value} {args' : Array Value} (ha : L2 (VR φ) args args'.toList) {v : Value}
    (h : unsafeStringA P H ats.toList args = some (v, H')) : ∃ v' w', (Builtin.unsafeString_ ats rt args').run P w = .ok v' w' ∧ VR φ v v' ∧ Rel φ H' w' ∧ Post φ H w φ H' w' := by
  unfold unsafeStringA at h
  split at h
  rotate_left
  · cases h
  rename_i pt it a n hats
  obtain ⟨x', l1, hl, hx, ht⟩ := ha.cons_inv
  obtain ⟨y', l2, hl2, hy, ht⟩ := ht.cons_inv
  cases ht
  subst hl2
  have hargs : args' = #[x', y'] := Array.ext' hl
  have hatss : ats = #[pt, it] := Array.ext' hats
  subst hargs; subst hatss
  cases hy
  split at h
  · rename_i h0
    have := Nat.eq_of_beq_eq_true h0
    subst this
    cases h
    cases hx with
    | ptrNil => exact ⟨_, w, Lib.run_unsafeString_none w pt it rt none, .string _, hr, Post.refl φ H w⟩
    | ptr b o p hp => exact ⟨_, w, Lib.run_unsafeString_none w pt it rt _, .string _, hr, Post.refl φ H w⟩
  · rename_i h0
    have h0' := Nat.ne_of_beq_eq_false h0
    split at h
    rotate_left
    · cases h
    rename_i b o e0 hpt
    cases hx with | ptr _ _ p hp =>
    split at h
    rotate_left
    · cases h
    rename_i cells e k mk hb
    have key : mk ≠ .ro → ∀ l r, (Nat.beq e e0 && Nat.beq (P.cellsOf e) 1 && Nat.ble n 9223372036854775807) = true → cut cells o n = some l → bytesA l = some r →
        v = .string ⟨r.toArray⟩ → H' = H.put b (some (.row cells e k .ro)) → ∃ v' w', (Builtin.unsafeString_ #[pt, it] rt #[.pointer (some ⟨p.blk, p.sh + o, none⟩), .int .i64 (.ofNat n)]).run P w = .ok v' w' ∧ VR φ v v' ∧ Rel φ H' w' ∧ Post φ H w φ H' w' := by
      intro hmk l r hc hl hbs hv hH
      subst hv; subst hH
      simp only [Bool.and_eq_true] at hc
      have he := Nat.eq_of_beq_eq_true hc.1.1
      have hc1 := Nat.eq_of_beq_eq_true hc.1.2
      have h63 := Nat.le_of_ble_eq_true hc.2
      subst he
      · obtain ⟨c, fr, hcell, hcs, hle, hfit, hcont⟩ := hr.row hb hp
        have hes := hr.esz hb hp
        obtain ⟨hlen, hget, hin⟩ := cut_some hl
        obtain ⟨ns, rfl, rfl⟩ := bytesA_some hbs
        have hnl : ns.length = n := by simpa using hlen
        have hinn : o + n ≤ cells.length := by rcases hin with h | h <;> omega
        have hlb := loadBytes_run (P := P) (w := w) ns ⟨p.blk, p.sh + o, none⟩ .empty (fun j m hj => by
          have hjl : j < n := by rw [← hnl]; exact (List.getElem?_eq_some_iff.1 hj).1
          have h1 := hget j hjl
          rw [List.getElem?_map, hj] at h1
          obtain ⟨v, hv, hvr⟩ := hcont _ _ h1.symm
          cases hvr
          have e : ((⟨p.blk, p.sh + o, none⟩ : Addr).add j) = ⟨p.blk, p.sh + (o + j), none⟩ := by rw [Addr.add_none, Nat.add_assoc]
          rw [e, cell?_eq hcell]
          exact hv)
        have hsh : w.shape? p.blk = some (e, c.size) := by simp [World.shape?, hcell]
        have hlies : liesAt P P.depth e (c.size / P.cellsOf e) (p.sh + o) e n = true :=
          liesAt_elem (sameLayout_self e) (by omega) (by rw [hc1]; exact Nat.one_dvd _) (by rw [hc1]; simp only [Nat.div_one]; omega)
        obtain ⟨fr', hfr⟩ := freeze_heap (w := w) (o := p.sh + o) (n := n) hcell
        have hown : (AObj.row cells e k mk).own = true := by cases mk <;> first | rfl | exact absurd rfl hmk
        have hdef : Builtin.unsafeString_ #[pt, it] rt #[.pointer (some ⟨p.blk, p.sh + o, none⟩), .int .i64 (.ofNat n)] =
            (do
              let n ← asInt (.int .i64 (.ofNat n))
              if n < 0 then runtimePanic (.error "unsafe.String: len out of range")
              if n > IntKind.i64.max then unsupported (.unsafePointer "String: a length above the largest int")
              if n = 0 then pure (.string .empty)
              else if ← variablesAt ⟨p.blk, p.sh + o, none⟩ (← elemOf pt) n.toNat then do
                let s ← loadBytes ⟨p.blk, p.sh + o, none⟩ .empty n.toNat
                freeze ⟨p.blk, p.sh + o, none⟩ n.toNat
                pure (.string s)
              else unsupported (.unsafePointer "String: not so many bytes at ptr")) := rfl
        have hmax : IntKind.i64.max = 9223372036854775807 := rfl
        have hneg : ¬ ((n : Int)) < 0 := by omega
        have h63' : ¬ (9223372036854775807 : Int) < (n : Int) := by omega
        rw [hnl] at hlb
        refine ⟨.string ⟨(ns.map fun n => UInt8.ofNat n.toNat).toArray⟩, w.freeze ⟨p.blk, p.sh + o, none⟩ n, ?_, .string _, hr.write hb hp freeze_size hfr ?_, Post.write hb hown hp freeze_size hfr ?_ ?_ ?_⟩
        · rw [hdef]
          simp [asInt, asIntOf, hmax, h63', hneg, h0', variablesAt, hsh, elemOf, run_underlying hpt, hlies, hlb]
        · exact ⟨rfl, hes, hcs, hle, trivial, hcont⟩
        · unfold World.freeze; split <;> rfl
        · unfold World.freeze; split <;> rfl
        · unfold World.freeze; split <;> rfl
    split at h
    · cases h
    · rename_i hmk
      split at h
      · rename_i l hc hl
        split at h
        · rename_i r hbs
          cases h
          exact key (fun e => hmk e) l r hc hl hbs rfl rfl
        · cases h
      · cases h

/-- What an operation does that writes, or makes what hangs on memory. -/
def evEff (P : Program) (H : AHeap) (ρ : Operand → Option Value) (op : Op) : Option (Value × AHeap) :=
  match op with
  | .store t a v => match ρ a, ρ v with
    | some a, some v => match storeA P H t a v with
      | some H' => some (Go.undef, H')
      | none => none
    | _, _ => none
  | .mapUpdate t m k v => match ρ m, ρ k, ρ v with
    | some m, some k, some v => match mapUpdateA P H t m k v with
      | some H' => some (Go.undef, H')
      | none => none
    | _, _, _ => none
  | .insert t m k v => match ρ m, ρ k, ρ v with
    | some m, some k, some v => match mapUpdateA P H t m k v with
      | some H' => some (Go.undef, H')
      | none => none
    | _, _, _ => none
  | .range t x => match ρ x with
    | some x => match rangeA P H t x with
      | some o => some (.pointer (some ⟨H.next, 0, none⟩), H.add o)
      | none => none
    | none => none
  | .next it s => match ρ it with
    | some it => nextA H it s
    | none => none
  | .call c => match c.callee, lookAll ρ c.args.toList with
    | .builtin .append, some args => appendA P H c.argTypes.toList args
    | .builtin .copy, some args => copyA P H c.argTypes.toList args
    | .builtin .unsafeString, some args => unsafeStringA P H c.argTypes.toList args
    | .builtin .delete, some [m, k] => match c.argTypes.toList with
      | t :: _ => match deleteA P H t m k with
        | some H' => some (.tuple #[], H')
        | none => none
      | [] => none
    | _, _ => none
  | _ => none

theorem evEff_sound {P : Program} {φ : Places} {H H' : AHeap} {w : World} (hr : Rel φ H w) {ρ : Operand → Option Value} {ρ' : Operand → Value} (hρ : ∀ x v, ρ x = some v → VR φ v (ρ' x))
    {o : Oper} {v : Value} (h : evEff P H ρ o.op = some (v, H')) : Eff P φ H w v H' ((execOp ρ' o).run P w) := by
  obtain ⟨dst, op, type, pos, after, guard⟩ := o
  simp only at h
  unfold evEff at h
  split at h
  · split at h
    · rename_i ha hv
      split at h
      · cases h
        rename_i hs
        obtain ⟨w', g0, g1, g2⟩ := storeA_sound (P := P) hr (hρ _ _ ha) (hρ _ _ hv) hs
        exact ⟨.skip, φ, Go.undef, w', by simp only [execOp]; rw [Sem.run_bind, g0]; rfl, .inr ⟨rfl, rfl⟩, .undef, g1, g2⟩
      · cases h
    · cases h
  · split at h
    · rename_i hm hk hv
      split at h
      · cases h
        rename_i hs
        obtain ⟨w', g0, g1, g2⟩ := mapUpdateA_sound (P := P) hr (hρ _ _ hm) (hρ _ _ hk) (hρ _ _ hv) hs
        exact ⟨.skip, φ, Go.undef, w', by simp only [execOp]; rw [Sem.run_bind, g0]; rfl, .inr ⟨rfl, rfl⟩, .undef, g1, g2⟩
      · cases h
    · cases h
  · split at h
    · rename_i hm hk hv
      split at h
      · cases h
        rename_i hs
        obtain ⟨w', g0, g1, g2⟩ := mapUpdateA_sound (P := P) hr (hρ _ _ hm) (hρ _ _ hk) (hρ _ _ hv) hs
        exact ⟨.skip, φ, Go.undef, w', by simp only [execOp]; rw [Sem.run_bind, g0]; rfl, .inr ⟨rfl, rfl⟩, .undef, g1, g2⟩
      · cases h
    · cases h
  · split at h
    · rename_i hx
      split at h
      · cases h
        rename_i hs
        obtain ⟨φ', v', w', g0, g1, g2, g3⟩ := rangeA_sound (P := P) hr (hρ _ _ hx) hs
        exact ⟨.value v', φ', v', w', by simp only [execOp]; rw [Sem.run_bind, g0]; rfl, .inl rfl, g1, g2, g3⟩
      · cases h
    · cases h
  · split at h
    · rename_i hx
      obtain ⟨v', w', g0, g1, g2, g3⟩ := nextA_sound (P := P) (type := type) hr (hρ _ _ hx) h
      exact ⟨.value v', φ, v', w', by simp only [execOp]; rw [Sem.run_bind, g0]; rfl, .inl rfl, g1, g2, g3⟩
    · cases h
  · rename_i c
    split at h
    · rename_i args hcal hargs
      have h1 := lookAll_sound hρ hargs
      obtain ⟨φ', v', w', g0, g1, g2, g3⟩ := appendA_sound (P := P) (rt := type) (args' := c.args.map ρ') hr (by rw [Array.toList_map]; exact h1) h
      exact ⟨.value v', φ', v', w', by simp [execOp, resolve, hcal, invoke, builtin, g0], .inl rfl, g1, g2, g3⟩
    · rename_i args hcal hargs
      have h1 := lookAll_sound hρ hargs
      obtain ⟨v', w', g0, g1, g2, g3⟩ := copyA_sound (P := P) (rt := type) (args' := c.args.map ρ') hr (by rw [Array.toList_map]; exact h1) h
      exact ⟨.value v', φ, v', w', by simp [execOp, resolve, hcal, invoke, builtin, g0], .inl rfl, g1, g2, g3⟩
    · rename_i args hcal hargs
      have h1 := lookAll_sound hρ hargs
      obtain ⟨v', w', g0, g1, g2, g3⟩ := unsafeStringA_sound (P := P) (rt := type) (args' := c.args.map ρ') hr (by rw [Array.toList_map]; exact h1) h
      exact ⟨.value v', φ, v', w', by simp [execOp, resolve, hcal, invoke, builtin, g0], .inl rfl, g1, g2, g3⟩
    · rename_i m k hcal hargs
      split at h
      · rename_i t rest hat
        split at h
        · cases h
          rename_i hs
          have h1 := lookAll_sound hρ hargs
          obtain ⟨m', l1, hl, hm, ht⟩ := h1.cons_inv
          obtain ⟨k', l2, hl2, hk, ht⟩ := ht.cons_inv
          cases ht
          subst hl2
          have hargs' : c.args.map ρ' = #[m', k'] := by apply Array.ext'; rw [Array.toList_map, hl]
          obtain ⟨w', g0, g1, g2⟩ := deleteA_sound (P := P) (rt := type) (ats := c.argTypes) hr hm hk (by rw [← Array.getElem?_toList, hat]; rfl) hs
          exact ⟨.value (.tuple #[]), φ, .tuple #[], w', by simp [execOp, resolve, hcal, invoke, builtin, hargs', g0], .inl rfl, .undef, g1, g2⟩
        · cases h
      · cases h
    · cases h
  · cases h

end Go.AH

