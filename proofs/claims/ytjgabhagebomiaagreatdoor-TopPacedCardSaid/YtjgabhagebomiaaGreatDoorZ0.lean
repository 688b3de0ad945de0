/- A part of the proof: TwZ0. -/
import Derived.Test.YtjgabhagebomiaaGreatDoorW1
import Derived.ProofKit
import Derived.Deep.Slices
namespace Go.AH
open Go Go.RowKit Go.ChangeShapes

/-! ## The input: rows of five numbers -/

def inI (x : Int) : Prop := -9223372036854775808 ≤ x ∧ x ≤ 9223372036854775807

structure G5 where
  d : Int
  a : Int
  b : Int
  c : Int
  u : Int

def G5.cells (g : G5) : List Value := [.int .i64 g.d, .int .i64 g.a, .int .i64 g.b, .int .i64 g.c, .int .i64 g.u]
def G5.ok (g : G5) : Prop := inI g.d ∧ inI g.a ∧ inI g.b ∧ inI g.c ∧ inI g.u
def cellsG (gs : List G5) : List Value := gs.flatMap G5.cells

theorem cellsG_drop (g : G5) (gs : List G5) (i : Nat) : (g.cells ++ gs.flatMap G5.cells).drop (0 + (i + 1) * 5) = (gs.flatMap G5.cells).drop (0 + i * 5) := by
  have : 0 + (i + 1) * 5 = g.cells.length + (0 + i * 5) := by simp [G5.cells]; omega
  rw [this, ← List.drop_drop]
  simp

theorem cellsG_cut : ∀ (gs : List G5) (i : Nat) (h : i < gs.length), cut (cellsG gs) (0 + i * 5) 5 = some (gs[i]).cells
  | [], i, h => absurd h (by simp)
  | g :: gs, 0, _ => by
    unfold cut cellsG
    simp only [List.flatMap_cons, Nat.zero_mul, Nat.add_zero, List.drop_zero, List.getElem_cons_zero]
    rw [List.take_append_of_le_length (by simp [G5.cells])]
    rfl
  | g :: gs, i + 1, h => by
    have ih := cellsG_cut gs i (by simpa using h)
    unfold cut at ih ⊢
    have e : (cellsG (g :: gs)).drop (0 + (i + 1) * 5) = (cellsG gs).drop (0 + i * 5) := by
      unfold cellsG
      rw [List.flatMap_cons, cellsG_drop g gs i]
    rw [e]
    simpa using ih

theorem cellsG_bel (n : Nat) (gs : List G5) : (cellsG gs).all (belV n 6) = true := by
  rw [List.all_eq_true]
  intro v hv
  unfold cellsG at hv
  rw [List.mem_flatMap] at hv
  obtain ⟨g, _, hv⟩ := hv
  simp only [G5.cells, List.mem_cons, List.not_mem_nil, or_false] at hv
  rcases hv with rfl | rfl | rfl | rfl | rfl <;> rfl

theorem cellsG_get : ∀ (gs : List G5) (k : Nat) (u : Value), (cellsG gs)[k]? = some u → ∃ (i j : Nat) (g : G5), gs[i]? = some g ∧ j < 5 ∧ k = i * 5 + j ∧ g.cells[j]? = some u
  | [], k, u, h => by simp [cellsG] at h
  | g :: gs, k, u, h => by
    have e : cellsG (g :: gs) = g.cells ++ cellsG gs := by simp [cellsG]
    rw [e] at h
    have l5 : g.cells.length = 5 := rfl
    by_cases hk : k < 5
    · rw [List.getElem?_append_left (by omega)] at h
      exact ⟨0, k, g, rfl, hk, by omega, h⟩
    · rw [List.getElem?_append_right (by omega), l5] at h
      obtain ⟨i, j, g', h1, h2, h3, h4⟩ := cellsG_get gs (k - 5) u h
      exact ⟨i + 1, j, g', by simpa using h1, h2, by omega, h4⟩

theorem cellsG_length (gs : List G5) : (cellsG gs).length = gs.length * 5 := by
  induction gs with
  | nil => rfl
  | cons g gs ih =>
    have e : cellsG (g :: gs) = g.cells ++ cellsG gs := by simp [cellsG]
    rw [e, List.length_append, ih]
    simp [G5.cells]; omega

/-- What a program must say of the input's types. -/
structure GullTy (P : Program) (tS tG tI : TypeId) (fs : Array Field) : Prop where
  sl : P.underlying tS = some (.slice tG)
  st : P.underlying tG = some (.struct fs)
  cg : P.cellsOf tG = 5
  size : fs.size = 5
  fld : ∀ (i : Nat) f, fs[i]? = some f → f.type = tI ∧ f.offset = i
  int : P.underlying tI = some (.int .i64)
  ci : P.cellsOf tI = 1

section
variable {P : Program} {tS tG tI : TypeId} {fs : Array Field} {H : Type} {enc : TypeId × Value → H} {W : World}

theorem wf_inI {n : Int} (h : (Lit.int .i64 n).wf = true) : inI n := by
  simp only [Lit.wf, Bool.and_eq_true, decide_eq_true_eq] at h
  exact ⟨h.1, h.2⟩

theorem gull_elem (ty : GullTy P tS tG tI fs) {base fuel : Nat} {spare : Nat → Bool} {held : Bool} {cs : List Value} {x : DataW H × List MemPlace} (h : DataW.trod enc P W base spare held fuel tG cs = some x) : ∃ g : G5, cs = g.cells ∧ g.ok := by
  obtain ⟨xs, n, rfl, _, hl, hx, hf⟩ := DataW.trod_struct ty.st h
  rw [ty.cg] at hl
  have one : ∀ i, i < 5 → ∃ k, (cs.drop i).take 1 = [.int .i64 k] ∧ inI k := by
    intro i hi
    have hs : i < fs.size := by rw [ty.size]; exact hi
    obtain ⟨e1, e2⟩ := ty.fld i fs[i] (Array.getElem?_eq_getElem hs)
    have := hf i fs[i] (Array.getElem?_eq_getElem hs)
    rw [e1, e2, ty.ci] at this
    have hxs : i < xs.length := by rw [hx]; exact hs
    rw [List.getElem?_eq_getElem hxs] at this
    obtain ⟨k, e, _, hw⟩ := DataW.trod_int ty.int this
    exact ⟨k, e, wf_inI hw⟩
  match cs, hl with
  | [c0, c1, c2, c3, c4], _ =>
    obtain ⟨k0, e0, w0⟩ := one 0 (by omega)
    obtain ⟨k1, e1, w1⟩ := one 1 (by omega)
    obtain ⟨k2, e2, w2⟩ := one 2 (by omega)
    obtain ⟨k3, e3, w3⟩ := one 3 (by omega)
    obtain ⟨k4, e4, w4⟩ := one 4 (by omega)
    simp at e0 e1 e2 e3 e4
    exact ⟨⟨k0, k1, k2, k3, k4⟩, by simp [G5.cells, e0, e1, e2, e3, e4], w0, w1, w2, w3, w4⟩

/-- Where the input lies: nowhere, or in block 7. -/
def InAt (gs : List G5) (sa : Option Addr) (a : Option AObj) : Prop :=
  (gs = [] ∧ (sa = none ∨ sa = some ⟨7, 0, none⟩) ∧ a = none) ∨ (sa = some ⟨7, 0, none⟩ ∧ ∃ e, a = some (.row (cellsG gs) e 5 .ro))

theorem InAt.bel {gs : List G5} {sa : Option Addr} {a : Option AObj} (n : Nat) (h : InAt gs sa a) : ∀ o, a = some o → belO n o = true := by
  rintro o rfl
  rcases h with ⟨_, _, h⟩ | ⟨_, e, h⟩
  · cases h
  · cases h; exact cellsG_bel n gs

/-- A heap that holds nothing but the input. -/
structure Bare7 (a : Option AObj) (H : AHeap) : Prop where
  ng : H.ng = 7
  next : H.next = 8
  get : ∀ b, H.get b = if b = 7 then a else none

/-- What the world is to the abstract heap, as the call begins. -/
structure Starts (W : World) (v : Value) (gs : List G5) (sa : Option Addr) (cap : Nat) (a : Option AObj) (φ : Places) : Prop where
  ok : ∀ g ∈ gs, g.ok
  len : gs.length ≤ 9223372036854775807
  inn : InAt gs sa a
  rel : ∀ H, Bare7 a H → Rel φ H W
  vr : VR φ (.slice sa gs.length cap) v
  own : ∀ H r, Bare7 a H → ¬ Owned φ H r

def φ7 (p : Pl) : Places := fun b => if b < 7 then some ⟨b, 0, 0, 0⟩ else if b = 7 then some p else none

theorem own7 {φ : Places} {gs : List G5} {sa : Option Addr} {a : Option AObj} (h : InAt gs sa a) {H : AHeap} (hb : Bare7 a H) (r : Nat) : ¬ Owned φ H r := by
  rintro ⟨b, o, p, h1, h2, _⟩
  rw [hb.get] at h1
  split at h1
  · rcases h with ⟨_, _, rfl⟩ | ⟨_, e, rfl⟩
    · cases h1
    · cases h1; cases h2
  · cases h1

theorem rel7 {p : Pl} {a : Option AObj} {H : AHeap} (hb : Bare7 a H) (h7 : 7 ≤ W.heap.size) (hp : p.blk < W.heap.size) (ha : ∀ o, a = some o → ∃ c, W.heap[p.blk]? = some c ∧ ORel (φ7 p) p o c) : Rel (φ7 p) H W := {
  glob g hg := by
    rw [hb.ng] at hg
    exact ⟨_, by unfold φ7; rw [if_pos hg], rfl, rfl⟩
  fresh b hb' := by
    rw [hb.next] at hb'
    unfold φ7
    rw [if_neg (by omega), if_neg (by omega)]
  lt b q hq := by
    unfold φ7 at hq
    split at hq
    · cases hq; show b < _; omega
    · split at hq
      · cases hq; exact hp
      · cases hq
  dom b o h := by
    rw [hb.get] at h
    split at h
    · rw [hb.next]; omega
    · cases h
  live b o q h hq := by
    rw [hb.get] at h
    split at h
    · rename_i e
      subst e
      unfold φ7 at hq
      rw [if_neg (by omega), if_pos rfl] at hq
      cases hq
      exact ha o h
    · cases h
  inj b b' o o' q q' h h' _ _ _ := by
    rw [hb.get] at h h'
    split at h
    · split at h'
      · omega
      · cases h'
    · cases h }

theorem starts (ty : GullTy P tS tG tI fs) (h7 : 7 ≤ W.heap.size) {base fuel : Nat} {held : Bool} {v : Value} {x : DataW H × List MemPlace} (h : DataW.trod enc P W base (fun _ => true) held fuel tS [v] = some x) :
    ∃ gs sa cap a φ, Starts W v gs sa cap a φ := by
  rcases Go.Deep.open_slice ty.sl h with ⟨hv, _⟩ | ⟨a, len, cap, m, n, D, Pl', hv, _, hl, hm, hmm, _, hel⟩
  · simp only [List.cons.injEq, and_true] at hv
    subst hv
    refine ⟨[], none, 0, none, φ7 ⟨0, 0, 0, 0⟩, ⟨by simp, by simp, .inl ⟨rfl, .inl rfl, rfl⟩, fun H hb => rel7 hb h7 (by show 0 < _; omega) (by rintro _ ⟨⟩), .sliceNil 0 0, fun H r hb => own7 (.inl ⟨rfl, .inl rfl, rfl⟩) hb r⟩⟩
  · simp only [List.cons.injEq, and_true] at hv
    subst hv
    simp only [if_true] at hmm
    subst hmm
    rw [ty.cg] at hel
    by_cases hc0 : m = 0
    · subst hc0
      have hl0 : len = 0 := by omega
      subst hl0
      refine ⟨[], some ⟨7, 0, none⟩, unk, none, φ7 ⟨0, 0, 0, 0⟩, ⟨by simp, by simp, .inl ⟨rfl, .inr rfl, rfl⟩, fun H hb => rel7 hb h7 (by show 0 < _; omega) (by rintro _ ⟨⟩), .sliceDead 7 0 ⟨0, 0, 0, 0⟩ a rfl, fun H r hb => own7 (.inl ⟨rfl, .inr rfl, rfl⟩) hb r⟩⟩
    · have hG : ∀ i, ∃ g : G5, i < m → (∀ j, j < 5 → W.cell? ((a.add (i * 5)).add j) = g.cells[j]?) ∧ g.ok := by
        intro i
        by_cases hi : i < m
        · obtain ⟨cs', h1, h2⟩ := hel i hi
          obtain ⟨_, _, h3⟩ := World.cells?_some h1
          obtain ⟨g, rfl, hg⟩ := gull_elem ty h2
          exact ⟨g, fun _ => ⟨fun j hj => h3 j hj, hg⟩⟩
        · exact ⟨⟨0, 0, 0, 0, 0⟩, fun h => absurd h hi⟩
      obtain ⟨G, hG⟩ := Classical.axiomOfChoice hG
      obtain ⟨b, off, spot⟩ := a
      have h00 := (hG 0 (by omega)).1 0 (by omega)
      have hspot : spot = none := by
        have := World.cell?_spot (h00.trans (show (G 0).cells[0]? = some (.int .i64 (G 0).d) from rfl))
        simpa [Addr.add] using this
      subst hspot
      have hcell : ∀ i j, i < m → j < 5 → W.cell? ⟨b, off + (i * 5 + j), none⟩ = (G i).cells[j]? := by
        intro i j hi hj
        have := (hG i hi).1 j hj
        rw [Addr.add_none, Addr.add_none, Nat.add_assoc] at this
        exact this
      -- the block
      have hb0 := hcell 0 0 (by omega) (by omega)
      have hblk : ∃ c e fr, W.heap[b]? = some (.cells c e fr) := by
        have hs : (G 0).cells[0]? = some (.int .i64 (G 0).d) := rfl
        rw [hs] at hb0
        unfold World.cell? at hb0
        split at hb0
        · rename_i c e fr hh; exact ⟨c, e, fr, hh⟩
        · cases hb0
      obtain ⟨c, e, fr, hblk⟩ := hblk
      have hcell' : ∀ i j, i < m → j < 5 → c[off + (i * 5 + j)]? = (G i).cells[j]? := by
        intro i j hi hj
        have := hcell i j hi hj
        rw [cell?_eq hblk] at this
        exact this
      let gs := (List.range len).map G
      have hgl : gs.length = len := by simp [gs]
      have hsz : off + m * 5 ≤ c.size := by
        have hlast := hcell' (m - 1) 4 (by omega) (by omega)
        have hs : (G (m - 1)).cells[4]? = some (.int .i64 (G (m - 1)).u) := rfl
        rw [hs] at hlast
        have := (Array.getElem?_eq_some_iff.1 hlast).1
        omega
      have hb : b < W.heap.size := (Array.getElem?_eq_some_iff.1 hblk).1
      have hin : InAt gs (some ⟨7, 0, none⟩) (some (.row (cellsG gs) e 5 .ro)) := .inr ⟨rfl, e, rfl⟩
      have hmax : m ≤ 9223372036854775807 := by unfold maxLen at hm; omega
      refine ⟨gs, some ⟨7, 0, none⟩, m, _, φ7 ⟨b, off, c.size, 5⟩, ⟨?_, by omega, hin, fun H hbr => rel7 hbr h7 hb ?_, ?_, fun H r hbr => own7 hin hbr r⟩⟩
      · intro g hg
        simp only [gs, List.mem_map, List.mem_range] at hg
        obtain ⟨i, hi, rfl⟩ := hg
        exact (hG i (by omega)).2
      · rintro o ⟨⟩
        refine ⟨_, hblk, rfl, rfl, rfl, ?_, trivial, ?_⟩
        · rw [cellsG_length, hgl]; show off + len * 5 ≤ c.size; omega
        · intro k u hu
          obtain ⟨i, j, g, h1, h2, h3, h4⟩ := cellsG_get gs k u hu
          simp only [gs, List.getElem?_map, Option.map_eq_some_iff] at h1
          obtain ⟨i', h1, rfl⟩ := h1
          have hi' := (List.getElem?_eq_some_iff.1 h1)
          obtain ⟨hi1, hi2⟩ := hi'
          simp only [List.length_range] at hi1
          simp only [List.getElem_range] at hi2
          subst hi2
          refine ⟨u, ?_, ?_⟩
          · show c[off + k]? = some u
            rw [h3, hcell' i j (by omega) h2, h4]
          · match j, h2, h4 with
            | 0, _, h4 => cases h4; exact .int _ _
            | 1, _, h4 => cases h4; exact .int _ _
            | 2, _, h4 => cases h4; exact .int _ _
            | 3, _, h4 => cases h4; exact .int _ _
            | 4, _, h4 => cases h4; exact .int _ _
      · rw [hgl]
        have hu : m ≠ unk := by unfold unk; omega
        have := VR.slice (φ := φ7 ⟨b, off, c.size, 5⟩) 7 0 ⟨b, off, c.size, 5⟩ len m hu rfl
        simpa using this

/-- What an abstract contract says of the world. -/
theorem below_of_post {φ φ' : Places} {H H' : AHeap} {W W' : World} (hp : Post φ H W φ' H' W') (ho : ∀ r, ¬ Owned φ H r) : Below W.heap.size W W' :=
  ⟨hp.os, hp.tape, hp.output, hp.size, fun k hk => hp.unch k hk (ho k)⟩

end
end Go.AH

