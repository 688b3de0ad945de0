/- A part of the proof: TwW1. -/
import Derived.Test.YtjgabhagebomiaaGreatDoorW
import Derived.Test.YtjgabhagebomiaaGreatDoorF
namespace Go.AH
open Go

/-! ## Single operations whose answer hangs on a fact -/

section one
variable {P : Program} {H : AHeap} {ρ : Operand → Option Value} {t u T : TypeId} {x y : Operand}

theorem rd_quo {a b : Int} (hx : ρ x = some (.int .i64 a)) (hy : ρ y = some (.int .i64 b)) (hb : b ≠ 0) : evRead P H ρ (.binOp .quo t x y u) T = some (.int .i64 (IntKind.i64.wrap (a.tdiv b))) := by
  simp only [evRead, hx, hy]
  have : binOp .quo t (.int .i64 a) (.int .i64 b) = .pure (.int .i64 (IntKind.i64.wrap (a.tdiv b))) := by
    show Op.intDiv .quo .i64 a b = _
    unfold Op.intDiv
    rw [if_neg hb]
    rfl
  unfold binA
  simp only [plainOps, this]
  rfl

theorem rd_rem {a b : Int} (hx : ρ x = some (.int .i64 a)) (hy : ρ y = some (.int .i64 b)) (hb : b ≠ 0) : evRead P H ρ (.binOp .rem t x y u) T = some (.int .i64 (a.tmod b)) := by
  simp only [evRead, hx, hy]
  have : binOp .rem t (.int .i64 a) (.int .i64 b) = .pure (.int .i64 (a.tmod b)) := by
    show Op.intDiv .rem .i64 a b = _
    unfold Op.intDiv
    rw [if_neg hb]
    rfl
  unfold binA
  simp only [plainOps, this]
  rfl

theorem rd_float {op : BinOp} {a b c : Nat} (hx : ρ x = some (.float .f64 a)) (hy : ρ y = some (.float .f64 b)) (h : binOp op t (.float .f64 a) (.float .f64 b) = .pure (.float .f64 c)) :
    evRead P H ρ (.binOp op t x y u) T = some (.float .f64 c) := by
  simp only [evRead, hx, hy]
  unfold binA
  simp only [plainOps, h]
  rfl

theorem rd_fadd {a b c : Nat} (hx : ρ x = some (.float .f64 a)) (hy : ρ y = some (.float .f64 b)) (h : Ieee.double.add a b = some c) : evRead P H ρ (.binOp .add t x y u) T = some (.float .f64 c) := by
  refine rd_float hx hy ?_
  show Op.floatArith .add .f64 a b = _
  have : FloatKind.f64.format.add a b = some c := h
  unfold Op.floatArith
  simp only [this]
  rfl
theorem rd_fmul {a b c : Nat} (hx : ρ x = some (.float .f64 a)) (hy : ρ y = some (.float .f64 b)) (h : Ieee.double.mul a b = some c) : evRead P H ρ (.binOp .mul t x y u) T = some (.float .f64 c) := by
  refine rd_float hx hy ?_
  show Op.floatArith .mul .f64 a b = _
  have : FloatKind.f64.format.mul a b = some c := h
  unfold Op.floatArith
  simp only [this]
  rfl
theorem rd_fdiv {a b c : Nat} (hx : ρ x = some (.float .f64 a)) (hy : ρ y = some (.float .f64 b)) (h : Ieee.double.div a b = some c) : evRead P H ρ (.binOp .quo t x y u) T = some (.float .f64 c) := by
  refine rd_float hx hy ?_
  show Op.floatArith .quo .f64 a b = _
  have : FloatKind.f64.format.div a b = some c := h
  unfold Op.floatArith
  simp only [this]
  rfl

/-- Floats compared. -/
def fcmp (op : BinOp) (a b : Nat) : Bool :=
  let c := Ieee.double.order a b
  match op with
  | .eql => c == some .eq
  | .neq => c != some .eq
  | .lss => c == some .lt
  | .leq => c == some .lt || c == some .eq
  | .gtr => c == some .gt
  | .geq => c == some .gt || c == some .eq
  | _ => false

def isCmp : BinOp → Bool
  | .eql | .neq | .lss | .leq | .gtr | .geq => true
  | _ => false

theorem rd_fcmp {op : BinOp} {a b : Nat} (hx : ρ x = some (.float .f64 a)) (hy : ρ y = some (.float .f64 b)) (h : isCmp op = true) : evRead P H ρ (.binOp op t x y u) T = some (.bool (fcmp op a b)) := by
  simp only [evRead, hx, hy]
  have : binOp op t (.float .f64 a) (.float .f64 b) = .pure (.bool (fcmp op a b)) := by
    cases op <;> first | rfl | cases h
  unfold binA
  simp only [plainOps, this]
  rfl
theorem rd_index {i n c b o k : Nat} {kd : IntKind} {e : TypeId} (hx : ρ x = some (.slice (some ⟨b, o, none⟩) n c)) (hy : ρ y = some (.int kd i)) (hi : i < n) (hu : P.underlying t = some (.slice e)) (hs : sizeA P e = some k) :
    evRead P H ρ (.indexAddr t x y) T = some (.pointer (some ⟨b, o + i * k, none⟩)) := by
  simp only [evRead, hx, hy, indexAddrA, hu, hs]
  have : within (.int kd (i : Int)) n = some i := by
    show (match Nat.ble (i + 1) n with | true => some i | false => none) = some i
    rw [Nat.ble_eq_true_of_le (show i + 1 ≤ n from hi)]
  rw [this]

theorem rd_load_agg {b o n k : Nat} {cells l : List Value} {e : TypeId} {mk : Mark} (hx : ρ x = some (.pointer (some ⟨b, o, none⟩))) (hb : H.get b = some (.row cells e k mk)) (ha : isAggOf P t = some true) (hn : sizeA P t = some n)
    (hc : cut cells o n = some l) : evRead P H ρ (.load t x) T = some (.agg l.toArray) := by
  simp only [evRead, hx, loadA, hb, ha, hn, hc]

end one

theorem NatOk.deep {P : Program} (hs : Sound P) {n : CallF} (hn : NatOk P n) (N : Nat) : NatOk P (evFn P n (ev P n N)) := ⟨evFn_sound hs.noGor hn.ok (ev_both hs.mixed hs.noGor hn.ok N).1⟩

theorem Wp.scope {P : Program} {c : Code} {F : Fr} {H : AHeap} {Q : Exit → Fr → AHeap → Prop} (hg : ∀ l F' H', ¬ Q (.goto l) F' H') (h : Wp P c F H Q) : Wp P (.scope c) F H Q := by
  intro φ w a hr hf
  refine wp_scope_straight (wp_mono (h φ w a hr hf) ?_)
  rintro e a' w' ⟨φ', F1, H1, q, f, r, p⟩
  cases e with
  | goto l => exact absurd q (hg _ _ _)
  | _ => exact ⟨φ', F1, H1, q, f, r, p⟩

theorem blk_hit {id : Nat} {Q : Exit → Fr → AHeap → Prop} {F : Fr} {H : AHeap} (h : Q .normal F H) : inBlockA id Q (.exit id) F H := by show (if id = id then _ else _); rw [if_pos rfl]; exact h

theorem blk_miss {id id' : Nat} {Q : Exit → Fr → AHeap → Prop} {F : Fr} {H : AHeap} (hi : id' ≠ id) (h : Q (.exit id') F H) : inBlockA id Q (.exit id') F H := by show (if id' = id then _ else _); rw [if_neg hi]; exact h

theorem ev_bool {x : Option Value} {b c : Bool} (h : x = some (.bool b)) (hb : b = c) : x = some (.bool c) := hb ▸ h

theorem Obl.nil {P : Program} {ops : Array Oper} {B : Array Nat} {i : Nat} {H H' : AHeap} : Obl P ops B i H H' [] := trivial
theorem Obl.skip {P : Program} {ops : Array Oper} {B : Array Nat} {i : Nat} {H H' : AHeap} {d : Ent} {D : List Ent} (h : (d.wanted && !inB B i d.idx) = false) (t : Obl P ops B i H H' D) : Obl P ops B i H H' (d :: D) := by
  refine ⟨?_, t⟩
  cases hw : d.wanted with
  | false => trivial
  | true =>
    rw [hw] at h
    cases hb : inB B i d.idx with
    | true => trivial
    | false => rw [hb] at h; cases h
theorem Obl.read {P : Program} {ops : Array Oper} {B : Array Nat} {i : Nat} {H H' : AHeap} {d : Ent} {D : List Ent} {o : Oper} (hb : d.blk = none) (ho : ops[d.idx]? = some o) (h : evRead P H' (lookT (tmpsOf o) H'.ng d.fr) o.op o.type = some d.val)
    (t : Obl P ops B i H H' D) : Obl P ops B i H H' (d :: D) := by
  refine ⟨?_, t⟩
  split
  · trivial
  · split
    · trivial
    · rw [hb]; simp only [ho]; exact h
theorem Obl.blk {P : Program} {ops : Array Oper} {B : Array Nat} {i : Nat} {H H' : AHeap} {d : Ent} {D : List Ent} {n : Nat} (hb : d.blk = some n) (h : H'.get n = H.get n)
    (t : Obl P ops B i H H' D) : Obl P ops B i H H' (d :: D) := by
  refine ⟨?_, t⟩
  split
  · trivial
  · split
    · trivial
    · rw [hb]; exact h

/-! ## Loops, by a ghost -/

def Told (n : Nat) (l : List (Nat × Value)) (F : Fr) : Prop := F.size = n ∧ F.ds = [] ∧ Holds F l

theorem wp_tell {P : Program} {c : Code} {F : Fr} {H : AHeap} {Q : Exit → Fr → AHeap → Prop} {n : Nat} {l : List (Nat × Value)} (ht : Told n l F) (h : Wp P c (frL n l) H Q) : Wp P c F H Q := wp_told n l ht.1 ht.2.1 ht.2.2 h

/-- Frame and heap told anew. -/
theorem wp_at {P : Program} {c : Code} {F : Fr} {H : AHeap} {Q : Exit → Fr → AHeap → Prop} (n : Nat) (l : List (Nat × Value)) (H' : AHeap) (ht : Told n l F) (hH : H = H') (h : Wp P c (frL n l) H' Q) : Wp P c F H Q := by
  subst hH; exact wp_tell ht h

theorem Wp.loopG {P : Program} {c : Code} {F : Fr} {H : AHeap} {Q : Exit → Fr → AHeap → Prop} {σ : Type} (I : σ → Fr → AHeap → Prop) (μ : σ → Nat) (s₀ : σ) (h₀ : I s₀ F H)
    (round : ∀ s F H, I s F H → Wp P c F H (thenA (fun F' H' => ∃ s', μ s' < μ s ∧ I s' F' H') Q)) : Wp P (.loop c) F H Q := by
  have key : ∀ (n : Nat) (s : σ) (F : Fr) (H : AHeap), I s F H → μ s < n → WpRounds P c Q n F H := by
    intro n
    induction n with
    | zero => intro s F H _ h; omega
    | succ n ih =>
      intro s F H hI hm
      refine (round s F H hI).mono fun e F' H' q => ?_
      cases e with
      | normal => obtain ⟨s', h1, h2⟩ := q; exact ih s' F' H' h2 (by omega)
      | exit => exact q
      | goto => exact q
      | ret => exact q
      | panic => exact q
      | outgrown => exact q
  exact Wp.rounds (μ s₀ + 1) (key _ s₀ F H h₀ (by omega))

/-- A loop whose frame and heap are told by a ghost. -/
theorem Wp.loopS {P : Program} {c : Code} {F : Fr} {Q : Exit → Fr → AHeap → Prop} {σ : Type} (n : Nat) (l : σ → List (Nat × Value)) (Hof : σ → AHeap) (ok : σ → Prop) (μ : σ → Nat) (s₀ : σ) (h₀ : ok s₀) (hF : Told n (l s₀) F)
    (round : ∀ s, ok s → Wp P c (frL n (l s)) (Hof s) (thenA (fun F' H' => ∃ s', ok s' ∧ μ s' < μ s ∧ Told n (l s') F' ∧ H' = Hof s') Q)) : Wp P (.loop c) F (Hof s₀) Q := by
  refine Wp.loopG (fun s F H => ok s ∧ Told n (l s) F ∧ H = Hof s) μ s₀ ⟨h₀, hF, rfl⟩ ?_
  rintro s F H ⟨h1, h2, rfl⟩
  refine wp_tell h2 ((round s h1).mono ?_)
  intro e F' H' q
  cases e with
  | normal => obtain ⟨s', a, b, c, d⟩ := q; exact ⟨s', b, a, c, d⟩
  | exit => exact q
  | goto => exact q
  | ret => exact q
  | panic => exact q
  | outgrown => exact q

/-- The ways of a piece of code meet again: in one frame, in one heap (cut back, if need be), told by a ghost. -/
theorem Wp.join {P : Program} {c : Code} {F : Fr} {H : AHeap} {Q : Exit → Fr → AHeap → Prop} {σ : Type} (n : Nat) (l : σ → List (Nat × Value)) (Hof : σ → AHeap) (ok : σ → Prop)
    (h : Wp P c F H fun e F' H' => e = .normal ∧ ∃ s, ok s ∧ Told n (l s) F' ∧ (H' = Hof s ∨ (Cut H' (Hof s).next (Hof s) ∧ H.next ≤ (Hof s).next ∧ (l s).all (fun x => belV (Hof s).next 6 x.2) = true)))
    (k : ∀ s, ok s → Q .normal (frL n (l s)) (Hof s)) : Wp P c F H Q := by
  intro φ w a hr hf
  refine wp_mono (h φ w a hr hf) ?_
  rintro e a' w' ⟨φ', F', H', ⟨rfl, s, hs, ⟨t1, t2, t3⟩, hH⟩, f, r, p⟩
  have e1 : F'.keep (ofL (l s)) = frL n (l s) := by unfold Fr.keep frL; rw [t1, t2]
  rcases hH with rfl | ⟨hc, hn, hb⟩
  · have := f.keep t3.get
    rw [e1] at this
    exact ⟨φ', _, _, k s hs, this, r, p⟩
  · have := f.cut (n := (Hof s).next) (t := ofL (l s)) t2 (fun i v hv => ⟨t3.get i v hv, ?_⟩)
    · rw [e1] at this
      exact ⟨_, _, _, k s hs, this, r.cut hc, p.cut hc hn⟩
    · have mem : ∀ (l : List (Nat × Value)), (ofL l).get i = some v → ∃ x ∈ l, x.2 = v := by
        intro l
        induction l with
        | nil => intro h; simp [ofL, PT.get_nil] at h
        | cons x l ih =>
          intro h
          obtain ⟨j, u⟩ := x
          rw [ofL, PT.get_put] at h
          split at h
          · cases h; exact ⟨_, .head _, rfl⟩
          · obtain ⟨y, hy, e⟩ := ih h; exact ⟨y, .tail _ hy, e⟩
      obtain ⟨x, hx, rfl⟩ := mem _ hv
      exact List.all_eq_true.1 hb x hx

/-- A making, told. -/
theorem wr_alloc {P : Program} {ops : Array Oper} {F : Fr} {H : AHeap} {K : Fr → AHeap → Prop} {l l' : List Nat} {i : Nat} (hl : l = i :: l') {o : Oper} {obj : AObj} {hd : Hand} (ho : ops[i]? = some o) (hw : wantedA ops F o = some true) (he : isDefer o.op = false)
    {n : Nat} (hn : H.next = n) (ha : evAlloc P (look H.ng F) o.op = some (obj, hd)) (hq : OpsOk P ops l' (F.put o.dst (hd.val n)) (H.add obj) K) : OpsOk P ops l F H K :=
  wr_op hl ho hw he (OpV.alloc ha (by rw [hn]; exact hq))

/-- A call of which the answer is known. -/
theorem wr_callF {P : Program} {ops : Array Oper} {F : Fr} {H H₂ : AHeap} {K : Fr → AHeap → Prop} {l l' : List Nat} {i : Nat} (hl : l = i :: l') {o : Oper} {c : Call} {g : FuncId} {args : List Value} {v : Value} (ho : ops[i]? = some o) (hw : wantedA ops F o = some true) (hop : o.op = .call c)
    (hc : calleeA (look H.ng F) c = some (g, args)) (hr : Answers P g args H v H₂) (hq : OpsOk P ops l' (F.put o.dst v) H₂ K) : OpsOk P ops l F H K := by
  refine wr_op hl ho hw (by rw [hop]; rfl) (OpV.callF hop hc (hr.ok.mono ?_))
  rintro _ _ ⟨rfl, rfl⟩
  exact hq

end Go.AH

