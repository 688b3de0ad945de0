/- A part of the proof: TwW0. -/
import Derived.Test.YtjgabhagebomiaaGreatDoorD
namespace Go.AH
open Go

/-! ## Walking a region in pieces -/

theorem OpV.mono {P : Program} {o : Oper} {ρ : Operand → Option Value} {H : AHeap} {K K' : Value → AHeap → Prop} (h : OpV P o ρ H K) (hk : ∀ v H', K v H' → K' v H') : OpV P o ρ H K' :=
  fun φ w a next Q hr hρ hn => h φ w a next Q hr hρ fun φ' v v' H' w' k => hn φ' v v' H' w' (hk _ _ k)

theorem OpsOk.mono {P : Program} {ops : Array Oper} {K K' : Fr → AHeap → Prop} (hk : ∀ F H, K F H → K' F H) : ∀ (l : List Nat) (F : Fr) (H : AHeap), OpsOk P ops l F H K → OpsOk P ops l F H K'
  | [], _, _, h => hk _ _ h
  | i :: l, F, H, h => by
    unfold OpsOk at h ⊢
    cases ho : ops[i]? with
    | none => simp only [ho] at h ⊢; exact OpsOk.mono hk l F H h
    | some o =>
      simp only [ho] at h ⊢
      cases hw : wantedA ops F o with
      | none => simp only [hw] at h
      | some r =>
        simp only [hw] at h ⊢
        cases r with
        | false => exact OpsOk.mono hk l _ H h
        | true =>
          simp only at h ⊢
          split
          · rename_i c hop
            simp only [hop] at h
            cases hc : calleeA (look H.ng F) c with
            | none => simp only [hc] at h
            | some x => simp only [hc] at h ⊢; exact OpsOk.mono hk l _ H h
          · rename_i hop
            split at h
            · rename_i c hop'; exact absurd hop' (hop c)
            · exact h.mono fun v H' => OpsOk.mono hk l _ H'

theorem OpsOk.append {P : Program} {ops : Array Oper} {K : Fr → AHeap → Prop} (l2 : List Nat) : ∀ (l : List Nat) (F : Fr) (H : AHeap), OpsOk P ops l F H (fun F' H' => OpsOk P ops l2 F' H' K) → OpsOk P ops (l ++ l2) F H K
  | [], _, _, h => h
  | i :: l, F, H, h => by
    rw [List.cons_append]
    unfold OpsOk at h ⊢
    cases ho : ops[i]? with
    | none => simp only [ho] at h ⊢; exact OpsOk.append l2 l F H h
    | some o =>
      simp only [ho] at h ⊢
      cases hw : wantedA ops F o with
      | none => simp only [hw] at h
      | some r =>
        simp only [hw] at h ⊢
        cases r with
        | false => exact OpsOk.append l2 l _ H h
        | true =>
          simp only at h ⊢
          split
          · rename_i c hop
            simp only [hop] at h
            cases hc : calleeA (look H.ng F) c with
            | none => simp only [hc] at h
            | some x => simp only [hc] at h ⊢; exact OpsOk.append l2 l _ H h
          · rename_i hop
            split at h
            · rename_i c hop'; exact absurd hop' (hop c)
            · exact h.mono fun v H' => OpsOk.append l2 l _ H'

def isDefer : Op → Bool
  | .defer _ => true
  | _ => false

section walk
variable {P : Program} {ops : Array Oper} {F F' : Fr} {H H' : AHeap} {Q : Exit → Fr → AHeap → Prop} {K : Fr → AHeap → Prop} {call : CallF}

/-- A region whose order is fixed: its operations one behind the other. -/
theorem wr_start {id : Nat} (h : OpsOk P ops (List.range ops.size) F H (Q .normal)) : Wp P (.region id ops false) F H Q := Wp.region h

theorem wr_end (h : K F H) : OpsOk P ops [] F H K := h

/-- Some operations, evaluated. -/
theorem wr_ev (hc : NatOk P call) {l : List Nat} (n : Nat) (h : evOps P call ops (l.take n) F H = some (F', H')) (hq : OpsOk P ops (l.drop n) F' H' K) : OpsOk P ops l F H K := by
  rw [← List.take_append_drop n l]
  refine OpsOk.append _ _ _ _ (OpsOk.mono ?_ _ _ _ (evOps_sound hc.ok _ _ _ h))
  rintro _ _ ⟨rfl, rfl⟩
  exact hq

/-- One operation that reads, its value told. -/
theorem wr_read {l l' : List Nat} {i : Nat} (hl : l = i :: l') {o : Oper} {v : Value} (ho : ops[i]? = some o) (hw : wantedA ops F o = some true) (he : isDefer o.op = false)
    (hv : evRead P H (look H.ng F) o.op o.type = some v) (hq : OpsOk P ops l' (F.put o.dst v) H K) : OpsOk P ops l F H K := by
  rw [hl]
  unfold OpsOk
  simp only [ho, hw]
  split
  · rename_i c hop; rw [hop] at he; cases he
  · exact OpV.read hv hq

/-- One operation that acts, told by its law. -/
theorem wr_op {l l' : List Nat} {i : Nat} (hl : l = i :: l') {o : Oper} (ho : ops[i]? = some o) (hw : wantedA ops F o = some true) (he : isDefer o.op = false)
    (hv : OpV P o (look H.ng F) H fun v H' => OpsOk P ops l' (F.put o.dst v) H' K) : OpsOk P ops l F H K := by
  rw [hl]
  unfold OpsOk
  simp only [ho, hw]
  split
  · rename_i c hop; rw [hop] at he; cases he
  · exact hv

/-- A call, told by its contract. -/
theorem wr_call {l l' : List Nat} {i : Nat} (hl : l = i :: l') {o : Oper} {c : Call} {g : FuncId} {args : List Value} (ho : ops[i]? = some o) (hw : wantedA ops F o = some true) (hop : o.op = .call c)
    (hc : calleeA (look H.ng F) c = some (g, args)) (hb : bodied P g = true) {R : Value → AHeap → Prop} (hr : CallsA P g args H R) (hq : ∀ v H', R v H' → OpsOk P ops l' (F.put o.dst v) H' K) : OpsOk P ops l F H K := by
  refine wr_op hl ho hw (by rw [hop]; rfl) (OpV.call hop hc hb ?_)
  exact hr.mono hq

/-! ### Regions that draw their order -/

/-- What must be so again behind an operation that acts. -/
def Obl (P : Program) (ops : Array Oper) (B : Array Nat) (i : Nat) (H H' : AHeap) : List Ent → Prop
  | [] => True
  | d :: D => (match d.wanted with
    | false => True
    | true => match inB B i d.idx with
      | true => True
      | false => match d.blk with
        | some n => H'.get n = H.get n
        | none => match ops[d.idx]? with
          | some o => evRead P H' (lookT (tmpsOf o) H'.ng d.fr) o.op o.type = some d.val
          | none => False) ∧ Obl P ops B i H H' D

theorem Obl.ok {P : Program} {ops : Array Oper} {B : Array Nat} {i : Nat} {H H' : AHeap} : ∀ {D : List Ent}, Obl P ops B i H H' D →
    ∀ d ∈ D, d.wanted = true → inB B i d.idx = false → (∀ n, d.blk = some n → H'.get n = H.get n) ∧ (d.blk = none → ReadAgain P ops H' d)
  | e :: D, ⟨h1, h2⟩, d, hd, hw, hb => by
    cases hd with
    | tail _ hd => exact h2.ok d hd hw hb
    | head =>
      simp only [hw, hb] at h1
      refine ⟨fun n hn => ?_, fun hn => ?_⟩
      · rw [hn] at h1; exact h1
      · rw [hn] at h1
        simp only at h1
        unfold ReadAgain
        cases ho : ops[e.idx]? with
        | none => rw [ho] at h1; exact h1.elim
        | some o => rw [ho] at h1; exact ⟨o, rfl, h1⟩

/-- The same behind a making. -/
def OblA (P : Program) (ops : Array Oper) (H' : AHeap) : List Ent → Prop
  | [] => True
  | d :: D => (match d.wanted with
    | false => True
    | true => match d.blk with
        | some _ => True
        | none => match ops[d.idx]? with
          | some o => evRead P H' (lookT (tmpsOf o) H'.ng d.fr) o.op o.type = some d.val
          | none => False) ∧ OblA P ops H' D

theorem OblA.ok {P : Program} {ops : Array Oper} {H' : AHeap} : ∀ {D : List Ent}, OblA P ops H' D → ∀ d ∈ D, d.wanted = true → d.blk = none → ReadAgain P ops H' d
  | e :: D, ⟨h1, h2⟩, d, hd, hw, hb => by
    cases hd with
    | tail _ hd => exact h2.ok d hd hw hb
    | head =>
      simp only [hw, hb] at h1
      unfold ReadAgain
      cases ho : ops[e.idx]? with
      | none => rw [ho] at h1; exact h1.elim
      | some o => rw [ho] at h1; exact ⟨o, rfl, h1⟩

def evCanO (P : Program) (call : CallF) (ops : Array Oper) (B : Array Nat) : List Nat → List Ent → Fr → AHeap → Option (Prop × List Ent × Fr × AHeap)
  | [], D, F, H => some (True, D, F, H)
  | i :: l, D, F, H =>
    match ops[i]? with
    | none => none
    | some o => match wantedA ops F o with
      | none => none
      | some false => evCanO P call ops B l (⟨i, F, Go.undef, none, false⟩ :: D) (F.put o.dst Go.undef) H
      | some true => match isEffB o.op with
        | false => match evAlloc P (lookT (tmpsOf o) H.ng F) o.op with
          | some (obj, hd) => match evCanO P call ops B l (⟨i, F, hd.val H.next, some H.next, true⟩ :: D) (F.put o.dst (hd.val H.next)) (H.add obj) with
            | some (O, r) => some (OblA P ops (H.add obj) D ∧ O, r)
            | none => none
          | none => match evRead P H (lookT (tmpsOf o) H.ng F) o.op o.type with
            | some v => evCanO P call ops B l (⟨i, F, v, none, true⟩ :: D) (F.put o.dst v) H
            | none => none
        | true => match evAct P call H (lookT (tmpsOf o) H.ng F) o.op with
          | some (v, H') => match evCanO P call ops B l D (F.put o.dst v) H' with
            | some (O, r) => some (Obl P ops B i H H' D ∧ O, r)
            | none => none
          | none => none

theorem evCanO_sound (hc : CallOk P call) {B : Array Nat} {l2 : List Nat} {D' : List Ent} (hq : Can P ops B l2 D' F' H' K) : ∀ (l : List Nat) (D : List Ent) (F : Fr) (H : AHeap) (O : Prop),
    evCanO P call ops B l D F H = some (O, D', F', H') → O → Can P ops B (l ++ l2) D F H K
  | [], D, F, H, O, h, ho => by cases h; exact hq
  | i :: l, D, F, H, O, h, hob => by
    rw [List.cons_append]
    unfold evCanO at h
    unfold Can
    cases ho : ops[i]? with
    | none => simp [ho] at h
    | some o =>
      simp only [ho] at h ⊢
      cases hw : wantedA ops F o with
      | none => simp only [hw] at h; cases h
      | some wn =>
      cases wn with
      | false => simp only [hw] at h ⊢; exact evCanO_sound hc hq l _ _ H O h hob
      | true =>
        simp only [hw] at h ⊢
        cases he : isEffB o.op with
        | false =>
          simp only [he] at h ⊢
          split at h
          · rename_i obj hd hal
            simp only [hal]
            split at h
            · rename_i O' r hrec
              cases h
              exact ⟨hob.1.ok, evCanO_sound hc hq l _ _ _ O' hrec hob.2⟩
            · cases h
          · rename_i hal
            simp only [hal]
            split at h
            · rename_i v hv
              exact ⟨v, hv, evCanO_sound hc hq l _ _ _ O h hob⟩
            · cases h
        | true =>
          simp only [he] at h ⊢
          split at h
          · rename_i v H1 h1
            split at h
            · rename_i O' r hrec
              cases h
              exact evAct_sound hc h1 ⟨hob.1.ok, evCanO_sound hc hq l _ _ _ O' hrec hob.2⟩
            · cases h
          · cases h

/-- A region that draws its order, by a plan. -/
theorem wd_start {id : Nat} (hs : Sound P) {B : Array Nat} {ord : List Nat} (hp : chkPlan ops B ord = true) (hd : dstsIn ops F.size = true) (h : Can P ops B ord [] F H (Q .normal)) : Wp P (.region id ops true) F H Q :=
  Wp.regionDraw hs.mixed hp hd h

theorem wd_ev (hc : NatOk P call) {B : Array Nat} {l : List Nat} {D D' : List Ent} {O : Prop} (n : Nat) (h : evCanO P call ops B (l.take n) D F H = some (O, D', F', H')) (ho : O) (hq : Can P ops B (l.drop n) D' F' H' K) :
    Can P ops B l D F H K := by
  rw [← List.take_append_drop n l]
  exact evCanO_sound hc.ok hq _ _ _ _ _ h ho

theorem wd_end {B : Array Nat} {D : List Ent} (h : K F H) : Can P ops B [] D F H K := h

/-- One operation that reads, its value told. -/
theorem wd_read {B : Array Nat} {D : List Ent} {l l' : List Nat} {i : Nat} (hl : l = i :: l') {o : Oper} {v : Value} (ho : ops[i]? = some o) (hw : wantedA ops F o = some true) (he : isEffB o.op = false)
    (ha : evAlloc P (lookT (tmpsOf o) H.ng F) o.op = none) (hv : evRead P H (lookT (tmpsOf o) H.ng F) o.op o.type = some v) (hq : Can P ops B l' (⟨i, F, v, none, true⟩ :: D) (F.put o.dst v) H K) : Can P ops B l D F H K := by
  rw [hl]
  unfold Can
  simp only [ho, hw, he, ha]
  exact ⟨v, hv, hq⟩

/-- A call, told by its contract. -/
theorem wd_call {B : Array Nat} {D : List Ent} {l l' : List Nat} {i : Nat} (hl : l = i :: l') {o : Oper} {c : Call} {g : FuncId} {args : List Value} (ho : ops[i]? = some o) (hw : wantedA ops F o = some true) (hop : o.op = .call c)
    (he : isEffB o.op = true) (hc : calleeA (lookT (tmpsOf o) H.ng F) c = some (g, args)) (hb : bodied P g = true) {R : Value → AHeap → Prop} (hr : CallsA P g args H R)
    (hq : ∀ v H', R v H' → Obl P ops B i H H' D ∧ Can P ops B l' D (F.put o.dst v) H' K) : Can P ops B l D F H K := by
  rw [hl]
  unfold Can
  simp only [ho, hw, he]
  refine OpV.call hop hc hb (hr.mono fun v H' h => ?_)
  exact ⟨(hq v H' h).1.ok, (hq v H' h).2⟩

end walk

end Go.AH

