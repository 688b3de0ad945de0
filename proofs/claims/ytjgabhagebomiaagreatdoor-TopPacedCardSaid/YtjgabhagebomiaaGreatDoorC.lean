/- A part of the proof: TwA14, TwA15, TwA16, TwA17, TwA18. -/
import Derived.Test.YtjgabhagebomiaaGreatDoorB
import Derived.LoopN
import Derived.Defers
import Derived.Scope
namespace Go.AH
open Go

/-! ## What an operation does, told of abstract values -/

/-- Called with abstract arguments in an abstract heap. -/
def CallsA (P : Program) (f : FuncId) (args : List Value) (H : AHeap) (Q : Value → AHeap → Prop) : Prop :=
  ∀ (φ : Places) (w : World) (args' : Array Value), Rel φ H w → L2 (VR φ) args args'.toList →
    Calls P f args' w fun e w' => ∃ φ' v v' H', Q v H' ∧ e = .returned v' ∧ VR φ' v v' ∧ Rel φ' H' w' ∧ Post φ H w φ' H' w'

theorem CallsA.mono {P : Program} {f : FuncId} {args : List Value} {H : AHeap} {Q Q' : Value → AHeap → Prop} (h : CallsA P f args H Q) (hq : ∀ v H', Q v H' → Q' v H') : CallsA P f args H Q' :=
  fun φ w args' hr ha => (h φ w args' hr ha).mono fun _ _ ⟨φ', v, v', H', q, r⟩ => ⟨φ', v, v', H', hq _ _ q, r⟩

/-- One operation, its operands known as far as ρ goes. -/
def OpV (P : Program) (o : Oper) (ρ : Operand → Option Value) (H : AHeap) (K : Value → AHeap → Prop) : Prop :=
  ∀ (φ : Places) (w : World) (a : Act) (next : Act → World → Prop) (Q : Exit → Act → World → Prop), Rel φ H w → (∀ x v, ρ x = some v → VR φ v (a.eval x)) →
    (∀ φ' v v' H' w', K v H' → VR φ' v v' → Rel φ' H' w' → Post φ H w φ' H' w' → next (a.put o.dst v') w') → o.wp P a w next Q

theorem OpV.read {P : Program} {o : Oper} {ρ : Operand → Option Value} {H : AHeap} {K : Value → AHeap → Prop} {v : Value} (h : evRead P H ρ o.op o.type = some v) (hk : K v H) : OpV P o ρ H K := by
  intro φ w a next Q hr hρ hn
  obtain ⟨v', hrun, hv⟩ := evRead_sound hr hρ h
  unfold Oper.wp
  rw [hrun]
  exact hn φ v v' H w hk hv hr (Post.refl φ H w)

theorem OpV.alloc {P : Program} {o : Oper} {ρ : Operand → Option Value} {H : AHeap} {K : Value → AHeap → Prop} {obj : AObj} {hd : Hand} (h : evAlloc P ρ o.op = some (obj, hd))
    (hk : K (hd.val H.next) (H.add obj)) : OpV P o ρ H K := by
  intro φ w a next Q hr hρ hn
  obtain ⟨p, c, v', w', hrun, hw, ht, hos, hou, hp, ho, hv⟩ := (evAlloc_sound hρ h H.next (P := P) (w := w)).ex
  obtain ⟨h1, h2⟩ := hr.new hw hp ho ht hos hou
  unfold Oper.wp
  rw [hrun]
  exact hn _ _ v' _ w' hk hv h1 h2

theorem OpV.eff {P : Program} {o : Oper} {ρ : Operand → Option Value} {H H' : AHeap} {K : Value → AHeap → Prop} {v : Value} (h : evEff P H ρ o.op = some (v, H')) (hk : K v H') : OpV P o ρ H K := by
  intro φ w a next Q hr hρ hn
  obtain ⟨n, φ', v', w', hrun, hnn, hv, hr', hp'⟩ := (evEff_sound hr hρ h).ex
  unfold Oper.wp
  rw [hrun]
  rcases hnn with rfl | ⟨rfl, rfl⟩
  · exact hn _ _ v' _ w' hk hv hr' hp'
  · exact hn _ _ Go.undef _ w' hk hv hr' hp'

/-- A function that has a body. -/
def bodied (P : Program) (f : FuncId) : Bool :=
  match P.funcs[f]? with
  | some fn => fn.body.isSome && !(fn.name == "runtime.NumGoroutine")
  | none => false

theorem callFunc_run {P : Program} {f : FuncId} (h : bodied P f = true) (args : Array Value) (w : World) : (callFunc f args).run P w = .ok (.enter f args) w := by
  unfold bodied at h
  split at h
  · rename_i fn hf
    simp only [Bool.and_eq_true, Bool.not_eq_true'] at h
    have h1 : fn.body ≠ none := fun hb => by rw [hb] at h; exact absurd h.1 (by simp)
    have h2 : fn.name ≠ "runtime.NumGoroutine" := fun hn => by rw [hn] at h; exact absurd h.2 (by simp)
    simp [callFunc, hf, h2, h1]
  · cases h

/-- A call's function and all that it is handed. -/
def calleeA (ρ : Operand → Option Value) (c : Call) : Option (FuncId × List Value) :=
  match c.callee, lookAll ρ c.args.toList with
  | .value f, some args => match ρ f with
    | some (.func (.func g) first captured) => some (g, first.toList ++ args ++ captured.toList)
    | _ => none
  | _, _ => none

theorem OpV.call {P : Program} {o : Oper} {c : Call} (ho : o.op = .call c) {ρ : Operand → Option Value} {H : AHeap} {K : Value → AHeap → Prop} {g : FuncId} {args : List Value}
    (hc : calleeA ρ c = some (g, args)) (hb : bodied P g = true) (h : CallsA P g args H K) : OpV P o ρ H K := by
  intro φ w a next Q hr hρ hn
  unfold calleeA at hc
  split at hc
  · rename_i f as hcal hargs
    split at hc
    · rename_i g' first captured hf
      cases hc
      have h1 := lookAll_sound hρ hargs
      have h2 := hρ _ _ hf
      generalize hfe : a.eval f = f' at h2
      cases h2 with | func _ _ first' _ captured' hs1 hs2 hh1 hh2 =>
      have hrun : (execOp a.eval o).run P w = .ok (.enter g (first' ++ c.args.map a.eval ++ captured')) w := by
        simp [execOp, ho, resolve, hcal, hfe, Deferred.ofValue, invoke, callFunc_run hb]
      unfold Oper.wp
      rw [hrun]
      have hl2 : L2 (VR φ) (first.toList ++ as ++ captured.toList) (first' ++ c.args.map a.eval ++ captured').toList := by
        rw [Array.toList_append, Array.toList_append, Array.toList_map]
        exact (L2.append (.of_get (by simpa using hs1) (by simpa using hh1)) h1).append (.of_get (by simpa using hs2) (by simpa using hh2))
      refine (h φ w _ hr hl2).mono ?_
      rintro e w' ⟨φ', v, v', H', hK, rfl, hv, hr', hp'⟩
      exact hn φ' v v' H' w' hK hv hr' hp'
    · cases hc
  · cases hc

/-! ## Regions whose order is fixed -/

def yieldedA (ops : Array Oper) (F : Fr) (j : Nat) : Option Bool :=
  match ops[j]? with
  | some o => match o.dst with
    | some d => match F.get d with
      | .bool b => some b
      | _ => none
    | none => none
  | none => none

/-- Is it known what an operation yielded? -/
def knownA (ops : Array Oper) (F : Fr) (j : Nat) : Bool :=
  match ops[j]? with
  | some o => match o.dst with
    | some d => !isTop (F.get d)
    | none => true
  | none => true

theorem yieldedA_eq {φ : Places} {F : Fr} {a : Act} (hf : FRel φ F a) (ops : Array Oper) (j : Nat) (hk : knownA ops F j = true) : yielded ops a.tmps j = yieldedA ops F j := by
  unfold knownA at hk
  unfold yielded yieldedA
  cases ho : ops[j]? with
  | none => rfl
  | some o =>
    cases hd : o.dst with
    | none => simp [hd]
    | some d =>
      simp only [Option.bind_some, hd]
      simp only [ho, hd, Bool.not_eq_true'] at hk
      have := (hf.get d).known hk
      rw [Array.getD_eq_getD_getElem?] at this
      cases ht : a.tmps[d]? with
      | none =>
        rw [ht] at this
        simp only [Option.getD_none] at this
        generalize hg : F.get d = u at this
        cases u <;> first | rfl | cases this
      | some v =>
        rw [ht] at this
        simp only [Option.getD_some] at this
        generalize hg : F.get d = u at this
        cases this <;> rfl

/-- Is an operation wanted? (none: that is not known.) -/
def wantedA (ops : Array Oper) (F : Fr) (o : Oper) : Option Bool :=
  match o.guard with
  | none => some true
  | some (j, want) => match knownA ops F j with
    | false => none
    | true => some (match yieldedA ops F j, want with
      | some true, true => true
      | some false, false => true
      | _, _ => false)

theorem wantedA_eq {φ : Places} {F : Fr} {a : Act} (hf : FRel φ F a) (ops : Array Oper) (o : Oper) {r : Bool} (h : wantedA ops F o = some r) : Region.wanted o (yielded ops a.tmps) = r := by
  unfold wantedA at h
  unfold Region.wanted
  cases hg : o.guard with
  | none => rw [hg] at h; cases h; rfl
  | some jw =>
    obtain ⟨j, want⟩ := jw
    rw [hg] at h
    simp only at h ⊢
    split at h
    · cases h
    · rename_i hk
      simp only [yieldedA_eq hf ops j hk]
      cases h
      cases yieldedA ops F j with
      | none => cases want <;> rfl
      | some b => cases b <;> cases want <;> rfl

def OpsOk (P : Program) (ops : Array Oper) : List Nat → Fr → AHeap → (Fr → AHeap → Prop) → Prop
  | [], F, H, K => K F H
  | i :: l, F, H, K =>
    match ops[i]? with
    | none => OpsOk P ops l F H K
    | some o => match wantedA ops F o with
      | none => False
      | some false => OpsOk P ops l (F.put o.dst Go.undef) H K
      | some true => match o.op with
        | .defer c => match calleeA (look H.ng F) c with
          | some x => OpsOk P ops l (({ F with ds := x :: F.ds } : Fr).put o.dst Go.undef) H K
          | none => False
        | _ => OpV P o (look H.ng F) H fun v H' => OpsOk P ops l (F.put o.dst v) H' K

/-- A call that is put off. -/
theorem defer_run {P : Program} {φ : Places} {o : Oper} {c : Call} (ho : o.op = .defer c) {ρ : Operand → Option Value} {a : Act} (hρ : ∀ x v, ρ x = some v → VR φ v (a.eval x)) {x : FuncId × List Value}
    (hc : calleeA ρ c = some x) (w : World) : ∃ d, (execOp a.eval o).run P w = .ok (.defer d) w ∧ DRel φ x d := by
  unfold calleeA at hc
  split at hc
  · rename_i f as hcal hargs
    split at hc
    · rename_i g' first captured hf
      cases hc
      have h1 := lookAll_sound hρ hargs
      have h2 := hρ _ _ hf
      generalize hfe : a.eval f = f' at h2
      cases h2 with | func _ _ first' _ captured' hs1 hs2 hh1 hh2 =>
      refine ⟨{ target := .fn (.func g') captured', args := first' ++ c.args.map a.eval }, by simp [execOp, ho, resolve, hcal, hfe, Deferred.ofValue], captured', rfl, ?_⟩
      rw [Array.toList_append, Array.toList_append, Array.toList_map]
      exact L2.vrs ((L2.append (.of_get (by simpa using hs1) (by simpa using hh1)) h1).append (.of_get (by simpa using hs2) (by simpa using hh2)))
    · cases hc
  · cases hc

theorem OpsOk.sound {P : Program} {ops : Array Oper} {Q : Exit → Act → World → Prop} : ∀ (l : List Nat) (F : Fr) (H : AHeap) (K : Fr → AHeap → Prop), OpsOk P ops l F H K →
    ∀ (φ : Places) (w : World) (a : Act), Rel φ H w → FRel φ F a →
    (∀ φ' F' H' a' w', K F' H' → FRel φ' F' a' → Rel φ' H' w' → Post φ H w φ' H' w' → Q .normal a' w') → wpOps P ops Q l a w
  | [], F, H, K, h, φ, w, a, hr, hf, hq => hq φ F H a w h hf hr (Post.refl φ H w)
  | i :: l, F, H, K, h, φ, w, a, hr, hf, hq => by
    unfold OpsOk at h
    unfold wpOps
    cases ho : ops[i]? with
    | none => simp only [ho] at h ⊢; exact OpsOk.sound l F H K h φ w a hr hf hq
    | some o =>
      simp only [ho] at h ⊢
      cases hw : wantedA ops F o with
      | none => simp only [hw] at h
      | some r =>
      rw [wantedA_eq hf ops o hw]
      cases r with
      | false =>
        simp only [hw] at h
        simp only [Bool.false_eq_true, if_false]
        exact OpsOk.sound l _ H K h φ w _ hr (hf.put o.dst .undef) hq
      | true =>
        simp only [hw] at h
        simp only [if_true]
        split at h
        · rename_i c hop
          split at h
          · rename_i x hx
            obtain ⟨d, hrun, hd⟩ := defer_run (P := P) hop (fun x v hx => look_sound hr.glob hf hx) hx w
            refine .inl ?_
            unfold Oper.wp
            rw [hrun]
            have hf' : FRel φ { F with ds := x :: F.ds } { a with defers := d :: a.defers } := ⟨.cons hd hf.defers, hf.size, hf.get⟩
            exact OpsOk.sound l _ H K h φ w _ hr (hf'.put o.dst .undef) hq
          · exact h.elim
        · refine .inl (h φ w a _ Q hr (fun x v hx => look_sound hr.glob hf hx) ?_)
          intro φ' v v' H' w' hk hv hr' hp'
          exact OpsOk.sound l _ H' K hk φ' w' _ hr' ((hf.mono (hp'.le hr)).put o.dst hv) (fun φ'' F' H'' a' w'' k f r p => hq φ'' F' H'' a' w'' k f r (hp'.trans p))

end Go.AH

namespace Go.AH
open Go

/-! ## Regions that draw their order -/

def tmpsOf (o : Oper) : List Tmp := o.op.operands.toList.filterMap fun | .tmp t => some t | _ => none

/-- The operands of one operation alone. -/
def lookT (ts : List Tmp) (ng : Nat) (F : Fr) : Operand → Option Value
  | .tmp t => match ts.contains t with | true => (match isTop (F.get t) with | true => none | false => some (F.get t)) | false => none
  | x => look ng F x

theorem lookT_congr {ts : List Tmp} {ng : Nat} {F F' : Fr} (h : ∀ t ∈ ts, F.get t = F'.get t) : lookT ts ng F = lookT ts ng F' := by
  funext x
  cases x with
  | tmp t =>
    simp only [lookT]
    split
    · rename_i hc; rw [h t (by simpa using hc)]
    · rfl
  | const => rfl
  | global => rfl
  | func => rfl

theorem lookT_sound {ts : List Tmp} {ng : Nat} {φ : Places} {F : Fr} {a : Act} (hg : GOk ng φ) (hf : ∀ t ∈ ts, VO φ (F.get t) (a.tmps.getD t Go.undef)) {x : Operand} {v : Value} (h : lookT ts ng F x = some v) :
    VR φ v (a.eval x) := by
  cases x with
  | tmp t =>
    simp only [lookT] at h
    split at h
    · rename_i hc
      split at h
      · cases h
      · rename_i ht; cases h; exact (hf t (by simpa using hc)).known ht
    · cases h
  | const c =>
    simp only [lookT, look] at h
    split at h
    · cases h; exact .of_flat ‹_›
    · cases h
  | global g =>
    simp only [lookT, look] at h
    split at h
    · cases h
      rename_i hb
      obtain ⟨p, hp, hb', hs⟩ := hg g (Nat.le_of_ble_eq_true hb)
      have := VR.ptr (φ := φ) g 0 p hp
      rw [hb', hs] at this
      exact this
    · cases h
  | func f => cases h; exact .func _ _ _ _ _ rfl rfl (by simp) (by simp)

def isEffB (op : Op) : Bool :=
  match op with
  | .store .. | .mapUpdate .. | .insert .. | .range .. | .next .. => true
  | .call c => match c.callee with
    | .builtin .append | .builtin .copy | .builtin .delete | .builtin .unsafeString => true
    | .builtin _ => false
    | _ => true
  | _ => false

structure Ent where
  idx : Nat
  fr : Fr
  val : Value
  blk : Option Nat
  wanted : Bool

def inB (B : Array Nat) (i p : Nat) : Bool := (B.getD i 0).testBit p

def ReadAgain (P : Program) (ops : Array Oper) (H : AHeap) (d : Ent) : Prop :=
  ∃ o, ops[d.idx]? = some o ∧ evRead P H (lookT (tmpsOf o) H.ng d.fr) o.op o.type = some d.val

def Can (P : Program) (ops : Array Oper) (B : Array Nat) : List Nat → List Ent → Fr → AHeap → (Fr → AHeap → Prop) → Prop
  | [], _, F, H, K => K F H
  | i :: l, D, F, H, K =>
    match ops[i]? with
    | none => False
    | some o => match wantedA ops F o with
      | none => False
      | some false => Can P ops B l (⟨i, F, Go.undef, none, false⟩ :: D) (F.put o.dst Go.undef) H K
      | some true => match isEffB o.op with
        | false => match evAlloc P (lookT (tmpsOf o) H.ng F) o.op with
          | some (obj, hd) => (∀ d ∈ D, d.wanted = true → d.blk = none → ReadAgain P ops (H.add obj) d) ∧
              Can P ops B l (⟨i, F, hd.val H.next, some H.next, true⟩ :: D) (F.put o.dst (hd.val H.next)) (H.add obj) K
          | none => ∃ v, evRead P H (lookT (tmpsOf o) H.ng F) o.op o.type = some v ∧ Can P ops B l (⟨i, F, v, none, true⟩ :: D) (F.put o.dst v) H K
        | true => OpV P o (lookT (tmpsOf o) H.ng F) H fun v H' =>
            (∀ d ∈ D, d.wanted = true → inB B i d.idx = false → (∀ n, d.blk = some n → H'.get n = H.get n) ∧ (d.blk = none → ReadAgain P ops H' d)) ∧
            Can P ops B l D (F.put o.dst v) H' K

structure PlanOk (ops : Array Oper) (B : Array Nat) (ord : List Nat) : Prop where
  perm : ∀ i, i < ops.size → i ∈ ord
  bound : ∀ i ∈ ord, i < ops.size
  nodup : ord.Nodup
  edge : ∀ i o, ops[i]? = some o → ∀ e ∈ o.after.toList, Region.binds .any e = true → e.on < i
  clos : ∀ i o p, ops[i]? = some o → p < ops.size → inB B i p = true → ∃ e ∈ o.after.toList, Region.binds .any e = true ∧ (e.on = p ∨ inB B e.on p = true)
  uniq : ∀ (i j : Nat) (o o' : Oper) (t : Tmp), ops[i]? = some o → ops[j]? = some o' → o.dst = some t → o'.dst = some t → i = j
  pre : ∀ cd i rest, ord = cd ++ i :: rest → ∀ o, ops[i]? = some o →
    (∀ p, p < ops.size → inB B i p = true → p ∈ cd) ∧ (∀ p ∈ cd, ∀ o', ops[p]? = some o' → isEffB o'.op = true → inB B i p = true) ∧
    (∀ t ∈ o.looksAt ops, ∀ p o', ops[p]? = some o' → o'.dst = some t → inB B i p = true ∨ (inB B p i = true ∧ p ∉ cd ∧ p ≠ i))

theorem tmpsOf_sub {ops : Array Oper} {o : Oper} {t : Tmp} (h : t ∈ tmpsOf o) : t ∈ o.looksAt ops := List.mem_append_left _ h

theorem wantedA_congr {ops : Array Oper} {F F' : Fr} {o : Oper} (h : ∀ t ∈ o.looksAt ops, F.get t = F'.get t) : wantedA ops F o = wantedA ops F' o := by
  unfold wantedA
  cases hg : o.guard with
  | none => rfl
  | some jw =>
    obtain ⟨j, want⟩ := jw
    have : yieldedA ops F j = yieldedA ops F' j := by
      unfold yieldedA
      cases hj : ops[j]? with
      | none => rfl
      | some oj =>
        cases hd : oj.dst with
        | none => simp [hd]
        | some d =>
          simp only [hd]
          rw [h d (by
            unfold Oper.looksAt
            refine List.mem_append_right _ ?_
            simp [hg, hj, hd])]
    have hk : knownA ops F j = knownA ops F' j := by
      unfold knownA
      cases hj : ops[j]? with
      | none => rfl
      | some oj =>
        cases hd : oj.dst with
        | none => simp [hd]
        | some d =>
          simp only [hd]
          rw [h d (by
            unfold Oper.looksAt
            refine List.mem_append_right _ ?_
            simp [hg, hj, hd])]
    simp only [this, hk]

/-- Where a region stands: which operations are done, which are reckoned. -/
structure Stand (P : Program) (ops : Array Oper) (B : Array Nat) (ord : List Nat) (F₀ : Fr) (H₀ : AHeap) (φ₀ : Places) (w₀ : World) (K : Fr → AHeap → Prop) (lst : Nat → Bool) (φ : Places) (a : Act) (w : World)
    (cd rest : List Nat) (D : List Ent) (F : Fr) (H : AHeap) : Prop where
  split : ord = cd ++ rest
  can : Can P ops B rest D F H K
  rel : Rel φ H w
  post : Post φ₀ H₀ w₀ φ H w
  sub : ∀ i, lst i = true → i ∈ cd
  cov : ∀ i ∈ cd, lst i = false → ∃ d ∈ D, d.idx = i
  defers : DsRel φ F₀.ds a.defers
  ds : F.ds = F₀.ds
  size : a.tmps.size = F.size
  fsize : F.size = F₀.size
  tmp : ∀ t, (∀ p o, lst p = true → ops[p]? = some o → o.dst = some t → VO φ (F.get t) (a.tmps.getD t Go.undef)) ∧
    ((∀ p o, lst p = true → ops[p]? = some o → o.dst ≠ some t) → VO φ (F₀.get t) (a.tmps.getD t Go.undef))
  blks : ∀ d ∈ D, ∀ n, d.blk = some n → n < H.next
  dis : ∀ d ∈ D, ∀ d' ∈ D, ∀ n, d.blk = some n → d'.blk = some n → d.idx = d'.idx
  idx : ∀ d ∈ D, d.idx ∈ cd
  init : ∀ t, (∀ p ∈ cd, ∀ o, ops[p]? = some o → o.dst ≠ some t) → F.get t = F₀.get t
  ent : ∀ d ∈ D, lst d.idx = false → d.idx ∈ cd ∧ ∃ o, ops[d.idx]? = some o ∧ (∀ t, o.dst = some t → F.get t = d.val) ∧
    (∀ t ∈ o.looksAt ops, (∃ p o', ops[p]? = some o' ∧ o'.dst = some t ∧ inB B d.idx p = true ∧ p ∈ cd ∧ d.fr.get t = F.get t) ∨
      ((∀ p o', ops[p]? = some o' → o'.dst = some t → inB B p d.idx = true) ∧ d.fr.get t = F₀.get t)) ∧
    wantedA ops d.fr o = some d.wanted ∧ (d.wanted = false → d.val = Go.undef) ∧
    (d.wanted = true → d.blk = none → ReadAgain P ops H d) ∧
    (∀ n, d.wanted = true → d.blk = some n → ∃ obj hd, evAlloc P (lookT (tmpsOf o) H.ng d.fr) o.op = some (obj, hd) ∧ d.val = hd.val n ∧ H.get n = some obj ∧ φ n = none ∧ H₀.next ≤ n ∧ n < H.next)

section
variable {P : Program} {ops : Array Oper} {B : Array Nat} {ord : List Nat} {F₀ : Fr} {H₀ : AHeap} {φ₀ : Places} {w₀ : World} {K : Fr → AHeap → Prop} {lst : Nat → Bool} {φ : Places} {a : Act} {w : World}
  {cd rest : List Nat} {D : List Ent} {F : Fr} {H : AHeap}

/-- The reckoning's head: an operation that acts, or none is left. -/
def AtEff (ops : Array Oper) (F : Fr) (rest : List Nat) : Prop :=
  rest = [] ∨ ∃ i l o, rest = i :: l ∧ ops[i]? = some o ∧ wantedA ops F o = some true ∧ isEffB o.op = true

theorem Post.ghost {φ₀ φ : Places} {H₀ H : AHeap} {w₀ w : World} (h : Post φ₀ H₀ w₀ φ H w) (hn : φ H.next = none) (o : AObj) : Post φ₀ H₀ w₀ φ (H.add o) w := {
  ext := h.ext
  nx := by have := h.nx; simp; omega
  ng := h.ng
  size := h.size
  unch := h.unch
  own r hr ho := by
    obtain ⟨b, x, q, hb, hx, hq, he⟩ := ho
    rw [AHeap.get_add] at hb
    split at hb
    · rename_i e; rw [e, hn] at hq; cases hq
    · exact h.own r hr ⟨b, x, q, hb, hx, hq, he⟩
  tape := h.tape
  os := h.os
  output := h.output }

/-- What the next operation's entry owes of its frame. -/
theorem looks_fit {i : Nat} (hpl : PlanOk ops B ord) (hs : Stand P ops B ord F₀ H₀ φ₀ w₀ K lst φ a w cd (i :: rest) D F H) {o : Oper} (ho : ops[i]? = some o) :
    ∀ t ∈ o.looksAt ops, (∃ p o', ops[p]? = some o' ∧ o'.dst = some t ∧ inB B i p = true ∧ p ∈ cd) ∨
      ((∀ p o', ops[p]? = some o' → o'.dst = some t → inB B p i = true) ∧ F.get t = F₀.get t) := by
  intro t ht
  obtain ⟨h1, _, h3⟩ := hpl.pre cd i rest hs.split o ho
  by_cases hex : ∃ p o', ops[p]? = some o' ∧ o'.dst = some t ∧ inB B i p = true
  · obtain ⟨p, o', hp, hd, hb⟩ := hex
    have hlt : p < ops.size := (Array.getElem?_eq_some_iff.1 hp).1
    exact .inl ⟨p, o', hp, hd, hb, h1 p hlt hb⟩
  · refine .inr ⟨fun p o' hp hd => ?_, hs.init t fun p hp o' hop hd => ?_⟩
    · rcases h3 t ht p o' hp hd with h | h
      · exact absurd ⟨p, o', hp, hd, h⟩ hex
      · exact h.1
    · rcases h3 t ht p o' hop hd with h | h
      · exact hex ⟨p, o', hop, hd, h⟩
      · exact h.2.1 hp

theorem Fr.get_put_other {F : Fr} {dst : Option Tmp} {v : Value} {t : Nat} (h : dst ≠ some t) : (F.put dst v).get t = F.get t := by
  cases dst with
  | none => rfl
  | some d =>
    rw [Fr.get_put, if_neg (fun hh => h (by rw [hh.1]))]

theorem Fr.get_put_same {F : Fr} {d : Tmp} {v : Value} (h : d < F.size) : (F.put (some d) v).get d = v := by
  rw [Fr.get_put, if_pos ⟨rfl, h⟩]


theorem Stand.fresh {i : Nat} (hpl : PlanOk ops B ord) (hs : Stand P ops B ord F₀ H₀ φ₀ w₀ K lst φ a w cd (i :: rest) D F H) : i ∉ cd := by
  have := hpl.nodup
  rw [hs.split, List.nodup_append] at this
  intro hi
  exact this.2.2 i hi i (.head _) rfl

/-- One more operation reckoned, which acts not. -/
theorem Stand.extend {i : Nat} (hpl : PlanOk ops B ord) (hdst : ∀ (i : Nat) (o : Oper) (t : Tmp), ops[i]? = some o → o.dst = some t → t < F₀.size)
    (hs : Stand P ops B ord F₀ H₀ φ₀ w₀ K lst φ a w cd (i :: rest) D F H) {o : Oper} (ho : ops[i]? = some o) {v : Value} {blk : Option Nat} {H₂ : AHeap} {wn : Bool} (hwn : wantedA ops F o = some wn)
    (hcan : Can P ops B rest (⟨i, F, v, blk, wn⟩ :: D) (F.put o.dst v) H₂ K) (hrel : Rel φ H₂ w) (hpost : Post φ₀ H₀ w₀ φ H₂ w) (hng : H₂.ng = H.ng) (hnx : H.next ≤ H₂.next)
    (hget : ∀ n, n < H.next → H₂.get n = H.get n) (hre : ∀ d ∈ D, lst d.idx = false → d.wanted = true → d.blk = none → ReadAgain P ops H₂ d)
    (hu : wn = false → v = Go.undef) (hread : wn = true → blk = none → ReadAgain P ops H₂ ⟨i, F, v, blk, wn⟩)
    (hblk : ∀ n, blk = some n → n = H.next ∧ n < H₂.next)
    (hall : ∀ n, wn = true → blk = some n → ∃ obj hd, evAlloc P (lookT (tmpsOf o) H₂.ng F) o.op = some (obj, hd) ∧ v = hd.val n ∧ H₂.get n = some obj) :
    Stand P ops B ord F₀ H₀ φ₀ w₀ K lst φ a w (cd ++ [i]) rest (⟨i, F, v, blk, wn⟩ :: D) (F.put o.dst v) H₂ := by
  have hi := hs.fresh hpl
  have hdi : ∀ t, o.dst = some t → ∀ p o', p ∈ cd → ops[p]? = some o' → o'.dst ≠ some t := fun t hd p o' hp hop hd' => hi ((hpl.uniq i p o o' t ho hop hd hd') ▸ hp)
  have hother : ∀ t p o', p ∈ cd → ops[p]? = some o' → o'.dst = some t → (F.put o.dst v).get t = F.get t := fun t p o' hp hop hd => Fr.get_put_other fun hh => hdi t hh p o' hp hop hd
  constructor
  · rw [hs.split]; simp
  · exact hcan
  · exact hrel
  · exact hpost
  · intro j hj; exact List.mem_append_left _ (hs.sub j hj)
  · intro j hj hl
    rcases List.mem_append.1 hj with h | h
    · obtain ⟨d, hd, he⟩ := hs.cov j h hl; exact ⟨d, .tail _ hd, he⟩
    · simp at h; subst h; exact ⟨_, .head _, rfl⟩
  · exact hs.defers
  · simpa using hs.ds
  · simpa using hs.size
  · simpa using hs.fsize
  · intro t
    refine ⟨fun p o' hp hop hd => ?_, (hs.tmp t).2⟩
    rw [hother t p o' (hs.sub p hp) hop hd]
    exact (hs.tmp t).1 p o' hp hop hd
  · intro d hd n hn
    cases hd with
    | head => exact (hblk n hn).2
    | tail _ hd => have := hs.blks d hd n hn; omega
  · intro d hd d' hd' n hn hn'
    cases hd with
    | head => cases hd' with
      | head => rfl
      | tail _ hd' => have := hs.blks d' hd' n hn'; have := (hblk n hn).1; omega
    | tail _ hd => cases hd' with
      | head => have := hs.blks d hd n hn; have := (hblk n hn').1; omega
      | tail _ hd' => exact hs.dis d hd d' hd' n hn hn'
  · intro d hd
    cases hd with
    | head => exact List.mem_append_right _ (.head _)
    | tail _ hd => exact List.mem_append_left _ (hs.idx d hd)
  · intro t ht
    have h1 : o.dst ≠ some t := ht i (List.mem_append_right _ (.head _)) o ho
    rw [Fr.get_put_other h1]
    exact hs.init t fun p hp => ht p (List.mem_append_left _ hp)
  · intro d hd hl
    cases hd with
    | head =>
      refine ⟨List.mem_append_right _ (.head _), o, ho, fun t ht => ?_, fun t ht => ?_, hwn, hu, hread, fun n hw hn => ?_⟩
      · rw [ht, Fr.get_put_same (by rw [hs.fsize]; exact hdst i o t ho ht)]
      · rcases looks_fit hpl hs ho t ht with ⟨p, o', hp, hd, hb, hc⟩ | ⟨h1, h2⟩
        · exact .inl ⟨p, o', hp, hd, hb, List.mem_append_left _ hc, (hother t p o' hc hp hd).symm⟩
        · exact .inr ⟨h1, h2⟩
      · obtain ⟨obj, hd, h1, h2, h3⟩ := hall n hw hn
        obtain ⟨h4, h5⟩ := hblk n hn
        exact ⟨obj, hd, h1, h2, h3, by rw [h4]; exact hs.rel.fresh _ (Nat.le_refl _), by rw [h4]; exact hs.post.nx, h5⟩
    | tail _ hd =>
      obtain ⟨hc, o', ho', h1, h2, h3, h4, h5, h6⟩ := hs.ent d hd hl
      refine ⟨List.mem_append_left _ hc, o', ho', fun t ht => ?_, fun t ht => ?_, h3, h4, hre d hd hl, fun n hw hn => ?_⟩
      · rw [hother t d.idx o' hc ho' ht]; exact h1 t ht
      · rcases h2 t ht with ⟨p, o2, hp, hd2, hb, hpc, he⟩ | h
        · exact .inl ⟨p, o2, hp, hd2, hb, List.mem_append_left _ hpc, by rw [he, hother t p o2 hpc hp hd2]⟩
        · exact .inr h
      · obtain ⟨obj, hdd, g1, g2, g3, g4, g5, g6⟩ := h6 n hw hn
        exact ⟨obj, hdd, by rw [hng]; exact g1, g2, by rw [hget n g6]; exact g3, g4, g5, by omega⟩

/-- Reckoning goes on till an operation that acts. -/
theorem Stand.advance (hpl : PlanOk ops B ord) (hdst : ∀ (i : Nat) (o : Oper) (t : Tmp), ops[i]? = some o → o.dst = some t → t < F₀.size) : ∀ (rest cd : List Nat) (D : List Ent) (F : Fr) (H : AHeap),
    Stand P ops B ord F₀ H₀ φ₀ w₀ K lst φ a w cd rest D F H → ∃ cd' rest' D' F' H', Stand P ops B ord F₀ H₀ φ₀ w₀ K lst φ a w cd' rest' D' F' H' ∧ AtEff ops F' rest'
  | [], cd, D, F, H, hs => ⟨cd, [], D, F, H, hs, .inl rfl⟩
  | i :: rest, cd, D, F, H, hs => by
    have hcan := hs.can
    unfold Can at hcan
    cases ho : ops[i]? with
    | none => simp [ho] at hcan
    | some o =>
      simp only [ho] at hcan
      cases hw : wantedA ops F o with
      | none => simp only [hw] at hcan
      | some wn =>
      cases wn with
      | false =>
        simp only [hw] at hcan
        refine advance hpl hdst rest _ _ _ _ (hs.extend hpl hdst ho (v := Go.undef) (blk := none) (H₂ := H) hw hcan hs.rel hs.post rfl (Nat.le_refl _) (fun _ _ => rfl) ?_ (fun _ => rfl) ?_ (by simp) (by simp))
        · intro d hd hl hwd hb; exact (hs.ent d hd hl).2.choose_spec.2.2.2.2.2.1 hwd hb
        · intro h; cases h
      | true =>
        simp only [hw] at hcan
        cases he : isEffB o.op with
        | true => exact ⟨cd, i :: rest, D, F, H, hs, .inr ⟨i, rest, o, rfl, ho, hw, he⟩⟩
        | false =>
          simp only [he] at hcan
          cases hal : evAlloc P (lookT (tmpsOf o) H.ng F) o.op with
          | some oh =>
            obtain ⟨obj, hd⟩ := oh
            simp only [hal] at hcan
            have hfr := hs.rel.fresh H.next (Nat.le_refl _)
            refine advance hpl hdst rest _ _ _ _ (hs.extend hpl hdst ho (v := hd.val H.next) (blk := some H.next) (H₂ := H.add obj) hw hcan.2 (hs.rel.ghost obj) (hs.post.ghost hfr obj) rfl (by simp)
              (fun n hn => by rw [AHeap.get_add, if_neg (by omega)]) (fun d hd _ hwd hb => hcan.1 d hd hwd hb) ?_ (by simp) (by simp) ?_)
            · intro h; cases h
            · intro n _ hn; cases hn; exact ⟨obj, hd, hal, rfl, by rw [AHeap.get_add, if_pos rfl]⟩
          | none =>
            simp only [hal] at hcan
            obtain ⟨v, hv, hcan⟩ := hcan
            refine advance hpl hdst rest _ _ _ _ (hs.extend hpl hdst ho (v := v) (blk := none) (H₂ := H) hw hcan hs.rel hs.post rfl (Nat.le_refl _) (fun _ _ => rfl) ?_ ?_ ?_ (by simp) (by simp))
            · intro d hd hl hwd hb; exact (hs.ent d hd hl).2.choose_spec.2.2.2.2.2.1 hwd hb
            · intro h; cases h
            · intro _ _; exact ⟨o, ho, hv⟩

end

end Go.AH

namespace Go.AH
open Go

theorem yieldedA_eq' {φ : Places} {F : Fr} {a : Act} {ops : Array Oper} {j : Nat} (hk : knownA ops F j = true) (hf : ∀ oj d, ops[j]? = some oj → oj.dst = some d → VO φ (F.get d) (a.tmps.getD d Go.undef)) :
    yielded ops a.tmps j = yieldedA ops F j := by
  unfold knownA at hk
  unfold yielded yieldedA
  cases ho : ops[j]? with
  | none => rfl
  | some o =>
    cases hd : o.dst with
    | none => simp [hd]
    | some d =>
      simp only [Option.bind_some, hd]
      simp only [ho, hd, Bool.not_eq_true'] at hk
      have := (hf o d ho hd).known hk
      rw [Array.getD_eq_getD_getElem?] at this
      cases ht : a.tmps[d]? with
      | none =>
        rw [ht] at this
        simp only [Option.getD_none] at this
        generalize hg : F.get d = u at this
        cases u <;> first | rfl | cases this
      | some v =>
        rw [ht] at this
        simp only [Option.getD_some] at this
        generalize hg : F.get d = u at this
        cases this <;> rfl

theorem wantedA_eq' {φ : Places} {F : Fr} {a : Act} {ops : Array Oper} {o : Oper} (hf : ∀ t ∈ o.looksAt ops, VO φ (F.get t) (a.tmps.getD t Go.undef)) {r : Bool} (h : wantedA ops F o = some r) :
    Region.wanted o (yielded ops a.tmps) = r := by
  unfold wantedA at h
  unfold Region.wanted
  cases hg : o.guard with
  | none => rw [hg] at h; cases h; rfl
  | some jw =>
    obtain ⟨j, want⟩ := jw
    rw [hg] at h
    simp only at h ⊢
    split at h
    · cases h
    · rename_i hk
      have hy : yielded ops a.tmps j = yieldedA ops F j := yieldedA_eq' hk fun oj d hj hd => hf d (by
        unfold Oper.looksAt
        refine List.mem_append_right _ ?_
        simp [hg, hj, hd])
      simp only [hy]
      cases h
      cases yieldedA ops F j with
      | none => cases want <;> rfl
      | some b => cases b <;> cases want <;> rfl

section
variable {P : Program} {ops : Array Oper} {B : Array Nat} {ord : List Nat} {F₀ : Fr} {H₀ : AHeap} {φ₀ : Places} {w₀ : World} {K : Fr → AHeap → Prop} {lst : Nat → Bool} {φ : Places} {a : Act} {w : World}
  {cd rest : List Nat} {D : List Ent} {F : Fr} {H : AHeap}

/-- All that must stand before what is done, is done. -/
theorem closed_pre (hpl : PlanOk ops B ord) (hdown : ∀ j o, ops[j]? = some o → lst j = true → ∀ e ∈ o.after.toList, Region.binds .any e = true → lst e.on = true) :
    ∀ (i : Nat) (o : Oper), ops[i]? = some o → (∀ e ∈ o.after.toList, Region.binds .any e = true → lst e.on = true) → ∀ p, p < ops.size → inB B i p = true → lst p = true := by
  intro i
  induction i using Nat.strongRecOn with
  | _ i ih =>
    intro o ho hi p hp hb
    obtain ⟨e, he, hbe, hor⟩ := hpl.clos i o p ho hp hb
    rcases hor with rfl | hor
    · exact hi e he hbe
    · have hlt := hpl.edge i o ho e he hbe
      have hsz : e.on < ops.size := by have := (Array.getElem?_eq_some_iff.1 ho).1; omega
      have hoe : ops[e.on]? = some ops[e.on] := Array.getElem?_eq_getElem hsz
      exact ih e.on hlt _ hoe (hdown e.on _ hoe (hi e he hbe)) p hp hor

def mark (lst : Nat → Bool) (i : Nat) : Nat → Bool := fun x => if x = i then true else lst x

/-- An operation that is reckoned, done. -/
theorem Stand.done {i : Nat} {d : Ent} (hpl : PlanOk ops B ord) (hdst : ∀ (i : Nat) (o : Oper) (t : Tmp), ops[i]? = some o → o.dst = some t → t < F₀.size) (hs : Stand P ops B ord F₀ H₀ φ₀ w₀ K lst φ a w cd rest D F H) (hd : d ∈ D) (hdi : d.idx = i) (hl : lst i = false) {o : Oper} (ho : ops[i]? = some o)
    {φ' : Places} {w' : World} {v' : Value} (hle : Le φ φ') (hv : VR φ' d.val v') (hrel : Rel φ' H w') (hpost : Post φ₀ H₀ w₀ φ' H w') (hnone : ∀ n, φ n = none → d.blk ≠ some n → φ' n = none) :
    Stand P ops B ord F₀ H₀ φ₀ w₀ K (mark lst i) φ' (a.put o.dst v') w' cd rest D F H := by
  obtain ⟨hc, o', ho', h1, _⟩ := hs.ent d hd (by rw [hdi]; exact hl)
  rw [hdi] at hc ho'
  rw [ho] at ho'; cases ho'
  constructor
  · exact hs.split
  · exact hs.can
  · exact hrel
  · exact hpost
  · intro j hj
    unfold mark at hj
    split at hj
    · rename_i h; rw [h]; exact hc
    · exact hs.sub j hj
  · intro j hj hl'
    unfold mark at hl'
    split at hl'
    · cases hl'
    · exact hs.cov j hj hl'
  · cases o.dst <;> exact hs.defers.mono hle
  · exact hs.ds
  · cases o.dst <;> simp [Act.put, hs.size]
  · exact hs.fsize
  · intro t
    have hput : ∀ {u : Value}, o.dst ≠ some t → VO φ u (a.tmps.getD t Go.undef) → VO φ' u ((a.put o.dst v').tmps.getD t Go.undef) := by
      intro u hne hu
      cases hdst : o.dst with
      | none => exact hu.mono hle
      | some t' =>
        have : t' ≠ t := fun e => hne (by rw [hdst, e])
        simp only [Act.put, Array.getD_eq_getD_getElem?, Array.getElem?_setIfInBounds_ne this]
        rw [← Array.getD_eq_getD_getElem?]
        exact hu.mono hle
    refine ⟨fun p o' hp hop hd' => ?_, fun hno => ?_⟩
    · by_cases hpi : p = i
      · subst hpi
        rw [ho] at hop; cases hop
        rw [h1 t hd', hd']
        simp only [Act.put, Array.getD_eq_getD_getElem?, Array.getElem?_setIfInBounds]
        have hlt : t < a.tmps.size := by rw [hs.size, hs.fsize]; exact hdst p o t ho hd'
        simp [hlt]; exact .inr hv
      · have hne : o.dst ≠ some t := fun hh => hpi (hpl.uniq p i o' o t hop ho hd' hh)
        unfold mark at hp
        rw [if_neg hpi] at hp
        exact hput hne ((hs.tmp t).1 p o' hp hop hd')
    · have hne : o.dst ≠ some t := hno i o (by simp [mark]) ho
      refine hput hne ((hs.tmp t).2 fun p o' hp hop => hno p o' ?_ hop)
      unfold mark; split
      · rfl
      · exact hp
  · exact hs.blks
  · exact hs.dis
  · exact hs.idx
  · exact hs.init
  · intro d' hd' hl'
    have hne : d'.idx ≠ i := fun e => by rw [e] at hl'; simp [mark] at hl'
    have hl2 : lst d'.idx = false := by unfold mark at hl'; rw [if_neg hne] at hl'; exact hl'
    obtain ⟨g1, o2, g2, g3, g4, g5, g6, g7, g8⟩ := hs.ent d' hd' hl2
    refine ⟨g1, o2, g2, g3, g4, g5, g6, g7, fun n hw hn => ?_⟩
    obtain ⟨obj, hdd, k1, k2, k3, k4, k5, k6⟩ := g8 n hw hn
    exact ⟨obj, hdd, k1, k2, k3, hnone n k4 (fun hb => hne ((hs.dis d' hd' d hd n hn hb).trans hdi)), k5, k6⟩

/-- What an unlisted operation looks at, is as it was reckoned. -/
theorem Stand.looks (hpl : PlanOk ops B ord) (hs : Stand P ops B ord F₀ H₀ φ₀ w₀ K lst φ a w cd rest D F H) (hdown : ∀ j o, ops[j]? = some o → lst j = true → ∀ e ∈ o.after.toList, Region.binds .any e = true → lst e.on = true)
    {i : Nat} {o : Oper} (ho : ops[i]? = some o) (hi : ∀ e ∈ o.after.toList, Region.binds .any e = true → lst e.on = true) (hl : lst i = false) {G : Fr}
    (hfit : ∀ t ∈ o.looksAt ops, (∃ p o', ops[p]? = some o' ∧ o'.dst = some t ∧ inB B i p = true ∧ G.get t = F.get t) ∨ ((∀ p o', ops[p]? = some o' → o'.dst = some t → inB B p i = true) ∧ G.get t = F₀.get t)) :
    ∀ t ∈ o.looksAt ops, VO φ (G.get t) (a.tmps.getD t Go.undef) := by
  intro t ht
  rcases hfit t ht with ⟨p, o', hp, hd, hb, he⟩ | ⟨h1, he⟩
  · have hlt : p < ops.size := (Array.getElem?_eq_some_iff.1 hp).1
    have hlp := closed_pre hpl hdown i o ho hi p hlt hb
    rw [he]
    exact (hs.tmp t).1 p o' hlp hp hd
  · rw [he]
    refine (hs.tmp t).2 fun p o' hp hop hd => ?_
    have hb := h1 p o' hop hd
    have hlt : i < ops.size := (Array.getElem?_eq_some_iff.1 ho).1
    have := closed_pre hpl hdown p o' hop (hdown p o' hop hp) i hlt hb
    rw [hl] at this; cases this

/-- An operation that acts, done. -/
theorem Stand.acted {i : Nat} (hpl : PlanOk ops B ord) (hdst : ∀ (i : Nat) (o : Oper) (t : Tmp), ops[i]? = some o → o.dst = some t → t < F₀.size)
    (hs : Stand P ops B ord F₀ H₀ φ₀ w₀ K lst φ a w cd (i :: rest) D F H) (hl : lst i = false) {o : Oper} (ho : ops[i]? = some o) (hunl : ∀ d ∈ D, lst d.idx = false → inB B i d.idx = false)
    {v : Value} {H' : AHeap} (hre : ∀ d ∈ D, d.wanted = true → inB B i d.idx = false → (∀ n, d.blk = some n → H'.get n = H.get n) ∧ (d.blk = none → ReadAgain P ops H' d))
    (hcan : Can P ops B rest D (F.put o.dst v) H' K) {φ' : Places} {w' : World} {v' : Value} (hv : VR φ' v v') (hrel : Rel φ' H' w') (hpost : Post φ H w φ' H' w') :
    Stand P ops B ord F₀ H₀ φ₀ w₀ K (mark lst i) φ' (a.put o.dst v') w' (cd ++ [i]) rest D (F.put o.dst v) H' := by
  have hi := hs.fresh hpl
  have hle := hpost.le hs.rel
  have hdi : ∀ t, o.dst = some t → ∀ p o', p ∈ cd → ops[p]? = some o' → o'.dst ≠ some t := fun t hd p o' hp hop hd' => hi ((hpl.uniq i p o o' t ho hop hd hd') ▸ hp)
  have hother : ∀ t p o', p ∈ cd → ops[p]? = some o' → o'.dst = some t → (F.put o.dst v).get t = F.get t := fun t p o' hp hop hd => Fr.get_put_other fun hh => hdi t hh p o' hp hop hd
  constructor
  · rw [hs.split]; simp
  · exact hcan
  · exact hrel
  · exact hs.post.trans hpost
  · intro j hj
    unfold mark at hj
    split at hj
    · rename_i h; rw [h]; exact List.mem_append_right _ (.head _)
    · exact List.mem_append_left _ (hs.sub j hj)
  · intro j hj hl'
    unfold mark at hl'
    split at hl'
    · cases hl'
    · rename_i hji
      rcases List.mem_append.1 hj with h | h
      · exact hs.cov j h hl'
      · simp at h; exact absurd h hji
  · cases o.dst <;> exact hs.defers.mono hle
  · simpa using hs.ds
  · cases o.dst <;> simp [Act.put, hs.size]
  · simpa using hs.fsize
  · intro t
    have hput : ∀ {u : Value}, o.dst ≠ some t → VO φ u (a.tmps.getD t Go.undef) → VO φ' u ((a.put o.dst v').tmps.getD t Go.undef) := by
      intro u hne hu
      cases hdst : o.dst with
      | none => exact hu.mono hle
      | some t' =>
        have : t' ≠ t := fun e => hne (by rw [hdst, e])
        simp only [Act.put, Array.getD_eq_getD_getElem?, Array.getElem?_setIfInBounds_ne this]
        rw [← Array.getD_eq_getD_getElem?]
        exact hu.mono hle
    refine ⟨fun p o' hp hop hd' => ?_, fun hno => ?_⟩
    · by_cases hpi : p = i
      · subst hpi
        rw [ho] at hop; cases hop
        have hlt0 := hdst p o t ho hd'
        have hlt : t < a.tmps.size := by rw [hs.size, hs.fsize]; exact hlt0
        rw [hd', Fr.get_put_same (by rw [hs.fsize]; exact hlt0)]
        simp only [Act.put, Array.getD_eq_getD_getElem?, Array.getElem?_setIfInBounds]
        simp [hlt]; exact .inr hv
      · have hne : o.dst ≠ some t := fun hh => hpi (hpl.uniq p i o' o t hop ho hd' hh)
        unfold mark at hp
        rw [if_neg hpi] at hp
        rw [Fr.get_put_other hne]
        exact hput hne ((hs.tmp t).1 p o' hp hop hd')
    · have hne : o.dst ≠ some t := hno i o (by simp [mark]) ho
      refine hput hne ((hs.tmp t).2 fun p o' hp hop => hno p o' ?_ hop)
      unfold mark; split
      · rfl
      · exact hp
  · intro d hd n hn; have := hs.blks d hd n hn; have := hpost.nx; omega
  · exact hs.dis
  · intro d hd; exact List.mem_append_left _ (hs.idx d hd)
  · intro t ht
    have h1 : o.dst ≠ some t := ht i (List.mem_append_right _ (.head _)) o ho
    rw [Fr.get_put_other h1]
    exact hs.init t fun p hp => ht p (List.mem_append_left _ hp)
  · intro d hd hl'
    have hne : d.idx ≠ i := fun e => by rw [e] at hl'; simp [mark] at hl'
    have hl2 : lst d.idx = false := by unfold mark at hl'; rw [if_neg hne] at hl'; exact hl'
    obtain ⟨g1, o2, g2, g3, g4, g5, g6, g7, g8⟩ := hs.ent d hd hl2
    refine ⟨List.mem_append_left _ g1, o2, g2, fun t ht => ?_, fun t ht => ?_, g5, g6, fun hw hb => (hre d hd hw (hunl d hd hl2)).2 hb, fun n hw hn => ?_⟩
    · rw [hother t d.idx o2 g1 g2 ht]; exact g3 t ht
    · rcases g4 t ht with ⟨p, o3, hp, hd3, hb, hpc, he⟩ | h
      · exact .inl ⟨p, o3, hp, hd3, hb, List.mem_append_left _ hpc, by rw [he, hother t p o3 hpc hp hd3]⟩
      · exact .inr h
    · obtain ⟨obj, hdd, k1, k2, k3, k4, k5, k6⟩ := g8 n hw hn
      refine ⟨obj, hdd, by rw [hpost.ng]; exact k1, k2, ?_, ?_, k5, by have := hpost.nx; omega⟩
      · rw [(hre d hd hw (hunl d hd hl2)).1 n hn]; exact k3
      · rw [hpost.ext n k6]; exact k4

theorem filter_lt (p q : Nat → Bool) (hqp : ∀ j, q j = true → p j = true) (i : Nat) (hp : p i = true) (hq : q i = false) : ∀ (l : List Nat), i ∈ l → (l.filter q).length + 1 ≤ (l.filter p).length
  | [], h => by cases h
  | j :: l, h => by
    have key : ∀ (l : List Nat), (l.filter q).length ≤ (l.filter p).length := by
      intro l
      induction l with
      | nil => simp
      | cons x l ih =>
        simp only [List.filter_cons]
        cases hqx : q x with
        | true => rw [hqp x hqx]; simpa using ih
        | false =>
          cases p x with
          | true => simp; omega
          | false => simpa using ih
    by_cases hji : j = i
    · subst hji
      simp only [List.filter_cons, hp, hq]
      have := key l
      simp; omega
    · have hi : i ∈ l := by
        cases h with
        | head => exact absurd rfl hji
        | tail _ h => exact h
      have ih := filter_lt p q hqp i hp hq l hi
      simp only [List.filter_cons]
      cases hqx : q j with
      | true => rw [hqp j hqx]; simpa using ih
      | false =>
        cases p j with
        | true => simp; omega
        | false => simpa using ih

theorem ready_mem {listed : Array Bool} {i : Nat} (hsz : listed.size = ops.size) (h : i ∈ Region.ready .any ops listed) :
    ∃ o, ops[i]? = some o ∧ listed.getD i false = false ∧ ∀ e ∈ o.after.toList, Region.binds .any e = true → listed.getD e.on false = true := by
  unfold Region.ready at h
  rw [List.mem_filter, List.mem_range] at h
  obtain ⟨hlt, hc⟩ := h
  have ho : ops[i]? = some ops[i] := Array.getElem?_eq_getElem hlt
  rw [ho] at hc
  simp only [Option.map_some, Option.getD_some, Bool.and_eq_true, Bool.not_eq_true', Array.all_eq_true_iff_forall_mem] at hc
  refine ⟨_, ho, ?_, fun e he hb => ?_⟩
  · have h1 := hc.1
    simp only [Array.getD_eq_getD_getElem?] at h1 ⊢
    have : i < listed.size := by omega
    simp only [Array.getElem?_eq_getElem this, Option.getD_some] at h1 ⊢
    exact h1
  · have := hc.2 e (by simpa using he)
    simpa [hb] using this

theorem ready_nil (hpl : PlanOk ops B ord) {listed : Array Bool} (hsz : listed.size = ops.size) (h : Region.ready .any ops listed = []) : ∀ i, i < ops.size → listed.getD i false = true := by
  intro i
  induction i using Nat.strongRecOn with
  | _ i ih =>
    intro hlt
    cases hc : listed.getD i false with
    | true => rfl
    | false =>
      exfalso
      have hm : i ∈ Region.ready .any ops listed := by
        unfold Region.ready
        rw [List.mem_filter, List.mem_range]
        refine ⟨hlt, ?_⟩
        have ho : ops[i]? = some ops[i] := Array.getElem?_eq_getElem hlt
        rw [ho]
        simp only [Option.map_some, Option.getD_some, Bool.and_eq_true, Bool.not_eq_true', Array.all_eq_true_iff_forall_mem]
        refine ⟨?_, fun e he => ?_⟩
        · have h1 := hc
          simp only [Array.getD_eq_getD_getElem?] at h1 ⊢
          have : i < listed.size := by omega
          simp only [Array.getElem?_eq_getElem this, Option.getD_some] at h1 ⊢
          exact h1
        · cases hb : Region.binds .any e with
          | false => simp
          | true =>
            have hlt2 := hpl.edge i _ ho e (by simpa using he) hb
            simp [ih e.on hlt2 (by omega)]
      rw [h] at hm; cases hm

theorem nil_ready {listed : Array Bool} (hsz : listed.size = ops.size) (h : ∀ i, i < ops.size → listed.getD i false = true) : Region.ready .any ops listed = [] := by
  cases hr : Region.ready .any ops listed with
  | nil => rfl
  | cons i l =>
    obtain ⟨o, ho, hl, _⟩ := ready_mem (ops := ops) hsz (by rw [hr]; exact .head _)
    rw [h i (Array.getElem?_eq_some_iff.1 ho).1] at hl; cases hl

/-- All is done: it ends as it was reckoned. -/
theorem Stand.ended (hpl : PlanOk ops B ord) (hdst : ∀ (i : Nat) (o : Oper) (t : Tmp), ops[i]? = some o → o.dst = some t → t < F₀.size) (hall : ∀ i, i < ops.size → lst i = true)
    (hs : Stand P ops B ord F₀ H₀ φ₀ w₀ K lst φ a w cd rest D F H) : ∃ F' H', K F' H' ∧ FRel φ F' a ∧ Rel φ H' w ∧ Post φ₀ H₀ w₀ φ H' w := by
  obtain ⟨cd', rest', D', F', H', hs, hat⟩ := hs.advance hpl hdst
  rcases hat with rfl | ⟨i, l, o, rfl, ho, _, _⟩
  · have hc := hs.can
    unfold Can at hc
    refine ⟨F', H', hc, ⟨by rw [hs.ds]; exact hs.defers, hs.size, fun t => ?_⟩, hs.rel, hs.post⟩
    by_cases hex : ∃ (p : Nat) (o : Oper), ops[p]? = some o ∧ o.dst = some t
    · obtain ⟨p, o, hp, hd⟩ := hex
      exact (hs.tmp t).1 p o (hall p (Array.getElem?_eq_some_iff.1 hp).1) hp hd
    · rw [hs.init t fun p _ o hop hd => hex ⟨p, o, hop, hd⟩]
      exact (hs.tmp t).2 fun p o _ hop hd => hex ⟨p, o, hop, hd⟩
  · exact absurd (hs.sub i (hall i (Array.getElem?_eq_some_iff.1 ho).1)) (hs.fresh hpl)

theorem mark_eq {listed : Array Bool} {i : Nat} (hi : i < listed.size) : (fun j => (listed.setIfInBounds i true).getD j false) = mark (fun j => listed.getD j false) i := by
  funext j
  simp only [mark, Array.getD_eq_getD_getElem?, Array.getElem?_setIfInBounds]
  by_cases h : j = i
  · subst h; simp [hi]
  · have : ¬ i = j := fun e => h e.symm
    simp [h, this]

/-- Every way through a region that draws its order. -/
theorem Can.any {Q : Exit → Act → World → Prop} (hpl : PlanOk ops B ord) (hdst : ∀ (i : Nat) (o : Oper) (t : Tmp), ops[i]? = some o → o.dst = some t → t < F₀.size)
    (hq : ∀ φ' F' H' a' w', K F' H' → FRel φ' F' a' → Rel φ' H' w' → Post φ₀ H₀ w₀ φ' H' w' → Q .normal a' w') :
    ∀ (fuel : Nat) (listed : Array Bool) (φ : Places) (a : Act) (w : World) (cd rest : List Nat) (D : List Ent) (F : Fr) (H : AHeap), listed.size = ops.size →
    (∀ j o, ops[j]? = some o → listed.getD j false = true → ∀ e ∈ o.after.toList, Region.binds .any e = true → listed.getD e.on false = true) →
    ((List.range ops.size).filter fun i => !listed.getD i false).length ≤ fuel →
    Stand P ops B ord F₀ H₀ φ₀ w₀ K (fun i => listed.getD i false) φ a w cd rest D F H → wpAny P .any ops Q fuel listed a w := by
  intro fuel
  induction fuel with
  | zero =>
    intro listed φ a w cd rest D F H hsz hdown hcount hs
    have hall : ∀ i, i < ops.size → listed.getD i false = true := by
      intro i hi
      have h0 : (List.range ops.size).filter (fun i => !listed.getD i false) = [] := List.eq_nil_of_length_eq_zero (by omega)
      cases hc : listed.getD i false with
      | true => rfl
      | false =>
        have : i ∈ (List.range ops.size).filter (fun i => !listed.getD i false) := by
          rw [List.mem_filter, List.mem_range]; exact ⟨hi, by rw [hc]; rfl⟩
        rw [h0] at this; cases this
    obtain ⟨F', H', k, f, r, p⟩ := hs.ended hpl hdst hall
    exact ⟨nil_ready hsz hall, hq _ _ _ _ _ k f r p⟩
  | succ fuel ih =>
    intro listed φ a w cd rest D F H hsz hdown hcount hs
    refine ⟨fun hnil => ?_, fun i hi => ?_⟩
    · obtain ⟨F', H', k, f, r, p⟩ := hs.ended hpl hdst (ready_nil hpl hsz hnil)
      exact hq _ _ _ _ _ k f r p
    · obtain ⟨o, ho, hl, hpre⟩ := ready_mem hsz hi
      have hlt : i < ops.size := (Array.getElem?_eq_some_iff.1 ho).1
      obtain ⟨cd, rest, D, F, H, hs, hat⟩ := hs.advance hpl hdst
      have hclosed := closed_pre (lst := fun i => listed.getD i false) hpl hdown i o ho hpre
      -- what follows, once the operation is done
      have go : ∀ (φ' : Places) (v' : Value) (w' : World) (cd rest : List Nat) (D : List Ent) (F : Fr) (H : AHeap), Stand P ops B ord F₀ H₀ φ₀ w₀ K (mark (fun i => listed.getD i false) i) φ' (a.put o.dst v') w' cd rest D F H →
          wpAny P .any ops Q fuel (listed.setIfInBounds i true) (a.put o.dst v') w' := by
        intro φ' v' w' cd rest D F H hs'
        rw [← mark_eq (by omega)] at hs'
        refine ih _ φ' _ w' cd rest D F H (by simpa using hsz) ?_ ?_ hs'
        · intro j oj hoj hj e he hb
          have h1 := congrFun (mark_eq (listed := listed) (i := i) (by omega)) e.on
          have h2 := congrFun (mark_eq (listed := listed) (i := i) (by omega)) j
          rw [h1]; rw [h2] at hj
          unfold mark at hj ⊢
          split
          · rfl
          · split at hj
            · rename_i hji; subst hji; rw [ho] at hoj; cases hoj; exact hpre e he hb
            · exact hdown j oj hoj hj e he hb
        · have h3 := filter_lt (fun j => !listed.getD j false) (fun j => !(listed.setIfInBounds i true).getD j false) (fun j hj => by
              have h1 := congrFun (mark_eq (listed := listed) (i := i) (by omega)) j
              rw [h1] at hj
              unfold mark at hj
              split at hj
              · cases hj
              · exact hj) i (by simp [hl]) (by
              have h1 := congrFun (mark_eq (listed := listed) (i := i) (by omega)) i
              simp only [h1, mark, if_true, Bool.not_true]) (List.range ops.size) (List.mem_range.2 hlt)
          omega
      unfold wpOp
      simp only [ho]
      by_cases hcd : i ∈ cd
      · obtain ⟨d, hd, hdi⟩ := hs.cov i hcd hl
        obtain ⟨_, o', ho', h1, h2, h3, h4, h5, h6⟩ := hs.ent d hd (by rw [hdi]; exact hl)
        rw [hdi, ho] at ho'; cases ho'
        have hlooks := hs.looks hpl hdown ho hpre hl (G := d.fr) (fun t ht => by
          rcases h2 t ht with ⟨p, o', hp, hd', hb, _, he⟩ | h
          · exact .inl ⟨p, o', hp, hd', by rw [← hdi]; exact hb, he⟩
          · exact .inr ⟨fun p o' hp hd' => by rw [← hdi]; exact h.1 p o' hp hd', h.2⟩)
        rw [wantedA_eq' hlooks h3]
        cases hw : d.wanted with
        | false =>
          simp only [Bool.false_eq_true, if_false]
          refine go φ _ w cd rest D F H (hs.done hpl hdst hd hdi hl ho (Le.refl φ) ?_ hs.rel hs.post (fun _ h _ => h))
          rw [h4 hw]; exact .undef
        | true =>
          simp only [if_true]
          refine .inl ?_
          cases hb : d.blk with
          | none =>
            obtain ⟨o', ho', hv⟩ := h5 hw hb
            rw [hdi, ho] at ho'; cases ho'
            obtain ⟨v', hrun, hvr⟩ := evRead_sound (ρ' := a.eval) hs.rel (fun x v hx => lookT_sound hs.rel.glob (fun t ht => hlooks t (tmpsOf_sub ht)) hx) hv
            unfold Oper.wp
            rw [hrun]
            exact go φ v' w cd rest D F H (hs.done hpl hdst hd hdi hl ho (Le.refl φ) hvr hs.rel hs.post (fun _ h _ => h))
          | some n =>
            obtain ⟨obj, hdd, hev, hval, hget, hnone, hge, hlt2⟩ := h6 n hw hb
            obtain ⟨p, c, v', w', hrun, hww, ht, hos, hou, hp, hor, hvr⟩ := (evAlloc_sound (P := P) (w := w) (φ := φ) (ρ' := a.eval) (fun x v hx => lookT_sound hs.rel.glob (fun t ht => hlooks t (tmpsOf_sub ht)) hx) hev n).ex
            unfold Oper.wp
            rw [hrun]
            refine go _ v' w' cd rest D F H (hs.done hpl hdst hd hdi hl ho (upd_le hnone) (by rw [hval]; exact hvr) (hs.rel.realize hnone hlt2 hget hww hp hor) (hs.post.realize hge hww hp ht hos hou) ?_)
            intro m hm hne
            rw [upd_other (fun e => hne (by rw [hb, e]))]
            exact hm
      · have hin : i ∈ rest := by
          have := hpl.perm i hlt
          rw [hs.split, List.mem_append] at this
          exact this.resolve_left hcd
        rcases hat with rfl | ⟨e, l, oe, rfl, hoe, hwe, hee⟩
        · cases hin
        · have hei : e = i := by
            cases hin with
            | head => rfl
            | tail _ hin =>
              exfalso
              obtain ⟨l1, l2, rfl⟩ := List.append_of_mem hin
              have hpr := hpl.pre (cd ++ e :: l1) i l2 (by rw [hs.split]; simp) o ho
              have hb := hpr.2.1 e (by simp) oe hoe hee
              have hle := hclosed e (Array.getElem?_eq_some_iff.1 hoe).1 hb
              exact (hs.fresh hpl) (hs.sub e hle)
          subst hei
          rw [ho] at hoe; cases hoe
          have hlooks := hs.looks hpl hdown ho hpre hl (G := F) (fun t ht => by
            rcases looks_fit hpl hs ho t ht with ⟨p, o', hp, hd', hb, _⟩ | h
            · exact .inl ⟨p, o', hp, hd', hb, rfl⟩
            · exact .inr h)
          rw [wantedA_eq' hlooks hwe]
          simp only [if_true]
          refine .inl ?_
          have hcan := hs.can
          unfold Can at hcan
          simp only [ho, hwe, hee] at hcan
          refine hcan φ w a _ Q hs.rel (fun x v hx => lookT_sound hs.rel.glob (fun t ht => hlooks t (tmpsOf_sub ht)) hx) ?_
          rintro φ' v v' H' w' ⟨hre, hcan'⟩ hv hr' hp'
          refine go φ' v' w' _ _ _ _ _ (hs.acted hpl hdst hl ho (fun d hd hld => ?_) hre hcan' hv hr' hp')
          cases hb : inB B e d.idx with
          | false => rfl
          | true =>
            have := hclosed d.idx (hpl.bound _ (by rw [hs.split]; exact List.mem_append_left _ (hs.idx d hd))) hb
            rw [hld] at this; cases this

end

end Go.AH

namespace Go.AH
open Go

/-! ## A plan for a region, looked over -/

def chkOps (ops : Array Oper) (B : Array Nat) : Bool :=
  (List.range ops.size).all fun i =>
    match ops[i]? with
    | some o =>
      o.after.toList.all (fun e => !Region.binds .any e || Nat.blt e.on i) &&
      (List.range ops.size).all (fun p => !inB B i p || o.after.toList.any fun e => Region.binds .any e && (Nat.beq e.on p || inB B e.on p)) &&
      (List.range ops.size).all (fun j => match ops[j]? with
        | some o' => Nat.beq i j || !(o.dst.isSome && o.dst == o'.dst)
        | none => true)
    | none => false

def chkOrd (ops : Array Oper) (B : Array Nat) : List Nat → List Nat → Bool
  | _, [] => true
  | cd, i :: l =>
    Nat.blt i ops.size && !cd.contains i &&
    (match ops[i]? with
    | some o =>
      (List.range ops.size).all (fun p => !inB B i p || cd.contains p) &&
      cd.all (fun p => match ops[p]? with | some o' => !isEffB o'.op || inB B i p | none => true) &&
      (o.looksAt ops).all (fun t => (List.range ops.size).all fun p => match ops[p]? with
        | some o' => !(o'.dst == some t) || inB B i p || (inB B p i && !cd.contains p && !Nat.beq p i)
        | none => true)
    | none => false) &&
    chkOrd ops B (i :: cd) l

def chkPlan (ops : Array Oper) (B : Array Nat) (ord : List Nat) : Bool :=
  chkOps ops B && chkOrd ops B [] ord && (List.range ops.size).all (fun i => ord.contains i)

theorem chkOrd_bound {ops : Array Oper} {B : Array Nat} : ∀ (l cd : List Nat), chkOrd ops B cd l = true → (∀ i ∈ l, i < ops.size ∧ i ∉ cd) ∧ l.Nodup
  | [], _, _ => ⟨by simp, .nil⟩
  | i :: l, cd, h => by
    unfold chkOrd at h
    simp only [Bool.and_eq_true] at h
    obtain ⟨⟨⟨h1, h2⟩, _⟩, h4⟩ := h
    obtain ⟨g1, g2⟩ := chkOrd_bound l (i :: cd) h4
    refine ⟨fun j hj => ?_, List.nodup_cons.2 ⟨fun hi => (g1 i hi).2 (.head _), g2⟩⟩
    cases hj with
    | head => exact ⟨Nat.le_of_ble_eq_true h1, by simpa using h2⟩
    | tail _ hj => exact ⟨(g1 j hj).1, fun hc => (g1 j hj).2 (.tail _ hc)⟩

theorem chkOrd_pre {ops : Array Oper} {B : Array Nat} : ∀ (l cd : List Nat), chkOrd ops B cd l = true → ∀ (l1 : List Nat) (i : Nat) (l2 : List Nat), l = l1 ++ i :: l2 → ∀ o, ops[i]? = some o →
    (∀ p, p < ops.size → inB B i p = true → p ∈ l1 ∨ p ∈ cd) ∧ (∀ p, p ∈ l1 ∨ p ∈ cd → ∀ o', ops[p]? = some o' → isEffB o'.op = true → inB B i p = true) ∧
    (∀ t ∈ o.looksAt ops, ∀ p o', ops[p]? = some o' → o'.dst = some t → inB B i p = true ∨ (inB B p i = true ∧ ¬ (p ∈ l1 ∨ p ∈ cd) ∧ p ≠ i))
  | [], _, _, l1, i, l2, he, _, _ => by simp at he
  | j :: l, cd, h, [], i, l2, he, o, ho => by
    simp only [List.nil_append, List.cons.injEq] at he
    obtain ⟨rfl, rfl⟩ := he
    unfold chkOrd at h
    simp only [Bool.and_eq_true, ho] at h
    obtain ⟨⟨_, h3⟩, _⟩ := h
    obtain ⟨⟨h5, h6⟩, h7⟩ := h3
    rw [List.all_eq_true] at h5 h6 h7
    refine ⟨fun p hp hb => ?_, fun p hp o' hop he => ?_, fun t ht p o' hop hd => ?_⟩
    · have := h5 p (List.mem_range.2 hp)
      rw [hb] at this
      exact .inr (by simpa using this)
    · rcases hp with hp | hp
      · cases hp
      · have := h6 p hp
        simp only [hop, he] at this
        simpa using this
    · have := h7 t ht
      rw [List.all_eq_true] at this
      have := this p (List.mem_range.2 (Array.getElem?_eq_some_iff.1 hop).1)
      simp only [hop, hd] at this
      simp only [beq_self_eq_true, Bool.not_true, Bool.false_or, Bool.or_eq_true, Bool.and_eq_true, Bool.not_eq_true'] at this
      rcases this with this | this
      · exact .inl this
      · refine .inr ⟨this.1.1, ?_, Nat.ne_of_beq_eq_false this.2⟩
        have h8 := this.1.2
        simp only [List.contains_eq_mem, decide_eq_false_iff_not] at h8
        simpa using h8
  | j :: l, cd, h, k :: l1, i, l2, he, o, ho => by
    simp only [List.cons_append, List.cons.injEq] at he
    obtain ⟨rfl, rfl⟩ := he
    unfold chkOrd at h
    simp only [Bool.and_eq_true] at h
    obtain ⟨g1, g2, g3⟩ := chkOrd_pre _ (j :: cd) h.2 l1 i l2 rfl o ho
    have conv : ∀ p, (p ∈ l1 ∨ p ∈ j :: cd) ↔ (p ∈ j :: l1 ∨ p ∈ cd) := by
      intro p
      simp only [List.mem_cons]
      constructor
      · rintro (h | h | h)
        · exact .inl (.inr h)
        · exact .inl (.inl h)
        · exact .inr h
      · rintro ((h | h) | h)
        · exact .inr (.inl h)
        · exact .inl h
        · exact .inr (.inr h)
    refine ⟨fun p hp hb => (conv p).1 (g1 p hp hb), fun p hp => g2 p ((conv p).2 hp), fun t ht p o' hop hd => ?_⟩
    rcases g3 t ht p o' hop hd with h | h
    · exact .inl h
    · exact .inr ⟨h.1, fun hh => h.2.1 ((conv p).2 hh), h.2.2⟩

theorem chkPlan_ok {ops : Array Oper} {B : Array Nat} {ord : List Nat} (h : chkPlan ops B ord = true) : PlanOk ops B ord := by
  unfold chkPlan at h
  simp only [Bool.and_eq_true] at h
  obtain ⟨⟨h1, h2⟩, h3⟩ := h
  rw [List.all_eq_true] at h3
  unfold chkOps at h1
  rw [List.all_eq_true] at h1
  obtain ⟨b1, b2⟩ := chkOrd_bound ord [] h2
  have hop : ∀ i o, ops[i]? = some o → _ := fun i o ho => by
    have := h1 i (List.mem_range.2 (Array.getElem?_eq_some_iff.1 ho).1)
    simp only [ho, Bool.and_eq_true] at this
    exact this
  refine ⟨fun i hi => by simpa using h3 i (List.mem_range.2 hi), fun i hi => (b1 i hi).1, b2, fun i o ho e he hb => ?_, fun i o p ho hp hb => ?_, fun i j o o' t ho ho' hd hd' => ?_, fun cd i rest hs o ho => ?_⟩
  · have := (hop i o ho).1.1
    rw [List.all_eq_true] at this
    have := this e he
    rw [hb] at this
    simpa using this
  · have := (hop i o ho).1.2
    rw [List.all_eq_true] at this
    have := this p (List.mem_range.2 hp)
    rw [hb] at this
    simp only [Bool.not_true, Bool.false_or, List.any_eq_true, Bool.and_eq_true, Bool.or_eq_true] at this
    obtain ⟨e, he, hbe, hor⟩ := this
    exact ⟨e, he, hbe, hor.imp Nat.eq_of_beq_eq_true id⟩
  · have := (hop i o ho).2
    rw [List.all_eq_true] at this
    have := this j (List.mem_range.2 (Array.getElem?_eq_some_iff.1 ho').1)
    simp only [ho', hd, hd', Option.isSome_some, beq_self_eq_true, Bool.and_self, Bool.not_true, Bool.or_false] at this
    exact Nat.eq_of_beq_eq_true this
  · obtain ⟨g1, g2, g3⟩ := chkOrd_pre ord [] h2 cd i rest hs o ho
    refine ⟨fun p hp hb => (g1 p hp hb).resolve_right (by simp), fun p hp => g2 p (.inl hp), fun t ht p o' hop hd => ?_⟩
    rcases g3 t ht p o' hop hd with h | h
    · exact .inl h
    · exact .inr ⟨h.1, fun hh => h.2.1 (.inl hh), h.2.2⟩

/-! ## Code, told of abstract frames and heaps -/

def WPost (φ : Places) (H : AHeap) (w : World) (Q : Exit → Fr → AHeap → Prop) : Exit → Act → World → Prop :=
  fun e a' w' => ∃ φ' F' H', Q e F' H' ∧ FRel φ' F' a' ∧ Rel φ' H' w' ∧ Post φ H w φ' H' w'

def Wp (P : Program) (c : Code) (F : Fr) (H : AHeap) (Q : Exit → Fr → AHeap → Prop) : Prop :=
  ∀ φ w a, Rel φ H w → FRel φ F a → c.wp P (WPost φ H w Q) a w

def thenA (next : Fr → AHeap → Prop) (Q : Exit → Fr → AHeap → Prop) : Exit → Fr → AHeap → Prop
  | .normal, F, H => next F H
  | e, F, H => Q e F H

section rules
variable {P : Program} {F : Fr} {H : AHeap} {Q : Exit → Fr → AHeap → Prop}

theorem Wp.mono {c : Code} {Q' : Exit → Fr → AHeap → Prop} (h : Wp P c F H Q) (hq : ∀ e F' H', Q e F' H' → Q' e F' H') : Wp P c F H Q' :=
  fun φ w a hr hf => wp_mono (h φ w a hr hf) fun _ _ _ ⟨φ', F', H', q, r⟩ => ⟨φ', F', H', hq _ _ _ q, r⟩

theorem Wp.skip (h : Q .normal F H) : Wp P .skip F H Q := fun φ w _ hr hf => wp_skip ⟨φ, F, H, h, hf, hr, Post.refl φ H w⟩
theorem Wp.label {l : Nat} (h : Q .normal F H) : Wp P (.label l) F H Q := fun φ w _ hr hf => wp_label ⟨φ, F, H, h, hf, hr, Post.refl φ H w⟩
theorem Wp.exit {id : Nat} (h : Q (.exit id) F H) : Wp P (.exit id) F H Q := fun φ w _ hr hf => wp_exit ⟨φ, F, H, h, hf, hr, Post.refl φ H w⟩
theorem Wp.ret (h : Q .ret F H) : Wp P .ret F H Q := fun φ w _ hr hf => wp_ret ⟨φ, F, H, h, hf, hr, Post.refl φ H w⟩

theorem WPost.trans {φ φ' : Places} {H' : AHeap} {w w' : World} (p : Post φ H w φ' H' w') {e : Exit} {a : Act} {w'' : World} (h : WPost φ' H' w' Q e a w'') : WPost φ H w Q e a w'' :=
  let ⟨φ₂, F₂, H₂, q, f, r, p₂⟩ := h
  ⟨φ₂, F₂, H₂, q, f, r, p.trans p₂⟩

theorem Wp.seq {x y : Code} (h : Wp P x F H (thenA (fun F' H' => Wp P y F' H' Q) Q)) : Wp P (.seq x y) F H Q := by
  intro φ w a hr hf
  refine wp_seq (wp_mono (h φ w a hr hf) fun e a' w' ⟨φ', F', H', q, f, r, p⟩ => ?_)
  cases e with
  | normal => exact wp_mono (q φ' w' a' r f) fun _ _ _ h => WPost.trans p h
  | exit => exact ⟨φ', F', H', q, f, r, p⟩
  | goto => exact ⟨φ', F', H', q, f, r, p⟩
  | ret => exact ⟨φ', F', H', q, f, r, p⟩
  | panic => exact ⟨φ', F', H', q, f, r, p⟩
  | outgrown => exact ⟨φ', F', H', q, f, r, p⟩

theorem Wp.cond {c : Operand} {x y : Code} {t : Bool} (hc : look H.ng F c = some (.bool t)) (h : Wp P (if t then x else y) F H Q) : Wp P (.cond c x y) F H Q := by
  intro φ w a hr hf
  have := look_sound hr.glob hf hc
  generalize he : a.eval c = v at this
  cases this
  exact wp_cond he (h φ w a hr hf)

def inBlockA (id : Nat) (Q : Exit → Fr → AHeap → Prop) : Exit → Fr → AHeap → Prop
  | .exit id', F, H => if id' = id then Q .normal F H else Q (.exit id') F H
  | e, F, H => Q e F H

theorem Wp.block {id : Nat} {c : Code} (h : Wp P c F H (inBlockA id Q)) : Wp P (.block id c) F H Q := by
  intro φ w a hr hf
  refine wp_block (wp_mono (h φ w a hr hf) fun e a' w' ⟨φ', F', H', q, f, r, p⟩ => ?_)
  cases e with
  | exit id' =>
    simp only [Exit.inBlock]
    simp only [inBlockA] at q
    split at q
    · rename_i hid; rw [if_pos hid]; exact ⟨φ', F', H', q, f, r, p⟩
    · rename_i hid; rw [if_neg hid]; exact ⟨φ', F', H', q, f, r, p⟩
  | normal => exact ⟨φ', F', H', q, f, r, p⟩
  | goto => exact ⟨φ', F', H', q, f, r, p⟩
  | ret => exact ⟨φ', F', H', q, f, r, p⟩
  | panic => exact ⟨φ', F', H', q, f, r, p⟩
  | outgrown => exact ⟨φ', F', H', q, f, r, p⟩

/-- So many rounds of a loop. -/
def WpRounds (P : Program) (c : Code) (Q : Exit → Fr → AHeap → Prop) : Nat → Fr → AHeap → Prop
  | 0, _, _ => False
  | n + 1, F, H => Wp P c F H (thenA (WpRounds P c Q n) Q)

theorem Wp.rounds {c : Code} (n : Nat) (h : WpRounds P c Q n F H) : Wp P (.loop c) F H Q := by
  have key : ∀ (n : Nat) (F : Fr) (H : AHeap), WpRounds P c Q n F H → ∀ (φ₀ φ : Places) (H₀ : AHeap) (w₀ w : World) (a : Act), Rel φ H w → FRel φ F a → Post φ₀ H₀ w₀ φ H w → Code.rounds P c (WPost φ₀ H₀ w₀ Q) n a w := by
    intro n
    induction n with
    | zero => intro F H h; exact h.elim
    | succ n ih =>
      intro F H h φ₀ φ H₀ w₀ w a hr hf hp
      rw [rounds_succ]
      refine wp_mono (h φ w a hr hf) fun e a' w' ⟨φ', F', H', q, f, r, p⟩ => ?_
      cases e with
      | normal => exact ih F' H' q φ₀ φ' H₀ w₀ w' a' r f (hp.trans p)
      | exit => exact ⟨φ', F', H', q, f, r, hp.trans p⟩
      | goto => exact ⟨φ', F', H', q, f, r, hp.trans p⟩
      | ret => exact ⟨φ', F', H', q, f, r, hp.trans p⟩
      | panic => exact ⟨φ', F', H', q, f, r, hp.trans p⟩
      | outgrown => exact ⟨φ', F', H', q, f, r, hp.trans p⟩
  intro φ w a hr hf
  exact wp_loop_rounds n (key n F H h φ φ H w w a hr hf (Post.refl φ H w))

theorem Wp.loop {c : Code} (I : Fr → AHeap → Prop) (μ : Fr → AHeap → Nat) (h₀ : I F H) (round : ∀ F H, I F H → Wp P c F H (thenA (fun F' H' => I F' H' ∧ μ F' H' < μ F H) Q)) : Wp P (.loop c) F H Q := by
  have key : ∀ (n : Nat) (F : Fr) (H : AHeap), I F H → μ F H < n → WpRounds P c Q n F H := by
    intro n
    induction n with
    | zero => intro F H _ h; omega
    | succ n ih =>
      intro F H hI hm
      refine (round F H hI).mono fun e F' H' q => ?_
      cases e with
      | normal => exact ih F' H' q.1 (by have := q.2; omega)
      | exit => exact q
      | goto => exact q
      | ret => exact q
      | panic => exact q
      | outgrown => exact q
  exact Wp.rounds (μ F H + 1) (key _ F H h₀ (by omega))

theorem Wp.region {id : Nat} {ops : Array Oper} (h : OpsOk P ops (List.range ops.size) F H fun F' H' => Q .normal F' H') : Wp P (.region id ops false) F H Q := by
  intro φ w a hr hf
  exact wp_region (OpsOk.sound _ F H _ h φ w a hr hf fun φ' F' H' a' w' k f r p => ⟨φ', F', H', k, f, r, p⟩)

def dstsIn (ops : Array Oper) (n : Nat) : Bool := ops.toList.all fun o => match o.dst with | some d => Nat.blt d n | none => true

theorem dstsIn_ok {ops : Array Oper} {n : Nat} (h : dstsIn ops n = true) : ∀ (i : Nat) (o : Oper) (t : Tmp), ops[i]? = some o → o.dst = some t → t < n := by
  intro i o t ho hd
  unfold dstsIn at h
  rw [List.all_eq_true] at h
  have := h o (by rw [← Array.getElem?_toList] at ho; exact List.mem_of_getElem? ho)
  simp only [hd] at this
  exact Nat.le_of_ble_eq_true this

theorem Wp.regionDraw {id : Nat} {ops : Array Oper} {B : Array Nat} {ord : List Nat} (hm : P.follows .mixedOrders = true) (hp : chkPlan ops B ord = true) (hd : dstsIn ops F.size = true)
    (h : Can P ops B ord [] F H fun F' H' => Q .normal F' H') : Wp P (.region id ops true) F H Q := by
  intro φ w a hr hf
  refine wp_region_any hm ?_
  have hpost : Post φ H w φ H { w with drawn := w.drawn + 1 } := ⟨fun _ _ => rfl, Nat.le_refl _, rfl, Nat.le_refl _, fun _ _ _ => rfl, fun _ _ h => h, rfl, rfl, rfl⟩
  have hfalse : ∀ i, (Array.replicate ops.size false).getD i false = false := by
    intro i
    simp only [Array.getD_eq_getD_getElem?, Array.getElem?_replicate]
    split <;> rfl
  refine Can.any (B := B) (ord := ord) (F₀ := F) (H₀ := H) (φ₀ := φ) (w₀ := w) (K := fun F' H' => Q .normal F' H') (chkPlan_ok hp) (dstsIn_ok hd) (fun φ' F' H' a' w' k f r p => ⟨φ', F', H', k, f, r, p⟩) ops.size _ φ a _ [] ord [] F H (by simp)
    (fun j o _ hj => by rw [hfalse] at hj; cases hj) ?_ ?_
  · exact Nat.le_trans (List.length_filter_le _ _) (by simp)
  · constructor
    · rfl
    · exact h
    · exact hr.drew
    · exact hpost
    · intro i hi; rw [hfalse] at hi; cases hi
    · intro i hi; cases hi
    · exact hf.defers
    · rfl
    · exact hf.size
    · rfl
    · intro t
      exact ⟨fun p o hp => (by rw [hfalse] at hp; cases hp), fun _ => hf.get t⟩
    · intro d hd; cases hd
    · intro d hd; cases hd
    · intro d hd; cases hd
    · intro t _; rfl
    · intro d hd; cases hd

end rules

end Go.AH

namespace Go.AH
open Go

/-! ## Calls -/

def listPT : List Value → Nat → PT Value → PT Value
  | [], _, t => t
  | v :: l, i, t => listPT l (i + 1) (t.put i (some v))

theorem listPT_get : ∀ (l : List Value) (i : Nat) (t : PT Value) (j : Nat), (listPT l i t).get j = if i ≤ j ∧ j < i + l.length then l[j - i]? else t.get j
  | [], i, t, j => by simp [listPT]; intro h1 h2; omega
  | v :: l, i, t, j => by
    rw [listPT, listPT_get l (i + 1) _ j, PT.get_put]
    by_cases h1 : i + 1 ≤ j ∧ j < i + 1 + l.length
    · rw [if_pos h1, if_pos (by simp; omega)]
      have : j - i = (j - (i + 1)) + 1 := by omega
      rw [this, List.getElem?_cons_succ]
    · rw [if_neg h1]
      by_cases h2 : j = i
      · subst h2; rw [if_pos rfl, if_pos (by simp)]; simp
      · rw [if_neg h2, if_neg (by simp; omega)]

def enterA (args : List Value) (n : Nat) : Fr := { t := listPT args 0 .nil, size := args.length + (n - args.length), ds := [], dflt := fun _ => Go.undef }

theorem enterA_get (args : List Value) (n j : Nat) : (enterA args n).get j = (args[j]?).getD Go.undef := by
  unfold enterA Fr.get
  simp only [listPT_get, Nat.zero_le, true_and, Nat.zero_add, Nat.sub_zero]
  by_cases h : j < args.length
  · simp [h]
  · rw [if_neg h, PT.get_nil]
    rw [List.getElem?_eq_none (by omega)]; rfl

theorem FRel.enter {φ : Places} {args : List Value} {args' : Array Value} (h : L2 (VR φ) args args'.toList) (n : Nat) :
    FRel φ (enterA args n) { tmps := args' ++ Array.replicate (n - args'.size) Go.undef, defers := [] } := by
  have hl := h.length
  simp only [Array.length_toList] at hl
  refine ⟨.nil, by simp [enterA, hl], fun j => ?_⟩
  rw [enterA_get, Array.getD_eq_getD_getElem?]
  by_cases hj : j < args.length
  · have hj' : j < args'.size := by omega
    rw [Array.getElem?_append_left hj', List.getElem?_eq_getElem hj, Array.getElem?_eq_getElem hj']
    exact .inr (h.get j _ _ (List.getElem?_eq_getElem hj) (by simp [hj']))
  · rw [List.getElem?_eq_none (by omega), Array.getElem?_append_right (by omega), Array.getElem?_replicate]
    split <;> exact .inr .undef

def resultA (P : Program) (F : Fr) (H : AHeap) : ResultVar → Option Value
  | .tmp t => match isTop (F.get t) with | true => none | false => some (F.get t)
  | .cell a t => match isTop (F.get a) with | true => none | false => loadA P t H (F.get a)

def resultsL (P : Program) (F : Fr) (H : AHeap) : List ResultVar → Option (List Value)
  | [] => some []
  | r :: l => match resultA P F H r with
    | some v => match resultsL P F H l with
      | some vs => some (v :: vs)
      | none => none
    | none => none

def resultsA (P : Program) (fn : Func) (F : Fr) (H : AHeap) : Option Value :=
  match resultsL P F H fn.results.toList with
  | some [v] => some v
  | some vs => some (.tuple vs.toArray)
  | none => none

def resF (tmps : Array Value) : ResultVar → Sem Value
  | .tmp t => pure (tmps.getD t Go.undef)
  | .cell a t => do loadVar t (← asAddr (tmps.getD a Go.undef))

theorem results_eq (fn : Func) (tmps : Array Value) : results fn tmps = (do
    let vs ← fn.results.mapM (resF tmps)
    pure (if h : vs.size = 1 then vs[0] else .tuple vs)) := by
  unfold results
  congr 2

theorem resultA_sound {P : Program} {φ : Places} {F : Fr} {H : AHeap} {w : World} {a : Act} (hr : Rel φ H w) (hf : FRel φ F a) {r : ResultVar} {v : Value} (h : resultA P F H r = some v) :
    ∃ v', (resF a.tmps r).run P w = .ok v' w ∧ VR φ v v' := by
  cases r with
  | tmp t =>
    simp only [resultA] at h
    split at h
    · cases h
    · rename_i ht; cases h; exact ⟨_, rfl, (hf.get t).known ht⟩
  | cell x t =>
    simp only [resultA] at h
    split at h
    · cases h
    rename_i ht
    have h' : loadA P t H (F.get x) = some v := h
    obtain ⟨v', hrun, hvr⟩ := loadA_sound (P := P) hr ((hf.get x).known ht) h'
    refine ⟨v', ?_, hvr⟩
    have hx := (hf.get x).known ht
    clear ht h
    generalize hy : a.tmps.getD x Go.undef = y at hx hrun
    generalize hz : F.get x = z at hx h'
    unfold loadA at h'
    split at h'
    · cases hx
      simp only [Instr.loadAt, Instr.sureAddr, Sem.run_bind, Sem.run_pure, Result.andThen_ok] at hrun
      simp only [resF, hy, Sem.run_bind, asAddr, Sem.run_pure, Result.andThen_ok, hrun]
    · cases h'

theorem resultsL_sound {P : Program} {φ : Places} {F : Fr} {H : AHeap} {w : World} {a : Act} (hr : Rel φ H w) (hf : FRel φ F a) : ∀ {l : List ResultVar} {vs : List Value}, resultsL P F H l = some vs →
    ∃ vs', L2 (VR φ) vs vs' ∧ (l.mapM (resF a.tmps)).run P w = .ok vs' w
  | [], vs, h => by cases h; exact ⟨[], .nil, rfl⟩
  | r :: l, vs, h => by
    unfold resultsL at h
    split at h
    · rename_i v hv
      split at h
      · cases h
        rename_i vs hvs
        obtain ⟨vs', h1, h2⟩ := resultsL_sound hr hf hvs
        obtain ⟨v', h3, h4⟩ := resultA_sound (P := P) hr hf hv
        exact ⟨_, .cons h4 h1, by simp [List.mapM_cons, h2, h3]⟩
      · cases h
    · cases h

theorem resultsA_sound {P : Program} {φ : Places} {F : Fr} {H : AHeap} {w : World} {a : Act} (hr : Rel φ H w) (hf : FRel φ F a) {fn : Func} {v : Value} (h : resultsA P fn F H = some v) :
    ∃ v', (results fn a.tmps).run P w = .ok v' w ∧ VR φ v v' := by
  have hrun : ∀ vs' : List Value, (fn.results.toList.mapM (resF a.tmps)).run P w = .ok vs' w →
      (results fn a.tmps).run P w = .ok (if h : vs'.toArray.size = 1 then vs'.toArray[0] else .tuple vs'.toArray) w := by
    intro vs' h
    rw [results_eq, Array.mapM_eq_mapM_toList]
    simp only [Sem.run_bind, Sem.run_map, h]
    rfl
  unfold resultsA at h
  split at h
  · cases h
    rename_i v hv
    obtain ⟨vs', h1, h2⟩ := resultsL_sound hr hf hv
    obtain ⟨v', m, rfl, hv, ht⟩ := h1.cons_inv
    cases ht
    exact ⟨v', hrun _ h2, hv⟩
  · cases h
    rename_i vs hne hv
    obtain ⟨vs', h1, h2⟩ := resultsL_sound hr hf hv
    refine ⟨.tuple vs'.toArray, ?_, .tuple_l2 (by simpa using h1)⟩
    rw [hrun _ h2, dif_neg]
    intro he
    have := h1.length
    simp only [List.size_toArray] at he
    rw [he] at this
    match vs, this with
    | [x], _ => exact hne x rfl
  · cases h

/-- A function called at the door of another one: its result goes nowhere. -/
def CallsDA (P : Program) (f : FuncId) (args : List Value) (H : AHeap) (Q : AHeap → Prop) : Prop :=
  ∀ (φ : Places) (w : World) (args' : Array Value), Rel φ H w → L2 (VR φ) args args'.toList →
    CallsD P f args' .returning w fun e u' w' => u' = .returning ∧ ∃ φ' v' H', Q H' ∧ e = .returned v' ∧ Rel φ' H' w' ∧ Post φ H w φ' H' w'

/-- A function's end: the calls that it put off, then its results. -/
def LeavesA (P : Program) (fn : Func) (F : Fr) (Q : Value → AHeap → Prop) : List (FuncId × List Value) → AHeap → Prop
  | [], H => ∃ v, resultsA P fn F H = some v ∧ Q v H
  | x :: ds, H => bodied P x.1 = true ∧ CallsDA P x.1 x.2 H fun H' => LeavesA P fn F Q ds H'

theorem LeavesA.sound {P : Program} {fn : Func} {F : Fr} {Q : Value → AHeap → Prop} : ∀ (ds : List (FuncId × List Value)) (H : AHeap), LeavesA P fn F Q ds H →
    ∀ (φ₀ : Places) (H₀ : AHeap) (w₀ : World) (φ : Places) (w : World) (tmps : Array Value) (ds' : List Deferred), Rel φ H w → Post φ₀ H₀ w₀ φ H w → (∀ i, VO φ (F.get i) (tmps.getD i Go.undef)) → DsRel φ ds ds' →
    Leaves P fn tmps (fun e w' => ∃ φ' v v' H', Q v H' ∧ e = .returned v' ∧ VR φ' v v' ∧ Rel φ' H' w' ∧ Post φ₀ H₀ w₀ φ' H' w') ds' .returning w
  | [], H, h, φ₀, H₀, w₀, φ, w, tmps, ds', hr, hp, hf, hd => by
    cases hd
    obtain ⟨v, hv, hq⟩ := h
    have hf' : FRel φ { F with size := tmps.size, ds := [] } { tmps := tmps, defers := [] } := ⟨.nil, rfl, hf⟩
    have hv' : resultsA P fn { F with size := tmps.size, ds := [] } H = some v := by
      have hl : ∀ l, resultsL P { F with size := tmps.size, ds := [] } H l = resultsL P F H l := by
        intro l
        induction l with
        | nil => rfl
        | cons r l ih =>
          have : resultA P { F with size := tmps.size, ds := [] } H r = resultA P F H r := by cases r <;> rfl
          simp only [resultsL, this, ih]
      unfold resultsA at hv ⊢
      rw [hl]; exact hv
    obtain ⟨v', hrun, hvr⟩ := resultsA_sound hr hf' hv'
    exact ⟨v', hrun, φ, v, v', H, hq, rfl, hvr, hr, hp⟩
  | x :: ds, H, h, φ₀, H₀, w₀, φ, w, tmps, ds', hr, hp, hf, hd => by
    cases hd with
    | @cons _ d _ ds' hx ht =>
    obtain ⟨cap, htar, hargs⟩ := hx
    obtain ⟨hb, hcall⟩ := h
    obtain ⟨dt, dargs⟩ := d
    simp only at htar hargs
    subst htar
    refine leaves_cons (f := x.1) (args := dargs ++ cap) (by simp) (by simp [invoke, callFunc_run hb]) ?_
    refine (hcall φ w _ hr hargs.l2).mono ?_
    rintro e u' w' ⟨rfl, φ', v', H', hK, rfl, hr', hp'⟩
    exact LeavesA.sound ds H' hK φ₀ H₀ w₀ φ' w' tmps ds' hr' (hp.trans hp') (fun i => (hf i).mono (hp'.le hr)) (ht.mono (hp'.le hr))

theorem CallsA.of_wp {P : Program} {f : FuncId} {fn : Func} {c : Code} {args : List Value} {H : AHeap} {Q : Value → AHeap → Prop} (hf : P.funcs[f]? = some fn) (hb : fn.body = some c)
    (h : Wp P c (enterA args fn.ntmps) H fun e F' H' => (e = .normal ∨ e = .ret) ∧ LeavesA P fn F' Q F'.ds H') : CallsA P f args H Q := by
  intro φ w args' hr ha
  refine calls_of_wp_defers hf hb (wp_mono (h φ w _ hr (FRel.enter ha fn.ntmps)) ?_)
  rintro e a' w' ⟨φ', F', H', ⟨he, hl⟩, hf', hr', hp'⟩
  have := LeavesA.sound F'.ds H' hl φ H w φ' w' a'.tmps a'.defers hr' hp' hf'.get hf'.defers
  rcases he with rfl | rfl
  · exact this
  · exact this

theorem CallsDA.of_wp {P : Program} {f : FuncId} {fn : Func} {c : Code} {args : List Value} {H : AHeap} {Q : AHeap → Prop} (hf : P.funcs[f]? = some fn) (hb : fn.body = some c)
    (h : Wp P c (enterA args fn.ntmps) H fun e F' H' => (e = .normal ∨ e = .ret) ∧ F'.ds = [] ∧ ∃ v, resultsA P fn F' H' = some v ∧ Q H') : CallsDA P f args H Q := by
  intro φ w args' hr ha
  refine (callsD_of_wp (R := fun e w' => ∃ φ' v' H', Q H' ∧ e = .returned v' ∧ Rel φ' H' w' ∧ Post φ H w φ' H' w') hf hb (wp_mono (h φ w _ hr (FRel.enter ha fn.ntmps)) ?_)).mono ?_
  · rintro e a' w' ⟨φ', F', H', ⟨he, hds, v, hv, hq⟩, hf', hr', hp'⟩
    obtain ⟨v', hrun, hvr⟩ := resultsA_sound hr' hf' hv
    have hd : a'.defers = [] := by
      have := hf'.defers
      rw [hds] at this
      generalize a'.defers = l at this
      cases this; rfl
    have : bodyPost P fn (fun e w' => ∃ φ' v' H', Q H' ∧ e = .returned v' ∧ Rel φ' H' w' ∧ Post φ H w φ' H' w') .ret a' w' := ⟨hd, v', hrun, φ', v', H', hq, rfl, hr', hp'⟩
    rcases he with rfl | rfl
    · exact this
    · exact this
  · rintro e u' w' ⟨hu, h⟩
    exact ⟨hu, h⟩

/-- A function called, with a body or without one. -/
def CallsF (P : Program) (f : FuncId) (args : List Value) (H : AHeap) (K : Value → AHeap → Prop) : Prop :=
  ∀ (φ : Places) (w : World) (args' : Array Value) (o : Oper) (a : Act) (next : Act → World → Prop) (Q : Exit → Act → World → Prop), Rel φ H w → L2 (VR φ) args args'.toList →
    (∀ φ' v v' H' w', K v H' → VR φ' v v' → Rel φ' H' w' → Post φ H w φ' H' w' → next (a.put o.dst v') w') → o.upon P a next Q ((callFunc f args').run P w)

theorem CallsF.of_calls {P : Program} {f : FuncId} {args : List Value} {H : AHeap} {K : Value → AHeap → Prop} (hb : bodied P f = true) (h : CallsA P f args H K) : CallsF P f args H K := by
  intro φ w args' o a next Q hr ha hn
  rw [callFunc_run hb]
  refine (h φ w args' hr ha).mono ?_
  rintro e w' ⟨φ', v, v', H', hK, rfl, hv, hr', hp'⟩
  exact hn φ' v v' H' w' hK hv hr' hp'

theorem CallsF.mono {P : Program} {f : FuncId} {args : List Value} {H : AHeap} {K K' : Value → AHeap → Prop} (h : CallsF P f args H K) (hk : ∀ v H', K v H' → K' v H') : CallsF P f args H K' :=
  fun φ w args' o a next Q hr ha hn => h φ w args' o a next Q hr ha fun φ' v v' H' w' k => hn φ' v v' H' w' (hk _ _ k)

theorem OpV.callF {P : Program} {o : Oper} {c : Call} (ho : o.op = .call c) {ρ : Operand → Option Value} {H : AHeap} {K : Value → AHeap → Prop} {g : FuncId} {args : List Value}
    (hc : calleeA ρ c = some (g, args)) (h : CallsF P g args H K) : OpV P o ρ H K := by
  intro φ w a next Q hr hρ hn
  unfold calleeA at hc
  split at hc
  · rename_i f as hcal hargs
    split at hc
    · rename_i g' first captured hf
      cases hc
      have h1 := lookAll_sound hρ hargs
      have h2 := hρ _ _ hf
      generalize hfe : a.eval f = f' at h2
      cases h2 with | func _ _ first' _ captured' hs1 hs2 hh1 hh2 =>
      have hrun : (execOp a.eval o).run P w = (callFunc g (first' ++ c.args.map a.eval ++ captured')).run P w := by
        simp [execOp, ho, resolve, hcal, hfe, Deferred.ofValue, invoke]
      have hl2 : L2 (VR φ) (first.toList ++ as ++ captured.toList) (first' ++ c.args.map a.eval ++ captured').toList := by
        rw [Array.toList_append, Array.toList_append, Array.toList_map]
        exact (L2.append (.of_get (by simpa using hs1) (by simpa using hh1)) h1).append (.of_get (by simpa using hs2) (by simpa using hh2))
      unfold Oper.wp
      rw [hrun]
      exact h φ w _ o a next Q hr hl2 hn
    · cases hc
  · cases hc

/-- A method of a value behind an interface, found in its type's own row. -/
def methodA (P : Program) (t : TypeId) (name : String) : Option FuncId :=
  match P.info? t with
  | some i => match i.methods.find? (·.name == name) with
    | some m => match m.path.toList, m.func, P.underlying t with
      | [], some (f, true), some (.pointer _) => some f
      | [], some (_, false), some (.pointer _) => none
      | [], some (f, false), some _ => some f
      | _, _, _ => none
    | none => none
  | none => none

theorem methodA_run {P : Program} {t : TypeId} {name : String} {f : FuncId} (h : methodA P t name = some f) (v : Value) (n : Nat) (w : World) : (method (n + 1) t v name).run P w = .ok (f, v) w := by
  unfold methodA at h
  split at h
  rotate_left
  · cases h
  rename_i i hi
  split at h
  rotate_left
  · cases h
  rename_i m hm
  have hti : (typeInfo t).run P w = .ok i w := by simp [typeInfo, hi]
  split at h
  · rename_i hp hf hu
    cases h
    rw [method, Sem.run_bind, hti, Result.andThen_ok]
    simp only [hm, hp, follow, hf, receiverAt, Sem.run_bind, Sem.run_pure, Result.andThen_ok, run_underlying hu, Place.get]
  · cases h
  · rename_i d hne hp hf hu
    cases h
    rw [method, Sem.run_bind, hti, Result.andThen_ok]
    simp only [hm, hp, follow, hf, receiverAt, Sem.run_bind, Sem.run_pure, Result.andThen_ok, run_underlying hu]
    cases d <;> first | (exact (hne _ rfl).elim) | simp [Place.get]
  · cases h

def calleeM (P : Program) (ρ : Operand → Option Value) (c : Call) : Option (FuncId × List Value) :=
  match c.callee, lookAll ρ c.args.toList with
  | .invoke r name, some args => match ρ r with
    | some (.iface t v) => match methodA P t name with
      | some f => some (f, v :: args)
      | none => none
    | _ => none
  | _, _ => none

theorem OpV.callM {P : Program} {o : Oper} {c : Call} (ho : o.op = .call c) {ρ : Operand → Option Value} {H : AHeap} {K : Value → AHeap → Prop} {g : FuncId} {args : List Value}
    (hc : calleeM P ρ c = some (g, args)) (h : CallsF P g args H K) : OpV P o ρ H K := by
  intro φ w a next Q hr hρ hn
  unfold calleeM at hc
  split at hc
  · rename_i r name as hcal hargs
    split at hc
    · rename_i t v hf
      split at hc
      · cases hc
        rename_i hm
        have h1 := lookAll_sound hρ hargs
        have h2 := hρ _ _ hf
        generalize hfe : a.eval r = r' at h2
        cases h2 with | iface _ _ v' hv =>
        have hrun : (execOp a.eval o).run P w = (callFunc g (#[v'] ++ c.args.map a.eval)).run P w := by
          have hmr := methodA_run hm v' (P.types.size + Made.depth - 1) w
          have hsz : P.types.size + Made.depth - 1 + 1 = P.types.size + Made.depth := by unfold Made.depth; omega
          rw [hsz] at hmr
          have hex : (#[Value.iface t v'] ++ c.args.map a.eval).extract 1 (#[Value.iface t v'] ++ c.args.map a.eval).size = c.args.map a.eval := by
            apply Array.ext'
            rw [Array.toList_extract]
            simp only [Array.size_append, Array.size_map, List.size_toArray, List.length_cons, List.length_nil, Array.toList_append, Array.toList_map, List.extract_eq_drop_take', Nat.zero_add, List.cons_append, List.nil_append]
            rw [List.take_of_length_le (by simp; omega)]
            rfl
          have hg0 : (#[Value.iface t v'] ++ c.args.map a.eval)[0]? = some (Value.iface t v') := by rw [Array.getElem?_append_left (by simp)]; rfl
          simp only [execOp, ho, resolve, hcal, hfe, Sem.run_bind, Sem.run_pure, Result.andThen_ok, invoke, hg0]
          rw [hex]
          show (callMethod (.iface t v') name (c.args.map a.eval)).run P w = _
          simp only [callMethod, Sem.run_bind, run_program, Result.andThen_ok, hmr]
        have hl2 : L2 (VR φ) (v :: as) (#[v'] ++ c.args.map a.eval).toList := by
          rw [Array.toList_append, Array.toList_map]
          exact .cons hv h1
        unfold Oper.wp
        rw [hrun]
        exact h φ w _ o a next Q hr hl2 hn
      · cases hc
    · cases hc
  · cases hc

end Go.AH

