/- The abstract evaluator: an operation, and a row of operations in the order of the text, as steps of the machine. No condition. -/
import Derived.Test.YtfokbdgiphphfaaAbs12
import Derived.RangeFuncLeaves
namespace Go.Abs
open Go.RowKit

def concD (μ : Mu) (d : Deferred) : Deferred :=
  match d.target with
  | .collected r => { d with target := .collected (μ.blk r) }
  | _ => d

def concAct (μ : Mu) (a : Act) : Act := { tmps := concA μ a.tmps, defers := a.defers.map (concD μ) }

def VinAct (D : Nat → Prop) (a : Act) : Prop := VinA D a.tmps ∧ ∀ d ∈ a.defers, ∃ r, d = markOf r ∧ D r

theorem VinAct.mono {D E : Nat → Prop} (h : ∀ i, D i → E i) {a : Act} (ha : VinAct D a) : VinAct E a :=
  ⟨VinA_mono h _ ha.1, fun d hd => by obtain ⟨r, hr, hD⟩ := ha.2 d hd; exact ⟨r, hr, h r hD⟩⟩

theorem concAct_agree {D : Nat → Prop} {μ μ' : Mu} (h : Agree D μ μ') {a : Act} (ha : VinAct D a) : concAct μ' a = concAct μ a := by
  unfold concAct
  rw [concA_agree h _ ha.1]
  congr 1
  refine List.map_congr_left fun d hd => ?_
  obtain ⟨r, rfl, hD⟩ := ha.2 d hd
  simp only [concD, markOf, (h r hD).1]

theorem conc_undef (μ : Mu) : conc μ undef = undef := by simp [undef, conc, concA, concL]

theorem eval_conc (μ : Mu) (a : Act) {x : Operand} (hx : okOperand x = true) : (concAct μ a).eval x = conc μ (a.eval x) := by
  cases x with
  | tmp t =>
    simp only [Act.eval, concAct, Array.getD_eq_getD_getElem?, concA_getElem?]
    cases a.tmps[t]? with
    | none => simp [conc_undef]
    | some v => simp
  | const v => simp only [Act.eval]; rw [conc_noids μ v hx]
  | global g => cases hx
  | func f => simp [Act.eval, conc, concFn, concA, concL]

theorem vin_eval {D : Nat → Prop} {a : Act} (ha : VinAct D a) {x : Operand} (hx : okOperand x = true) : Vin D (a.eval x) := by
  cases x with
  | tmp t =>
    simp only [Act.eval, Array.getD_eq_getD_getElem?]
    cases h : a.tmps[t]? with
    | none => simp [undef, Vin, VinA, VinL]
    | some v => exact VinA_get ha.1 h
  | const v => exact Vin_noids D v hx
  | global g => cases hx
  | func f => simp [Act.eval, Vin, VinA, VinL]

theorem concAct_put (μ : Mu) (a : Act) (d : Option Tmp) (v : Value) : concAct μ (a.put d v) = (concAct μ a).put d (conc μ v) := by
  cases d with
  | none => rfl
  | some d => simp only [Act.put, concAct, concA_set]

theorem VinAct_put {D : Nat → Prop} {a : Act} (ha : VinAct D a) (d : Option Tmp) {v : Value} (hv : Vin D v) : VinAct D (a.put d v) := by
  cases d with
  | none => exact ha
  | some d => exact ⟨VinA_set ha.1 _ hv, ha.2⟩

theorem yielded_conc (μ : Mu) (ops : Array Oper) (tmps : Array Value) : yielded ops (concA μ tmps) = yielded ops tmps := by
  funext j
  unfold yielded
  cases (ops[j]?).bind (·.dst) with
  | none => rfl
  | some t =>
    simp only [Option.bind_some, concA_getElem?]
    cases tmps[t]? with
    | none => rfl
    | some v =>
      cases v with
      | pointer a => cases a <;> rfl
      | slice a l c => cases a <;> rfl
      | map r => cases r <;> rfl
      | chan r => cases r <;> rfl
      | _ => simp [conc]

/-- The state has gone on. -/
structure Adv (B : Nat) (w0 : World) (σ : AS) (μ : Mu) (σ' : AS) (μ' : Mu) (w' : World) : Prop where
  rel : Rel B w0 μ' σ' w'
  agree : Agree σ.dom μ μ'
  dom : ∀ i, σ.dom i → σ'.dom i

theorem Adv.refl {B : Nat} {w0 w : World} {σ : AS} {μ : Mu} (h : Rel B w0 μ σ w) : Adv B w0 σ μ σ μ w := ⟨h, Agree.refl _ _, fun _ h => h⟩
theorem Adv.trans {B : Nat} {w0 w1 w2 : World} {σ σ1 σ2 : AS} {μ μ1 μ2 : Mu} (h : Adv B w0 σ μ σ1 μ1 w1) (k : Adv B w0 σ1 μ1 σ2 μ2 w2) : Adv B w0 σ μ σ2 μ2 w2 :=
  ⟨k.rel, h.agree.trans k.agree h.dom, fun i hi => k.dom i (h.dom i hi)⟩

/-- The machine that a call begins with. -/
def Into (P : Program) (nx : Next) (c : Frame) (cs : List Frame) (w : World) : Option Machine :=
  match nx with
  | .enter f args => some (lone (Frame.enter P f args .normal) (c :: cs) w)
  | .round l f tmps assign body => some (lone (Frame.round l f tmps assign body .normal) (c :: cs) w)
  | _ => none

/-- What is known of calls: what the abstract call answers, the machine's call comes to. -/
def CallOk (P : Program) (call : Tgt → Array Value → M Value) : Prop :=
  ∀ t args σ v σ', call t args σ = some (v, σ') → ∀ B w0 μ w, Rel B w0 μ σ w → VinA σ.dom args →
    ∃ nx, TgtRun P μ t args w = .ok nx w ∧ ∀ (c : Frame) (cs : List Frame), ∃ m μ' w', Into P nx c cs w = some m ∧ Steps P m (lone (c.finish (conc μ' v)) cs w') ∧ Adv B w0 σ μ σ' μ' w' ∧ Vin σ'.dom v

theorem aop_not_defer {P : Program} {call : Tgt → Array Value → M Value} {id : Nat} {ρ : Operand → Value} {o : Oper} {σ σ' : AS} {v : Value} (h : aop P call id ρ o σ = some (v, σ')) : (∀ c, o.op ≠ .defer c) ∧ okOps o.op = true ∧ ∀ cs b, o.op ≠ .select cs b := by
  unfold aop at h
  obtain ⟨h1, h2⟩ := bif_some h
  refine ⟨fun c hc => ?_, h1, fun cs b hc => ?_⟩
  · rw [hc] at h2; exact (M.fail_some h2).elim
  · rw [hc] at h2; exact (M.fail_some h2).elim

theorem okOps_mem {o : Op} (h : okOps o = true) {x : Operand} (hx : x ∈ o.operands) : okOperand x = true :=
  List.all_eq_true.1 h x (by simpa using hx)

theorem step_op_value {P : Program} {b : Frame} {a : Act} {k : List Item} {cs : List Frame} {w w' : World} {ops : Array Oper} {i : Nat} {rest : List Nat} {o : Oper} {nx : Next} {v : Value} (ho : ops[i]? = some o)
    (hw : Region.wanted o (yielded ops a.tmps) = true) (hd : ∀ c, o.op ≠ .defer c) (hr : (execOp a.eval o).run P w = .ok nx w') (hn : nx = .value v ∨ (nx = .skip ∧ v = undef)) :
    step P (lone (b.atR a (.inRegion ops (i :: rest) :: k)) cs w) = .next (lone (b.atR (a.put o.dst v) (.inRegion ops rest :: k)) cs w') := by
  have hg := stepGR_op (P := P) (b := b) (k := k) (cs := cs) (w := w) (rest := rest) ho hw
  rw [Oper.semAt_eq _ _ _ hd] at hg
  have hfin : (b.atR a (.inRegion ops (i :: rest) :: k)).finish v = b.atR (a.put o.dst v) (.inRegion ops rest :: k) := by
    rw [Frame.finish_atR, ho]; rfl
  rcases hn with rfl | ⟨rfl, rfl⟩
  · refine step_lone_go ?_
    rw [hg, ← hfin]; simp [stepG.apply, hr]
  · refine step_lone_go ?_
    rw [hg, ← hfin]; simp [stepG.apply, hr]

theorem step_op_call {P : Program} {b : Frame} {a : Act} {k : List Item} {cs : List Frame} {w w' : World} {ops : Array Oper} {i : Nat} {rest : List Nat} {o : Oper} {nx : Next} {m : Machine} (ho : ops[i]? = some o)
    (hw : Region.wanted o (yielded ops a.tmps) = true) (hd : ∀ c, o.op ≠ .defer c) (hr : (execOp a.eval o).run P w = .ok nx w') (hm : Into P nx (b.atR a (.inRegion ops (i :: rest) :: k)) cs w' = some m) :
    step P (lone (b.atR a (.inRegion ops (i :: rest) :: k)) cs w) = .next m := by
  have hg := stepGR_op (P := P) (b := b) (k := k) (cs := cs) (w := w) (rest := rest) ho hw
  rw [Oper.semAt_eq _ _ _ hd] at hg
  cases nx with
  | enter f args =>
    simp only [Into, Option.some.injEq] at hm
    subst hm
    refine step_lone_go ?_
    rw [hg]; simp [stepG.apply, hr, Frame.atR]
  | round l f tmps assign body =>
    simp only [Into, Option.some.injEq] at hm
    subst hm
    refine step_lone_go ?_
    rw [hg]; simp [stepG.apply, hr, Frame.atR]
  | _ => simp [Into] at hm

/-- One operation of a region. -/
theorem op_steps {P : Program} {call : Tgt → Array Value → M Value} (hcall : CallOk P call) {ops : Array Oper} {base i : Nat} {o : Oper} {a a' : Act} {σ σ' : AS} (h : stepOp P call ops base i o a σ = some (a', σ')) (ho : ops[i]? = some o)
    {B : Nat} {w0 w : World} {μ : Mu} (hr : Rel B w0 μ σ w) (ha : VinAct σ.dom a) (b : Frame) (k : List Item) (cs : List Frame) (rest : List Nat) :
    ∃ μ' w', Steps P (lone (b.atR (concAct μ a) (.inRegion ops (i :: rest) :: k)) cs w) (lone (b.atR (concAct μ' a') (.inRegion ops rest :: k)) cs w') ∧ Adv B w0 σ μ σ' μ' w' ∧ VinAct σ'.dom a' := by
  have hy : yielded ops (concAct μ a).tmps = yielded ops a.tmps := yielded_conc μ ops a.tmps
  unfold stepOp at h
  cases hw : Region.wanted o (yielded ops a.tmps) with
  | false =>
    rw [hw, cond_false] at h
    obtain ⟨rfl, rfl⟩ := M.pure_some h
    refine ⟨μ, w, .one ?_, Adv.refl hr, VinAct_put ha _ (by simp [undef, Vin, VinA, VinL])⟩
    have hs := stepR_op_skip (P := P) (b := b) (a := concAct μ a) (k := k) (cs := cs) (w := w) (ops := ops) (i := i) (rest := rest) (by rw [ho, hy]; simpa using hw)
    rw [hs, ho, concAct_put, conc_undef]
    rfl
  | true =>
    rw [hw, cond_true] at h
    obtain ⟨v, σ₁, h1, h2⟩ := M.bind_some h
    obtain ⟨rfl, rfl⟩ := M.pure_some h2
    obtain ⟨hnd, hok, hns⟩ := aop_not_defer h1
    have hcong : execOp (concAct μ a).eval o = execOp (fun x => conc μ (a.eval x)) o := execOp_congr o hns fun x hx => eval_conc μ a (okOps_mem hok hx)
    have hw' : Region.wanted o (yielded ops (concAct μ a).tmps) = true := by rw [hy]; exact hw
    rcases aop_sim hr (fun x hx => vin_eval ha (okOps_mem hok hx)) h1 with ⟨μ', w', nx, hrun, hnx, hr', hag, hvv, hdom⟩ | ⟨t, args, hc, hva, hrun⟩
    · rw [← hcong] at hrun
      refine ⟨μ', w', .one ?_, ⟨hr', hag, hdom⟩, VinAct_put (ha.mono hdom) _ hvv⟩
      have hnx' : nx = .value (conc μ' v) ∨ (nx = .skip ∧ conc μ' v = undef) := by
        rcases hnx with hq | ⟨hq, hu⟩
        · exact .inl hq
        · exact .inr ⟨hq, by rw [hu, conc_undef]⟩
      rw [step_op_value ho hw' hnd hrun hnx', concAct_put, concAct_agree hag ha]
    · rw [← hcong] at hrun
      obtain ⟨nx, hnx, hgo⟩ := hcall t args σ v _ hc B w0 μ w hr hva
      rw [hnx] at hrun
      obtain ⟨m, μ', w', hm, hst, hadv, hvv⟩ := hgo (b.atR (concAct μ a) (.inRegion ops (i :: rest) :: k)) cs
      refine ⟨μ', w', .head (step_op_call ho hw' hnd hrun hm) ?_, hadv, VinAct_put (ha.mono hadv.dom) _ hvv⟩
      rw [Frame.finish_atR, ho] at hst
      rw [concAct_put, concAct_agree hadv.agree ha]
      exact hst

/-- A row of operations, in the order of the text. -/
theorem ops_steps {P : Program} {call : Tgt → Array Value → M Value} (hcall : CallOk P call) {ops : Array Oper} {base : Nat} {B : Nat} {w0 : World} : ∀ (l : List Oper) (i : Nat) (a a' : Act) (σ σ' : AS), runOps P call ops base i l a σ = some (a', σ') →
    (∀ j, l[j]? = ops[i + j]?) → ∀ (μ : Mu) (w : World), Rel B w0 μ σ w → VinAct σ.dom a → ∀ (b : Frame) (k : List Item) (cs : List Frame),
    ∃ μ' w', Steps P (lone (b.atR (concAct μ a) (.inRegion ops (List.range' i l.length) :: k)) cs w) (lone (b.atR (concAct μ' a') k) cs w') ∧ Adv B w0 σ μ σ' μ' w' ∧ VinAct σ'.dom a'
  | [], i, a, a', σ, σ', h, _, μ, w, hr, ha, b, k, cs => by
    obtain ⟨rfl, rfl⟩ := M.pure_some h
    exact ⟨μ, w, .one stepR_region_end, Adv.refl hr, ha⟩
  | o :: l, i, a, a', σ, σ', h, hl, μ, w, hr, ha, b, k, cs => by
    obtain ⟨a₁, σ₁, h1, h2⟩ := M.bind_some h
    have ho : ops[i]? = some o := by have := hl 0; simpa using this.symm
    obtain ⟨μ₁, w₁, s1, adv1, ha1⟩ := op_steps hcall h1 ho hr ha b k cs (List.range' (i + 1) l.length)
    obtain ⟨μ₂, w₂, s2, adv2, ha2⟩ := ops_steps hcall l (i + 1) a₁ a' σ₁ σ' h2 (fun j => by have := hl (j + 1); rw [List.getElem?_cons_succ] at this; rw [this]; congr 1; omega) μ₁ w₁ adv1.rel ha1 b k cs
    refine ⟨μ₂, w₂, ?_, adv1.trans adv2, ha2⟩
    simp only [List.length_cons, List.range'_succ]
    exact s1.trans s2

end Go.Abs
