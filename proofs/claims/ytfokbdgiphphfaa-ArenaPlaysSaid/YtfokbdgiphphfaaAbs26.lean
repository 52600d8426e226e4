/- Runs with foreseen answers: a region whose order is drawn but does not matter is run in the order of the text. No condition. -/
import Derived.Test.YtfokbdgiphphfaaAbs25
namespace Go.Abs
open Go.RowKit

mutual
theorem veq_refl : ∀ a : Value, veq a a = true
  | .bool a => by simp [veq]
  | .int j a => by simp [veq]
  | .float j a => by simp [veq]
  | .complex _ _ _ => by simp [veq]
  | .string a => by simp [veq]
  | .pointer a => by simp [veq]
  | .slice a l c => by simp [veq]
  | .map a => by simp [veq]
  | .chan _ => by simp [veq]
  | .nilFunc => rfl
  | .nilIface => rfl
  | .func f xs ys => by simp only [veq, Bool.and_eq_true, decide_eq_true_eq]; exact ⟨⟨trivial, veqA_refl _⟩, veqA_refl _⟩
  | .iface t v => by simp only [veq, Bool.and_eq_true, decide_eq_true_eq]; exact ⟨trivial, veq_refl _⟩
  | .agg a => by simp only [veq]; exact veqA_refl a
  | .tuple a => by simp only [veq]; exact veqA_refl a
theorem veqA_refl : ∀ a : Array Value, veqA a a = true
  | ⟨a⟩ => by simp only [veqA]; exact veqL_refl a
theorem veqL_refl : ∀ a : List Value, veqL a a = true
  | [] => rfl
  | a :: as => by simp only [veqL, Bool.and_eq_true]; exact ⟨veq_refl a, veqL_refl as⟩
end

def Still {α : Type} (m : M α) : Prop := ∀ σ v σ', m σ = some (v, σ') → ∀ τ, m τ = some (v, τ)

theorem Still.pure {α : Type} (a : α) : Still (M.pure a) := fun _ _ _ h τ => by obtain ⟨rfl, _⟩ := M.pure_some h; rfl
theorem Still.fail {α : Type} : Still (M.fail : M α) := fun _ _ _ h => (M.fail_some h).elim
theorem Still.ofOption {α : Type} (o : Option α) : Still (M.ofOption o) := by cases o; exact Still.fail; exact Still.pure _
theorem Still.bif {α : Type} {b : Bool} {m m' : M α} (hm : Still m) (hm' : Still m') : Still (bif b then m else m') := by cases b; exact hm'; exact hm
theorem Still.viaModel (P : Program) (s : Sem Value) : Still (viaModel P s) := by
  unfold Abs.viaModel plainVal
  split
  · exact Still.bif (Still.pure _) Still.fail
  · exact Still.fail

section
variable {P : Program} {call : Tgt → Array Value → M Value}

theorem still_len {t : TypeId} {x : Value} (h : (match P.underlying t with
    | some (.slice _) | some .string | some (.array _ _) => true
    | _ => false) = true) : Still (aLen P t x) := by
  unfold aLen
  split at h
  · rename_i hu; rw [hu]; cases x <;> first | exact Still.pure _ | exact Still.fail | (rename_i r; cases r <;> first | exact Still.pure _ | exact Still.fail)
  · rename_i hu; rw [hu]; cases x <;> first | exact Still.pure _ | exact Still.fail
  · rename_i hu; rw [hu]; cases x <;> first | exact Still.pure _ | exact Still.fail
  · cases h

theorem still_aop {id : Nat} {ρ : Operand → Value} {o : Oper} (h : stillOp P o = true) : Still (aop P call id ρ o) := by
  obtain ⟨dst, op, type, pos, after, guard⟩ := o
  cases op <;> simp only [stillOp, Bool.false_eq_true] at h <;> simp only [aop] <;> refine Still.bif ?_ Still.fail
  case call c =>
    unfold aCall
    cases hc : c.callee with
    | builtin b =>
      rw [hc] at h
      cases b <;> simp only [Bool.false_eq_true] at h <;> simp only [aBuiltin, aLen]
      case len =>
        split at h
        · rename_i t ht
          rw [ht]
          split
          case h_1 h1 h2 => cases h1; exact still_len h
          all_goals first | exact Still.fail | skip
          all_goals first | (rename_i hh _; cases hh; done) | (rename_i hh _ _; cases hh; done) | (rename_i hh; cases hh; done)
        · cases h
      all_goals repeat' first | with_reducible exact Still.fail | with_reducible exact Still.pure _ | with_reducible exact Still.ofOption _ | with_reducible exact Still.viaModel _ _ | with_reducible refine Still.bif ?_ ?_ | contradiction | split
    | _ => rw [hc] at h; simp at h
  all_goals try simp only [aBuild, aBinOp, aFieldAddr, aField, aIndexAddr, aIndex, aTypeAssert]
  all_goals repeat' first | with_reducible exact Still.fail | with_reducible exact Still.pure _ | with_reducible exact Still.ofOption _ | with_reducible exact Still.viaModel _ _ | with_reducible refine Still.bif ?_ ?_ | contradiction | split

theorem isRead_still {ρ : Operand → Value} {o : Oper} (h : stillOp P o = true) : isRead P ρ o = true := by
  obtain ⟨dst, op, type, pos, after, guard⟩ := o
  cases op <;> simp only [stillOp, Bool.false_eq_true] at h <;> simp only [isRead]
  case call c =>
    cases hc : c.callee with
    | builtin b => rw [hc] at h; cases b <;> first | rfl | cases h
    | _ => rw [hc] at h; cases h

theorem isRead_plain {ρ : Operand → Value} {o : Oper} (h : plainRead P o = true) : isRead P ρ o = true := by
  unfold plainRead at h
  split at h
  · rename_i ho; simp only [isRead, ho]
  · rename_i ho; simp only [isRead, ho]
  · rename_i c ho
    split at h
    · rename_i hc; simp only [isRead, ho, hc]
    · rename_i hc; simp only [isRead, ho, hc]
    · cases h
  · exact isRead_still h


/-! ## The walk through a calm region -/

theorem stepOp_of {ops : Array Oper} {base i : Nat} {o : Oper} {a : Act} {σ σ' : AS} {v : Value} (h : opVal P call ops base i o a σ = some (v, σ')) : stepOp P call ops base i o a σ = some (a.put o.dst v, σ') := by
  unfold opVal at h
  unfold stepOp
  cases hw : Region.wanted o (yielded ops a.tmps) with
  | true => rw [hw, cond_true] at h; rw [cond_true]; simp only [M.bind, h, M.pure]
  | false =>
    rw [hw, cond_false] at h
    obtain ⟨e1, e2⟩ := M.pure_some h
    rw [cond_false, e2, e1]
    rfl

theorem stepOp_some {ops : Array Oper} {base i : Nat} {o : Oper} {a a' : Act} {σ σ' : AS} (h : stepOp P call ops base i o a σ = some (a', σ')) : ∃ v, opVal P call ops base i o a σ = some (v, σ') ∧ a' = a.put o.dst v := by
  unfold stepOp at h
  unfold opVal
  cases hw : Region.wanted o (yielded ops a.tmps) with
  | true =>
    rw [hw, cond_true] at h
    obtain ⟨v, s, h1, h2⟩ := M.bind_some h
    obtain ⟨rfl, rfl⟩ := M.pure_some h2
    exact ⟨v, h1, rfl⟩
  | false =>
    rw [hw, cond_false] at h
    obtain ⟨rfl, rfl⟩ := M.pure_some h
    exact ⟨undef, rfl, rfl⟩

theorem nbeq_of {a b : Nat} (h : a = b) : Nat.beq a b = true := by rw [h]; exact Nat.beq_refl b

/-- Two operations of a calm region: the first looks at the state, the second may change it. -/
def OrderedAt (b : Array Nat) (i e : Nat) : Prop := (e < i → (b.getD i 0).testBit e = true) ∧ (i < e → (b.getD e 0).testBit i = true)

structure DI (P : Program) (call : Tgt → Array Value → M Value) (ops : Array Oper) (base : Nat) (b : Array Nat) (i : Nat) (d : DS) : Prop where
  lt : ∀ e, d.mask.testBit e = true → e < i
  eff : ∀ e, d.mask.testBit e = true → ∃ y, ops[e]? = some y ∧ plainRead P y = false
  phases : ∀ p ∈ d.phases, ∃ m, (∀ e, p.1.testBit e = (d.mask.testBit e && decide (e < m))) ∧ (∀ e, p.1.testBit e = true → ∀ j, (b.getD e 0).testBit j = true → p.2.1.testBit j = true)
  ups : ∀ e, d.mask.testBit e = true → ∀ j, (b.getD e 0).testBit j = true → d.ups.testBit j = true
  bound : ∀ p ∈ d.phases, ∀ e, p.1.testBit e = true → e < i
  reads : ∀ r ∈ d.reads, r.1 < i ∧ ops[r.1]? = some r.2.1 ∧ d.mask.testBit r.1 = false ∧
    ((Region.wanted r.2.1 (yielded ops r.2.2.1.tmps) = false ∨ stillOp P r.2.1 = true) → ∀ τ, opVal P call ops base r.1 r.2.1 r.2.2.1 τ = some (r.2.2.2, τ))

theorem Nat.testBit_mask (m i e : Nat) : (m ||| 2 ^ i).testBit e = (m.testBit e || decide (e = i)) := by
  rw [Nat.testBit_or, Nat.testBit_two_pow]
  congr 1
  by_cases h : i = e
  · subst h; simp
  · simp [h, Ne.symm h]

theorem calm_at {ops : Array Oper} (h : calm P ops = true) {i e : Nat} {x y : Oper} (hx : ops[i]? = some x) (hy : ops[e]? = some y) (hs : stillOp P x = false) (hp : plainRead P y = false) (hne : i ≠ e) : OrderedAt (bef ops) i e := by
  unfold calm at h
  simp only [Bool.and_eq_true, List.all_eq_true, List.mem_range] at h
  have h1 := h.2 i (Array.getElem?_eq_some_iff.1 hx).1 e (Array.getElem?_eq_some_iff.1 hy).1
  rw [hx, hy] at h1
  simp only [hs, hp, Bool.false_or, nbeq_false hne] at h1
  constructor
  · intro hl
    rw [nblt.2 hl, cond_true] at h1
    exact h1
  · intro hl
    have : Nat.blt e i = false := by
      cases hb : Nat.blt e i with
      | false => rfl
      | true => exact absurd (nblt.1 hb) (by omega)
    rw [this, cond_false] at h1
    exact h1

theorem drawAll_calm {ops : Array Oper} (hcalm : calm P ops = true) {base : Nat} : ∀ (r : List Oper) (i : Nat) (d : DS) (a' : Act) (σ' : AS), ops.toList.drop i = r → DI P call ops base (bef ops) i d →
    runOps P call ops base i r d.act d.st = some (a', σ') → ∃ d', drawAll P call ops base (bef ops) i r d = some d' ∧ d'.act = a' ∧ d'.st = σ' ∧ DI P call ops base (bef ops) (i + r.length) d'
  | [], i, d, a', σ', _, hd, h => by
    obtain ⟨rfl, rfl⟩ := M.pure_some h
    exact ⟨d, rfl, rfl, rfl, hd⟩
  | o :: r, i, d, a', σ', hdrop, hd, h => by
    have ho : ops[i]? = some o := by
      have : ops.toList[i]? = some o := by
        have := congrArg (fun l => l[0]?) hdrop
        simpa using this
      simpa using this
    have hdrop' : ops.toList.drop (i + 1) = r := by
      rw [← List.drop_drop, hdrop]; rfl
    simp only [runOps] at h
    obtain ⟨a1, σ1, h1, h2⟩ := M.bind_some h
    obtain ⟨v, hv, rfl⟩ := stepOp_some h1
    cases he : isEff P ops o d.act with
    | true =>
      have hw : Region.wanted o (yielded ops d.act.tmps) = true ∧ isRead P d.act.eval o = false := by
        unfold isEff at he
        simp only [Bool.and_eq_true, Bool.not_eq_true'] at he
        exact he
      have hpl : plainRead P o = false := by
        cases hq : plainRead P o with
        | false => rfl
        | true => rw [isRead_plain hq] at hw; cases hw.2
      have hst : stillOp P o = false := by
        cases hq : stillOp P o with
        | false => rfl
        | true => rw [isRead_still hq] at hw; cases hw.2
      have hmask : Nat.beq (d.mask &&& (bef ops).getD i 0) d.mask = true := by
        apply nbeq_of
        apply Nat.eq_of_testBit_eq
        intro e
        rw [Nat.testBit_and]
        cases hb : d.mask.testBit e with
        | false => rfl
        | true =>
          obtain ⟨y, hy, hyp⟩ := hd.eff e hb
          have hl := hd.lt e hb
          rw [(calm_at hcalm ho hy hst hyp (by omega)).1 hl]
          rfl
      have hd1 : DI P call ops base (bef ops) (i + 1) { act := d.act.put o.dst v, mask := d.mask ||| 2 ^ i, ups := d.ups ||| (bef ops).getD i 0, st := σ1, phases := (d.mask ||| 2 ^ i, d.ups ||| (bef ops).getD i 0, σ1) :: d.phases, reads := d.reads } := by
        have hmi : d.mask.testBit i = false := by
          cases hb : d.mask.testBit i with
          | false => rfl
          | true => exact absurd (hd.lt i hb) (by omega)
        have hups : ∀ e, (d.mask ||| 2 ^ i).testBit e = true → ∀ j, ((bef ops).getD e 0).testBit j = true → (d.ups ||| (bef ops).getD i 0).testBit j = true := by
          intro e hb j hj
          rw [Nat.testBit_mask, Bool.or_eq_true, decide_eq_true_eq] at hb
          rw [Nat.testBit_or, Bool.or_eq_true]
          rcases hb with hb | rfl
          · exact Or.inl (hd.ups e hb j hj)
          · exact Or.inr hj
        refine ⟨fun e hb => ?_, fun e hb => ?_, fun p hp => ?_, hups, fun p hp e hb => ?_, fun q hq => ?_⟩
        · rw [Nat.testBit_mask, Bool.or_eq_true, decide_eq_true_eq] at hb
          rcases hb with hb | rfl
          · have := hd.lt e hb; omega
          · omega
        · rw [Nat.testBit_mask, Bool.or_eq_true, decide_eq_true_eq] at hb
          rcases hb with hb | rfl
          · exact hd.eff e hb
          · exact ⟨o, ho, hpl⟩
        · rcases List.mem_cons.1 hp with rfl | hp
          · refine ⟨i + 1, fun e => ?_, hups⟩
            cases hb : (d.mask ||| 2 ^ i).testBit e with
            | false => rfl
            | true =>
              rw [Nat.testBit_mask, Bool.or_eq_true, decide_eq_true_eq] at hb
              have : e < i + 1 := by
                rcases hb with hb | rfl
                · have := hd.lt e hb; omega
                · omega
              rw [decide_eq_true this]; rfl
          · obtain ⟨m, hm1, hm2⟩ := hd.phases p hp
            refine ⟨min m i, fun e => ?_, hm2⟩
            rw [hm1, Nat.testBit_mask]
            by_cases hei : e = i
            · subst hei; rw [hmi]; have : ¬ e < min m e := by omega
              simp [this]
            · cases hb : d.mask.testBit e with
              | false => simp [hei]
              | true =>
                have := hd.lt e hb
                by_cases hem : e < m <;> simp [hem, hei] <;> omega
        · rcases List.mem_cons.1 hp with rfl | hp
          · rw [Nat.testBit_mask, Bool.or_eq_true, decide_eq_true_eq] at hb
            rcases hb with hb | rfl
            · have := hd.lt e hb; omega
            · omega
          · have := hd.bound p hp e hb; omega
        · obtain ⟨q1, q2, q3, q4⟩ := hd.reads q hq
          refine ⟨by omega, q2, ?_, q4⟩
          rw [Nat.testBit_mask, q3]
          have : q.1 ≠ i := by omega
          simp [this]
      obtain ⟨d', k1, k2, k3, k4⟩ := drawAll_calm hcalm r (i + 1) _ a' σ' hdrop' hd1 h2
      refine ⟨d', ?_, k2, k3, by rw [List.length_cons]; exact (by rw [show i + (r.length + 1) = i + 1 + r.length by omega]; exact k4)⟩
      simp only [drawAll, drawOne, hv, he, hmask, cond_true]
      exact k1
    | false =>
      have hkeep : σ1 = d.st := by
        unfold opVal at hv
        cases hw : Region.wanted o (yielded ops d.act.tmps) with
        | false =>
          rw [hw, cond_false] at hv
          exact (M.pure_some hv).2.symm
        | true =>
          rw [hw, cond_true] at hv
          have hr : isRead P d.act.eval o = true := by
            unfold isEff at he
            rw [hw, Bool.true_and] at he
            simpa using he
          exact aop_read o hr _ _ _ hv
      subst hkeep
      have hd1 : DI P call ops base (bef ops) (i + 1) { d with act := d.act.put o.dst v, reads := (i, o, d.act, v) :: d.reads } := by
        refine ⟨fun e hb => (by have := hd.lt e hb; omega), hd.eff, hd.phases, hd.ups, fun p hp e hb => (by have := hd.bound p hp e hb; omega), fun q hq => ?_⟩
        rcases List.mem_cons.1 hq with rfl | hq
        · refine ⟨by simp, ho, ?_, fun hs τ => ?_⟩
          · cases hb : d.mask.testBit i with
            | false => rfl
            | true => exact absurd (hd.lt i hb) (by omega)
          · dsimp only at hs ⊢
            unfold opVal at hv ⊢
            cases hw : Region.wanted o (yielded ops d.act.tmps) with
            | false => rw [hw, cond_false] at hv; obtain ⟨rfl, _⟩ := M.pure_some hv; rfl
            | true =>
              rw [hw, cond_true] at hv
              rw [cond_true]
              rcases hs with hs | hs
              · rw [hw] at hs; cases hs
              · exact still_aop hs _ _ _ hv τ
        · obtain ⟨q1, q2, q3, q4⟩ := hd.reads q hq
          exact ⟨by omega, q2, q3, q4⟩
      obtain ⟨d', k1, k2, k3, k4⟩ := drawAll_calm hcalm r (i + 1) _ a' σ' hdrop' hd1 h2
      refine ⟨d', ?_, k2, k3, by rw [List.length_cons]; exact (by rw [show i + (r.length + 1) = i + 1 + r.length by omega]; exact k4)⟩
      simp only [drawAll, drawOne, hv, he, cond_false]
      exact k1

theorem calm_draw {ops : Array Oper} (hcalm : calm P ops = true) {base : Nat} {a a' : Act} {σ σ' : AS} (h : runOps P call ops base 0 ops.toList a σ = some (a', σ')) : runDraw P call ops base a σ = some (a', σ') := by
  have hz : ∀ e, Nat.testBit 0 e = false := fun e => Nat.zero_testBit e
  have h0 : DI P call ops base (bef ops) 0 { act := a, mask := 0, ups := 0, st := σ, phases := [(0, 0, σ)], reads := [] } := by
    refine ⟨fun e hb => ?_, fun e hb => ?_, fun p hp => ?_, fun e hb => ?_, fun p hp e hb => ?_, fun q hq => ?_⟩
    · rw [hz] at hb; cases hb
    · rw [hz] at hb; cases hb
    · rcases List.mem_cons.1 hp with rfl | hp
      · exact ⟨0, fun e => (by simp), fun e hb => (by rw [hz] at hb; cases hb)⟩
      · cases hp
    · rw [hz] at hb; cases hb
    · rcases List.mem_cons.1 hp with rfl | hp
      · rw [hz] at hb; cases hb
      · cases hp
    · cases hq
  obtain ⟨d, k1, k2, k3, k4⟩ := drawAll_calm hcalm ops.toList 0 _ a' σ' (by simp) h0 h
  have hs : (drawStatic ops (bef ops) && P.follows .mixedOrders) = true := by
    unfold calm at hcalm
    rw [Bool.and_eq_true] at hcalm
    exact hcalm.1
  have hr : (d.reads.all fun r => d.phases.all fun p => readOk P call ops base (bef ops) d.mask r p) = true := by
    rw [List.all_eq_true]
    intro r hr
    rw [List.all_eq_true]
    intro p hp
    obtain ⟨r1, r2, r3, r4⟩ := k4.reads r hr
    unfold readOk
    rw [Bool.or_eq_true]
    by_cases hst : Region.wanted r.2.1 (yielded ops r.2.2.1.tmps) = false ∨ stillOp P r.2.1 = true
    · right
      rw [r4 hst]
      exact veq_refl _
    · left
      simp only [not_or, Bool.not_eq_true, Bool.not_eq_false] at hst
      obtain ⟨m, hm1, hm2⟩ := k4.phases p hp
      unfold readSkip
      by_cases hpm : p.1 = d.mask % 2 ^ r.1
      · have : Nat.beq p.1 (d.mask % 2 ^ r.1) = true := nbeq_of hpm
        rw [this, Bool.or_true]
      · have : ∃ e, p.1.testBit e ≠ (d.mask % 2 ^ r.1).testBit e := by
          apply Classical.byContradiction
          intro hn
          apply hpm
          apply Nat.eq_of_testBit_eq
          intro e
          apply Classical.byContradiction
          intro hne
          exact hn ⟨e, hne⟩
        obtain ⟨e, hne⟩ := this
        rw [hm1, Nat.testBit_mod_two_pow] at hne
        cases hb : d.mask.testBit e with
        | false => rw [hb] at hne; simp at hne
        | true =>
          rw [hb] at hne
          obtain ⟨y, hy, hyp⟩ := k4.eff e hb
          have hre : r.1 ≠ e := by
            intro hh
            rw [hh, hb] at r3
            cases r3
          have hord := calm_at hcalm r2 hy hst.2 hyp hre
          rw [Bool.or_eq_true, Bool.or_eq_true]
          left
          by_cases hlt : e < r.1
          · left
            have hem : ¬ e < m := by
              intro hh
              apply hne
              simp [hh, hlt]
            rw [Bool.not_eq_true']
            apply nbeq_false
            intro hh
            have := congrArg (fun x => Nat.testBit x e) hh
            simp only [Nat.testBit_and, hord.1 hlt, hb, hm1, decide_eq_false hem] at this
            simp at this
          · right
            have hem : e < m := by
              apply Classical.byContradiction
              intro hh
              apply hne
              simp [hh, hlt]
            exact hm2 e (by rw [hm1, hb, decide_eq_true hem]; rfl) _ (hord.2 (by omega))
  unfold runDraw
  rw [hs, cond_true, k1]
  dsimp only
  rw [hr, cond_true, k2, k3]

end
end Go.Abs
