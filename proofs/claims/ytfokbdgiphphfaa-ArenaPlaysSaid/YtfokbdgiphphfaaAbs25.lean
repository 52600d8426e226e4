/- Runs with foreseen answers over frames of which some slots are known: operations are sound. No condition. -/
import Derived.Test.YtfokbdgiphphfaaAbs24
namespace Go.Abs
open Go.RowKit

theorem up_zero (σ : AS) : σ.up 0 = σ := rfl
theorem up_up (σ : AS) (a b : Nat) : (σ.up a).up b = σ.up (a + b) := by
  simp only [AS.up, Nat.add_assoc]

theorem addOff'_eq (a : Addr) (n : Nat) : addOff' a n = addOff a n := by
  unfold addOff' addOff
  cases h : Nat.beq a.off 0 with
  | false => rfl
  | true => rw [Nat.eq_of_beq_eq_true h, cond_true, Nat.zero_add]

theorem timesOne_eq (i n : Nat) : timesOne i n = i * n := by
  unfold timesOne
  cases h : Nat.beq n 1 with
  | false => rfl
  | true => rw [Nat.eq_of_beq_eq_true h, cond_true, Nat.mul_one]

section
variable {P : Program} {call : Tgt → Array Value → M Value} {callS : FuncId → Array Value → SS → Res Value}

/-- What is known of calls that are run in place. -/
def CallSOk (call : Tgt → Array Value → M Value) (callS : FuncId → Array Value → SS → Res Value) : Prop :=
  ∀ g args s v s', callS g args s = .ok v s' → Holds s'.log → Holds s.log ∧ call (.func g) args s.now = some (v, s'.now)

theorem autoS_sound {id : Nat} {ρ : Operand → Value} {o : Oper} {s s' : SS} {v : Value} (h : autoS P call id ρ o s = .ok v s') : s'.log = s.log ∧ aop P call id ρ o s.now = some (v, s'.now) := by
  unfold autoS at h
  cases ha : aop P call id ρ o s.now with
  | none => rw [ha] at h; cases h
  | some r =>
    obtain ⟨u, σ'⟩ := r
    rw [ha] at h
    cases hr : isRead P ρ o with
    | true =>
      simp only [hr, cond_true, Res.ok.injEq] at h
      obtain ⟨rfl, rfl⟩ := h
      rw [aop_read o hr _ _ _ ha]
      exact ⟨rfl, rfl⟩
    | false =>
      simp only [hr, cond_false, Res.ok.injEq] at h
      obtain ⟨rfl, rfl⟩ := h
      exact ⟨rfl, rfl⟩

theorem logS_sound {id : Nat} {ρ : Operand → Value} {o : Oper} {σ σ' : AS} {v : Value} (hk : okOps o.op = true) (h : logS P call id ρ o σ v σ') : aop P call id ρ o σ = some (v, σ') := by
  obtain ⟨dst, op, type, pos, after, guard⟩ := o
  unfold aop
  cases op <;> simp only [logS] at h <;> simp only [hk, cond_true]
  case call c =>
    unfold aCall
    cases hc : c.callee with
    | builtin b => rw [hc] at h; exact h
    | value f => rw [hc] at h; simp only [aop, hk, cond_true, aCall, hc] at h; exact h
    | invoke r m => rw [hc] at h; simp only [aop, hk, cond_true, aCall, hc] at h; exact h
  case slice t x lo hi mx =>
    cases hn : (noids (ρ x) && noidsO (lo.map ρ) && noidsO (hi.map ρ) && noidsO (mx.map ρ)) with
    | true => rw [hn] at h; simp only [cond_true, aop, hk, hn] at h; exact h
    | false => rw [hn] at h; simp only [cond_false] at h ⊢; exact h
  all_goals first
    | exact h
    | (simp only [aop, hk, cond_true] at h; exact h)

theorem other_sound {id : Nat} {ρ : Operand → Value} {o : Oper} {s s' : SS} {v : Value} (hk : okOps o.op = true) (h : otherS P call id ρ o s = .ok v s') (hl : Holds s'.log) :
    Holds s.log ∧ aop P call id ρ o s.now = some (v, s'.now) := by
  unfold otherS at h
  split at h
  · cases hr : isRead P ρ o with
    | true =>
      rw [hr, cond_true] at h
      cases h
      exact ⟨hl.2, logS_sound hk hl.1⟩
    | false => rw [hr] at h; cases h
  · cases hr : isRead P ρ o with
    | true =>
      rw [hr, cond_true] at h
      obtain ⟨h1, h2⟩ := autoS_sound h
      exact ⟨by rw [h1] at hl; exact hl, h2⟩
    | false =>
      rw [hr, cond_false] at h
      cases h
      exact ⟨hl.2, logS_sound hk hl.1⟩
  · obtain ⟨h1, h2⟩ := autoS_sound h
    exact ⟨by rw [h1] at hl; exact hl, h2⟩
  · obtain ⟨h1, h2⟩ := autoS_sound h
    exact ⟨by rw [h1] at hl; exact hl, h2⟩

theorem upto_sound {id : Nat} {ρ : Operand → Value} {o : Oper} {s s' : SS} {v : Value} (hk : okOps o.op = true) (h : uptoS P call id ρ o s = .ok v s') (hl : Holds s'.log) :
    Holds s.log ∧ aop P call id ρ o s.now = some (v, s'.now) := by
  unfold uptoS at h
  split at h
  · cases h
    exact ⟨hl.2, logS_sound hk hl.1⟩
  · obtain ⟨h1, h2⟩ := autoS_sound h
    exact ⟨by rw [h1] at hl; exact hl, h2⟩
  · obtain ⟨h1, h2⟩ := autoS_sound h
    exact ⟨by rw [h1] at hl; exact hl, h2⟩

theorem auto_sound {id : Nat} {ρ : Operand → Value} {o : Oper} {s s' : SS} {v : Value} (h : autoS P call id ρ o s = .ok v s') (hl : Holds s'.log) : Holds s.log ∧ aop P call id ρ o s.now = some (v, s'.now) := by
  obtain ⟨h1, h2⟩ := autoS_sound h
  exact ⟨by rw [h1] at hl; exact hl, h2⟩

theorem fresh_sound {id : Nat} {ρ : Operand → Value} {o : Oper} {s s' : SS} {v u : Value} {c : Option (List Value)} (h : freshS P call id ρ o c u s = .ok v s') (hl : Holds s'.log)
    (hf : ∀ c', c = some c' → ∀ σ : AS, σ.heap.get id = none → id < σ.next → aop P call id ρ o σ = some (u, σ.put id (.cells c' 0 false))) : Holds s.log ∧ aop P call id ρ o s.now = some (v, s'.now) := by
  unfold freshS at h
  split at h
  · split at h
    · cases h
      exact ⟨hl.2, hf _ rfl _ hl.1.1 hl.1.2⟩
    · cases h
  · have t := auto_sound h hl; exact t
  · exact auto_sound h hl

theorem ints_of {id : Nat} {ρ : Operand → Value} {o : Oper} {op : BinOp} {t : TypeId} {x y : Operand} {z : TypeId} {j : IntKind} {a b : Int} {σ : AS} {r : Value} (hk : okOps o.op = true) (ho : o.op = .binOp op t x y z) (hx : ρ x = .int j a) (hy : ρ y = .int j b)
    (h : pureSem P (do eqGuard op t x y (.int j a) (.int j b); binOp op t (.int j a) (.int j b)) = some r) (hn : noids r = true) : aop P call id ρ o σ = some (r, σ) := by
  unfold aop
  rw [hk, cond_true, ho]
  simp only [hx, hy, aBinOp, noids, Bool.and_self, cond_true, viaModel, h, plainVal, hn, M.pure]

theorem pure_guard {op : BinOp} {t : TypeId} {x y : Operand} {j : IntKind} {a b : Int} : pureSem P (do eqGuard op t x y (.int j a) (.int j b); binOp op t (.int j a) (.int j b)) = pureSem P (binOp op t (.int j a) (.int j b)) := by
  cases op <;> rfl

theorem brS_sound {p : Prop} [Decidable p] {b : Bool} {s s' : SS} {v : Value} {A : AS → Value → AS → Prop} (h : brS p b s = .ok v s') (hl : Holds s'.log)
    (hb : ∀ σ, A σ (.bool (bif decide p then b else !b)) σ) : Holds s.log ∧ A s.now v s'.now := by
  unfold brS at h
  split at h
  · cases h
    refine ⟨hl.2, ?_⟩
    have := hb s.now
    rw [decide_eq_true hl.1] at this
    exact this
  · cases h
    refine ⟨hl.2, ?_⟩
    have := hb s.now
    rw [decide_eq_false hl.1] at this
    exact this
  · cases h
    refine ⟨hl, ?_⟩
    have := hb s.now
    cases b with
    | true => cases hd : decide p <;> rw [hd] at this <;> exact this
    | false => cases hd : decide p <;> rw [hd] at this <;> exact this

theorem numS_sound {x : Int} {j : IntKind} {s s' : SS} {v : Value} {A : AS → Value → AS → Prop} (h : numS x j s = .ok v s') (hl : Holds s'.log) (hb : ∀ σ, A σ (.int j x) σ) : Holds s.log ∧ A s.now v s'.now := by
  unfold numS at h
  split at h
  · cases h
    have := hb s.now
    rw [hl.1] at this
    exact ⟨hl.2, this⟩
  · cases h; exact ⟨hl, hb _⟩

theorem binS_sound {op : BinOp} {j : IntKind} {a b : Int} {other : SS → Res Value} {s s' : SS} {v : Value} {A : AS → Value → AS → Prop} (h : binS op j a b other s = .ok v s') (hl : Holds s'.log)
    (hb : ∀ r, pureSem P (binOp op 0 (.int j a) (.int j b)) = some r → noids r = true → ∀ σ, A σ r σ) (ho : ∀ s s', other s = .ok v s' → Holds s'.log → Holds s.log ∧ A s.now v s'.now) : Holds s.log ∧ A s.now v s'.now := by
  have cmp : ∀ {r : Bool}, (pureSem P (binOp op 0 (.int j a) (.int j b)) = some (.bool r)) → ∀ σ, A σ (.bool r) σ := fun h => hb _ h rfl
  have num : ∀ {r : Int}, (pureSem P (binOp op 0 (.int j a) (.int j b)) = some (.int j r)) → ∀ σ, A σ (.int j r) σ := fun h => hb _ h rfl
  unfold binS at h
  split at h
  · exact brS_sound h hl (cmp (by by_cases h : a < b <;> simp [binOp, Op.intCmp, h] <;> rfl))
  · exact brS_sound h hl (cmp (by by_cases h : a ≤ b <;> simp [binOp, Op.intCmp, h] <;> rfl))
  · exact brS_sound h hl (cmp (by by_cases h : b < a <;> simp [binOp, Op.intCmp, h] <;> rfl))
  · exact brS_sound h hl (cmp (by by_cases h : b ≤ a <;> simp [binOp, Op.intCmp, h] <;> rfl))
  · exact brS_sound h hl (cmp (by by_cases h : a = b <;> simp [binOp, Op.intCmp] <;> (show some (Value.bool (a == b)) = _) <;> simp [h]))
  · exact brS_sound h hl (cmp (by by_cases h : a = b <;> simp [binOp, Op.intCmp] <;> (show some (Value.bool (a != b)) = _) <;> simp [h]))
  · exact numS_sound h hl (num (by simp [binOp, Op.intArith]; rfl))
  · exact numS_sound h hl (num (by simp [binOp, Op.intArith]; rfl))
  · exact numS_sound h hl (num (by simp [binOp, Op.intArith]; rfl))
  · exact numS_sound h hl (num (by simp [binOp, Op.intBits]; rfl))
  · exact numS_sound h hl (num (by simp [binOp, Op.intBits]; rfl))
  · by_cases hz : b = 0
    · rw [decide_eq_true hz] at h; cases h
    · rw [decide_eq_false hz, cond_false] at h
      exact numS_sound h hl (num (by simp [binOp, Op.intDiv, hz]; rfl))
  · by_cases hz : b = 0
    · rw [decide_eq_true hz] at h; cases h
    · rw [decide_eq_false hz, cond_false] at h
      exact numS_sound h hl (num (by simp [binOp, Op.intDiv, hz]; rfl))
  · exact ho _ _ h hl

theorem shiftS_sound {op : BinOp} {j j' : IntKind} {a b : Int} {other : SS → Res Value} {s s' : SS} {v : Value} {A : AS → Value → AS → Prop} (h : shiftS op j a b other s = .ok v s') (hl : Holds s'.log)
    (hb : ∀ r, pureSem P (binOp op 0 (.int j a) (.int j' b)) = some r → noids r = true → ∀ σ, A σ r σ) (ho : ∀ s s', other s = .ok v s' → Holds s'.log → Holds s.log ∧ A s.now v s'.now) : Holds s.log ∧ A s.now v s'.now := by
  have num : ∀ {r : Int}, (pureSem P (binOp op 0 (.int j a) (.int j' b)) = some (.int j r)) → ∀ σ, A σ (.int j r) σ := fun h => hb _ h rfl
  unfold shiftS at h
  split at h
  · by_cases hz : b < 0
    · rw [decide_eq_true hz] at h; cases h
    · rw [decide_eq_false hz, cond_false] at h
      exact numS_sound h hl (num (by simp [binOp, Op.shift, hz]; rfl))
  · by_cases hz : b < 0
    · rw [decide_eq_true hz] at h; cases h
    · rw [decide_eq_false hz, cond_false] at h
      exact numS_sound h hl (num (by simp [binOp, Op.shift, hz]; rfl))
  · exact ho _ _ h hl

theorem callOp_sound (hc : CallSOk call callS) {id : Nat} {ρ : Operand → Value} {o : Oper} {t : Option (Tgt × Array Value)} {s s' : SS} {v : Value} (h : callOpS P call callS id ρ o t s = .ok v s') (hl : Holds s'.log)
    (hb : ∀ g args, t = some (.func g, args) → ∀ σ r, call (.func g) args σ = some r → aop P call id ρ o σ = some r) : Holds s.log ∧ aop P call id ρ o s.now = some (v, s'.now) := by
  unfold callOpS at h
  split at h
  · rename_i g args
    split at h
    · cases h
      exact ⟨hl.2, hb _ _ rfl _ _ hl.1⟩
    · obtain ⟨h1, h2⟩ := hc _ _ _ _ _ h hl
      exact ⟨h1, hb _ _ rfl _ _ h2⟩
    · have t := auto_sound h hl; exact t
    · obtain ⟨h1, h2⟩ := hc _ _ _ _ _ h hl
      exact ⟨h1, hb _ _ rfl _ _ h2⟩
  · exact auto_sound h hl

theorem ix_bounds {j : Int} {m len : Nat} (h : j = (m : Int) ∧ m < len) : (decide (0 ≤ j) && decide (j < (len : Int))) = true ∧ j.toNat = m := by
  obtain ⟨rfl, h⟩ := h
  refine ⟨?_, by simp⟩
  rw [Bool.and_eq_true]
  exact ⟨decide_eq_true (by omega), decide_eq_true (by omega)⟩

theorem ix_sound {id : Nat} {ρ : Operand → Value} {o : Oper} {t : TypeId} {x i : Value} {s s' : SS} {v : Value} (h : ixS P call id ρ o t x i s = .ok v s') (hl : Holds s'.log)
    (hb : ∀ σ, aop P call id ρ o σ = aIndexAddr P t x i σ) : Holds s.log ∧ aop P call id ρ o s.now = some (v, s'.now) := by
  unfold ixS at h
  split at h
  · split at h
    · rename_i hu
      split at h
      · rename_i n hs
        cases h
        refine ⟨hl.2, ?_⟩
        obtain ⟨h1, h2⟩ := ix_bounds hl.1
        rw [hb, addOff'_eq, timesOne_eq]
        simp only [aIndexAddr, hu, hs, h1, h2, cond_true, M.pure]
        rfl
      · cases h
    · rename_i hu
      split at h
      · rename_i n hs
        cases h
        refine ⟨hl.2, ?_⟩
        obtain ⟨h1, h2⟩ := ix_bounds hl.1
        rw [hb, addOff'_eq, timesOne_eq]
        simp only [aIndexAddr, hu, hs, h1, h2, cond_true, M.pure]
        rfl
      · cases h
    · cases h
  · have t := auto_sound h hl; exact t
  · exact auto_sound h hl

theorem newCells_of {σ : AS} {id : Nat} {c : List Value} (h : σ.heap.get id = none) (hl : id < σ.next) : newCells id c σ = some ((), σ.put id (.cells c 0 false)) := M.alloc_of h hl

theorem binOp_type (op : BinOp) (t u : TypeId) {j k : IntKind} {a b : Int} : binOp op t (.int j a) (.int k b) = binOp op u (.int j a) (.int k b) := by
  cases op <;> rfl

theorem pureSem_underlying {β : Type} {t : TypeId} {d : TypeDesc} (h : P.underlying t = some d) (f : TypeDesc → Sem β) : pureSem P (underlying t >>= f) = pureSem P (f d) := by
  show pureSem P (Sem.bind (underlying t) f) = _
  unfold underlying
  show pureSem P (Sem.bind (Sem.bind (Sem.program Sem.pure) _) f) = _
  simp only [Sem.bind, pureSem, h]
  rfl

theorem pureSem_convert {src dst : TypeId} {k' j k : IntKind} {n : Int} (h1 : P.underlying src = some (.int k')) (h2 : P.underlying dst = some (.int j)) : pureSem P (convert src dst (.int k n)) = some (.int j (j.wrap n)) := by
  unfold convert
  rw [pureSem_underlying h1, pureSem_underlying h2]
  rfl

theorem sOp_sound (hc : CallSOk call callS) {id : Nat} {ρ : Operand → Value} {o : Oper} {s s' : SS} {v : Value} (hk : okOps o.op = true) (h : sOp P call callS id ρ o s = .ok v s') (hl : Holds s'.log) :
    Holds s.log ∧ aop P call id ρ o s.now = some (v, s'.now) := by
  obtain ⟨dst, op, type, pos, after, guard⟩ := o
  cases op
  case load | lookup | index => exact other_sound hk h hl
  case store | slice | mapUpdate | insert | makeSlice | makeMap => exact upto_sound hk h hl
  case binOp op t x y z =>
    dsimp only [sOp] at h
    split at h
    · rename_i j a j' b hx hy
      cases hsh : isShift op with
      | true =>
        rw [hsh, cond_true] at h
        refine shiftS_sound (P := P) (j' := j') (A := fun σ v σ' => aop P call id ρ _ σ = some (v, σ')) h hl (fun r hr hn σ => ?_) fun s s' h hl => other_sound hk h hl
        have hg : pureSem P (do eqGuard op t x y (.int j a) (.int j' b); binOp op t (.int j a) (.int j' b)) = some r := by
          rw [← hr, binOp_type op t 0]
          cases op <;> first | rfl | cases hsh
        unfold aop
        rw [hk, cond_true]
        simp only [hx, hy, aBinOp, noids, Bool.and_self, cond_true, viaModel, hg, plainVal, hn, M.pure]
      | false =>
      rw [hsh, cond_false] at h
      by_cases hj : j = j'
      · subst hj
        rw [decide_eq_true rfl, cond_true] at h
        refine binS_sound (P := P) (A := fun σ v σ' => aop P call id ρ _ σ = some (v, σ')) h hl (fun r hr hn σ => ints_of hk rfl hx hy (by rw [pure_guard, binOp_type op t 0]; exact hr) hn) fun s s' h hl => other_sound hk h hl
      · rw [decide_eq_false hj] at h; cases h
    · split at h
      · exact other_sound hk h hl
      · cases hb : isAdd op with
        | true => rw [hb, cond_true] at h; exact other_sound hk h hl
        | false => rw [hb, cond_false] at h; exact auto_sound h hl
      · exact other_sound hk h hl
      · exact auto_sound h hl
  case unOp op t x =>
    dsimp only [sOp] at h
    split at h
    · rename_i j n hx
      refine numS_sound (A := fun σ v σ' => aop P call id ρ _ σ = some (v, σ')) h hl (fun σ => ?_)
      unfold aop
      rw [hk, cond_true]
      dsimp only
      rw [hx]
      rfl
    · exact auto_sound h hl
  case alloc e =>
    dsimp only [sOp] at h
    refine fresh_sound h hl fun c' hc' σ h1 h2 => ?_
    cases hz : zero' P e with
    | none => rw [hz] at hc'; cases hc'
    | some z =>
      rw [hz] at hc'
      cases hc'
      unfold aop
      rw [hk, cond_true]
      simp only [hz, M.bind, newCells_of h1 h2, M.pure]
  case box t x =>
    dsimp only [sOp] at h
    refine fresh_sound h hl fun c' hc' σ h1 h2 => ?_
    cases hc'
    unfold aop
    rw [hk, cond_true]
    simp only [M.bind, newCells_of h1 h2, M.pure]
  case buildSlice t len parts =>
    dsimp only [sOp] at h
    refine fresh_sound h hl fun c' hc' σ h1 h2 => ?_
    unfold aop
    rw [hk, cond_true]
    dsimp only [aBuildSlice]
    unfold builtCells at hc'
    cases he : elemSize P t with
    | none => rw [he] at hc'; cases hc'
    | some en =>
      obtain ⟨e, n⟩ := en
      rw [he] at hc'
      dsimp only at hc' ⊢
      cases hz : zero' P e with
      | none => rw [hz] at hc'; cases hc'
      | some z =>
        rw [hz] at hc'
        dsimp only at hc' ⊢
        cases hb : Nat.ble (len * n) (2 ^ 24) with
        | false => rw [hb] at hc'; cases hc'
        | true =>
          rw [hb, cond_true] at hc'
          rw [cond_true]
          revert hc'
          generalize Instr.fill _ _ _ = fl
          intro hc'
          cases fl with
          | none => cases hc'
          | some c => cases hc'; simp only [M.bind, newCells_of h1 h2, M.pure]
  case indexAddr t x i =>
    dsimp only [sOp] at h
    exact ix_sound h hl fun σ => by unfold aop; rw [hk, cond_true]
  case convert src dst x =>
    dsimp only [sOp] at h
    split at h
    · rename_i hx hu1 hu2
      refine numS_sound (A := fun σ v σ' => aop P call id ρ _ σ = some (v, σ')) h hl (fun σ => ?_)
      unfold aop
      rw [hk, cond_true]
      dsimp only
      rw [hx, hu1, hu2]
      simp only [noids, cond_true, viaModel, pureSem_convert hx hu1, plainVal, M.pure]
    · exact other_sound hk h hl
  case call c =>
    dsimp only [sOp] at h
    split at h
    · rename_i f hcal
      split at h
      · rename_i fn first captured hf
        refine callOp_sound hc h hl fun g args ht σ r hr => ?_
        unfold aop
        rw [hk, cond_true]
        simp only [aCall, hcal, hf, ht]
        exact hr
      · cases h
    · rename_i recv name hcal
      refine callOp_sound hc h hl fun g args ht σ r hr => ?_
      unfold aop
      rw [hk, cond_true]
      simp only [aCall, hcal, ht]
      exact hr
    all_goals try with_reducible exact other_sound hk h hl
    all_goals try with_reducible exact upto_sound hk h hl
    all_goals with_reducible exact auto_sound h hl
  all_goals exact auto_sound h hl

end
end Go.Abs
