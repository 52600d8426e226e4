/- The abstract evaluator: an operation looks at its operands alone; reads change nothing. No condition. -/
import Derived.Test.YtfokbdgiphphfaaAbs17
import Derived.Orders
namespace Go.Abs
open Go.RowKit

theorem aCall_congr {P : Program} {call : Tgt → Array Value → M Value} {id : Nat} {ρ ρ' : Operand → Value} (c : Call) (h : ∀ x ∈ c.operands, ρ x = ρ' x) : aCall P call id ρ c = aCall P call id ρ' c := by
  have hargs : c.args.map ρ = c.args.map ρ' := Array.map_congr_left fun x hx => h x (by simp [Call.operands, hx])
  unfold aCall
  simp only [hargs]
  cases hc : c.callee with
  | value f => have hf : ρ f = ρ' f := h f (by simp [Call.operands, hc]); simp only [hf]
  | invoke r m => have hr : ρ r = ρ' r := h r (by simp [Call.operands, hc]); simp only [hr]
  | builtin b => rfl

theorem pairs_congr {ρ ρ' : Operand → Value} (ps : Array (Nat × Operand)) (hp : ∀ x ∈ ps.map (·.2), ρ x = ρ' x) :
    (ps.map fun (i, x) => (i, ρ x)) = (ps.map fun (i, x) => (i, ρ' x)) :=
  Array.map_congr_left fun p hm => by
    obtain ⟨i, x⟩ := p
    simp only [hp x (Array.mem_map.2 ⟨(i, x), hm, rfl⟩)]

theorem aop_congr {P : Program} {call : Tgt → Array Value → M Value} {id : Nat} {ρ ρ' : Operand → Value} (o : Oper) (h : ∀ x ∈ o.op.operands, ρ x = ρ' x) :
    aop P call id ρ o = aop P call id ρ' o := by
  obtain ⟨dst, op, type, pos, after, guard⟩ := o
  cases op <;> simp only [Op.operands] at h <;> simp only [aop]
  case build t ps => rw [pairs_congr ps fun x hx => h x (by simpa using hx)]
  case buildSlice t n ps => rw [pairs_congr ps fun x hx => h x (by simpa using hx)]
  case makeFunc fn first captured =>
    rw [Array.map_congr_left (xs := first) fun x hx => h x (by simp [hx]), Array.map_congr_left (xs := captured) fun x hx => h x (by simp [hx])]
  case call c => rw [aCall_congr c h]
  case makeMap t r => cases r <;> simp_all
  case slice t x lo hi mx => cases lo <;> cases hi <;> cases mx <;> simp_all
  all_goals (first | rfl | (simp_all; done))

theorem isRead_congr {P : Program} {ρ ρ' : Operand → Value} (o : Oper) (h : ∀ x ∈ o.op.operands, ρ x = ρ' x) : isRead P ρ o = isRead P ρ' o := by
  obtain ⟨dst, op, type, pos, after, guard⟩ := o
  cases op <;> simp only [Op.operands] at h <;> simp only [isRead]
  case slice t x lo hi mx => cases lo <;> cases hi <;> cases mx <;> simp_all

/-! ## Reads -/

def Keeps {α : Type} (m : M α) : Prop := ∀ σ v σ', m σ = some (v, σ') → σ' = σ

theorem Keeps.pure {α : Type} (a : α) : Keeps (M.pure a) := fun _ _ _ h => by obtain ⟨_, rfl⟩ := M.pure_some h; rfl
theorem Keeps.fail {α : Type} : Keeps (M.fail : M α) := fun _ _ _ h => (M.fail_some h).elim
theorem Keeps.get (id : Nat) : Keeps (M.get id) := fun _ _ _ h => by obtain ⟨_, rfl⟩ := M.get_some h; rfl
theorem Keeps.ofOption {α : Type} (o : Option α) : Keeps (M.ofOption o) := by cases o; exact Keeps.fail; exact Keeps.pure _
theorem Keeps.bind {α β : Type} {m : M α} {f : α → M β} (hm : Keeps m) (hf : ∀ a, Keeps (f a)) : Keeps (M.bind m f) := fun _ _ _ h => by
  obtain ⟨a, s, h1, h2⟩ := M.bind_some h
  rw [hf a _ _ _ h2, hm _ _ _ h1]
theorem Keeps.bif {α : Type} {b : Bool} {m m' : M α} (hm : Keeps m) (hm' : Keeps m') : Keeps (bif b then m else m') := by cases b; exact hm'; exact hm
theorem Keeps.viaModel (P : Program) (s : Sem Value) : Keeps (viaModel P s) := by
  unfold Abs.viaModel plainVal
  split
  · exact Keeps.bif (Keeps.pure _) Keeps.fail
  · exact Keeps.fail

theorem Keeps.load (P : Program) (t : TypeId) (x : Value) : Keeps (aLoad P t x) := by
  unfold aLoad
  repeat' first | with_reducible exact Keeps.fail | with_reducible exact Keeps.pure _ | with_reducible exact Keeps.get _ | with_reducible exact Keeps.ofOption _ | with_reducible exact Keeps.viaModel _ _ | ((with_reducible refine Keeps.bind ?_ fun _ => ?_) <;> try dsimp only) | with_reducible refine Keeps.bif ?_ ?_ | contradiction | split

theorem aop_read {P : Program} {call : Tgt → Array Value → M Value} {id : Nat} {ρ : Operand → Value} (o : Oper) (h : isRead P ρ o = true) : Keeps (aop P call id ρ o) := by
  obtain ⟨dst, op, type, pos, after, guard⟩ := o
  cases op <;> simp only [isRead, Bool.false_eq_true] at h <;> simp only [aop] <;> refine Keeps.bif ?_ Keeps.fail
  case load t a => exact Keeps.load _ _ _
  case convert src dst x =>
    split
    · rename_i e e' h1
      unfold aBytes
      split
      · rename_i h2 h3 h4; simp [h3] at h
      all_goals repeat' first | with_reducible exact Keeps.fail | with_reducible exact Keeps.pure _ | with_reducible exact Keeps.get _ | with_reducible exact Keeps.ofOption _ | with_reducible exact Keeps.viaModel _ _ | ((with_reducible refine Keeps.bind ?_ fun _ => ?_) <;> try dsimp only) | with_reducible refine Keeps.bif ?_ ?_ | contradiction | split
    · rename_i hd _; rw [hd] at h; cases h
    · repeat' first | with_reducible exact Keeps.fail | with_reducible exact Keeps.pure _ | with_reducible exact Keeps.get _ | with_reducible exact Keeps.ofOption _ | with_reducible exact Keeps.viaModel _ _ | ((with_reducible refine Keeps.bind ?_ fun _ => ?_) <;> try dsimp only) | with_reducible refine Keeps.bif ?_ ?_ | contradiction | split
  case slice t x lo hi mx =>
    cases hn : (noids (ρ x) && noidsO (lo.map ρ) && noidsO (hi.map ρ) && noidsO (mx.map ρ)) with
    | true => exact Keeps.viaModel _ _
    | false =>
      rw [hn] at h
      simp only [cond_false] at h ⊢
      unfold aSlice
      split
      · rename_i a len cap hx
        rw [hx] at h
        simp only at h
        split
        · rename_i h1 h2
          rw [h2] at h
          simp only at h
          have hmx : (mx.map ρ).isNone = mx.isNone := by cases mx <;> rfl
          rw [hmx, h]
          exact Keeps.pure _
        · exact Keeps.fail
      · exact Keeps.fail
  case call c =>
    unfold aCall
    cases hc : c.callee with
    | builtin b =>
      rw [hc] at h
      cases b <;> simp only [Bool.false_eq_true] at h <;> simp only [aBuiltin, aLen, aCap] <;>
      repeat' first | with_reducible exact Keeps.fail | with_reducible exact Keeps.pure _ | with_reducible exact Keeps.get _ | with_reducible exact Keeps.ofOption _ | with_reducible exact Keeps.viaModel _ _ | ((with_reducible refine Keeps.bind ?_ fun _ => ?_) <;> try dsimp only) | with_reducible refine Keeps.bif ?_ ?_ | contradiction | split
    | _ => rw [hc] at h; simp at h
  case lookup t m k ok =>
    unfold aLookup
    repeat' first | with_reducible exact Keeps.fail | with_reducible exact Keeps.pure _ | with_reducible exact Keeps.get _ | with_reducible exact Keeps.ofOption _ | with_reducible exact Keeps.viaModel _ _ | ((with_reducible refine Keeps.bind ?_ fun _ => ?_) <;> try dsimp only) | with_reducible refine Keeps.bif ?_ ?_ | contradiction | split
  all_goals try simp only [aBuild, aBinOp, aFieldAddr, aField, aIndexAddr, aIndex, aTypeAssert]
  all_goals repeat' first | with_reducible exact Keeps.fail | with_reducible exact Keeps.pure _ | with_reducible exact Keeps.get _ | with_reducible exact Keeps.ofOption _ | with_reducible exact Keeps.viaModel _ _ | ((with_reducible refine Keeps.bind ?_ fun _ => ?_) <;> try dsimp only) | with_reducible refine Keeps.bif ?_ ?_ | contradiction | split

end Go.Abs
