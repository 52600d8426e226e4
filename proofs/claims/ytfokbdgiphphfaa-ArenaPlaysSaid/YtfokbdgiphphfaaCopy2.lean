/- A copy of a call's words, wherever they stand. No condition beyond the hypotheses. -/
import Derived.Test.YtfokbdgiphphfaaScript
namespace Go.Proofs.Ytfokbdgiphphfaa
open Go Go.Abs Go.RowKit

theorem copyW_ok {B : Nat} {σ : AS} {id1 id2 : Nat} {x : Value} {xs : List Int} (hw : Wf σ) (hx : WordsOf B σ x xs) (hl : xs.length ≤ 17592186043904) (h1 : FreshAt σ id1) (h2 : FreshAt σ id2) (hne : id1 ≠ id2) :
    ∃ v' σ', aBuiltin Try.prog id2 .append #[22, 22] #[.slice (some ⟨id1, 0, none⟩) 0 0, x] (σ.put id1 (.cells [] 0 false)) = some (v', σ') ∧ Sl 1 σ' v' (u64s xs) ∧ Fr Nil σ σ' ∧ (slBase v' = some id1 ∨ slBase v' = some id2) := by
  rcases hx.2 with hx | ⟨r, rfl, rfl⟩
  · exact copy_ok hw hx hl h1 h2 hne
  · have hfr0 : Fr Nil σ (σ.put id1 (.cells [] 0 false)) := (Fr.refl hw).put _ h1.2 (Or.inr (Or.inr h1.1)) hw
    have hg : (σ.put id1 (.cells [] 0 false)).heap.get id1 = some (.cells [] 0 false) := AS.get_put_same _ _ _
    refine ⟨.slice (some ⟨id1, 0, none⟩) 0 0, (σ.put id1 (.cells [] 0 false)).put id1 (.cells [] 0 false), ?_, Or.inr ⟨id1, 0, 0, [], 0, rfl, AS.get_put_same _ _ _, Or.inl rfl, Nat.le_refl _, rfl, rfl, rfl⟩,
      hfr0.put _ h1.2 (Or.inr (Or.inr h1.1)) hw, Or.inl rfl⟩
    have hs := M.set_of (o := .cells [] 0 false) hg
    simp only [aBuiltin, aAppend, u64_elem.size, u64_elem.app, lenOf', cond_false, Nat.ble_eq_true_of_le (Nat.le_refl 0), cond_true, srcCells, Nat.beq_refl, M.bind, M.pure, M.get, hg]
    simp only [List.length_nil, Nat.add_zero, Nat.zero_mul, List.all_nil, Bool.and_true, putCells]
    rw [show Nat.ble 0 0 = true from rfl, cond_true]
    simp only [M.bind, M.set, hg]
    rfl

end Go.Proofs.Ytfokbdgiphphfaa
