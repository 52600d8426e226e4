/- New arenas; the fixed fact; a copy of a list that came in. No condition beyond the hypotheses. -/
import Derived.Test.YtfokbdgiphphfaaArProg2
namespace Go.Proofs.Ytfokbdgiphphfaa
open Go Go.Abs Go.RowKit

def newF (m : Int) : Option (Int × Int) := if m < 1 ∨ 65536 < m then some (20, m) else none

theorem new_ok (n : Nat) (σ : AS) (hw : Wf σ) (m : Int) (h0 : ¬ m < 1) (h1 : ¬ 65536 < m) :
    ∃ A σ', acall Try.prog (n + 2) (.func 10) #[.int .i64 m] σ = some (.tuple #[ptrTo A, .nilIface], σ') ∧ Arn true σ' A (.slice none 0 0) [] m ∧ Fr Nil σ σ' ∧ σ.next ≤ A := by
  have t1 : FreshAt (σ.up 13) (σ.next + 10) := hw.fresh (by omega) (by omega)
  exact ⟨σ.next + 10, (σ.up 13).put (σ.next + 10) (.cells [.slice none 0 0, .int .i64 m] 0 false), run (.no h0 <| .no h1 <| .new t1 .nil) (by kernel_rfl),
    ⟨AS.get_put_same _ _ _, Or.inl ⟨rfl, rfl⟩, (fun w hw' => by cases hw'), (by simp; omega), (by omega), (by simp [slBase])⟩, ((Fr.refl hw).up 13).put _ (by rw [AS.next_up]; omega) (Or.inr (Or.inl (by omega))) hw, by omega⟩

theorem new_no (n : Nat) (σ : AS) (hw : Wf σ) (m : Int) (h : m < 1 ∨ 65536 < m) :
    ∃ e σ', acall Try.prog (n + 2) (.func 10) #[.int .i64 m] σ = some (.tuple #[.pointer none, e], σ') ∧ ErrOf σ' e (some (20, m)) ∧ Fr Nil σ σ' := by
  obtain ⟨e, τ, t1, t2, t3, _⟩ := fault_prog n (σ.up 12) 20 m (hw.up 12)
  by_cases h0 : m < 1
  · exact ⟨e, τ, run (.yes h0 <| .up t1 .nil) (by kernel_rfl), t2, t3.start⟩
  · have h1 : 65536 < m := by omega
    exact ⟨e, τ, run (.no h0 <| .yes h1 <| .up t1 .nil) (by kernel_rfl), t2, t3.start⟩

theorem lives_ok (n : Nat) (σ : AS) (hw : Wf σ) (hn : 65536 < n) : ∃ σ', acall Try.prog (n + 5) (.func 9) #[] σ = some (.bool true, σ') ∧ Fr Nil σ σ' := by
  obtain ⟨A, τ1, t1, a1, f1, hA⟩ := new_ok (n + 2) (σ.up 7) (hw.up 7) 4 (by omega) (by omega)
  obtain ⟨e, v2, τ2, t2, e2, a2, f2, m2⟩ := alloc_ok n (τ1.up 13) (f1.wf.up 13) (a1.up 13) 2 hn
  have q1 : allocV 4 0 2 = 0 := by decide
  have q2 : allocF 4 0 2 = none := by decide
  have q3 : allocW 4 [] 2 = [0, 8] := by decide
  rw [show ([] : List Int).length = 0 from rfl, q1] at t2
  rw [show ([] : List Int).length = 0 from rfl, q2] at e2
  rw [q3] at a2
  cases e2
  obtain ⟨e3, τ3, t3, e3', f3⟩ := load_ok (n + 2) (τ2.up 7) (f2.wf.up 7) (a2.up 7) 1
  have q4 : loadW [0, 8] 1 = 8 := by decide
  have q5 : loadF [0, 8] 1 = none := by decide
  rw [q4] at t3
  rw [q5] at e3'
  cases e3'
  have a3 := (a2.up 7).nil f3
  have t4 := top_ok (n + 3) (τ3.up 25) (a3.up 25)
  have t5 := max_ok (n + 3) ((τ3.up 25).up 9) ((a3.up 25).up 9)
  have hfa : Fr Nil σ (τ1.up 13) := f1.start.up 13
  have hfb : Fr Nil σ τ2 := hfa.trans f2 (fun i hi => by
    right
    rcases hi with hi | hi
    · rw [AS.next_up] at hA; omega
    · cases hi) hw
  exact ⟨((τ3.up 25).up 9).up 8, run (.up t1 <| .up t2 <| .up t3 <| .up t4 <| .up t5 .nil) (by kernel_rfl), (((hfb.then f3.start).up 25).up 9).up 8⟩

/-- append([]uint64{}, x...): a list in new memory. -/
theorem copy_ok {σ : AS} {id1 id2 : Nat} {x : Value} {xs : List Int} (hw : Wf σ) (hx : Rd 1 σ x (u64s xs)) (hl : xs.length ≤ 17592186043904) (h1 : FreshAt σ id1) (h2 : FreshAt σ id2) (hne : id1 ≠ id2) :
    ∃ v' σ', aBuiltin Try.prog id2 .append #[22, 22] #[.slice (some ⟨id1, 0, none⟩) 0 0, x] (σ.put id1 (.cells [] 0 false)) = some (v', σ') ∧ Sl 1 σ' v' (u64s xs) ∧ Fr Nil σ σ' ∧ (slBase v' = some id1 ∨ slBase v' = some id2) := by
  have hfr0 : Fr Nil σ (σ.put id1 (.cells [] 0 false)) := (Fr.refl hw).put _ h1.2 (Or.inr (Or.inr h1.1)) hw
  have hs : Sl 1 (σ.put id1 (.cells [] 0 false)) (.slice (some ⟨id1, 0, none⟩) 0 0) (u64s []) :=
    Or.inr ⟨id1, 0, 0, [], 0, rfl, AS.get_put_same _ _ _, Or.inl rfl, Nat.le_refl _, rfl, rfl, rfl⟩
  have hx' := hx.fr hfr0 fun _ _ h => h
  have hfresh : FreshAt (σ.put id1 (.cells [] 0 false)) id2 := ⟨by rw [AS.get_put_ne _ _ (Ne.symm hne)]; exact h2.1, h2.2⟩
  obtain ⟨v', σ', t1, t2, t3, t4⟩ := append_ok hs hx' (by simpa using hl) hfresh hfr0.wf
  refine ⟨v', σ', t1, by simpa using t2, ⟨t3.wf, Nat.le_trans hfr0.le t3.le, fun i o hi hn => t3.same i o (hfr0.same i o hi hn) fun hh => ?_⟩, t4⟩
  rcases hh with hh | hh
  · simp only [slBase, Option.some.injEq] at hh
    subst hh; rw [h1.1] at hi; cases hi
  · subst hh; rw [h2.1] at hi; cases hi

end Go.Proofs.Ytfokbdgiphphfaa
