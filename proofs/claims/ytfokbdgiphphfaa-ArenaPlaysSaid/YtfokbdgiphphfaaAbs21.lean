/- The abstract evaluator: what an abstract call answers, the machine's call comes to (as the kit's Calls). No condition. -/
import Derived.Test.YtfokbdgiphphfaaAbs20
namespace Go.Abs
open Go.RowKit

theorem calls_of_acall {P : Program} {n : Nat} {f : FuncId} {args : Array Value} {v : Value} {σ σ' : AS} (h : acall P n (.func f) args σ = some (v, σ')) {w : World} {μ : Mu} (hr : Rel w.heap.size w μ σ w) (ha : VinA σ.dom args) :
    Calls P f (concA μ args) w fun e w' => ∃ μ', e = .returned (conc μ' v) ∧ Rel w.heap.size w μ' σ' w' ∧ Vin σ'.dom v := by
  intro cs
  cases n with
  | zero => exact (M.fail_some h).elim
  | succ n =>
    simp only [acall] at h
    cases hf : P.funcs[f]? with
    | none => rw [hf] at h; exact (M.fail_some h).elim
    | some fn =>
      rw [hf] at h
      simp only at h
      cases hb : fn.body with
      | none => rw [hb] at h; exact (M.fail_some h).elim
      | some c =>
        rw [hb] at h
        obtain ⟨fr, μ', w', s, hfr, hl, adv, hv⟩ := func_leaves (call_ok n) (draw_ok (call_ok n)) hf hb h hr ha cs
        exact ⟨_, w', fr, ⟨μ', rfl, adv.rel, hv⟩, s, hfr, hl⟩

/-- The state without any object. -/
theorem Rel.empty (w : World) (μ : Mu) (n : Nat) : Rel w.heap.size w μ { heap := .leaf, next := n } w :=
  ⟨fun i o hi => (by cases hi), fun i o hi => (by cases hi), fun i j oi oj hi => (by cases hi), fun i o hi => (by cases hi), fun i o hi => (by cases hi), fun i o hi => (by cases hi), Below.refl _ _, Nat.le_refl _⟩

/-- A call that answers a value without addresses. -/
theorem calls_plain {P : Program} {n : Nat} {f : FuncId} {args : Array Value} {v : Value} {σ σ' : AS} (h : acall P n (.func f) args σ = some (v, σ')) {w : World} {μ : Mu} (hr : Rel w.heap.size w μ σ w) (ha : VinA σ.dom args) (hv : noids v = true) :
    Calls P f (concA μ args) w fun e w' => e = .returned v ∧ Below w.heap.size w w' :=
  (calls_of_acall h hr ha).mono fun e w' he => by
    obtain ⟨μ', rfl, hr', _⟩ := he
    rw [conc_noids μ' v hv]
    exact ⟨rfl, hr'.below⟩

theorem noidsL_at : ∀ {l : List Value} {i : Nat} {v : Value}, noidsL l = true → l[i]? = some v → noids v = true
  | [], i, v, _, h => by simp at h
  | u :: l, 0, v, hn, h => by
    simp only [List.getElem?_cons_zero, Option.some.injEq] at h
    subst h
    simp only [noidsL, Bool.and_eq_true] at hn
    exact hn.1
  | u :: l, i + 1, v, hn, h => by
    simp only [noidsL, Bool.and_eq_true] at hn
    exact noidsL_at hn.2 (by simpa using h)

/-- A row of cells that may only be read. -/
theorem Rel.readOnly {B : Nat} {w0 w : World} {μ : Mu} {σ : AS} (h : Rel B w0 μ σ w) {id : Nat} (hid : σ.heap.get id = none) (hn : id < σ.next) (c : List Value) (hc : noidsL c = true) (b off : Nat)
    (hcell : ∀ i v, c[i]? = some v → w.cell? ⟨b, off + i, none⟩ = some v) (hb : b < B) : Rel B w0 (μ.upd id b off 0) { σ with heap := σ.heap.set id (.cells c 0 true) } w := by
  have ha : Agree σ.dom μ (μ.upd id b off 0) := Mu.upd_agree hid
  have hblk : ∀ i, σ.dom i → (μ.upd id b off 0).blk i = μ.blk i := fun i hi => (ha i hi).1
  have hsame : (μ.upd id b off 0).blk id = b := by simp [Mu.upd]
  have hbase : (μ.upd id b off 0).base id = off := by simp [Mu.upd]
  refine ⟨fun i oi hi => ?_, fun i oi hi => ?_, fun i j oi oj hi hj hri hlj hne => ?_, fun i oi hi hri => ?_, fun i oi hi hli => ?_, fun i oi hi => ?_, h.below, h.base⟩
  all_goals try simp only [Tr.get_set] at hi
  · split at hi
    · cases hi
      subst_vars
      refine ⟨fun i v hv => ?_, fun h => (by cases h), fun _ => by simp [Mu.upd]⟩
      rw [hsame, hbase, conc_noids _ v (noidsL_at hc hv)]
      exact hcell i v hv
    · exact (h.fits i oi hi).of_agree ha (dom_of_get hi) (h.vin i oi hi)
  · split at hi
    · cases hi; exact VinL_noids _ _ hc
    · exact AObj.Vin_mono (fun i hi => dom_set σ id _ i hi) (h.vin i oi hi)
  · simp only [Tr.get_set] at hj
    split at hi
    · cases hi; cases hri
    · rw [hblk i (dom_of_get hi)]
      split at hj
      · subst_vars
        rw [hsame]
        have := h.own i oi hi hri
        omega
      · rw [hblk j (dom_of_get hj)]
        exact h.apart i j oi oj hi hj hri hlj hne
  · split at hi
    · cases hi; cases hri
    · rw [hblk i (dom_of_get hi)]; exact h.own i oi hi hri
  · split at hi
    · subst_vars
      rw [hsame]
      have := h.base
      omega
    · rw [hblk i (dom_of_get hi)]; exact h.size i oi hi hli
  · split at hi
    · subst_vars; exact hn
    · exact h.next i oi hi

end Go.Abs
