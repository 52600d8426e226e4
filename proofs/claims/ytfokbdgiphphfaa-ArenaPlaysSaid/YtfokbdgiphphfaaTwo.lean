/- An arena of the program and one of the document side by side. No condition beyond the hypotheses. -/
import Derived.Test.YtfokbdgiphphfaaArRef3
import Derived.Test.YtfokbdgiphphfaaLawSound
namespace Go.Proofs.Ytfokbdgiphphfaa
open Go Go.Abs Go.RowKit

structure Two (B : Nat) (σ : AS) (A : Nat) (va : Value) (D : Nat) (vd : Value) (ws : List Int) (max : Int) : Prop where
  pa : Arn true σ A va ws max
  pd : Arn false σ D vd ws max
  hA : B ≤ A
  hD : B ≤ D
  bA : ∀ b, slBase va = some b → B ≤ b
  bD : ∀ b, slBase vd = some b → B ≤ b
  apart : ∀ i, foot A va i → ¬ foot D vd i

theorem Two.nil {B : Nat} {σ σ' : AS} {A D : Nat} {va vd : Value} {ws : List Int} {max : Int} (h : Two B σ A va D vd ws max) (hf : Fr Nil σ σ') : Two B σ' A va D vd ws max :=
  ⟨h.pa.nil hf, h.pd.nil hf, h.hA, h.hD, h.bA, h.bD, h.apart⟩
theorem Two.up {B : Nat} {σ : AS} {A D : Nat} {va vd : Value} {ws : List Int} {max : Int} (h : Two B σ A va D vd ws max) (k : Nat) : Two B (σ.up k) A va D vd ws max :=
  ⟨h.pa.up k, h.pd.up k, h.hA, h.hD, h.bA, h.bD, h.apart⟩

theorem Moved.start {σ : AS} {k : Nat} {v v' : Value} (h : Moved (σ.up k) v v') : Moved σ v v' := h.imp id fun h b hb => by have := h b hb; rw [AS.next_up] at this; omega

theorem moved_foot {σ : AS} {A : Nat} {v v' : Value} (h : Moved σ v v') : ∀ i, foot A v' i → foot A v i ∨ σ.next ≤ i := fun i hi => by
  rcases hi with hi | hi
  · exact Or.inl (Or.inl hi)
  · rcases h with h | h
    · exact Or.inl (Or.inr (by rw [← h]; exact hi))
    · exact Or.inr (h i hi)

theorem two_calls {B : Nat} {σ σ1 : AS} {A D : Nat} {va vd va1 : Value} {ws ws1 : List Int} {max : Int} (hw : Wf σ) (hB : B ≤ σ.next) (h : Two B σ A va D vd ws max) (a1 : Arn true σ1 A va1 ws1 max) (f1 : Fr (foot A va) σ σ1) (m1 : Moved σ va va1) :
    Arn false σ1 D vd ws max ∧ ∀ {σ2 : AS} {vd2 : Value}, Arn false σ2 D vd2 ws1 max → Fr (foot D vd) σ1 σ2 → Moved σ1 vd vd2 → Two B σ2 A va1 D vd2 ws1 max ∧ Fr (From B) σ σ2 := by
  have d1 : Arn false σ1 D vd ws max := h.pd.fr f1 fun i hi hh => h.apart i hh hi
  have hD := h.pd.foot_lt hw
  have ap1 : ∀ i, foot A va1 i → ¬ foot D vd i := fun i hi hh => by
    rcases moved_foot m1 i hi with h1 | h1
    · exact h.apart i h1 hh
    · have := hD i hh; omega
  refine ⟨d1, fun {σ2 vd2} d2 f2 m2 => ⟨⟨a1.fr f2 fun i hi hh => ap1 i hi hh, d2, h.hA, h.hD, moved_from m1 h.bA hB, moved_from m2 h.bD (Nat.le_trans hB f1.le), fun i hi hh => ?_⟩, (f1.mono (foot_from h.hA h.bA)).then (f2.mono (foot_from h.hD h.bD))⟩⟩
  have hA1 := a1.foot_lt f1.wf i hi
  rcases moved_foot m2 i hh with h1 | h1
  · exact ap1 i hi h1
  · omega

theorem fvOf_shape (o : Option (Int × Int)) : ∃ c a, fvOf o = fv c a := by
  cases o with
  | none => exact ⟨0, 0, rfl⟩
  | some ca => exact ⟨ca.1, ca.2, rfl⟩

/-- The answer of the document is put down and compared. -/
theorem compare (n j : Nat) {τ : AS} (hw : Wf τ) {R : Nat} (hR : FreshAt τ R) {e : Value} {o : Option (Int × Int)} (he : ErrOf τ e o) (ho : ∀ c a, o = some (c, a) → c ≠ 0) :
    ∃ c a τ3 τ4, fvOf o = fv c a ∧ aStore Try.prog 52 (fv c a) (ptrTo R) (τ.put R (fvObj 0 0)) = some (undef, τ3) ∧ aLoad Try.prog 52 (ptrTo R) (τ3.up j) = some (fv c a, τ3.up j) ∧ acall Try.prog (n + 3) (.func 21) #[e, fv c a] (τ3.up j) = some (.bool true, τ4) ∧ Fr Nil τ τ4 := by
  obtain ⟨c, a, hc⟩ := fvOf_shape o
  have f1 : Fr Nil τ ((τ.put R (fvObj 0 0)).put R (fvObj c a)) := ((Fr.refl hw).put _ hR.2 (Or.inr (Or.inr hR.1)) hw).put _ hR.2 (Or.inr (Or.inr hR.1)) hw
  obtain ⟨τ4, t1, t2⟩ := is_same n (((τ.put R (fvObj 0 0)).put R (fvObj c a)).up j) e o (f1.wf.up j) (he.nil (f1.up j)) ho
  rw [hc] at t1
  exact ⟨c, a, _, τ4, hc, store_fv (AS.get_put_same _ _ _), load_fv (AS.get_put_same _ _ _), t1, f1.then t2.start⟩

theorem load_code {ws : List Int} {x c a : Int} (h : loadF ws x = some (c, a)) : c ≠ 0 := by
  unfold loadF at h; split at h <;> cases h; decide
theorem store_code {ws : List Int} {x w c a : Int} (h : storeF ws x w = some (c, a)) : c ≠ 0 := by
  unfold storeF at h
  split at h
  · split at h <;> cases h; decide
  · cases h; decide
theorem cut_code {ws : List Int} {x c a : Int} (h : cutF ws x = some (c, a)) : c ≠ 0 := by
  unfold cutF at h; split at h <;> cases h; decide
theorem alloc_code {max x c a : Int} {l : Nat} (h : allocF max l x = some (c, a)) : c ≠ 0 := by
  unfold allocF at h
  split at h
  · cases h; decide
  · split at h <;> cases h; decide
theorem bads_code' {ws : List Int} {c a : Int} (h : bads ws = some (c, a)) : c ≠ 0 := by rw [bads_code h]; decide
theorem fill_code {max : Int} {ws : List Int} {c a : Int} (h : fillF max ws = some (c, a)) : c ≠ 0 := by
  unfold fillF at h
  split at h
  · cases h; decide
  · exact bads_code' h

end Go.Proofs.Ytfokbdgiphphfaa
