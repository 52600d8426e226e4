/- The abstract evaluator: each operation on memory does in the model what it does on the abstract state (fifth part: copy, maps, types, bytes, comparisons with nil). No condition. -/
import Derived.Test.YtfokbdgiphphfaaAbs7
import Derived.Laws.BytesString
namespace Go.Abs
open Go.RowKit

theorem aCopy_sim {P : Program} {B : Nat} {w0 w : World} {μ : Mu} {σ σ' : AS} (hr : Rel B w0 μ σ w) {t xt ty : TypeId} {d s : Value} {v : Value}
    (h : aCopy P t d s σ = some (v, σ')) : Sim P B w0 μ σ w (Builtin.copy_ #[t, xt] ty #[conc μ d, conc μ s]) v σ' := by
  unfold aCopy at h
  generalize he : elemSize P t = en at h
  generalize hk : lenOf' s = k? at h
  split at h
  · rename_i e n base dl cap sl
    obtain ⟨hu, hsz⟩ := elemSize_some he
    have hlen := lenOf'_some (P := P) (w := w) (μ := μ) hk
    obtain ⟨new, σ₁, h1, h2⟩ := M.bind_some h
    obtain ⟨rfl, hf, hvn, _⟩ := srcCells_sim (P := P) (w0 := w0) hr h1
    cases base with
    | none =>
      simp only at h2
      obtain ⟨rfl, rfl⟩ := M.pure_some h2
      refine Sim.same hr ?_ (by simp [Vin, goInt])
      simp [Builtin.copy_, run_und hu, conc, hlen, run_size hsz, hf, goInt]
    | some a =>
      simp only at h2
      obtain ⟨o, σ₂, h3, h4⟩ := M.bind_some h2
      obtain ⟨g3, rfl⟩ := M.get_some h3
      split at h4
      · rename_i c room
        obtain ⟨hb, h5⟩ := bif_some h4
        simp only [Bool.and_eq_true] at hb
        have hle := Nat.le_of_ble_eq_true hb.1
        obtain ⟨_, σ₃, h6, h7⟩ := M.bind_some h5
        obtain ⟨_, rfl⟩ := M.set_some h6
        obtain ⟨rfl, rfl⟩ := M.pure_some h7
        refine ⟨_, _, ?_, hr.setCells g3 a.off new (by omega) hvn, Agree.refl _ _, by simp [Vin, goInt], fun i hi => dom_set _ _ _ i hi⟩
        have hst := run_storeCells_in (P := P) hr g3 a.off new (by omega) hb.2
        have hat : μ.at a = ⟨μ.blk a.block, μ.base a.block + a.off, none⟩ := rfl
        simp [Builtin.copy_, run_und hu, conc, hlen, run_size hsz, hf, goInt, hat, hst]
      · exact (M.fail_some h4).elim
  · exact (M.fail_some h).elim

/-! ### Types -/

theorem aTypeAssert_sim {P : Program} {B : Nat} {w0 w : World} {μ : Mu} {σ σ' : AS} (hr : Rel B w0 μ σ w) {x : Value} {xt asserted : TypeId} {ok : Bool} {v : Value} (hx : Vin σ.dom x)
    (h : aTypeAssert P x asserted ok σ = some (v, σ')) : Sim P B w0 μ σ w (Instr.typeAssert (conc μ x) xt asserted ok) v σ' := by
  have hfails : ∀ (a b : Option TypeId) (s : String), (bif ok then (match zero' P asserted with | some z => M.pure (.tuple #[z, .bool false]) | none => M.fail) else M.fail : M Value) σ = some (v, σ') →
      Sim P B w0 μ σ w (do if ok then pure (.tuple #[← zeroValue asserted, .bool false]) else runtimePanic (.typeAssertion a b asserted s)) v σ' := by
    intro a b s h
    obtain ⟨hok, h⟩ := bif_some h
    generalize hz : zero' P asserted = z? at h
    split at h
    · rename_i z
      obtain ⟨rfl, rfl⟩ := M.pure_some h
      obtain ⟨z1, z2⟩ := run_zero (w := w) hz
      refine Sim.same hr ?_ (by simp [Vin, VinA, VinL, Vin_noids _ _ z2])
      simp [hok, z1, conc, concA, concL, conc_noids μ z z2]
    · exact (M.fail_some h).elim
  have hholds : ∀ (u : Value), Vin σ.dom u → (M.pure (bif ok then .tuple #[u, .bool true] else u) : M Value) σ = some (v, σ') →
      Sim P B w0 μ σ w (pure (if ok then .tuple #[conc μ u, .bool true] else conc μ u)) v σ' := by
    intro u hu h
    obtain ⟨rfl, rfl⟩ := M.pure_some h
    cases ok
    · exact Sim.same hr (by simp) hu
    · exact Sim.same hr (by simp [conc, concA, concL]) (by simp [Vin, VinA, VinL, hu])
  unfold aTypeAssert at h
  generalize hu : P.underlying asserted = d? at h
  split at h
  · rename_i ms
    obtain ⟨μ', w', hrun, rest⟩ := hfails none none "" h
    exact ⟨μ', w', by simpa [Instr.typeAssert, run_und hu, conc] using hrun, rest⟩
  · rename_i want t u
    generalize hi : P.info? t = i? at h
    split at h
    · rename_i i
      cases hm : Instr.missingMethod want i.methods with
      | none =>
        rw [hm] at h
        obtain ⟨μ', w', hrun, rest⟩ := hholds (.iface t u) hx h
        exact ⟨μ', w', by simpa [Instr.typeAssert, run_und hu, conc, run_info hi, hm] using hrun, rest⟩
      | some s =>
        rw [hm] at h
        obtain ⟨μ', w', hrun, rest⟩ := hfails none (some t) s h
        exact ⟨μ', w', by simpa [Instr.typeAssert, run_und hu, conc, run_info hi, hm] using hrun, rest⟩
    · exact (M.fail_some h).elim
  · rename_i d hni
    obtain ⟨μ', w', hrun, rest⟩ := hfails (some xt) none "" h
    refine ⟨μ', w', ?_, rest⟩
    cases d <;> first
      | exact absurd rfl (hni _)
      | simpa [Instr.typeAssert, run_und hu, conc] using hrun
  · rename_i d t u hni
    cases ht : decide (t = asserted) with
    | true =>
      rw [ht, cond_true] at h
      have ht := of_decide_eq_true ht
      obtain ⟨μ', w', hrun, rest⟩ := hholds u hx h
      refine ⟨μ', w', ?_, rest⟩
      cases d <;> first
        | exact absurd rfl (hni _)
        | simpa [Instr.typeAssert, run_und hu, conc, ht] using hrun
    | false =>
      rw [ht, cond_false] at h
      have ht := of_decide_eq_false ht
      obtain ⟨μ', w', hrun, rest⟩ := hfails (some xt) (some t) "" h
      refine ⟨μ', w', ?_, rest⟩
      cases d <;> first
        | exact absurd rfl (hni _)
        | simpa [Instr.typeAssert, run_und hu, conc, ht] using hrun
  · exact (M.fail_some h).elim

end Go.Abs
