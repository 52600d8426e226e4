/- The abstract evaluator: a call as steps of the machine. No condition. -/
import Derived.Test.YtfokbdgiphphfaaAbs15
namespace Go.Abs
open Go.RowKit

theorem aResult_sim {P : Program} {B : Nat} {w0 w : World} {μ : Mu} {σ σ' : AS} (hr : Rel B w0 μ σ w) {tmps : Array Value} (ht : VinA σ.dom tmps) {rv : ResultVar} {v : Value} (h : aResult P tmps rv σ = some (v, σ')) :
    σ = σ' ∧ Vin σ.dom v ∧ ((match rv with | .tmp t => pure ((concA μ tmps).getD t undef) | .cell a t => do loadVar t (← asAddr ((concA μ tmps).getD a undef)) : Sem Value)).run P w = .ok (conc μ v) w := by
  have hg : ∀ t, (concA μ tmps).getD t undef = conc μ (tmps.getD t undef) := fun t => by
    simp only [Array.getD_eq_getD_getElem?, concA_getElem?]
    cases tmps[t]? with
    | none => simp [conc_undef]
    | some v => simp
  cases rv with
  | tmp t =>
    obtain ⟨rfl, rfl⟩ := M.pure_some h
    refine ⟨rfl, ?_, by simp only [hg, Sem.run_pure]⟩
    simp only [Array.getD_eq_getD_getElem?]
    cases h' : tmps[t]? with
    | none => simp [undef, Vin, VinA, VinL]
    | some v => exact VinA_get ht h'
  | cell x t =>
    obtain ⟨p, hp, hrun, hvv, rfl⟩ := aLoad_sim hr h
    refine ⟨rfl, hvv, ?_⟩
    simp only [hg, hp, conc, asAddr, Sem.run_bind, Sem.run_pure, Result.andThen_ok, hrun]

theorem aResultList_sim {P : Program} {B : Nat} {w0 w : World} {μ : Mu} : ∀ (l : List ResultVar) (σ σ' : AS) (_ : Rel B w0 μ σ w) (tmps : Array Value) (_ : VinA σ.dom tmps) (vs : List Value), aResultList P tmps l σ = some (vs, σ') →
    σ = σ' ∧ VinL σ.dom vs ∧ (l.mapM (fun | .tmp t => pure ((concA μ tmps).getD t undef) | .cell a t => do loadVar t (← asAddr ((concA μ tmps).getD a undef)) : ResultVar → Sem Value)).run P w = .ok (concL μ vs) w
  | [], σ, σ', hr, tmps, ht, vs, h => by
    obtain ⟨rfl, rfl⟩ := M.pure_some h
    exact ⟨rfl, trivial, rfl⟩
  | r :: l, σ, σ', hr, tmps, ht, vs, h => by
    obtain ⟨v, σ₁, h1, h2⟩ := M.bind_some h
    obtain ⟨rfl, hv, hrun⟩ := aResult_sim hr ht h1
    obtain ⟨vs', σ₂, h3, h4⟩ := M.bind_some h2
    obtain ⟨rfl, rfl⟩ := M.pure_some h4
    obtain ⟨rfl, hvs, hruns⟩ := aResultList_sim l σ σ₂ hr tmps ht vs' h3
    refine ⟨rfl, ⟨hv, hvs⟩, ?_⟩
    cases r with
    | tmp t =>
      simp only at hrun
      simp only [List.mapM_cons, Sem.run_bind, hrun, Result.andThen_ok, hruns, Sem.run_pure, concL]
    | cell x t =>
      simp only at hrun
      rw [Sem.run_bind] at hrun
      simp only [List.mapM_cons, Sem.run_bind, hrun, Result.andThen_ok, hruns, Sem.run_pure, concL]

theorem aResults_sim {P : Program} {B : Nat} {w0 w : World} {μ : Mu} {σ σ' : AS} (hr : Rel B w0 μ σ w) {fn : Func} {tmps : Array Value} (ht : VinA σ.dom tmps) {v : Value} (h : aResults P fn tmps σ = some (v, σ')) :
    σ = σ' ∧ Vin σ.dom v ∧ (results fn (concA μ tmps)).run P w = .ok (conc μ v) w := by
  unfold aResults at h
  obtain ⟨vs, σ₁, h1, h2⟩ := M.bind_some h
  clear h
  obtain ⟨rfl, hvs, hrun⟩ := aResultList_sim fn.results.toList σ σ₁ hr tmps ht vs h1
  have hm : (fn.results.mapM (fun | .tmp t => pure ((concA μ tmps).getD t undef) | .cell a t => do loadVar t (← asAddr ((concA μ tmps).getD a undef)) : ResultVar → Sem Value)).run P w = .ok (concL μ vs).toArray w := by
    rw [Array.mapM_eq_mapM_toList, Sem.run_map, hrun]; rfl
  have hres : (results fn (concA μ tmps)).run P w = .ok (if h : (concL μ vs).toArray.size = 1 then (concL μ vs).toArray[0] else .tuple (concL μ vs).toArray) w := by
    unfold results
    rw [Sem.run_bind]
    have := hm
    refine (congrArg (fun r => Result.andThen r _) this).trans ?_
    rfl
  rw [hres]
  match vs, hvs, h2 with
  | [u], hvs, h2 =>
    obtain ⟨rfl, rfl⟩ := M.pure_some h2
    refine ⟨rfl, hvs.1, ?_⟩
    simp [concL]
  | [], hvs, h2 =>
    obtain ⟨rfl, rfl⟩ := M.pure_some h2
    exact ⟨rfl, by simp [Vin, VinA, VinL], by simp [concL, conc, concA]⟩
  | u :: u' :: us, hvs, h2 =>
    obtain ⟨rfl, rfl⟩ := M.pure_some h2
    refine ⟨rfl, hvs, ?_⟩
    simp [concL, conc, concA]

theorem setParams_conc (μ : Mu) : ∀ (l : List (Tmp × Value)) (tmps : Array Value), setParams (l.map fun p => (p.1, conc μ p.2)) (concA μ tmps) = concA μ (setParams l tmps)
  | [], _ => rfl
  | (t, v) :: l, tmps => by
    simp only [List.map_cons, setParams]
    rw [← concA_set, setParams_conc μ l]

theorem setParams_fold : ∀ (l : List (Tmp × Value)) (tmps : Array Value), l.foldl (fun tmps p => tmps.setIfInBounds p.1 p.2) tmps = setParams l tmps
  | [], _ => rfl
  | (t, v) :: l, tmps => by simp only [List.foldl_cons, setParams]; exact setParams_fold l _

theorem setParams_vin {D : Nat → Prop} : ∀ (l : List (Tmp × Value)) (tmps : Array Value), (∀ p ∈ l, Vin D p.2) → VinA D tmps → VinA D (setParams l tmps)
  | [], _, _, h => h
  | (t, v) :: l, tmps, hl, h => setParams_vin l _ (fun p hp => hl p (by simp [hp])) (VinA_set h _ (hl (t, v) (by simp)))

theorem round_tmps (μ : Mu) (params : Array Tmp) (args tmps : Array Value) :
    (params.zip (concA μ args)).foldl (fun tmps (t, a) => tmps.setIfInBounds t a) (concA μ tmps) = concA μ (setParams (params.toList.zip args.toList) tmps) := by
  have h1 : (params.zip (concA μ args)).foldl (fun tmps (t, a) => tmps.setIfInBounds t a) (concA μ tmps) =
      (params.zip (concA μ args)).toList.foldl (fun tmps p => tmps.setIfInBounds p.1 p.2) (concA μ tmps) := by rw [Array.foldl_toList]
  rw [h1, setParams_fold, ← setParams_conc]
  congr 1
  rw [Array.toList_zip, concA_toList, concL_eq, List.zip_map_right]
  rfl

/-- A function's body, from its entry to where it leaves. -/
theorem func_leaves {P : Program} {call : Tgt → Array Value → M Value} (hcall : CallOk P call) (hdraw : DrawOk P call) {n : Nat} {f : FuncId} {fn : Func} {c : Code} (hf : P.funcs[f]? = some fn) (hb : fn.body = some c) {args : Array Value} {v : Value} {σ σ' : AS}
    (h : (M.bind (acode P call n f none c { tmps := args ++ Array.replicate (fn.ntmps - args.size) undef, defers := [] }) fun
        | (.exit _, _) => M.fail
        | (_, a) => M.bind (takeAll a.defers) fun _ => aResults P fn a.tmps) σ = some (v, σ'))
    {B : Nat} {w0 w : World} {μ : Mu} (hr : Rel B w0 μ σ w) (ha : VinA σ.dom args) (cs : List Frame) :
    ∃ fr μ' w', Steps P (lone (Frame.enter P f (concA μ args) .normal) cs w) (lone fr cs w') ∧ fr.fn = f ∧ fr.leaving P w' (.returned (conc μ' v)) ∧ Adv B w0 σ μ σ' μ' w' ∧ Vin σ'.dom v := by
  obtain ⟨⟨e, a⟩, σ₁, h1, h2⟩ := M.bind_some h
  clear h
  have hva : VinAct σ.dom { tmps := args ++ Array.replicate (fn.ntmps - args.size) undef, defers := [] } := ⟨VinA_iff.2 fun u hu => by
    rcases Array.mem_append.1 hu with hu | hu
    · exact VinA_iff.1 ha u hu
    · rw [Array.mem_replicate] at hu
      rw [hu.2]
      simp [undef, Vin, VinA, VinL], fun d hd => by cases hd⟩
  have hent : Frame.enter P f (concA μ args) .normal = ({ (default : Frame) with fn := f, kind := .normal } : Frame).atR (concAct μ { tmps := args ++ Array.replicate (fn.ntmps - args.size) undef, defers := [] }) [.code c] := by
    have hrep : concA μ (Array.replicate (fn.ntmps - args.size) undef) = Array.replicate (fn.ntmps - args.size) undef := by
      rw [concA_eq, Array.map_replicate, conc_undef]
    simp only [Frame.enter, Frame.atR, hf, hb, concAct, concA_append, hrep, concA_size, Option.bind_some, Option.getD_some, Option.map_some, List.map_nil]
    rfl
  obtain ⟨μ₁, w₁, adv1, hv1, arr⟩ := acode_steps hcall hdraw n f none c _ a e σ σ₁ h1 μ w hr hva ({ (default : Frame) with fn := f, kind := .normal } : Frame) rfl rfl (fun l hl => by cases hl) [] cs
  rw [← hent] at arr
  have fin : ∀ (todo : List Item), Steps P (lone (Frame.enter P f (concA μ args) .normal) cs w) (lone { ({ (default : Frame) with fn := f, kind := .normal } : Frame).atR (concAct μ₁ a) todo with mode := .returning } cs w₁) →
      (M.bind (takeAll a.defers) fun _ => aResults P fn a.tmps) σ₁ = some (v, σ') →
      ∃ fr μ' w', Steps P (lone (Frame.enter P f (concA μ args) .normal) cs w) (lone fr cs w') ∧ fr.fn = f ∧ fr.leaving P w' (.returned (conc μ' v)) ∧ Adv B w0 σ μ σ' μ' w' ∧ Vin σ'.dom v := by
    intro todo hs h3
    obtain ⟨_, σ₂, h4, h5⟩ := M.bind_some h3
    obtain ⟨w₂, s2, adv2⟩ := takeAll_steps a.defers σ₁ σ₂ _ h4 μ₁ w₁ adv1.rel { ({ (default : Frame) with fn := f, kind := .normal } : Frame).atR (concAct μ₁ a) todo with mode := .returning } cs rfl rfl
    obtain ⟨rfl, hvv, hres⟩ := aResults_sim adv2.rel (VinA_mono adv2.dom _ hv1.1) h5
    refine ⟨_, μ₁, w₂, hs.trans s2, rfl, ⟨rfl, rfl, rfl, fn, hf, hres⟩, adv1.trans adv2, hvv⟩
  cases e with
  | normal =>
    simp only at h2
    exact fin [] (Steps.trans arr (.one (stepR_end rfl))) h2
  | ret =>
    simp only at h2
    obtain ⟨k', s⟩ := arr
    exact fin _ (s.trans (.one (stepR_ret rfl))) h2
  | exit i => exact (M.fail_some h2).elim

end Go.Abs
