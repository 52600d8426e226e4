/- The abstract evaluator: one operation of a region does in the model what it does on the abstract state. No condition. -/
import Derived.Test.YtfokbdgiphphfaaAbs10
namespace Go.Abs
open Go.RowKit

/-- The model's operation does what the abstract one has done. -/
def OpSim (P : Program) (B : Nat) (w0 : World) (μ : Mu) (σ : AS) (w : World) (s : Sem Next) (v : Value) (σ' : AS) : Prop :=
  ∃ μ' w' nx, s.run P w = .ok nx w' ∧ (nx = .value (conc μ' v) ∨ (nx = .skip ∧ v = undef)) ∧ Rel B w0 μ' σ' w' ∧ Agree σ.dom μ μ' ∧ Vin σ'.dom v ∧ ∀ i, σ.dom i → σ'.dom i

theorem Sim.op {P : Program} {B : Nat} {w0 w : World} {μ : Mu} {σ σ' : AS} {s : Sem Value} {v : Value} (h : Sim P B w0 μ σ w s v σ') : OpSim P B w0 μ σ w (do pure (.value (← s))) v σ' := by
  obtain ⟨μ', w', h1, h2⟩ := h
  exact ⟨μ', w', _, by simp only [Sem.run_bind, h1, Result.andThen_ok, Sem.run_pure], .inl rfl, h2⟩

theorem OpSim.same {P : Program} {B : Nat} {w0 w : World} {μ : Mu} {σ : AS} {v : Value} {s : Sem Next} (hr : Rel B w0 μ σ w) (h : s.run P w = .ok (.value (conc μ v)) w) (hv : Vin σ.dom v) : OpSim P B w0 μ σ w s v σ :=
  ⟨μ, w, _, h, .inl rfl, hr, Agree.refl _ _, hv, fun _ h => h⟩

/-- What a call begins with. -/
def TgtRun (P : Program) (μ : Mu) (t : Tgt) (args : Array Value) (w : World) : Result Next :=
  match t with
  | .func f => .ok (.enter f (concA μ args)) w
  | .yield l => (Instr.yield (μ.blk l) (concA μ args)).run P w

theorem run_callFunc {P : Program} {w : World} {f : FuncId} {args : Array Value} (h : bodied P f = true) : (callFunc f args).run P w = .ok (.enter f args) w := by
  unfold bodied at h
  cases hf : P.funcs[f]? with
  | none => rw [hf] at h; cases h
  | some fn =>
    rw [hf] at h
    simp only [Bool.and_eq_true, Bool.not_eq_true', beq_eq_false_iff_ne, ne_eq] at h
    have hb : fn.body.isNone = false := by cases hq : fn.body <;> simp_all
    have hn : (fn.name == "runtime.NumGoroutine") = false := by simpa using h.2
    simp only [callFunc, Sem.run_bind, run_program, Result.andThen_ok, hf, hn, Bool.false_eq_true, if_false, hb, Sem.run_pure]

theorem run_method {P : Program} {w : World} {μ : Mu} {t : TypeId} {v recv : Value} {name : String} {f : FuncId} (h : aMethod P t v name = some (f, recv)) (n : Nat) : (method (n + 1) t (conc μ v) name).run P w = .ok (f, conc μ recv) w ∧ recv = v := by
  unfold aMethod at h
  cases hi : P.info? t with
  | none => rw [hi] at h; cases h
  | some i =>
    rw [hi] at h
    simp only at h
    cases hm : i.methods.find? (·.name == name) with
    | none => rw [hm] at h; cases h
    | some m =>
      rw [hm] at h
      simp only at h
      cases hp : m.path.isEmpty with
      | false => rw [hp] at h; cases h
      | true =>
        rw [hp, cond_true] at h
        have hpl : m.path.toList = [] := by have := Array.isEmpty_iff.1 hp; rw [this]
        cases hf : m.func with
        | none => rw [hf] at h; cases h
        | some fp =>
          obtain ⟨g, p⟩ := fp
          rw [hf] at h
          cases p with
          | true =>
            simp only at h
            cases hu : P.underlying t with
            | none => rw [hu] at h; cases h
            | some d =>
              rw [hu] at h
              cases d <;> first
                | (cases h; done)
                | (cases h
                   refine ⟨?_, rfl⟩
                   simp only [method, Sem.run_bind, run_info hi, Result.andThen_ok, hm, hpl, follow, Sem.run_pure, hf, receiverAt, run_und hu, Place.get])
          | false =>
            simp only at h
            cases hu : P.underlying t with
            | none => rw [hu] at h; cases h
            | some d =>
              rw [hu] at h
              cases d <;> first
                | (cases h; done)
                | (cases h
                   refine ⟨?_, rfl⟩
                   simp only [method, Sem.run_bind, run_info hi, Result.andThen_ok, hm, hpl, follow, Sem.run_pure, hf, receiverAt, run_und hu, Place.get])

theorem concA_append2 (μ : Mu) (a b : Array Value) : concA μ a ++ concA μ b = concA μ (a ++ b) := (concA_append μ a b).symm

/-- The call of a function value. -/
theorem run_target {P : Program} {w : World} {μ : Mu} {fn : Fn} {args captured args' : Array Value} {t : Tgt} (h : aTarget P fn args captured = some (t, args')) :
    (invoke (.fn (concFn μ fn) (concA μ captured)) (concA μ args)).run P w = TgtRun P μ t args' w := by
  unfold aTarget at h
  cases fn with
  | func f =>
    simp only at h
    cases hb : bodied P f with
    | false => rw [hb] at h; cases h
    | true =>
      rw [hb, cond_true] at h
      cases h
      simp only [concFn, invoke, concA_append2, TgtRun, run_callFunc hb]
  | yield l =>
    simp only at h
    cases h
    rfl
  | method name =>
    simp only at h
    cases h0 : args[0]? with
    | none => rw [h0] at h; cases h
    | some x =>
      rw [h0] at h
      cases x with
      | iface ty v =>
        simp only at h
        cases hm : aMethod P ty v name with
        | none => rw [hm] at h; cases h
        | some fr =>
          obtain ⟨f, recv⟩ := fr
          rw [hm] at h
          simp only at h
          cases hb : bodied P f with
          | false => rw [hb] at h; cases h
          | true =>
            rw [hb, cond_true] at h
            cases h
            have hmm := (run_method (w := w) (μ := μ) hm (P.types.size + 99)).1
            have hd : P.types.size + Made.depth = P.types.size + 99 + 1 := rfl
            have h0' : (concA μ args)[0]? = some (.iface ty (conc μ v)) := by rw [concA_getElem?, h0]; simp [conc]
            have hsz : (concA μ args).size = args.size := concA_size μ args
            have he : #[conc μ recv] ++ (concA μ args).extract 1 args.size = concA μ (#[recv] ++ args.extract 1 args.size) := by
              rw [concA_append, concA_extract]; rfl
            simp only [concFn, invoke, h0', callMethod, Sem.run_bind, run_program, Result.andThen_ok, hd, hmm, run_callFunc hb, hsz, he, TgtRun]
      | _ => cases h
  | methodOf t name => cases h
  | via t p f b => cases h

theorem args_conc (μ : Mu) (ρ : Operand → Value) (args : Array Operand) : args.map (fun x => conc μ (ρ x)) = concA μ (args.map ρ) := by
  rw [concA_eq, Array.map_map]; rfl

theorem aBuiltin_sim {P : Program} {B : Nat} {w0 w : World} {μ : Mu} {σ σ' : AS} (hr : Rel B w0 μ σ w) {id : Nat} {b : Builtin} {argTypes : Array TypeId} {args : Array Value} {ty : TypeId} {consts : Array Bool} {v : Value} (hv : VinA σ.dom args)
    (h : aBuiltin P id b argTypes args σ = some (v, σ')) : OpSim P B w0 μ σ w (builtin b argTypes ty consts (concA μ args)) v σ' := by
  obtain ⟨ts⟩ := argTypes
  obtain ⟨as'⟩ := args
  unfold aBuiltin at h
  simp only at h
  split at h
  · exact (aLen_sim hr h).op
  · exact (aCap_sim hr h).op
  · exact (aAppend_sim hr (VinA_iff.1 hv _ (by simp)) (VinA_iff.1 hv _ (by simp)) h).op
  · exact (aCopy_sim hr h).op
  · obtain ⟨hn, h⟩ := bif_some h
    rw [concA_noids μ _ hn]
    obtain ⟨rfl, hn', hrun⟩ := viaModel_some h
    have : Sim P B w0 μ σ w (Builtin.min_ ⟨ts⟩ 0 ⟨as'⟩) v σ := Sim.same hr (by rw [hrun, conc_noids μ v hn']) (Vin_noids _ _ hn')
    exact this.op
  · obtain ⟨hn, h⟩ := bif_some h
    rw [concA_noids μ _ hn]
    obtain ⟨rfl, hn', hrun⟩ := viaModel_some h
    have : Sim P B w0 μ σ w (Builtin.max_ ⟨ts⟩ 0 ⟨as'⟩) v σ := Sim.same hr (by rw [hrun, conc_noids μ v hn']) (Vin_noids _ _ hn')
    exact this.op
  · exact (M.fail_some h).elim

theorem mem_map_array {α β : Type} {f : α → β} {a : Array α} {b : β} (h : b ∈ a.map f) : ∃ x ∈ a, f x = b := Array.mem_map.1 h

/-- A call: a builtin is carried out; a function or a round is begun. -/
theorem aCall_sim {P : Program} {B : Nat} {w0 w : World} {μ : Mu} {σ σ' : AS} (hr : Rel B w0 μ σ w) {call : Tgt → Array Value → M Value} {id : Nat} {ρ : Operand → Value} {c : Call} {ty : TypeId} {v : Value}
    (hv : ∀ x ∈ c.operands, Vin σ.dom (ρ x)) (h : aCall P call id ρ c σ = some (v, σ')) :
    OpSim P B w0 μ σ w (do let d ← resolve (fun x => conc μ (ρ x)) c ty; invoke d.target d.args) v σ' ∨
    ∃ t args, call t args σ = some (v, σ') ∧ VinA σ.dom args ∧ (do let d ← resolve (fun x => conc μ (ρ x)) c ty; invoke d.target d.args : Sem Next).run P w = TgtRun P μ t args w := by
  obtain ⟨callee, cargs, argTypes⟩ := c
  have hargs : VinA σ.dom (cargs.map ρ) := VinA_iff.2 fun u hu => by
    obtain ⟨x, hx, rfl⟩ := mem_map_array hu
    exact hv x (by simp [Call.operands, hx])
  unfold aCall at h
  cases callee with
  | builtin b =>
    left
    obtain ⟨μ', w', nx, h1, h2⟩ := aBuiltin_sim (ty := ty) (consts := cargs.map fun | .const _ => true | _ => false) hr hargs h
    refine ⟨μ', w', nx, ?_, h2⟩
    simp only [resolve, Sem.run_bind, Sem.run_pure, Result.andThen_ok, invoke, args_conc]
    exact h1
  | invoke recv name =>
    right
    simp only at h
    have hrecv : Vin σ.dom (ρ recv) := hv recv (by simp [Call.operands])
    have hall : VinA σ.dom (#[ρ recv] ++ cargs.map ρ) := VinA_iff.2 fun u hu => by
      rcases Array.mem_append.1 hu with hu | hu
      · simp at hu; exact hu ▸ hrecv
      · exact VinA_iff.1 hargs u hu
    cases ht : aTarget P (.method name) (#[ρ recv] ++ cargs.map ρ) #[] with
    | none => rw [ht] at h; exact (M.fail_some h).elim
    | some ta =>
      obtain ⟨t, args⟩ := ta
      rw [ht] at h
      have hrun := run_target (w := w) (μ := μ) ht
      refine ⟨t, args, h, ?_, ?_⟩
      · unfold aTarget at ht
        simp only at ht
        split at ht
        · rename_i ty' u h0
          cases hm : aMethod P ty' u name with
          | none => rw [hm] at ht; cases ht
          | some fr =>
            obtain ⟨f, rv⟩ := fr
            rw [hm] at ht
            simp only at ht
            have hrv := (run_method (w := w) (μ := μ) hm 0).2
            cases hb : bodied P f with
            | false => rw [hb] at ht; cases ht
            | true =>
              rw [hb, cond_true] at ht
              cases ht
              subst hrv
              refine VinA_iff.2 fun z hz => ?_
              rcases Array.mem_append.1 hz with hz | hz
              · simp only [List.mem_toArray, List.mem_singleton] at hz
                subst hz
                exact (VinA_get hall h0 : Vin σ.dom (.iface ty' _))
              · exact VinA_iff.1 (VinA_extract hall _ _) z hz
        · cases ht
      · simp only [resolve, Sem.run_bind, Sem.run_pure, Result.andThen_ok, args_conc]
        have he : #[conc μ (ρ recv)] ++ concA μ (cargs.map ρ) = concA μ (#[ρ recv] ++ cargs.map ρ) := by rw [concA_append]; rfl
        rw [he]
        exact hrun
  | value f =>
    right
    simp only at h
    have hf : Vin σ.dom (ρ f) := hv f (by simp [Call.operands])
    cases hρ : ρ f with
    | func fn first captured =>
      rw [hρ] at h hf
      simp only at h
      cases ht : aTarget P fn (first ++ cargs.map ρ) captured with
      | none => rw [ht] at h; exact (M.fail_some h).elim
      | some ta =>
        obtain ⟨t, args⟩ := ta
        rw [ht] at h
        have hrun := run_target (w := w) (μ := μ) ht
        simp only [Vin] at hf
        have hall : VinA σ.dom (first ++ cargs.map ρ) := VinA_iff.2 fun u hu => by
          rcases Array.mem_append.1 hu with hu | hu
          · exact VinA_iff.1 hf.2.1 u hu
          · exact VinA_iff.1 hargs u hu
        refine ⟨t, args, h, ?_, ?_⟩
        · unfold aTarget at ht
          cases fn with
          | func g =>
            simp only at ht
            cases hb : bodied P g with
            | false => rw [hb] at ht; cases ht
            | true =>
              rw [hb, cond_true] at ht
              cases ht
              refine VinA_iff.2 fun u hu => ?_
              rcases Array.mem_append.1 hu with hu | hu
              · exact VinA_iff.1 hall u hu
              · exact VinA_iff.1 hf.2.2 u hu
          | yield l => simp only at ht; cases ht; exact hall
          | method name =>
            simp only at ht
            split at ht
            · rename_i ty' u h0
              cases hm : aMethod P ty' u name with
              | none => rw [hm] at ht; cases ht
              | some fr =>
                obtain ⟨g, rv⟩ := fr
                rw [hm] at ht
                simp only at ht
                have hrv := (run_method (w := w) (μ := μ) hm 0).2
                cases hb : bodied P g with
                | false => rw [hb] at ht; cases ht
                | true =>
                  rw [hb, cond_true] at ht
                  cases ht
                  subst hrv
                  refine VinA_iff.2 fun z hz => ?_
                  rcases Array.mem_append.1 hz with hz | hz
                  · simp only [List.mem_toArray, List.mem_singleton] at hz
                    subst hz
                    exact (VinA_get hall h0 : Vin σ.dom (.iface ty' _))
                  · exact VinA_iff.1 (VinA_extract hall _ _) z hz
            · cases ht
          | methodOf t name => cases ht
          | via t p f b => cases ht
        · simp only [resolve, hρ, conc, Deferred.ofValue, Sem.run_bind, Sem.run_pure, Result.andThen_ok, args_conc]
          rw [concA_append2]
          exact hrun
    | _ => rw [hρ] at h; exact (M.fail_some h).elim

end Go.Abs
