/- The abstract evaluator: every call, by induction on the depth; drawn regions left to a premise. No condition. -/
import Derived.Test.YtfokbdgiphphfaaAbs16
namespace Go.Abs
open Go.RowKit

theorem acall_ok {P : Program} (hdraw : ∀ n, CallOk P (acall P n) → DrawOk P (acall P n)) : ∀ n, CallOk P (acall P n) := by
  intro n
  induction n with
  | zero => intro t args σ v σ' h; exact (M.fail_some h).elim
  | succ n ih =>
    have hd := hdraw n ih
    intro t args σ v σ' h B w0 μ w hr ha
    cases t with
    | func f =>
      simp only [acall] at h
      cases hf : P.funcs[f]? with
      | none => rw [hf] at h; exact (M.fail_some h).elim
      | some fn =>
        rw [hf] at h
        simp only at h
        cases hb : fn.body with
        | none => rw [hb] at h; exact (M.fail_some h).elim
        | some c =>
          rw [hb] at h
          refine ⟨_, rfl, fun c cs => ?_⟩
          obtain ⟨fr, μ', w', s, hfr, hl, adv, hv⟩ := func_leaves ih hd hf hb h hr ha (c :: cs)
          exact ⟨_, μ', w', rfl, s.trans (.one (step_leave_returned hl)), adv, hv⟩
    | yield l =>
      simp only [acall] at h
      obtain ⟨o, σ₁, h1, h2⟩ := M.bind_some h
      clear h
      obtain ⟨g1, rfl⟩ := M.get_some h1
      cases o with
      | loop r =>
        simp only at h2
        have hb0 := bif_some h2
        clear h2
        obtain ⟨hsz, h2⟩ := hb0
        have hsz := Nat.eq_of_beq_eq_true hsz
        obtain ⟨⟨e, a⟩, σ₂, h3, h4⟩ := M.bind_some h2
        clear h2
        have hf1 : w.heap[μ.blk l]? = some (.loop (concLoop μ r)) := hr.fits _ _ g1
        have hvl := hr.vin _ _ g1
        have hld : σ.dom l := dom_of_get g1
        have htgt : TgtRun P μ (.yield l) args w = .ok (.round (μ.blk l) r.fn (concA μ (setParams (r.params.toList.zip args.toList) r.tmps)) r.assign r.body) w := by
          have hne : ¬ (concA μ args).size ≠ (concLoop μ r).params.size := by
            rw [concA_size]; exact fun hn => hn hsz
          simp only [TgtRun, Instr.yield, Sem.run_bind, run_getLoop hf1, Result.andThen_ok, hne, if_false, Sem.run_pure]
          rw [show (concLoop μ r).params = r.params from rfl, show (concLoop μ r).tmps = concA μ r.tmps from rfl, round_tmps]
          rfl
        refine ⟨_, htgt, fun c cs => ?_⟩
        have hva : VinAct σ.dom { tmps := setParams (r.params.toList.zip args.toList) r.tmps, defers := [] } := ⟨setParams_vin _ _ (fun p hp => by
          have := List.of_mem_zip hp
          exact VinA_iff.1 ha p.2 (by simpa using this.2)) hvl.1, fun d hd => by cases hd⟩
        have hent : Frame.round (μ.blk l) r.fn (concA μ (setParams (r.params.toList.zip args.toList) r.tmps)) r.assign r.body .normal =
            ({ (default : Frame) with fn := r.fn, kind := .normal, roundOf := some (μ.blk l) } : Frame).atR (concAct μ { tmps := setParams (r.params.toList.zip args.toList) r.tmps, defers := [] }) [.code r.assign, .beginRound, .code r.body] := rfl
        obtain ⟨μ₂, w₂, adv2, hv2, arr2⟩ := acode_steps ih hd n r.fn (some l) r.assign _ a e σ σ₂ h3 μ w hr hva ({ (default : Frame) with fn := r.fn, kind := .normal, roundOf := some (μ.blk l) } : Frame) rfl rfl (fun l' hl' => by cases hl'; exact hld) [.beginRound, .code r.body] (c :: cs)
        cases e with
        | normal =>
          simp only at h4
          obtain ⟨o₂, σ₃, h5, h6⟩ := M.bind_some h4
          clear h4
          obtain ⟨g5, rfl⟩ := M.get_some h5
          cases o₂ with
          | loop r₂ =>
            simp only at h6
            cases hst : r₂.state with
            | ready =>
              rw [hst] at h6
              simp only at h6
              obtain ⟨_, σ₄, h7, h8⟩ := M.bind_some h6
              clear h6
              obtain ⟨_, rfl⟩ := M.set_some h7
              have hbl2 : μ₂.blk l = μ.blk l := (adv2.agree l hld).1
              have hf2 : w₂.heap[μ₂.blk l]? = some (.loop (concLoop μ₂ r₂)) := adv2.rel.fits _ _ g5
              have adv3 := adv2.rel.setLoop g5 (fun r => { r with state := .busy }) (fun _ => rfl) (fun _ => rfl) (fun _ => rfl)
              have hbeg : (Instr.beginRound (μ.blk l)).run P w₂ = .ok () { w₂ with heap := w₂.heap.setIfInBounds (μ₂.blk l) (.loop { concLoop μ₂ r₂ with state := .busy }) } := by
                rw [← hbl2]
                have hs2 : (concLoop μ₂ r₂).state = .ready := hst
                simp only [Instr.beginRound, Sem.run_bind, run_getLoop hf2, Result.andThen_ok, run_setLoop hf2, hs2, Sem.run_pure]
              have s1 : Steps P (lone (({ (default : Frame) with fn := r.fn, kind := .normal, roundOf := some (μ.blk l) } : Frame).atR (concAct μ { tmps := setParams (r.params.toList.zip args.toList) r.tmps, defers := [] }) [.code r.assign, .beginRound, .code r.body]) (c :: cs) w)
                  (lone (({ (default : Frame) with fn := r.fn, kind := .normal, roundOf := some (μ.blk l) } : Frame).atR (concAct μ₂ a) [.beginRound, .code r.body]) (c :: cs) w₂) := arr2
              rw [← hent] at s1
              have s2 := stepR_beginRound (P := P) (b := ({ (default : Frame) with fn := r.fn, kind := .normal, roundOf := some (μ.blk l) } : Frame)) (a := concAct μ₂ a) (k := [.code r.body]) (cs := c :: cs) rfl hbeg
              obtain ⟨⟨e₂, a₂⟩, σ₅, h9, h10⟩ := M.bind_some h8
              clear h8
              have hro3 : ({ (default : Frame) with fn := r.fn, kind := .normal, roundOf := some (μ.blk l) } : Frame).roundOf = (some l).map μ₂.blk := by simp only [Option.map_some, hbl2]
              obtain ⟨μ₄, w₄, adv4, hv4, arr4⟩ := acode_steps ih hd n r.fn (some l) r.body a a₂ e₂ _ σ₅ h9 μ₂ _ adv3.rel (hv2.mono adv3.dom) ({ (default : Frame) with fn := r.fn, kind := .normal, roundOf := some (μ.blk l) } : Frame) rfl hro3
                (fun l' hl' => by cases hl'; exact adv3.dom _ (adv2.dom _ hld)) [] (c :: cs)
              have adv24 := (adv2.trans adv3).trans adv4
              have hb1 := bif_some h10
              clear h10
              obtain ⟨_, h10⟩ := hb1
              obtain ⟨o₃, σ₆, h11, h12⟩ := M.bind_some h10
              clear h10
              obtain ⟨g11, rfl⟩ := M.get_some h11
              cases o₃ with
              | loop r₃ =>
                simp only at h12
                obtain ⟨_, σ₇, h13, h14⟩ := M.bind_some h12
                clear h12
                obtain ⟨_, rfl⟩ := M.set_some h13
                obtain ⟨rfl, rfl⟩ := M.pure_some h14
                have hbl4 : μ₄.blk l = μ.blk l := (adv24.agree l hld).1
                have hf4 : w₄.heap[μ₄.blk l]? = some (.loop (concLoop μ₄ r₃)) := adv4.rel.fits _ _ g11
                have adv5 := adv4.rel.setLoop g11 (fun r => { r with state := if (jumpOf e₂).isNone then .ready else .done, pending := jumpOf e₂ }) (fun _ => rfl) (fun _ => rfl) (fun _ => rfl)
                have hendr : (Instr.endRound (μ.blk l) (jumpOf e₂)).run P w₄ = .ok (.bool (jumpOf e₂).isNone) { w₄ with heap := w₄.heap.setIfInBounds (μ₄.blk l) (.loop { concLoop μ₄ r₃ with state := if (jumpOf e₂).isNone then .ready else .done, pending := jumpOf e₂ }) } := by
                  rw [← hbl4]
                  simp only [Instr.endRound, Sem.run_bind, run_getLoop hf4, Result.andThen_ok, run_setLoop hf4, Sem.run_pure]
                have sAll : ∀ {m : Machine}, Steps P (lone (({ (default : Frame) with fn := r.fn, kind := .normal, roundOf := some (μ.blk l) } : Frame).atR (concAct μ₂ a) [.code r.body]) (c :: cs) { w₂ with heap := w₂.heap.setIfInBounds (μ₂.blk l) (.loop { concLoop μ₂ r₂ with state := .busy }) }) m →
                    Steps P (lone (Frame.round (μ.blk l) r.fn (concA μ (setParams (r.params.toList.zip args.toList) r.tmps)) r.assign r.body .normal) (c :: cs) w) m := fun hm => s1.trans (.head s2 hm)
                have hcv : conc μ₄ (.bool (jumpOf e₂).isNone) = .bool (jumpOf e₂).isNone := by simp [conc]
                refine ⟨_, μ₄, _, rfl, sAll ?_, adv24.trans adv5, by simp [Vin]⟩
                rw [hcv]
                cases e₂ with
                | normal => exact Steps.trans arr4 (.one (stepR_round_end rfl rfl hendr))
                | exit i =>
                  obtain ⟨k', s, hk⟩ := arr4
                  exact s.trans (.one (stepR_round_exit rfl rfl (by rw [hk]; rfl) hendr))
                | ret =>
                  obtain ⟨k', s⟩ := arr4
                  exact s.trans (.one (stepR_round_ret rfl rfl hendr))
              | _ => exact (M.fail_some h12).elim
            | _ => rw [hst] at h6; exact (M.fail_some h6).elim
          | _ => exact (M.fail_some h6).elim
        | _ => exact (M.fail_some h4).elim
      | _ => exact (M.fail_some h2).elim

end Go.Abs
