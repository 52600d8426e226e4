/- The abstract evaluator: one operation of a region, of whatever kind. No condition. -/
import Derived.Test.YtfokbdgiphphfaaAbs11
namespace Go.Abs
open Go.RowKit

theorem parts_conc (μ : Mu) (ρ : Operand → Value) (parts : Array (Nat × Operand)) :
    (parts.map fun (i, x) => (i, conc μ (ρ x))) = (parts.map fun (i, x) => (i, ρ x)).map fun p => (p.1, conc μ p.2) := by
  rw [Array.map_map]; rfl

theorem opt_conc (μ : Mu) (ρ : Operand → Value) (x : Option Operand) : (x.map fun y => conc μ (ρ y)) = (x.map ρ).map (conc μ) := by
  cases x <;> rfl

theorem optO_noids (μ : Mu) {x : Option Value} (h : noidsO x = true) : x.map (conc μ) = x := by
  cases x with
  | none => rfl
  | some v => simp only [Option.map_some, conc_noids μ v h]

set_option maxHeartbeats 1000000 in
theorem aop_sim {P : Program} {B : Nat} {w0 w : World} {μ : Mu} {σ σ' : AS} (hr : Rel B w0 μ σ w) {call : Tgt → Array Value → M Value} {id : Nat} {ρ : Operand → Value} {o : Oper} {v : Value}
    (hv : ∀ x ∈ o.op.operands, Vin σ.dom (ρ x)) (h : aop P call id ρ o σ = some (v, σ')) :
    OpSim P B w0 μ σ w (execOp (fun x => conc μ (ρ x)) o) v σ' ∨
    ∃ t args, call t args σ = some (v, σ') ∧ VinA σ.dom args ∧ (execOp (fun x => conc μ (ρ x)) o).run P w = TgtRun P μ t args w := by
  obtain ⟨dst, op, type, pos, after, guard⟩ := o
  unfold aop at h
  have hb0 := bif_some h
  clear h
  obtain ⟨_, h⟩ := hb0
  simp only at h hv
  cases op with
  | move x =>
    left
    obtain ⟨rfl, rfl⟩ := M.pure_some h
    exact OpSim.same hr (by simp only [execOp, Sem.run_pure]) (hv x (by simp [Op.operands]))
  | assign x =>
    left
    obtain ⟨rfl, rfl⟩ := M.pure_some h
    exact OpSim.same hr (by simp only [execOp, Sem.run_pure]) (hv x (by simp [Op.operands]))
  | pick c a b =>
    left
    simp only at h
    cases hc : ρ c with
    | bool b' =>
      rw [hc] at h
      obtain ⟨rfl, rfl⟩ := M.pure_some h
      refine OpSim.same hr ?_ ?_
      · cases b' <;> simp [execOp, hc, conc, asBool]
      · cases b'
        · exact hv b (by simp [Op.operands])
        · exact hv a (by simp [Op.operands])
    | _ => rw [hc] at h; exact (M.fail_some h).elim
  | alloc e =>
    left
    simp only at h
    cases hz : zero' P e with
    | none => rw [hz] at h; exact (M.fail_some h).elim
    | some z => rw [hz] at h; exact (aAlloc_sim hr hz h).op
  | box e x =>
    left
    exact (aBox_sim hr (hv x (by simp [Op.operands])) h).op
  | build t parts =>
    left
    have := (aBuild_sim hr (fun p hp => by
      obtain ⟨q, hq, rfl⟩ := mem_map_array hp
      exact hv q.2 (by simp only [Op.operands, List.mem_toArray, List.mem_map]; exact ⟨q, by simpa using hq, rfl⟩)) h).op
    rw [← parts_conc] at this
    exact this
  | buildSlice t len parts =>
    left
    have := (aBuildSlice_sim hr (fun p hp => by
      obtain ⟨q, hq, rfl⟩ := mem_map_array hp
      exact hv q.2 (by simp only [Op.operands, List.mem_toArray, List.mem_map]; exact ⟨q, by simpa using hq, rfl⟩)) h).op
    rw [← parts_conc] at this
    exact this
  | load t a =>
    left
    obtain ⟨p, hp, hrun, hvv, rfl⟩ := aLoad_sim hr h
    refine OpSim.same hr ?_ hvv
    simp only [execOp, Instr.loadAt, hp, conc, Instr.sureAddr, Sem.run_bind, Sem.run_pure, Result.andThen_ok, hrun]
  | store t a x =>
    left
    obtain ⟨p, w', hp, rfl, hrun, hr', hd⟩ := aStore_sim hr (hv x (by simp [Op.operands])) h
    refine ⟨μ, w', .skip, ?_, .inr ⟨rfl, rfl⟩, hr', Agree.refl _ _, by simp [undef, Vin, VinA, VinL], hd⟩
    simp only [execOp, Instr.storeAt, hp, conc, Instr.sureAddr, Sem.run_bind, Sem.run_pure, Result.andThen_ok, hrun]
  | nilCheck x =>
    left
    have hx := hv x (by simp [Op.operands])
    simp only at h
    generalize hxa : ρ x = u at h
    split at h
    · rename_i a
      obtain ⟨rfl, rfl⟩ := M.pure_some h
      rw [hxa] at hx
      exact OpSim.same hr (by simp only [execOp, hxa, conc, Sem.run_pure]) hx
    · rename_i t u
      obtain ⟨rfl, rfl⟩ := M.pure_some h
      rw [hxa] at hx
      exact OpSim.same hr (by simp only [execOp, hxa, conc, Sem.run_pure]) hx
    · exact (M.fail_some h).elim
    · rename_i fn f c hnm
      obtain ⟨rfl, rfl⟩ := M.pure_some h
      rw [hxa] at hx
      refine OpSim.same hr ?_ hx
      cases fn <;> first
        | exact absurd rfl (hnm _)
        | (simp only [execOp, hxa, conc, concFn, Sem.run_pure])
    · rename_i a l c
      obtain ⟨rfl, rfl⟩ := M.pure_some h
      rw [hxa] at hx
      refine OpSim.same hr ?_ hx
      cases a <;> simp only [execOp, hxa, conc, Sem.run_pure]
    · rename_i r
      obtain ⟨rfl, rfl⟩ := M.pure_some h
      rw [hxa] at hx
      refine OpSim.same hr ?_ hx
      cases r <;> simp only [execOp, hxa, conc, Sem.run_pure]
    · exact (M.fail_some h).elim
  | binOp op xt x y yt =>
    left
    exact (aBinOp_sim hr h).op
  | unOp op xt x =>
    left
    simp only at h
    obtain ⟨hn, h⟩ := bif_some h
    have := (Sim.via hr h : Sim P B w0 μ σ w (Op.unary op (ρ x)) v σ').op
    simp only [execOp, conc_noids μ _ hn]
    exact this
  | convert src dst x =>
    left
    simp only at h
    generalize P.underlying src = d1 at h
    generalize P.underlying dst = d2 at h
    split at h
    · exact (aBytes_sim hr h).op
    · exact (aBytes_sim hr h).op
    · obtain ⟨hn, h⟩ := bif_some h
      have := (Sim.via hr h : Sim P B w0 μ σ w (convert src dst (ρ x)) v σ').op
      simp only [execOp, conc_noids μ _ hn]
      exact this
  | makeInterface t x =>
    left
    have hx := hv x (by simp [Op.operands])
    simp only at h
    cases hu : P.underlying t with
    | none => rw [hu] at h; exact (M.fail_some h).elim
    | some d =>
      rw [hu] at h
      cases d <;> first
        | exact (M.fail_some h).elim
        | (obtain ⟨rfl, rfl⟩ := M.pure_some h
           refine OpSim.same hr ?_ hx
           simp only [execOp, Instr.makeInterface, Sem.run_bind, run_und hu, Result.andThen_ok, Sem.run_pure, conc])
  | makeFunc fn first captured =>
    left
    simp only at h
    have h1 : VinA σ.dom (first.map ρ) := VinA_iff.2 fun u hu => by
      obtain ⟨x, hx, rfl⟩ := mem_map_array hu
      exact hv x (by simp [Op.operands, hx])
    have h2 : VinA σ.dom (captured.map ρ) := VinA_iff.2 fun u hu => by
      obtain ⟨x, hx, rfl⟩ := mem_map_array hu
      exact hv x (by simp [Op.operands, hx])
    cases fn <;> first
      | exact (M.fail_some h).elim
      | (obtain ⟨rfl, rfl⟩ := M.pure_some h
         refine OpSim.same hr ?_ ⟨trivial, h1, h2⟩
         simp only [execOp, Instr.makeFunc, args_conc, Sem.run_bind, Sem.run_pure, Result.andThen_ok, conc, concFn])
  | makeMap t r =>
    left
    have hmk : ∀ {σ₁ : AS} {u : Unit}, M.alloc id (.map [] 0) σ = some (u, σ₁) → σ₁ = σ' → v = .map (some id) → (Instr.makeMap t (r.map fun x => conc μ (ρ x))).run P w = .ok (.map (some w.heap.size)) (w.alloc (.map #[] 0)) →
        OpSim P B w0 μ σ w (execOp (fun x => conc μ (ρ x)) ⟨dst, .makeMap t r, type, pos, after, guard⟩) v σ' := by
      intro σ₁ u h1 h2 h3 hrun
      obtain ⟨a1, a2, rfl⟩ := M.alloc_some h1
      subst h2 h3
      refine ⟨μ.upd id w.heap.size 0 0, _, _, ?_, .inl rfl, hr.push (id := id) (o := .map [] 0) (.map #[] 0) 0 a1 a2 ?_ (by simp [AObj.Vin]), Mu.upd_agree a1, dom_set_same _ _ _, fun i hi => dom_set _ _ _ i hi⟩
      · simp only [execOp, Sem.run_bind, hrun, Result.andThen_ok, Sem.run_pure, conc, Mu.upd, if_true]
      · show (w.heap.push _)[(μ.upd id w.heap.size 0 0).blk id]? = _
        have : (μ.upd id w.heap.size 0 0).blk id = w.heap.size := by simp [Mu.upd]
        rw [this, Array.getElem?_push_size]
        rfl
    cases r with
    | none =>
      simp only at h
      obtain ⟨_, σ₁, h1, h2⟩ := M.bind_some h
      obtain ⟨rfl, h3⟩ := M.pure_some h2
      exact hmk h1 h3 rfl rfl
    | some x =>
      simp only at h
      cases hu : P.underlying t with
      | none => rw [hu] at h; exact (M.fail_some h).elim
      | some d =>
        rw [hu] at h
        cases d with
        | map kt et =>
          cases hx : ρ x with
          | int k n =>
            rw [hx] at h
            obtain ⟨_, σ₁, h1, h2⟩ := M.bind_some h
            obtain ⟨rfl, h3⟩ := M.pure_some h2
            refine hmk h1 h3 rfl ?_
            simp only [Instr.makeMap, Option.map_some, hx, conc, Sem.run_bind, run_und hu, Result.andThen_ok, asInt, asIntOf, Sem.run_pure]
            rfl
          | _ => rw [hx] at h; exact (M.fail_some h).elim
        | _ => exact (M.fail_some h).elim
  | makeSlice t l c =>
    left
    exact (aMakeSlice_sim hr h).op
  | slice t x lo hi mx =>
    left
    have hx := hv x (by simp [Op.operands])
    simp only at h
    cases hn : noids (ρ x) && noidsO (lo.map ρ) && noidsO (hi.map ρ) && noidsO (mx.map ρ) with
    | true =>
      rw [hn, cond_true] at h
      simp only [Bool.and_eq_true] at hn
      have := (Sim.via hr h : Sim P B w0 μ σ w (Instr.sliceAt t (ρ x) (lo.map ρ) (hi.map ρ) (mx.map ρ)) v σ').op
      simp only [execOp, opt_conc, conc_noids μ _ hn.1.1.1, optO_noids μ hn.1.1.2, optO_noids μ hn.1.2, optO_noids μ hn.2]
      exact this
    | false =>
      rw [hn, cond_false] at h
      have := (aSlice_sim hr hx h).op
      simp only [execOp, opt_conc]
      exact this
  | fieldAddr s x f =>
    left
    exact (aFieldAddr_sim hr (hv x (by simp [Op.operands])) h).op
  | field t x f =>
    left
    exact (aField_sim hr (hv x (by simp [Op.operands])) h).op
  | indexAddr t x i =>
    left
    exact (aIndexAddr_sim hr (hv x (by simp [Op.operands])) h).op
  | index t x i =>
    left
    exact (aIndex_sim hr (hv x (by simp [Op.operands])) h).op
  | lookup t x i ok =>
    left
    exact (aLookup_sim hr h).op
  | mapUpdate t m k x =>
    left
    obtain ⟨rfl, w', hrun, hr', hd⟩ := aMapUpdate_sim hr (hv x (by simp [Op.operands])) h
    refine ⟨μ, w', .skip, ?_, .inr ⟨rfl, rfl⟩, hr', Agree.refl _ _, by simp [undef, Vin, VinA, VinL], hd⟩
    simp only [execOp, Sem.run_bind, hrun, Result.andThen_ok, Sem.run_pure]
  | insert t m k x =>
    left
    obtain ⟨rfl, w', hrun, hr', hd⟩ := aMapUpdate_sim hr (hv x (by simp [Op.operands])) h
    refine ⟨μ, w', .skip, ?_, .inr ⟨rfl, rfl⟩, hr', Agree.refl _ _, by simp [undef, Vin, VinA, VinL], hd⟩
    simp only [execOp, Sem.run_bind, hrun, Result.andThen_ok, Sem.run_pure]
  | typeAssert x xt asserted ok =>
    left
    exact (aTypeAssert_sim hr (hv x (by simp [Op.operands])) h).op
  | extract t i =>
    left
    have hx := hv t (by simp [Op.operands])
    simp only at h
    cases ht : ρ t with
    | tuple vs =>
      rw [ht] at h hx
      obtain ⟨hi, rfl⟩ := M.ofOption_some h
      refine OpSim.same hr ?_ (VinA_get hx hi)
      simp only [execOp, Instr.extract, ht, conc, concA_getElem?, hi, Option.map_some, Sem.run_bind, Sem.run_pure, Result.andThen_ok]
    | _ => rw [ht] at h; exact (M.fail_some h).elim
  | call c =>
    exact aCall_sim (ty := type) hr (fun x hx => hv x hx) h
  | _ => exact (M.fail_some h).elim

end Go.Abs
