/- The abstract evaluator: code and calls as steps of the machine (whole), drawn regions left to a premise. No condition. -/
import Derived.Test.YtfokbdgiphphfaaAbs14
namespace Go.Abs
open Go.RowKit

theorem exitTo_code (id : Nat) (c : Code) (k : List Item) : exitTo id (.code c :: k) = exitTo id k := rfl
theorem exitTo_loop (id : Nat) (c : Code) (k : List Item) : exitTo id (.inLoop c :: k) = exitTo id k := rfl
theorem exitTo_block (id i : Nat) (k : List Item) : exitTo i (.inBlock id :: k) = if id = i then some k else exitTo i k := by
  simp only [exitTo, beq_iff_eq]


theorem acode_steps {P : Program} {call : Tgt → Array Value → M Value} (hcall : CallOk P call) (hdraw : DrawOk P call) (n : Nat) (fn : FuncId) (ro : Option Nat) {B : Nat} {w0 : World} : ∀ (c : Code) (a a' : Act) (e : AX) (σ σ' : AS),
    acode P call n fn ro c a σ = some ((e, a'), σ') → ∀ (μ : Mu) (w : World), Rel B w0 μ σ w → VinAct σ.dom a → ∀ (b : Frame), b.fn = fn → b.roundOf = ro.map μ.blk → (∀ l, ro = some l → σ.dom l) → ∀ (k : List Item) (cs : List Frame),
    ∃ μ' w', Adv B w0 σ μ σ' μ' w' ∧ VinAct σ'.dom a' ∧ Arr P (lone (b.atR (concAct μ a) (.code c :: k)) cs w) b k cs e (concAct μ' a') w' := by
  have round_keep : ∀ {σ σ' : AS} {μ μ' : Mu} {w' : World} {b : Frame}, Adv B w0 σ μ σ' μ' w' → b.roundOf = ro.map μ.blk → (∀ l, ro = some l → σ.dom l) → b.roundOf = ro.map μ'.blk ∧ (∀ l, ro = some l → σ'.dom l) := by
    intro σ σ' μ μ' w' b adv h1 h2
    refine ⟨?_, fun l hl => adv.dom l (h2 l hl)⟩
    rw [h1]
    cases ro with
    | none => rfl
    | some l => simp only [Option.map_some, (adv.agree l (h2 l rfl)).1]
  intro c
  induction c with
  | skip =>
    intro a a' e σ σ' h μ w hr ha b hb hro hrd k cs
    obtain ⟨he, rfl⟩ := M.pure_some h
    cases he
    exact ⟨μ, w, Adv.refl hr, ha, .one stepR_skip⟩
  | region id ops draw =>
    intro a a' e σ σ' h μ w hr ha b hb hro hrd k cs
    obtain ⟨base, σ₁, h1, h2⟩ := M.bind_some h
    clear h
    obtain ⟨rfl, rfl⟩ := M.reserve_some h1
    have adv1 := reserve_adv hr ops.size
    cases draw with
    | true =>
      rw [cond_true] at h2
      obtain ⟨a₁, σ₂, h3, h4⟩ := M.bind_some h2
      obtain ⟨he, rfl⟩ := M.pure_some h4
      cases he
      obtain ⟨μ', w', s, adv2, hv⟩ := hdraw ops _ a _ _ _ h3 (Nat.le_refl _) B w0 μ w adv1.rel ha b k cs id
      exact ⟨μ', w', adv1.trans adv2, hv, s⟩
    | false =>
      rw [cond_false] at h2
      obtain ⟨a₁, σ₂, h3, h4⟩ := M.bind_some h2
      obtain ⟨he, rfl⟩ := M.pure_some h4
      cases he
      obtain ⟨μ', w', s, adv2, hv⟩ := ops_steps hcall ops.toList 0 a _ _ _ h3 (fun j => by simp) μ w adv1.rel ha b k cs
      refine ⟨μ', w', adv1.trans adv2, hv, ?_⟩
      rw [Array.length_toList, ← List.range_eq_range'] at s
      exact .head stepR_region s
  | seq x y ihx ihy =>
    intro a a' e σ σ' h μ w hr ha b hb hro hrd k cs
    obtain ⟨⟨e₁, a₁⟩, σ₁, h1, h2⟩ := M.bind_some h
    clear h
    obtain ⟨μ₁, w₁, adv1, hv1, arr1⟩ := ihx a a₁ e₁ σ σ₁ h1 μ w hr ha b hb hro hrd (.code y :: k) cs
    cases e₁ with
    | normal =>
      simp only at h2
      obtain ⟨hro1, hrd1⟩ := round_keep adv1 hro hrd
      obtain ⟨μ₂, w₂, adv2, hv2, arr2⟩ := ihy a₁ a' e σ₁ σ' h2 μ₁ w₁ adv1.rel hv1 b hb hro1 hrd1 k cs
      exact ⟨μ₂, w₂, adv1.trans adv2, hv2, .of_steps (.head stepR_seq arr1) arr2⟩
    | exit i =>
      obtain ⟨he, rfl⟩ := M.pure_some h2
      cases he
      obtain ⟨k', s, hk⟩ := arr1
      exact ⟨μ₁, w₁, adv1, hv1, k', .head stepR_seq s, hk⟩
    | ret =>
      obtain ⟨he, rfl⟩ := M.pure_some h2
      cases he
      obtain ⟨k', s⟩ := arr1
      exact ⟨μ₁, w₁, adv1, hv1, k', .head stepR_seq s⟩
  | cond c x y ihx ihy =>
    intro a a' e σ σ' h μ w hr ha b hb hro hrd k cs
    have hb0 := bif_some h
    clear h
    obtain ⟨hok, h⟩ := hb0
    have hev := eval_conc μ a hok
    cases hc : a.eval c with
    | bool t =>
      rw [hc] at h hev
      cases t with
      | true =>
        simp only at h
        obtain ⟨μ₁, w₁, adv1, hv1, arr1⟩ := ihx a a' e σ σ' h μ w hr ha b hb hro hrd k cs
        exact ⟨μ₁, w₁, adv1, hv1, .of_steps (.one (stepR_cond (t := true) hev)) arr1⟩
      | false =>
        simp only at h
        obtain ⟨μ₁, w₁, adv1, hv1, arr1⟩ := ihy a a' e σ σ' h μ w hr ha b hb hro hrd k cs
        exact ⟨μ₁, w₁, adv1, hv1, .of_steps (.one (stepR_cond (t := false) hev)) arr1⟩
    | _ => rw [hc] at h; exact (M.fail_some h).elim
  | block id body ih =>
    intro a a' e σ σ' h μ w hr ha b hb hro hrd k cs
    obtain ⟨⟨e₁, a₁⟩, σ₁, h1, h2⟩ := M.bind_some h
    clear h
    obtain ⟨μ₁, w₁, adv1, hv1, arr1⟩ := ih a a₁ e₁ σ σ₁ h1 μ w hr ha b hb hro hrd (.inBlock id :: k) cs
    cases e₁ with
    | normal =>
      obtain ⟨he, rfl⟩ := M.pure_some h2
      cases he
      exact ⟨μ₁, w₁, adv1, hv1, .head stepR_block (Steps.trans arr1 (.one stepR_inBlock))⟩
    | exit i =>
      simp only at h2
      obtain ⟨k', s, hk⟩ := arr1
      rw [exitTo_block] at hk
      cases hi : Nat.beq i id with
      | true =>
        rw [hi, cond_true] at h2
        have := Nat.eq_of_beq_eq_true hi
        subst this
        obtain ⟨he, rfl⟩ := M.pure_some h2
        cases he
        rw [if_pos rfl] at hk
        exact ⟨μ₁, w₁, adv1, hv1, .head stepR_block (s.trans (.one (stepR_exit hk)))⟩
      | false =>
        rw [hi, cond_false] at h2
        obtain ⟨he, rfl⟩ := M.pure_some h2
        cases he
        rw [if_neg (fun e => ne_of_nbeq hi e.symm)] at hk
        exact ⟨μ₁, w₁, adv1, hv1, k', .head stepR_block s, hk⟩
    | ret =>
      obtain ⟨he, rfl⟩ := M.pure_some h2
      cases he
      obtain ⟨k', s⟩ := arr1
      exact ⟨μ₁, w₁, adv1, hv1, k', .head stepR_block s⟩
  | loop body ih =>
    intro a a' e σ σ' h μ w hr ha b hb hro hrd k cs
    have key : ∀ (m : Nat) (a a' : Act) (e : AX) (σ σ' : AS), aloop (acode P call n fn ro body) m a σ = some ((e, a'), σ') → ∀ (μ : Mu) (w : World), Rel B w0 μ σ w → VinAct σ.dom a → b.roundOf = ro.map μ.blk → (∀ l, ro = some l → σ.dom l) →
        ∃ μ' w', Adv B w0 σ μ σ' μ' w' ∧ VinAct σ'.dom a' ∧ Arr P (lone (b.atR (concAct μ a) (.code body :: .inLoop body :: k)) cs w) b k cs e (concAct μ' a') w' := by
      intro m
      induction m with
      | zero => intro a a' e σ σ' h; exact (M.fail_some h).elim
      | succ m ihm =>
        intro a a' e σ σ' h μ w hr ha hro hrd
        obtain ⟨⟨e₁, a₁⟩, σ₁, h1, h2⟩ := M.bind_some h
        clear h
        obtain ⟨μ₁, w₁, adv1, hv1, arr1⟩ := ih a a₁ e₁ σ σ₁ h1 μ w hr ha b hb hro hrd (.inLoop body :: k) cs
        cases e₁ with
        | normal =>
          simp only at h2
          obtain ⟨hro1, hrd1⟩ := round_keep adv1 hro hrd
          obtain ⟨μ₂, w₂, adv2, hv2, arr2⟩ := ihm a₁ a' e σ₁ σ' h2 μ₁ w₁ adv1.rel hv1 hro1 hrd1
          exact ⟨μ₂, w₂, adv1.trans adv2, hv2, .of_steps (Steps.trans arr1 (.one stepR_inLoop)) arr2⟩
        | exit i =>
          obtain ⟨he, rfl⟩ := M.pure_some h2
          cases he
          obtain ⟨k', s, hk⟩ := arr1
          exact ⟨μ₁, w₁, adv1, hv1, k', s, hk⟩
        | ret =>
          obtain ⟨he, rfl⟩ := M.pure_some h2
          cases he
          obtain ⟨k', s⟩ := arr1
          exact ⟨μ₁, w₁, adv1, hv1, k', s⟩
    obtain ⟨μ₁, w₁, adv1, hv1, arr1⟩ := key n a a' e σ σ' h μ w hr ha hro hrd
    exact ⟨μ₁, w₁, adv1, hv1, .of_steps (.one stepR_loop) arr1⟩
  | rangeFunc f params assign body iha ihb =>
    intro a a' e σ σ' h μ w hr ha b hb hro hrd k cs
    exact range_steps hcall h hr ha b hb hro hrd k cs
  | exit id =>
    intro a a' e σ σ' h μ w hr ha b hb hro hrd k cs
    obtain ⟨he, rfl⟩ := M.pure_some h
    cases he
    exact ⟨μ, w, Adv.refl hr, ha, k, .refl _ _, rfl⟩
  | ret =>
    intro a a' e σ σ' h μ w hr ha b hb hro hrd k cs
    obtain ⟨he, rfl⟩ := M.pure_some h
    cases he
    exact ⟨μ, w, Adv.refl hr, ha, k, .refl _ _⟩
  | label l =>
    intro a a' e σ σ' h μ w hr ha b hb hro hrd k cs
    obtain ⟨he, rfl⟩ := M.pure_some h
    cases he
    exact ⟨μ, w, Adv.refl hr, ha, .one stepR_label⟩
  | scope body ih => intro a a' e σ σ' h; exact (M.fail_some h).elim
  | goto l => intro a a' e σ σ' h; exact (M.fail_some h).elim
  | refuse s => intro a a' e σ σ' h; exact (M.fail_some h).elim

/-! ### Calls -/

theorem takeAll_steps {P : Program} {B : Nat} {w0 : World} : ∀ (ds : List Deferred) (σ σ' : AS) (u : Unit), takeAll ds σ = some (u, σ') → ∀ (μ : Mu) (w : World), Rel B w0 μ σ w → ∀ (fr : Frame) (cs : List Frame), fr.mode = .returning → fr.defers = ds.map (concD μ) → 
    ∃ w', Steps P (lone fr cs w) (lone { fr with defers := [] } cs w') ∧ Adv B w0 σ μ σ' μ w'
  | [], σ, σ', u, h, μ, w, hr, fr, cs, hm, hd => by
    obtain ⟨_, rfl⟩ := M.pure_some h
    have : fr = { fr with defers := [] } := by cases fr; simp_all
    exact ⟨w, by rw [← this]; exact .refl _ _, Adv.refl hr⟩
  | d :: ds, σ, σ', u, h, μ, w, hr, fr, cs, hm, hd => by
    obtain ⟨t, dargs⟩ := d
    unfold takeAll at h
    cases t with
    | collected r =>
      simp only at h
      obtain ⟨o, σ₁, h1, h2⟩ := M.bind_some h
      clear h
      obtain ⟨g1, rfl⟩ := M.get_some h1
      cases o with
      | deferred =>
        simp only at h2
        obtain ⟨_, σ₂, h3, h4⟩ := M.bind_some h2
        obtain ⟨_, rfl⟩ := M.set_some h3
        have hf : w.heap[μ.blk r]? = some (.deferred (some [])) := hr.fits _ _ g1
        have hrun : (Instr.takeDeferred (μ.blk r)).run P w = .ok [] { w with heap := w.heap.setIfInBounds (μ.blk r) (.deferred none) } := by
          have e1 : (getObj (μ.blk r)).run P w = .ok (.deferred (some [])) w := by simp only [getObj, Sem.run, hf]
          have e2 : (setObj (μ.blk r) (.deferred none)).run P w = .ok () { w with heap := w.heap.setIfInBounds (μ.blk r) (.deferred none) } := by simp only [setObj, Sem.run, hf]
          simp only [Instr.takeDeferred, Sem.run_bind, e1, Result.andThen_ok, e2, Sem.run_pure]
        have hr' : Rel B w0 μ { σ with heap := σ.heap.set r .dead } { w with heap := w.heap.setIfInBounds (μ.blk r) (.deferred none) } := hr.setObj g1 trivial _ trivial trivial
        have hst := step_collected (P := P) (fr := fr) (cs := cs) (w := w) (by rw [hm]; simp) (by rw [hd]; rfl) (d := concD μ ⟨.collected r, dargs⟩) (r := μ.blk r) (ds := ds.map (concD μ)) rfl hrun
        obtain ⟨w', s, adv⟩ := takeAll_steps (P := P) ds _ σ' u h4 μ _ hr' { fr with defers := ds.map (concD μ) } cs hm rfl
        exact ⟨w', .head hst s, ⟨adv.rel, (fun i hi => adv.agree i (dom_set _ _ _ i hi)), fun i hi => adv.dom i (dom_set _ _ _ i hi)⟩⟩
      | _ => exact (M.fail_some h2).elim
    | _ => exact (M.fail_some h).elim

end Go.Abs
