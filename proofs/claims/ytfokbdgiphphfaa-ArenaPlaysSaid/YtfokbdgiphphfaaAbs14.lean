/- The abstract evaluator: code and calls as steps of the machine, drawn regions left to a premise. No condition. -/
import Derived.Test.YtfokbdgiphphfaaAbs13
namespace Go.Abs
open Go.RowKit

/-- How a piece of code is left. -/
def Arr (P : Program) (m : Machine) (b : Frame) (k : List Item) (cs : List Frame) (e : AX) (a : Act) (w : World) : Prop :=
  match e with
  | .normal => Steps P m (lone (b.atR a k) cs w)
  | .exit id => ∃ k', Steps P m (lone (b.atR a (.code (.exit id) :: k')) cs w) ∧ exitTo id k' = exitTo id k
  | .ret => ∃ k', Steps P m (lone (b.atR a (.code .ret :: k')) cs w)

theorem Arr.of_steps {P : Program} {m m₁ : Machine} {b : Frame} {k : List Item} {cs : List Frame} {e : AX} {a : Act} {w : World} (h : Steps P m m₁) (h' : Arr P m₁ b k cs e a w) : Arr P m b k cs e a w := by
  cases e with
  | normal => exact h.trans h'
  | exit id => obtain ⟨k', h1, h2⟩ := h'; exact ⟨k', h.trans h1, h2⟩
  | ret => obtain ⟨k', h1⟩ := h'; exact ⟨k', h.trans h1⟩

/-- What is known of regions whose order is drawn. -/
def DrawOk (P : Program) (call : Tgt → Array Value → M Value) : Prop :=
  ∀ ops base a σ a' σ', runDraw P call ops base a σ = some (a', σ') → base + ops.size ≤ σ.next → ∀ B w0 μ w, Rel B w0 μ σ w → VinAct σ.dom a → ∀ (b : Frame) (k : List Item) (cs : List Frame) (id : Nat),
    ∃ μ' w', Steps P (lone (b.atR (concAct μ a) (.code (.region id ops true) :: k)) cs w) (lone (b.atR (concAct μ' a') k) cs w') ∧ Adv B w0 σ μ σ' μ' w' ∧ VinAct σ'.dom a'

theorem aTarget_vin {P : Program} {D : Nat → Prop} {fn : Fn} {args captured args' : Array Value} {t : Tgt} (h : aTarget P fn args captured = some (t, args')) (ha : VinA D args) (hc : VinA D captured) : VinA D args' := by
  unfold aTarget at h
  cases fn with
  | func g =>
    simp only at h
    cases hb : bodied P g with
    | false => rw [hb] at h; cases h
    | true =>
      rw [hb, cond_true] at h
      cases h
      exact VinA_iff.2 fun u hu => by
        rcases Array.mem_append.1 hu with hu | hu
        · exact VinA_iff.1 ha u hu
        · exact VinA_iff.1 hc u hu
  | yield l => simp only at h; cases h; exact ha
  | method name =>
    simp only at h
    split at h
    · rename_i ty' u h0
      cases hm : aMethod P ty' u name with
      | none => rw [hm] at h; cases h
      | some fr =>
        obtain ⟨g, rv⟩ := fr
        rw [hm] at h
        simp only at h
        have hrv := (run_method (w := default) (μ := ⟨id, id, id⟩) hm 0).2
        cases hb : bodied P g with
        | false => rw [hb] at h; cases h
        | true =>
          rw [hb, cond_true] at h
          cases h
          subst hrv
          refine VinA_iff.2 fun z hz => ?_
          rcases Array.mem_append.1 hz with hz | hz
          · simp only [List.mem_toArray, List.mem_singleton] at hz
            subst hz
            exact (VinA_get ha h0 : Vin D (.iface ty' _))
          · exact VinA_iff.1 (VinA_extract ha _ _) z hz
    · cases h
  | methodOf t name => cases h
  | via t p f b => cases h

theorem reserve_adv {B : Nat} {w0 w : World} {μ : Mu} {σ : AS} (hr : Rel B w0 μ σ w) (n : Nat) : Adv B w0 σ μ { σ with next := σ.next + n } μ w :=
  ⟨hr.reserve n, Agree.refl _ _, fun _ h => h⟩

/-- A new object that is no row of cells. -/
theorem alloc_adv {B : Nat} {w0 w : World} {μ : Mu} {σ σ' : AS} (hr : Rel B w0 μ σ w) {id : Nat} {o : AObj} {u : Unit} (ob : Obj) (h : M.alloc id o σ = some (u, σ'))
    (hfit : Fits (μ.upd id w.heap.size 0 0) (w.alloc ob) id o) (hv : o.Vin σ.dom) : Adv B w0 σ μ σ' (μ.upd id w.heap.size 0 0) (w.alloc ob) ∧ σ'.dom id ∧ σ'.heap.get id = some o ∧ (∀ j x, j ≠ id → σ.heap.get j = some x → σ'.heap.get j = some x) := by
  obtain ⟨a1, a2, rfl⟩ := M.alloc_some h
  exact ⟨⟨hr.push ob 0 a1 a2 hfit hv, Mu.upd_agree a1, fun i hi => dom_set _ _ _ i hi⟩, dom_set_same _ _ _, Tr.get_set_same _ _ _, fun j x hj hx => by simp only [Tr.get_set]; rw [if_neg hj]; exact hx⟩

theorem run_getLoop {P : Program} {w : World} {r : Nat} {l : Loop} (h : w.heap[r]? = some (.loop l)) : (Instr.getLoop r).run P w = .ok l w := by
  simp only [Instr.getLoop, Sem.run_bind]
  have : (getObj r).run P w = .ok (.loop l) w := by simp only [getObj, Sem.run, h]
  rw [this]
  rfl

theorem run_setLoop {P : Program} {w : World} {r : Nat} {l : Loop} (h : w.heap[r]? = some (.loop l)) (o : Obj) : (setObj r o).run P w = .ok () { w with heap := w.heap.setIfInBounds r o } := by
  simp only [setObj, Sem.run, h]

/-- A loop's record is written anew. -/
theorem Rel.setLoop {B : Nat} {w0 w : World} {μ : Mu} {σ : AS} (h : Rel B w0 μ σ w) {id : Nat} {l : Loop} (hid : σ.heap.get id = some (.loop l)) (f : Loop → Loop) (hf1 : ∀ l, (f l).tmps = l.tmps) (hf2 : ∀ l, (f l).defers = l.defers)
    (hf : ∀ l, concLoop μ (f l) = f (concLoop μ l)) :
    Adv B w0 σ μ { σ with heap := σ.heap.set id (.loop (f l)) } μ { w with heap := w.heap.setIfInBounds (μ.blk id) (.loop (f (concLoop μ l))) } := by
  refine ⟨h.setObj hid trivial _ ?_ ?_, Agree.refl _ _, fun i hi => dom_set _ _ _ i hi⟩
  · show _ = _
    rw [heap_setObj h hid trivial, hf]
  · obtain ⟨h1, h2⟩ := h.vin _ _ hid
    exact ⟨by rw [hf1]; exact h1, by rw [hf2]; exact h2⟩

theorem range_steps {P : Program} {call : Tgt → Array Value → M Value} (hcall : CallOk P call) {fn : FuncId} {ro : Option Nat} {f : Operand} {params : Array Tmp} {assign body : Code} {a a' : Act} {e : AX} {σ σ' : AS}
    (h : aRange P call fn ro f params assign body a σ = some ((e, a'), σ')) {B : Nat} {w0 w : World} {μ : Mu} (hr : Rel B w0 μ σ w) (ha : VinAct σ.dom a) (b : Frame) (hb : b.fn = fn) (hro : b.roundOf = ro.map μ.blk) (hrd : ∀ l, ro = some l → σ.dom l)
    (k : List Item) (cs : List Frame) :
    ∃ μ' w', Adv B w0 σ μ σ' μ' w' ∧ VinAct σ'.dom a' ∧ Arr P (lone (b.atR (concAct μ a) (.code (.rangeFunc f params assign body) :: k)) cs w) b k cs e (concAct μ' a') w' := by
  unfold aRange at h
  obtain ⟨base, σ₁, h1, h2⟩ := M.bind_some h
  clear h
  obtain ⟨rfl, rfl⟩ := M.reserve_some h1
  have adv1 := reserve_adv hr 2
  obtain ⟨dm, σ₂, h3, h4⟩ := M.bind_some h2
  clear h2
  obtain ⟨_, σ₃, h5, h6⟩ := M.bind_some h4
  clear h4
  -- the record is laid
  have hlay : ∃ μ₃ w₃, Adv B w0 σ μ σ₃ μ₃ w₃ ∧ σ₃.dom (σ.next + 1) ∧ (∀ d ∈ dm.2, ∃ r, d = markOf r ∧ σ₃.dom r) ∧
      (Instr.enterLoop b.fn (concA μ a.tmps) params assign body b.roundOf).run P w = .ok (μ₃.blk (σ.next + 1), dm.2.map (concD μ₃)) w₃ := by
    cases ro with
    | none =>
      simp only at h3
      obtain ⟨_, σ₄, h7, h8⟩ := M.bind_some h3
      obtain ⟨rfl, rfl⟩ := M.pure_some h8
      obtain ⟨adv2, d2, g2, _⟩ := alloc_adv adv1.rel (.deferred (some [])) h7 (by
        show (w.heap.push _)[(μ.upd σ.next w.heap.size 0 0).blk σ.next]? = _
        have : (μ.upd σ.next w.heap.size 0 0).blk σ.next = w.heap.size := by simp [Mu.upd]
        rw [this, Array.getElem?_push_size]) trivial
      have hbk : (μ.upd σ.next w.heap.size 0 0).blk σ.next = w.heap.size := by simp [Mu.upd]
      have hva : VinA σ₄.dom a.tmps := VinA_mono (fun i hi => adv2.dom i hi) _ ha.1
      have hag2 := concA_agree adv2.agree _ ha.1
      have a1 := (M.alloc_some h5).1
      have hagn : Agree σ₄.dom (μ.upd σ.next w.heap.size 0 0) ((μ.upd σ.next w.heap.size 0 0).upd (σ.next + 1) (w.alloc (.deferred (some []))).heap.size 0 0) := Mu.upd_agree a1
      have hcl : concLoop ((μ.upd σ.next w.heap.size 0 0).upd (σ.next + 1) (w.alloc (.deferred (some []))).heap.size 0 0) { state := .ready, pending := none, fn, tmps := a.tmps, params, assign, body, defers := σ.next } =
          { state := .ready, pending := none, fn, tmps := concA μ a.tmps, params, assign, body, defers := w.heap.size } := by
        unfold concLoop
        rw [concA_agree hagn _ hva, hag2, (hagn _ d2).1, hbk]
      obtain ⟨adv3, d3, _, _⟩ := alloc_adv adv2.rel (.loop { state := .ready, pending := none, fn, tmps := concA μ a.tmps, params, assign, body, defers := w.heap.size }) h5 (by
        show ((w.alloc (.deferred (some []))).heap.push _)[((μ.upd σ.next w.heap.size 0 0).upd (σ.next + 1) (w.alloc (.deferred (some []))).heap.size 0 0).blk (σ.next + 1)]? = _
        have : ((μ.upd σ.next w.heap.size 0 0).upd (σ.next + 1) (w.alloc (.deferred (some []))).heap.size 0 0).blk (σ.next + 1) = (w.alloc (.deferred (some []))).heap.size := by simp [Mu.upd]
        rw [this, Array.getElem?_push_size, hcl]) ⟨hva, d2⟩
      refine ⟨_, _, (adv1.trans adv2).trans adv3, d3, fun d hd => ?_, ?_⟩
      · simp only [List.mem_singleton] at hd
        exact ⟨_, hd, adv3.dom _ d2⟩
      · have hbl : ((μ.upd σ.next w.heap.size 0 0).upd (σ.next + 1) (w.alloc (.deferred (some []))).heap.size 0 0).blk (σ.next + 1) = (w.alloc (.deferred (some []))).heap.size := by simp [Mu.upd]
        have hbl' : ((μ.upd σ.next w.heap.size 0 0).upd (σ.next + 1) (w.alloc (.deferred (some []))).heap.size 0 0).blk σ.next = w.heap.size := by rw [(hagn _ d2).1, hbk]
        rw [hro, hbl, hb]
        simp only [Option.map_none, Instr.enterLoop, Sem.run_bind, run_newObj_alloc, Result.andThen_ok, Sem.run_pure, List.map_cons, List.map_nil, concD, markOf, hbl']
    | some l =>
      simp only at h3
      obtain ⟨o, σ₄, h7, h8⟩ := M.bind_some h3
      obtain ⟨g7, rfl⟩ := M.get_some h7
      cases o with
      | loop r =>
        obtain ⟨rfl, rfl⟩ := M.pure_some h8
        have hf : w.heap[μ.blk l]? = some (.loop (concLoop μ r)) := adv1.rel.fits _ _ g7
        have hdef := (adv1.rel.vin _ _ g7).2
        have a1 := (M.alloc_some h5).1
        have hagn : Agree σ.dom μ (μ.upd (σ.next + 1) w.heap.size 0 0) := Mu.upd_agree a1
        have hcl : concLoop (μ.upd (σ.next + 1) w.heap.size 0 0) { state := .ready, pending := none, fn, tmps := a.tmps, params, assign, body, defers := r.defers } =
            { state := .ready, pending := none, fn, tmps := concA μ a.tmps, params, assign, body, defers := μ.blk r.defers } := by
          unfold concLoop
          rw [concA_agree hagn _ ha.1, (hagn _ hdef).1]
        obtain ⟨adv3, d3, _, _⟩ := alloc_adv adv1.rel (.loop { state := .ready, pending := none, fn, tmps := concA μ a.tmps, params, assign, body, defers := μ.blk r.defers }) h5 (by
          show (w.heap.push _)[(μ.upd (σ.next + 1) w.heap.size 0 0).blk (σ.next + 1)]? = _
          have : (μ.upd (σ.next + 1) w.heap.size 0 0).blk (σ.next + 1) = w.heap.size := by simp [Mu.upd]
          rw [this, Array.getElem?_push_size, hcl]) ⟨ha.1, hdef⟩
        refine ⟨_, _, adv1.trans adv3, d3, (fun d hd => by cases hd), ?_⟩
        have hbl : (μ.upd (σ.next + 1) w.heap.size 0 0).blk (σ.next + 1) = w.heap.size := by simp [Mu.upd]
        rw [hro, hbl, hb]
        simp only [Option.map_some, Instr.enterLoop, Sem.run_bind, run_getLoop hf, Result.andThen_ok, Sem.run_pure, run_newObj_alloc, List.map_nil, concLoop]
      | _ => exact (M.fail_some h8).elim
  obtain ⟨μ₃, w₃, adv3, hd3, hmarks, hent⟩ := hlay
  -- the call
  have hb0 := bif_some h6
  clear h6
  obtain ⟨hok, h6⟩ := hb0
  have hev : (concAct μ a).eval f = conc μ₃ (a.eval f) := by
    rw [← concAct_agree adv3.agree ha]; exact eval_conc μ₃ a hok
  have hvf := vin_eval (ha.mono adv3.dom) hok
  cases hf : a.eval f with
  | func fv first captured =>
    rw [hf] at h6 hev hvf
    simp only at h6
    simp only [Vin] at hvf
    have hargs : VinA σ₃.dom (first ++ #[.func (.yield (σ.next + 1)) #[] #[]]) := VinA_iff.2 fun u hu => by
      rcases Array.mem_append.1 hu with hu | hu
      · exact VinA_iff.1 hvf.2.1 u hu
      · simp only [List.mem_toArray, List.mem_singleton] at hu
        subst hu
        simp only [Vin, VinA, VinL]
        exact ⟨hd3, trivial, trivial⟩
    cases ht : aTarget P fv (first ++ #[.func (.yield (σ.next + 1)) #[] #[]]) captured with
    | none => rw [ht] at h6; exact (M.fail_some h6).elim
    | some ta =>
      obtain ⟨t, args⟩ := ta
      rw [ht] at h6
      cases t with
      | yield l => exact (M.fail_some h6).elim
      | func g =>
        simp only at h6
        obtain ⟨v, σ₄, h7, h8⟩ := M.bind_some h6
        obtain ⟨o, σ₅, h9, h10⟩ := M.bind_some h8
        obtain ⟨g9, rfl⟩ := M.get_some h9
        have hinv := run_target (w := w₃) (μ := μ₃) ht
        obtain ⟨nx, hnx, hgo⟩ := hcall (.func g) args σ₃ v σ₄ h7 B w0 μ₃ w₃ adv3.rel (aTarget_vin ht hargs hvf.2.2)
        simp only [TgtRun, Result.ok.injEq, and_true] at hnx
        subst hnx
        have hres : (resolve (concAct μ a).eval (rangeCall f (μ₃.blk (σ.next + 1))) 0).run P w₃ = .ok { target := .fn (concFn μ₃ fv) (concA μ₃ captured), args := concA μ₃ (first ++ #[.func (.yield (σ.next + 1)) #[] #[]]) } w₃ := by
          simp only [resolve, hev, conc, Deferred.ofValue, Sem.run_pure]
          rw [concA_append]
          congr 1
          simp [concA, concL, conc, concFn, Act.eval]
        have hstep := stepR_rangeFunc (b := b) (a := concAct μ a) (k := k) (cs := cs) (g := f) (ps := params) (assign := assign) (body := body) hent hres hinv
        obtain ⟨m, μ₄, w₄, hm, hst, adv4, _⟩ := hgo (b.atR { concAct μ a with defers := dm.2.map (concD μ₃) ++ (concAct μ a).defers } (.inRangeFunc (μ₃.blk (σ.next + 1)) :: k)) cs
        simp only [Into, Option.some.injEq] at hm
        rw [hm] at hstep
        rw [finish_atR_inRangeFunc] at hst
        have hbl4 : μ₄.blk (σ.next + 1) = μ₃.blk (σ.next + 1) := (adv4.agree _ hd3).1
        cases o with
        | loop r =>
          simp only at h10
          cases hbusy : r.state == .busy with
          | true => rw [hbusy, cond_true] at h10; exact (M.fail_some h10).elim
          | false =>
            rw [hbusy, cond_false] at h10
            obtain ⟨_, σ₆, h11, h12⟩ := M.bind_some h10
            obtain ⟨_, rfl⟩ := M.set_some h11
            have hf4 : w₄.heap[μ₄.blk (σ.next + 1)]? = some (.loop (concLoop μ₄ r)) := adv4.rel.fits _ _ g9
            have adv5 := adv4.rel.setLoop g9 (fun r => { r with state := .exhausted }) (fun _ => rfl) (fun _ => rfl) (fun _ => rfl)
            have hend : (Instr.endLoop (μ₃.blk (σ.next + 1))).run P w₄ = .ok r.pending { w₄ with heap := w₄.heap.setIfInBounds (μ₄.blk (σ.next + 1)) (.loop { concLoop μ₄ r with state := .exhausted }) } := by
              rw [← hbl4]
              have hbz : ((concLoop μ₄ r).state == .busy) = false := hbusy
              simp only [Instr.endLoop, Sem.run_bind, run_getLoop hf4, Result.andThen_ok, hbz, Bool.false_eq_true, if_false, run_setLoop hf4, Sem.run_pure]
              rfl
            have advall := (adv3.trans adv4).trans adv5
            have hst2 := stepR_endRangeFunc (P := P) (b := b) (a := { concAct μ a with defers := dm.2.map (concD μ₃) ++ (concAct μ a).defers }) (k := k) (cs := cs) hend
            have hsteps : Steps P (lone (b.atR (concAct μ a) (.code (.rangeFunc f params assign body) :: k)) cs w) _ := .head hstep (hst.trans (.one hst2))
            have hact : VinAct _ { a with defers := dm.2 ++ a.defers } := ⟨VinA_mono advall.dom _ ha.1, fun d hd => by
              rcases List.mem_append.1 hd with hd | hd
              · obtain ⟨q, hq, hD⟩ := hmarks d hd; exact ⟨q, hq, adv5.dom _ (adv4.dom _ hD)⟩
              · obtain ⟨q, hq, hD⟩ := ha.2 d hd; exact ⟨q, hq, advall.dom _ hD⟩⟩
            have hconc : concAct μ₄ { a with defers := dm.2 ++ a.defers } = { concAct μ a with defers := dm.2.map (concD μ₃) ++ (concAct μ a).defers } := by
              have e1 := concAct_agree (adv3.trans adv4).agree ha
              have e2 : dm.2.map (concD μ₄) = dm.2.map (concD μ₃) := List.map_congr_left fun d hd => by
                obtain ⟨q, rfl, hD⟩ := hmarks d hd
                simp only [concD, markOf, (adv4.agree q hD).1]
              rw [← e1]
              simp only [concAct, List.map_append, e2]
            cases hp : r.pending with
            | none =>
              rw [hp] at h12 hsteps advall hact
              obtain ⟨he, rfl⟩ := M.pure_some h12
              cases he
              exact ⟨μ₄, _, advall, hact, by rw [hconc]; exact hsteps⟩
            | some c =>
              rw [hp] at h12 hsteps advall hact
              cases c with
              | exit id =>
                obtain ⟨he, rfl⟩ := M.pure_some h12
                cases he
                exact ⟨μ₄, _, advall, hact, by rw [hconc]; exact ⟨k, hsteps, rfl⟩⟩
              | ret =>
                obtain ⟨he, rfl⟩ := M.pure_some h12
                cases he
                exact ⟨μ₄, _, advall, hact, by rw [hconc]; exact ⟨k, hsteps⟩⟩
              | _ => exact (M.fail_some h12).elim
        | _ => exact (M.fail_some h10).elim
  | _ => rw [hf] at h6; exact (M.fail_some h6).elim

end Go.Abs
