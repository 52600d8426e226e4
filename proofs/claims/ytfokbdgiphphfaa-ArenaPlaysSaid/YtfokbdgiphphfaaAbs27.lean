/- Runs with foreseen answers over frames of which some slots are known: what is run is the evaluator's where all that is logged holds. No condition. -/
import Derived.Test.YtfokbdgiphphfaaAbs26
namespace Go.Abs
open Go.RowKit

section
variable {P : Program} {call : Tgt → Array Value → M Value} {callS : FuncId → Array Value → SS → Res Value}

theorem FrameOk.eval {nt : Nat} {ds : List Deferred} {pf : PF} {a : Act} (h : FrameOk nt ds pf a) {x : Operand} {v : Value} (hv : pfEval pf x = some v) : a.eval x = v := by
  cases x with
  | tmp t =>
    have := h.slot t v hv
    simp only [Act.eval, Array.getD_eq_getD_getElem?, this, Option.getD_some]
  | const c => cases hv; rfl
  | func f => cases hv; rfl
  | global g => cases hv

theorem FrameOk.put {nt : Nat} {ds : List Deferred} {pf pf' : PF} {a : Act} (h : FrameOk nt ds pf a) {t : Option Tmp} {v : Value} (hp : pfPut pf nt t v = some pf') : FrameOk nt ds pf' (a.put t v) := by
  cases t with
  | none => cases hp; exact h
  | some t =>
    unfold pfPut at hp
    dsimp only at hp
    cases hb : Nat.blt t nt with
    | false => rw [hb] at hp; cases hp
    | true =>
      rw [hb, cond_true] at hp
      cases hp
      have hlt := nblt.1 hb
      refine ⟨by simp only [Act.put, Array.size_setIfInBounds]; exact h.size, h.defers, fun u w hw => ?_⟩
      rw [Tr.get_set] at hw
      simp only [Act.put, Array.getElem?_setIfInBounds]
      split at hw
      · rename_i e
        cases hw
        subst e
        rw [if_pos rfl, if_pos (by rw [h.size]; exact hlt)]
      · rename_i e
        rw [if_neg (Ne.symm e)]
        exact h.slot u w hw

theorem wanted_sound {nt : Nat} {ds : List Deferred} {pf : PF} {a : Act} (h : FrameOk nt ds pf a) {ops : Array Oper} {o : Oper} {b : Bool} (hw : wantedS ops pf o = some b) : Region.wanted o (yielded ops a.tmps) = b := by
  unfold wantedS at hw
  unfold Region.wanted
  cases hg : o.guard with
  | none => rw [hg] at hw; cases hw; rfl
  | some g =>
    obtain ⟨j, want⟩ := g
    rw [hg] at hw
    dsimp only at hw ⊢
    unfold yielded
    cases hd : (ops[j]?).bind (·.dst) with
    | none => rw [hd] at hw; cases hw; rfl
    | some t =>
      rw [hd] at hw
      dsimp only at hw
      cases hp : pf.get t with
      | none => rw [hp] at hw; cases hw
      | some v =>
        rw [hp] at hw
        have := h.slot t v hp
        simp only [Option.bind_some, this]
        cases v <;> cases hw <;> rfl

theorem sRun_sound (hc : CallSOk call callS) {nt : Nat} {ops : Array Oper} {base : Nat} : ∀ (r : List Oper) (i : Nat) (pf pf' : PF) (s s' : SS), sRun P call callS nt ops base i r pf s = .ok pf' s' → Holds s'.log →
    Holds s.log ∧ ∀ ds a, FrameOk nt ds pf a → ∃ a', runOps P call ops base i r a s.now = some (a', s'.now) ∧ FrameOk nt ds pf' a'
  | [], i, pf, pf', s, s', h, hl => by cases h; exact ⟨hl, fun ds a ha => ⟨a, rfl, ha⟩⟩
  | o :: r, i, pf, pf', s, s', h, hl => by
    simp only [sRun] at h
    cases hw : wantedS ops pf o with
    | none => rw [hw] at h; cases h
    | some b =>
      rw [hw] at h
      cases b with
      | true =>
        dsimp only at h
        cases hk : okOps o.op && o.op.operands.toList.all (fun x => (pfEval pf x).isSome) with
        | false => rw [hk] at h; cases h
        | true =>
          rw [hk, cond_true] at h
          rw [Bool.and_eq_true] at hk
          cases hq : sOp P call callS (base + i) (pfVal pf) o s with
          | bad w => rw [hq] at h; cases h
          | ok v s1 =>
            rw [hq] at h
            dsimp only at h
            cases hp : pfPut pf nt o.dst v with
            | none => rw [hp] at h; cases h
            | some pf1 =>
              rw [hp] at h
              obtain ⟨h1, h2⟩ := sRun_sound hc r (i + 1) pf1 pf' s1 s' h hl
              obtain ⟨h3, h4⟩ := sOp_sound hc hk.1 hq h1
              refine ⟨h3, fun ds a ha => ?_⟩
              obtain ⟨a', h5, h6⟩ := h2 ds _ (ha.put hp)
              refine ⟨a', ?_, h6⟩
              have hev : ∀ x ∈ o.op.operands, a.eval x = pfVal pf x := fun x hx => by
                have := List.all_eq_true.1 hk.2 x (by simpa using hx)
                cases he : pfEval pf x with
                | none => rw [he] at this; cases this
                | some u => rw [ha.eval he]; simp only [pfVal, he]
              simp only [runOps, M.bind, stepOp, wanted_sound ha hw, cond_true, aop_congr o hev, h4, M.pure]
              exact h5
      | false =>
        dsimp only at h
        cases hp : pfPut pf nt o.dst undef with
        | none => rw [hp] at h; cases h
        | some pf1 =>
          rw [hp] at h
          obtain ⟨h1, h2⟩ := sRun_sound hc r (i + 1) pf1 pf' s s' h hl
          refine ⟨h1, fun ds a ha => ?_⟩
          obtain ⟨a', h5, h6⟩ := h2 ds _ (ha.put hp)
          refine ⟨a', ?_, h6⟩
          simp only [runOps, M.bind, stepOp, wanted_sound ha hw, cond_false, M.pure]
          exact h5

/-- What a walk has met, at the frame's level. -/
def ReadsOk (P : Program) (call : Tgt → Array Value → M Value) (ops : Array Oper) (base : Nat) (rs : List (Nat × Oper × PF × Value)) (ds : List (Nat × Oper × Act × Value)) : Prop :=
  ∀ r ∈ ds, (∀ τ, opVal P call ops base r.1 r.2.1 r.2.2.1 τ = some (r.2.2.2, τ)) ∨
    ∃ pf, (r.1, r.2.1, pf, r.2.2.2) ∈ rs ∧ okOps r.2.1.op = true ∧ Region.wanted r.2.1 (yielded ops r.2.2.1.tmps) = true ∧ ∀ x ∈ r.2.1.op.operands, r.2.2.1.eval x = pfVal pf x

structure SDOk (P : Program) (call : Tgt → Array Value → M Value) (ops : Array Oper) (base nt : Nat) (dl : List Deferred) (S : SDS) (s : SS) (d : DS) : Prop where
  frame : FrameOk nt dl S.pf d.act
  mask : d.mask = S.mask
  ups : d.ups = S.ups
  phases : d.phases = S.phases
  st : d.st = s.now
  reads : ReadsOk P call ops base S.reads d.reads

theorem sDrawAll_sound (hc : CallSOk call callS) {nt : Nat} {ops : Array Oper} {base : Nat} {b : Array Nat} : ∀ (r : List Oper) (i : Nat) (S S' : SDS) (s s' : SS), sDrawAll P call callS nt ops base b i r S s = .ok S' s' → Holds s'.log →
    Holds s.log ∧ ∀ dl d, SDOk P call ops base nt dl S s d → ∃ d', drawAll P call ops base b i r d = some d' ∧ SDOk P call ops base nt dl S' s' d'
  | [], i, S, S', s, s', h, hl => by cases h; exact ⟨hl, fun dl d hd => ⟨d, rfl, hd⟩⟩
  | o :: r, i, S, S', s, s', h, hl => by
    simp only [sDrawAll] at h
    cases hw : wantedS ops S.pf o with
    | none => rw [hw] at h; cases h
    | some w =>
      rw [hw] at h
      cases w with
      | true =>
        dsimp only at h
        cases hk : okOps o.op && o.op.operands.toList.all (fun x => (pfEval S.pf x).isSome) with
        | false => rw [hk] at h; cases h
        | true =>
          rw [hk, cond_true] at h
          rw [Bool.and_eq_true] at hk
          cases hq : sOp P call callS (base + i) (pfVal S.pf) o s with
          | bad w => rw [hq] at h; cases h
          | ok v s1 =>
            rw [hq] at h
            dsimp only at h
            cases hp : pfPut S.pf nt o.dst v with
            | none => rw [hp] at h; cases h
            | some pf1 =>
              rw [hp] at h
              dsimp only at h
              have hev : ∀ dl d, SDOk P call ops base nt dl S s d → ∀ x ∈ o.op.operands, d.act.eval x = pfVal S.pf x := fun dl d hd x hx => by
                have := List.all_eq_true.1 hk.2 x (by simpa using hx)
                cases he : pfEval S.pf x with
                | none => rw [he] at this; cases this
                | some u => rw [hd.frame.eval he]; simp only [pfVal, he]
              cases hr : isRead P (pfVal S.pf) o with
              | true =>
                rw [hr, cond_true] at h
                obtain ⟨h1, h2⟩ := sDrawAll_sound hc r (i + 1) _ S' s1 s' h hl
                obtain ⟨h3, h4⟩ := sOp_sound hc hk.1 hq h1
                refine ⟨h3, fun dl d hd => ?_⟩
                have hwd := wanted_sound hd.frame hw
                have hop : opVal P call ops base i o d.act d.st = some (v, s1.now) := by
                  unfold opVal
                  rw [hwd, cond_true, aop_congr o (hev dl d hd), hd.st]
                  exact h4
                have hrd : isRead P d.act.eval o = true := by rw [isRead_congr o (hev dl d hd)]; exact hr
                have heff : isEff P ops o d.act = false := by unfold isEff; rw [hwd, hrd]; rfl
                have hs1 : s1.now = s.now := by
                  have := aop_read o hr _ _ _ h4
                  exact this
                obtain ⟨d', h5, h6⟩ := h2 dl { d with act := d.act.put o.dst v, reads := (i, o, d.act, v) :: d.reads } ⟨hd.frame.put hp, hd.mask, hd.ups, hd.phases, by rw [hs1]; exact hd.st, fun q hq => by
                  rcases List.mem_cons.1 hq with rfl | hq
                  · cases hst : stillOp P o with
                    | true =>
                      left
                      intro τ
                      unfold opVal at hop ⊢
                      dsimp only
                      rw [hwd, cond_true] at hop ⊢
                      exact still_aop hst _ _ _ hop τ
                    | false =>
                      right
                      exact ⟨S.pf, List.mem_cons_self, hk.1, hwd, hev dl d hd⟩
                  · rcases hd.reads q hq with h | ⟨pf, h1, h2⟩
                    · exact Or.inl h
                    · right
                      refine ⟨pf, ?_, h2⟩
                      cases stillOp P o with
                      | true => exact h1
                      | false => exact List.mem_cons_of_mem _ h1⟩
                refine ⟨d', ?_, h6⟩
                simp only [drawAll, drawOne, hop, heff, cond_false]
                exact h5
              | false =>
                rw [hr, cond_false] at h
                cases hm : Nat.beq (S.mask &&& b.getD i 0) S.mask with
                | false => rw [hm] at h; cases h
                | true =>
                  rw [hm, cond_true] at h
                  obtain ⟨h1, h2⟩ := sDrawAll_sound hc r (i + 1) _ S' s1 s' h hl
                  obtain ⟨h3, h4⟩ := sOp_sound hc hk.1 hq h1
                  refine ⟨h3, fun dl d hd => ?_⟩
                  have hwd := wanted_sound hd.frame hw
                  have hop : opVal P call ops base i o d.act d.st = some (v, s1.now) := by
                    unfold opVal
                    rw [hwd, cond_true, aop_congr o (hev dl d hd), hd.st]
                    exact h4
                  have hrd : isRead P d.act.eval o = false := by rw [isRead_congr o (hev dl d hd)]; exact hr
                  have heff : isEff P ops o d.act = true := by unfold isEff; rw [hwd, hrd]; rfl
                  obtain ⟨d', h5, h6⟩ := h2 dl { act := d.act.put o.dst v, mask := d.mask ||| 2 ^ i, ups := d.ups ||| b.getD i 0, st := s1.now, phases := (d.mask ||| 2 ^ i, d.ups ||| b.getD i 0, s1.now) :: d.phases, reads := d.reads }
                    ⟨hd.frame.put hp, by rw [hd.mask], by rw [hd.ups], by rw [hd.mask, hd.ups, hd.phases], rfl, hd.reads⟩
                  refine ⟨d', ?_, h6⟩
                  rw [hd.mask.symm] at hm
                  simp only [drawAll, drawOne, hop, heff, hm, cond_true]
                  exact h5
      | false =>
        dsimp only at h
        cases hp : pfPut S.pf nt o.dst undef with
        | none => rw [hp] at h; cases h
        | some pf1 =>
          rw [hp] at h
          obtain ⟨h1, h2⟩ := sDrawAll_sound hc r (i + 1) _ S' s s' h hl
          refine ⟨h1, fun dl d hd => ?_⟩
          have hwd := wanted_sound hd.frame hw
          have hop : ∀ τ, opVal P call ops base i o d.act τ = some (undef, τ) := fun τ => by
            unfold opVal
            rw [hwd, cond_false]
            rfl
          have heff : isEff P ops o d.act = false := by unfold isEff; rw [hwd]; rfl
          obtain ⟨d', h5, h6⟩ := h2 dl { d with act := d.act.put o.dst undef, reads := (i, o, d.act, undef) :: d.reads } ⟨hd.frame.put hp, hd.mask, hd.ups, hd.phases, hd.st, fun q hq => by
            rcases List.mem_cons.1 hq with rfl | hq
            · exact Or.inl hop
            · exact hd.reads q hq⟩
          refine ⟨d', ?_, h6⟩
          simp only [drawAll, drawOne, hop, heff, cond_false]
          exact h5

theorem holds_append : ∀ {l l' : List Prop}, Holds (l ++ l') → Holds l ∧ Holds l'
  | [], _, h => ⟨trivial, h⟩
  | _ :: _, _, h => ⟨⟨h.1, (holds_append h.2).1⟩, (holds_append h.2).2⟩

theorem drawLog_at {base : Nat} {b : Array Nat} {mask : Nat} {r : Nat × Oper × PF × Value} : ∀ {ps : List (Nat × Nat × AS)}, Holds (drawLog P call base b mask r ps) → ∀ p ∈ ps, readSkip b mask r.1 p = true ∨ logS P call (base + r.1) (pfVal r.2.2.1) r.2.1 p.2.2 r.2.2.2 p.2.2
  | [], _, p, hp => by cases hp
  | q :: ps, h, p, hp => by
    simp only [drawLog] at h
    cases hs : readSkip b mask r.1 q with
    | true =>
      rw [hs, cond_true] at h
      rcases List.mem_cons.1 hp with rfl | hp
      · exact Or.inl hs
      · exact drawLog_at h p hp
    | false =>
      rw [hs, cond_false] at h
      rcases List.mem_cons.1 hp with rfl | hp
      · exact Or.inr h.1
      · exact drawLog_at h.2 p hp

theorem drawLogs_at {base : Nat} {b : Array Nat} {mask : Nat} {ps : List (Nat × Nat × AS)} {l : List Prop} : ∀ {rs : List (Nat × Oper × PF × Value)}, Holds (drawLogs P call base b mask ps rs l) → Holds l ∧ ∀ r ∈ rs, ∀ p ∈ ps, readSkip b mask r.1 p = true ∨ logS P call (base + r.1) (pfVal r.2.2.1) r.2.1 p.2.2 r.2.2.2 p.2.2
  | [], h => ⟨h, fun r hr => by cases hr⟩
  | q :: rs, h => by
    obtain ⟨h1, h2⟩ := holds_append h
    obtain ⟨h3, h4⟩ := drawLogs_at h2
    refine ⟨h3, fun r hr => ?_⟩
    rcases List.mem_cons.1 hr with rfl | hr
    · exact drawLog_at h1
    · exact h4 r hr

theorem sDraw_sound (hc : CallSOk call callS) {nt : Nat} {ops : Array Oper} {base : Nat} {pf pf' : PF} {s s' : SS} (h : sDraw P call callS nt ops base pf s = .ok pf' s') (hl : Holds s'.log) :
    Holds s.log ∧ ∀ ds a, FrameOk nt ds pf a → ∃ a', runDraw P call ops base a s.now = some (a', s'.now) ∧ FrameOk nt ds pf' a' := by
  unfold sDraw at h
  cases hst : drawStatic ops (bef ops) && P.follows .mixedOrders with
  | false => rw [hst] at h; cases h
  | true =>
    rw [hst, cond_true] at h
    cases hq : sDrawAll P call callS nt ops base (bef ops) 0 ops.toList { pf := pf, mask := 0, ups := 0, phases := [(0, 0, s.now)], reads := [] } s with
    | bad w => rw [hq] at h; cases h
    | ok S s1 =>
      rw [hq] at h
      cases h
      obtain ⟨h0, hlog⟩ := drawLogs_at hl
      obtain ⟨h1, h2⟩ := sDrawAll_sound hc _ _ _ _ _ _ hq h0
      refine ⟨h1, fun ds a ha => ?_⟩
      obtain ⟨d, h3, h4⟩ := h2 ds { act := a, mask := 0, ups := 0, st := s.now, phases := [(0, 0, s.now)], reads := [] } ⟨ha, rfl, rfl, rfl, rfl, fun r hr => by cases hr⟩
      refine ⟨d.act, ?_, h4.frame⟩
      unfold runDraw
      rw [hst, cond_true, h3]
      dsimp only
      have hall : (d.reads.all fun r => d.phases.all fun p => readOk P call ops base (bef ops) d.mask r p) = true := by
        rw [List.all_eq_true]
        intro r hr
        rw [List.all_eq_true]
        intro p hp
        unfold readOk
        rw [Bool.or_eq_true]
        rcases h4.reads r hr with h | ⟨pf, k1, k2, k3, k4⟩
        · right
          rw [h]
          exact veq_refl _
        · rw [h4.phases] at hp
          rcases hlog _ k1 p hp with h | h
          · left
            rw [h4.mask]
            exact h
          · right
            have := logS_sound k2 h
            unfold opVal
            rw [k3, cond_true, aop_congr r.2.1 k4]
            dsimp only at this
            rw [this]
            exact veq_refl _
      rw [hall, cond_true, h4.st]
      rfl

theorem pfSet_get : ∀ (ts : List Nat) (vs : List Value) (pf0 : PF) (t : Nat) (v : Value), (pfSet ts vs pf0).get t = some v → pf0.get t = some v ∨ ∃ i : Nat, ts[i]? = some t ∧ vs[i]? = some v
  | [], vs, pf0, t, v, h => by cases vs <;> exact Or.inl h
  | u :: ts, [], pf0, t, v, h => Or.inl h
  | u :: ts, w :: vs, pf0, t, v, h => by
    rcases pfSet_get ts vs _ t v h with h | ⟨i, h1, h2⟩
    · rw [Tr.get_set] at h
      split at h
      · rename_i e; cases h; subst e; exact Or.inr ⟨0, rfl, rfl⟩
      · exact Or.inl h
    · exact Or.inr ⟨i + 1, h1, h2⟩

theorem pfGets_at {pf : PF} : ∀ {ts : List Nat} {vs : List Value}, pfGets pf ts = some vs → ∀ (i t : Nat) (v : Value), ts[i]? = some t → vs[i]? = some v → pf.get t = some v
  | [], vs, h, i, t, v, h1, h2 => by simp at h1
  | u :: ts, vs, h, i, t, v, h1, h2 => by
    simp only [pfGets] at h
    cases hp : pf.get u with
    | none => rw [hp] at h; cases h
    | some w =>
      rw [hp] at h
      dsimp only at h
      cases hq : pfGets pf ts with
      | none => rw [hq] at h; cases h
      | some ws =>
        rw [hq] at h
        cases h
        cases i with
        | zero => simp only [List.getElem?_cons_zero, Option.some.injEq] at h1 h2; subst h1; subst h2; exact hp
        | succ i => exact pfGets_at hq i t v (by simpa using h1) (by simpa using h2)

theorem FrameOk.weaken {nt : Nat} {ds : List Deferred} {pf : PF} {a : Act} (h : FrameOk nt ds pf a) {slots : List Nat} {vs : List Value} (hg : pfGets pf slots = some vs) : FrameOk nt ds (pfOf slots vs) a :=
  ⟨h.size, h.defers, fun t v hv => h.slot t v (by
    rcases pfSet_get _ _ _ t v hv with h | ⟨i, h1, h2⟩
    · cases h
    · exact pfGets_at hg i t v h1 h2)⟩

theorem sCode_sound (hc : CallSOk call callS) {n : Nat} {fn : FuncId} {top : Code} {nt : Nat} (htop : ∀ id x, blocksOf id top = [x] → blockAt P fn id = some x) : ∀ (c : Code), (∀ id x, x ∈ blocksOf id c → x ∈ blocksOf id top) → ∀ (pf : PF) (s s' : SS) (e : AX) (pf' : PF),
    sCode P call callS n fn top nt c pf s = .ok (e, pf') s' → Holds s'.log → Holds s.log ∧ ∀ ds a, FrameOk nt ds pf a → ∃ a', acode P call n fn none c a s.now = some ((e, a'), s'.now) ∧ FrameOk nt ds pf' a' := by
  intro c
  induction c with
  | skip => intro _ pf s s' e pf' h hl; cases h; exact ⟨hl, fun ds a ha => ⟨a, rfl, ha⟩⟩
  | exit id => intro _ pf s s' e pf' h hl; cases h; exact ⟨hl, fun ds a ha => ⟨a, rfl, ha⟩⟩
  | ret => intro _ pf s s' e pf' h hl; cases h; exact ⟨hl, fun ds a ha => ⟨a, rfl, ha⟩⟩
  | label l => intro _ pf s s' e pf' h hl; cases h; exact ⟨hl, fun ds a ha => ⟨a, rfl, ha⟩⟩
  | region id ops draw =>
    intro _ pf s s' e pf' h hl
    simp only [sCode] at h
    cases hd : !draw || calm P ops with
    | false =>
      rw [hd, cond_false] at h
      cases hq : sDraw P call callS nt ops s.now.next pf { s with d := s.d + ops.size } with
      | bad w => rw [hq] at h; cases h
      | ok pf1 s1 =>
        rw [hq] at h
        cases h
        obtain ⟨h1, h2⟩ := sDraw_sound hc hq hl
        refine ⟨h1, fun ds a ha => ?_⟩
        obtain ⟨a', h3, h4⟩ := h2 ds a ha
        refine ⟨a', ?_, h4⟩
        have hnow : ({ s with d := s.d + ops.size } : SS).now = { s.now with next := s.now.next + ops.size } := by
          simp only [SS.now, AS.up, Nat.add_assoc]
        rw [hnow] at h3
        have hdr : draw = true := by
          cases draw with
          | true => rfl
          | false => cases hd
        subst hdr
        simp only [acode, M.bind, M.reserve]
        simp only [cond_true, M.bind, h3, M.pure]
    | true =>
      rw [hd, cond_true] at h
      cases hq : sRun P call callS nt ops s.now.next 0 ops.toList pf { s with d := s.d + ops.size } with
      | bad w => rw [hq] at h; cases h
      | ok pf1 s1 =>
        rw [hq] at h
        cases h
        obtain ⟨h1, h2⟩ := sRun_sound hc _ _ _ _ _ _ hq hl
        refine ⟨h1, fun ds a ha => ?_⟩
        obtain ⟨a', h3, h4⟩ := h2 ds a ha
        refine ⟨a', ?_, h4⟩
        have hnow : ({ s with d := s.d + ops.size } : SS).now = { s.now with next := s.now.next + ops.size } := by
          simp only [SS.now, AS.up, Nat.add_assoc]
        rw [hnow] at h3
        simp only [acode, M.bind, M.reserve]
        cases draw with
        | false => simp only [cond_false, M.bind, h3, M.pure]
        | true =>
          rw [Bool.not_true, Bool.false_or] at hd
          simp only [cond_true, M.bind, calm_draw hd h3, M.pure]
  | seq x y ih1 ih2 =>
    intro hs pf s s' e pf' h hl
    simp only [sCode] at h
    cases hq : sCode P call callS n fn top nt x pf s with
    | bad w => rw [hq] at h; cases h
    | ok r s1 =>
      obtain ⟨e1, pf1⟩ := r
      rw [hq] at h
      cases e1 with
      | normal =>
        dsimp only at h
        obtain ⟨h1, h2⟩ := ih2 (fun id z hz => hs id z (by simp only [blocksOf, List.mem_append]; exact Or.inr hz)) _ _ _ _ _ h hl
        obtain ⟨h3, h4⟩ := ih1 (fun id z hz => hs id z (by simp only [blocksOf, List.mem_append]; exact Or.inl hz)) _ _ _ _ _ hq h1
        refine ⟨h3, fun ds a ha => ?_⟩
        obtain ⟨a1, h5, h6⟩ := h4 ds a ha
        obtain ⟨a2, h7, h8⟩ := h2 ds a1 h6
        exact ⟨a2, by simp only [acode, M.bind, h5, h7], h8⟩
      | exit i =>
        cases h
        obtain ⟨h3, h4⟩ := ih1 (fun id z hz => hs id z (by simp only [blocksOf, List.mem_append]; exact Or.inl hz)) _ _ _ _ _ hq hl
        refine ⟨h3, fun ds a ha => ?_⟩
        obtain ⟨a1, h5, h6⟩ := h4 ds a ha
        exact ⟨a1, by simp only [acode, M.bind, h5, M.pure], h6⟩
      | ret =>
        cases h
        obtain ⟨h3, h4⟩ := ih1 (fun id z hz => hs id z (by simp only [blocksOf, List.mem_append]; exact Or.inl hz)) _ _ _ _ _ hq hl
        refine ⟨h3, fun ds a ha => ?_⟩
        obtain ⟨a1, h5, h6⟩ := h4 ds a ha
        exact ⟨a1, by simp only [acode, M.bind, h5, M.pure], h6⟩
  | cond c x y ih1 ih2 =>
    intro hs pf s s' e pf' h hl
    simp only [sCode] at h
    cases hk : okOperand c with
    | false => rw [hk] at h; cases h
    | true =>
      rw [hk, cond_true] at h
      cases hv : pfEval pf c with
      | none => rw [hv] at h; cases h
      | some v =>
        rw [hv] at h
        cases v with
        | bool b =>
          cases b with
          | true =>
            dsimp only at h
            obtain ⟨h1, h2⟩ := ih1 (fun id z hz => hs id z (by simp only [blocksOf, List.mem_append]; exact Or.inl hz)) _ _ _ _ _ h hl
            refine ⟨h1, fun ds a ha => ?_⟩
            obtain ⟨a', h3, h4⟩ := h2 ds a ha
            exact ⟨a', by simp only [acode, hk, cond_true, ha.eval hv]; exact h3, h4⟩
          | false =>
            dsimp only at h
            obtain ⟨h1, h2⟩ := ih2 (fun id z hz => hs id z (by simp only [blocksOf, List.mem_append]; exact Or.inr hz)) _ _ _ _ _ h hl
            refine ⟨h1, fun ds a ha => ?_⟩
            obtain ⟨a', h3, h4⟩ := h2 ds a ha
            exact ⟨a', by simp only [acode, hk, cond_true, ha.eval hv]; exact h3, h4⟩
        | _ => cases h
  | block id body ih =>
    intro hs pf s s' e pf' h hl
    have hsub : ∀ i x, x ∈ blocksOf i body → x ∈ blocksOf i top := fun i x hx => hs i x (by
      simp only [blocksOf]
      cases Nat.beq id i with
      | true => exact List.mem_cons_of_mem _ hx
      | false => exact hx)
    have hself : Code.block id body ∈ blocksOf id top := hs id _ (by
      simp only [blocksOf, Nat.beq_refl, cond_true]
      exact List.mem_cons_self)
    have through : (match sCode P call callS n fn top nt body pf s with
        | .ok (.exit i, pf') s' => bif Nat.beq i id then (Res.ok (.normal, pf') s' : Res (AX × PF)) else Res.ok (.exit i, pf') s'
        | r => r) = Res.ok (e, pf') s' → Holds s.log ∧ ∀ ds a, FrameOk nt ds pf a → ∃ a', acode P call n fn none (.block id body) a s.now = some ((e, a'), s'.now) ∧ FrameOk nt ds pf' a' := fun h => by
      cases hq : sCode P call callS n fn top nt body pf s with
      | bad w => rw [hq] at h; cases h
      | ok r s1 =>
        obtain ⟨e1, pf1⟩ := r
        rw [hq] at h
        cases e1 with
        | normal =>
          cases h
          obtain ⟨h1, h2⟩ := ih hsub _ _ _ _ _ hq hl
          refine ⟨h1, fun ds a ha => ?_⟩
          obtain ⟨a', h3, h4⟩ := h2 ds a ha
          exact ⟨a', by simp only [acode, M.bind, h3, M.pure], h4⟩
        | ret =>
          cases h
          obtain ⟨h1, h2⟩ := ih hsub _ _ _ _ _ hq hl
          refine ⟨h1, fun ds a ha => ?_⟩
          obtain ⟨a', h3, h4⟩ := h2 ds a ha
          exact ⟨a', by simp only [acode, M.bind, h3, M.pure], h4⟩
        | exit i =>
          dsimp only at h
          cases hb : Nat.beq i id with
          | true =>
            rw [hb, cond_true] at h
            cases h
            obtain ⟨h1, h2⟩ := ih hsub _ _ _ _ _ hq hl
            refine ⟨h1, fun ds a ha => ?_⟩
            obtain ⟨a', h3, h4⟩ := h2 ds a ha
            exact ⟨a', by simp only [acode, M.bind, h3, hb, cond_true, M.pure], h4⟩
          | false =>
            rw [hb, cond_false] at h
            cases h
            obtain ⟨h1, h2⟩ := ih hsub _ _ _ _ _ hq hl
            refine ⟨h1, fun ds a ha => ?_⟩
            obtain ⟨a', h3, h4⟩ := h2 ds a ha
            exact ⟨a', by simp only [acode, M.bind, h3, hb, cond_false, M.pure], h4⟩
    simp only [sCode] at h
    split at h
    · rename_i id' slots e1 vals σ1 r hans
      cases hb : Nat.beq id id' with
      | false => rw [hb, cond_false] at h; exact through h
      | true =>
        rw [hb, cond_true] at h
        split at h
        · rename_i vs x hg hbl
          cases h
          obtain ⟨⟨c, hc1, hc2⟩, hl2⟩ := hl
          refine ⟨hl2, fun ds a ha => ?_⟩
          have hx : x = .block id body := by
            rw [hbl, List.mem_singleton] at hself
            exact hself.symm
          rw [htop id x hbl, Option.some.injEq] at hc1
          obtain ⟨a', h3, h4⟩ := hc2 a ds (ha.weaken hg)
          rw [← hc1, hx] at h3
          exact ⟨a', h3, h4⟩
        · cases h
    · exact through h
  | loop body ih =>
    intro hs pf s s' e pf' h hl
    simp only [sCode] at h
    simp only [acode]
    have hs' : ∀ id x, x ∈ blocksOf id body → x ∈ blocksOf id top := fun id x hx => hs id x (by simp only [blocksOf]; exact hx)
    have key : ∀ m (pf : PF) (s s' : SS) (e : AX) (pf' : PF), sLoop (sCode P call callS n fn top nt body) m pf s = .ok (e, pf') s' → Holds s'.log → Holds s.log ∧ ∀ ds a, FrameOk nt ds pf a → ∃ a', aloop (acode P call n fn none body) m a s.now = some ((e, a'), s'.now) ∧ FrameOk nt ds pf' a' := by
      intro m
      induction m with
      | zero => intro pf s s' e pf' h hl; cases h
      | succ m ihm =>
        intro pf s s' e pf' h hl
        simp only [sLoop] at h
        cases hq : sCode P call callS n fn top nt body pf s with
        | bad w => rw [hq] at h; cases h
        | ok r s1 =>
          obtain ⟨e1, pf1⟩ := r
          rw [hq] at h
          cases e1 with
          | normal =>
            dsimp only at h
            obtain ⟨h1, h2⟩ := ihm _ _ _ _ _ h hl
            obtain ⟨h3, h4⟩ := ih hs' _ _ _ _ _ hq h1
            refine ⟨h3, fun ds a ha => ?_⟩
            obtain ⟨a1, h5, h6⟩ := h4 ds a ha
            obtain ⟨a2, h7, h8⟩ := h2 ds a1 h6
            exact ⟨a2, by simp only [aloop, M.bind, h5, h7], h8⟩
          | exit i =>
            cases h
            obtain ⟨h3, h4⟩ := ih hs' _ _ _ _ _ hq hl
            refine ⟨h3, fun ds a ha => ?_⟩
            obtain ⟨a1, h5, h6⟩ := h4 ds a ha
            exact ⟨a1, by simp only [aloop, M.bind, h5, M.pure], h6⟩
          | ret =>
            cases h
            obtain ⟨h3, h4⟩ := ih hs' _ _ _ _ _ hq hl
            refine ⟨h3, fun ds a ha => ?_⟩
            obtain ⟨a1, h5, h6⟩ := h4 ds a ha
            exact ⟨a1, by simp only [aloop, M.bind, h5, M.pure], h6⟩
    exact key n _ _ _ _ _ h hl
  | rangeFunc f ps x y ih1 ih2 => intro _ pf s s' e pf' h hl; cases h
  | scope body ih => intro _ pf s s' e pf' h hl; cases h
  | goto l => intro _ pf s s' e pf' h hl; cases h
  | refuse w => intro _ pf s s' e pf' h hl; cases h

theorem sResults_sound {nt : Nat} {ds : List Deferred} {pf : PF} {a : Act} (ha : FrameOk nt ds pf a) : ∀ (rs : List ResultVar) (s s' : SS) (vs : List Value), sResults P pf rs s = .ok vs s' → Holds s'.log → Holds s.log ∧ s'.now = s.now ∧ aResultList P a.tmps rs s.now = some (vs, s.now)
  | [], s, s', vs, h, hl => by cases h; exact ⟨hl, rfl, rfl⟩
  | .tmp t :: r, s, s', vs, h, hl => by
    simp only [sResults] at h
    cases hp : pf.get t with
    | none => rw [hp] at h; cases h
    | some v =>
      rw [hp] at h
      dsimp only at h
      cases hq : sResults P pf r s with
      | bad w => rw [hq] at h; cases h
      | ok us s1 =>
        rw [hq] at h
        cases h
        obtain ⟨h1, h2, h3⟩ := sResults_sound ha r _ _ _ hq hl
        refine ⟨h1, h2, ?_⟩
        have := ha.slot t v hp
        simp only [aResultList, aResult, M.bind, M.pure, h3, Array.getD_eq_getD_getElem?, this, Option.getD_some]
  | .cell x t :: r, s, s', vs, h, hl => by
    simp only [sResults] at h
    cases hp : pf.get x with
    | none => rw [hp] at h; cases h
    | some p =>
      rw [hp] at h
      dsimp only at h
      have hx : a.tmps.getD x undef = p := by
        have := ha.slot x p hp
        simp only [Array.getD_eq_getD_getElem?, this, Option.getD_some]
      have key : ∀ (s1 : SS) (v : Value), s1.now = s.now → aLoad P t p s.now = some (v, s.now) → ∀ us s2, sResults P pf r s1 = .ok us s2 → Holds s2.log → Holds s1.log ∧ s2.now = s.now ∧ aResultList P a.tmps (.cell x t :: r) s.now = some (v :: us, s.now) := by
        intro s1 v hnow hv us s2 hq hl
        obtain ⟨h1, h2, h3⟩ := sResults_sound ha r _ _ _ hq hl
        rw [hnow] at h2 h3
        exact ⟨h1, h2, by simp only [aResultList, aResult, M.bind, M.pure, hx, hv, h3]⟩
      split at h
      · rename_i v rest hans
        split at h
        · rename_i us s1 hq
          cases h
          obtain ⟨h1, h2, h3⟩ := sResults_sound ha r _ _ _ hq hl
          have hv : aLoad P t p s.now = some (v, s.now) := h1.1
          have h3' : aResultList P a.tmps r s.now = some (us, s.now) := h3
          exact ⟨h1.2, h2, by simp only [aResultList, aResult, M.bind, M.pure, hx, hv, h3']⟩
        · cases h
      · cases hv : aLoad P t p s.now with
        | none => rw [hv] at h; cases h
        | some w =>
          obtain ⟨v, σ'⟩ := w
          rw [hv] at h
          dsimp only at h
          have hk := Keeps.load P t p _ _ _ hv
          split at h
          · rename_i us s1 hq
            cases h
            exact key _ v rfl (by rw [hv, hk]) _ _ hq hl
          · cases h

theorem sResults_log {pf : PF} : ∀ (rs : List ResultVar) (s s' : SS) (vs : List Value), sResults P pf rs s = .ok vs s' → Holds s'.log → Holds s.log
  | [], s, s', vs, h, hl => by cases h; exact hl
  | .tmp t :: r, s, s', vs, h, hl => by
    simp only [sResults] at h
    split at h
    · split at h
      · rename_i hq; cases h; exact sResults_log r _ _ _ hq hl
      · cases h
    · cases h
  | .cell x t :: r, s, s', vs, h, hl => by
    simp only [sResults] at h
    split at h
    · split at h
      · split at h
        · rename_i hq; cases h; exact (sResults_log r _ _ _ hq hl).2
        · cases h
      · split at h
        · split at h
          · rename_i hq; cases h; exact sResults_log r _ _ _ hq hl
          · cases h
        · cases h
    · cases h

end

theorem frame_start {fn : Func} {args : Array Value} (h : args.size ≤ fn.ntmps) : FrameOk fn.ntmps [] (pfArgs args) { tmps := args ++ Array.replicate (fn.ntmps - args.size) undef, defers := [] } := by
  refine ⟨by simp; omega, rfl, fun t v hv => ?_⟩
  rcases pfSet_get _ _ _ t v hv with h | ⟨i, h1, h2⟩
  · cases h
  · obtain ⟨hi, h1⟩ := List.getElem?_eq_some_iff.1 h1
    rw [List.length_range] at hi
    rw [List.getElem_range] at h1
    subst h1
    rw [Array.getElem?_append_left hi]
    simpa using h2

theorem sFunc_sound (P : Program) : ∀ n, CallSOk (acall P n) (sFunc P n)
  | 0 => fun g args s v s' h _ => by cases h
  | n + 1 => fun f args s v s' h hl => by
    simp only [sFunc] at h
    simp only [acall]
    cases hf : P.funcs[f]? with
    | none => rw [hf] at h; cases h
    | some fn =>
      rw [hf] at h
      dsimp only at h ⊢
      cases hb : fn.body with
      | none => rw [hb] at h; cases h
      | some c =>
        rw [hb] at h
        dsimp only at h ⊢
        cases hs : Nat.ble args.size fn.ntmps with
        | false => rw [hs] at h; cases h
        | true =>
          rw [hs, cond_true] at h
          have hstart := frame_start (fn := fn) (Nat.le_of_ble_eq_true hs)
          have htop : ∀ id x, blocksOf id c = [x] → blockAt P f id = some x := fun id x hx => by
            simp only [blockAt, hf, hb, hx]
          cases hq : sCode P (acall P n) (sFunc P n) n f c fn.ntmps c (pfArgs args) s with
          | bad w => rw [hq] at h; cases h
          | ok r s1 =>
            obtain ⟨e, pf⟩ := r
            rw [hq] at h
            have fin : ∀ (h : (match sResults P pf fn.results.toList s1 with
                | .ok [v] s'' => Res.ok v s''
                | .ok vs s'' => .ok (.tuple vs.toArray) s''
                | .bad w => .bad w) = .ok v s'), Holds s.log ∧ ∃ a', acode P (acall P n) n f none c { tmps := args ++ Array.replicate (fn.ntmps - args.size) undef, defers := [] } s.now = some ((e, a'), s1.now) ∧ a'.defers = [] ∧ aResults P fn a'.tmps s1.now = some (v, s'.now) := fun h => by
              cases hr : sResults P pf fn.results.toList s1 with
              | bad w => rw [hr] at h; cases h
              | ok vs s2 =>
                rw [hr] at h
                have hl2 : Holds s2.log ∧ s2 = s' := by
                  split at h
                  · rename_i h0; cases h0; cases h; exact ⟨hl, rfl⟩
                  · rename_i h0; cases h0; cases h; exact ⟨hl, rfl⟩
                  · rename_i h0; cases h0
                obtain ⟨hl2, rfl⟩ := hl2
                obtain ⟨h1, h2⟩ := sCode_sound (sFunc_sound P n) htop c (fun _ _ hx => hx) _ _ _ _ _ hq (sResults_log _ _ _ _ hr hl2)
                obtain ⟨a', h3, h4⟩ := h2 [] _ hstart
                obtain ⟨h5, h6, h7⟩ := sResults_sound h4 _ _ _ _ hr hl2
                refine ⟨h1, a', h3, h4.defers, ?_⟩
                simp only [aResults, M.bind, h7]
                rw [h6]
                split at h
                · rename_i h0; cases h0; cases h; rfl
                · rename_i hne h0
                  cases h0; cases h
                  split
                  · exact (hne _ rfl).elim
                  · rfl
                · rename_i h0; cases h0
            cases e with
            | exit i => cases h
            | normal =>
              obtain ⟨h1, a', h2, h3, h4⟩ := fin h
              refine ⟨h1, ?_⟩
              simp only [M.bind, h2, h3, takeAll, M.pure, h4]
            | ret =>
              obtain ⟨h1, a', h2, h3, h4⟩ := fin h
              refine ⟨h1, ?_⟩
              simp only [M.bind, h2, h3, takeAll, M.pure, h4]

end Go.Abs
