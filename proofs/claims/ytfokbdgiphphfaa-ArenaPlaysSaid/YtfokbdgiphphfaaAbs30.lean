/- A block that is no loop, run with foreseen answers; cells that may only be read and lead to others. No condition beyond the hypotheses. -/
import Derived.Test.YtfokbdgiphphfaaAbs29
namespace Go.Abs
open Go.RowKit

def ranBlock (P : Program) (n : Nat) (f : FuncId) (id : Nat) (slots : List Nat) (vals : List Value) (ans : List Ans) (σ : AS) : Option (AX × List Value × List Prop × AS) :=
  match P.funcs[f]?, blockAt P f id with
  | some fn, some (.block i body) => match fn.body with
    | some top => match sCode P (acall P n) (sFunc P n) n f top fn.ntmps body (pfOf slots vals) ⟨ans, [], σ, 0⟩ with
      | .ok (e, pf) s => match pfGets pf slots with
        | some vs => some (leave i e, vs, s.log.reverse, s.now)
        | none => none
      | .bad _ => none
    | none => none
  | _, _ => none

theorem blocksOf_sub {id : Nat} : ∀ {c : Code} {i : Nat} {b : Code}, Code.block i b ∈ blocksOf id c → ∀ id' x, x ∈ blocksOf id' b → x ∈ blocksOf id' c := fun h => (blocksOf_loop h).2

theorem block_run {P : Program} {n : Nat} {f : FuncId} {id : Nat} {slots : List Nat} {vals vals' : List Value} {σ σ' : AS} {e : AX} {ans : List Ans} {l : List Prop} (pl : Plan ans l) (h : ranBlock P n f id slots vals ans σ = some (e, vals', l, σ')) :
    BlockOk P (acall P n) n f id (ntOf P f) slots vals σ e vals' σ' := by
  unfold ranBlock at h
  cases hf : P.funcs[f]? with
  | none => rw [hf] at h; cases h
  | some fn =>
    rw [hf] at h
    cases hb : blockAt P f id with
    | none => rw [hb] at h; cases h
    | some c =>
      rw [hb] at h
      cases c with
      | block i body =>
        dsimp only at h
        cases ht : fn.body with
        | none => rw [ht] at h; cases h
        | some top =>
          rw [ht] at h
          dsimp only at h
          cases hq : sCode P (acall P n) (sFunc P n) n f top fn.ntmps body (pfOf slots vals) ⟨ans, [], σ, 0⟩ with
          | bad w => rw [hq] at h; cases h
          | ok r s =>
            obtain ⟨e1, pf⟩ := r
            rw [hq] at h
            dsimp only at h
            cases hg : pfGets pf slots with
            | none => rw [hg] at h; cases h
            | some vs =>
              rw [hg] at h
              cases h
              have hnt : ntOf P f = fn.ntmps := by simp only [ntOf, hf]
              have hmem : Code.block i body ∈ blocksOf id top := by
                simp only [blockAt, hf, ht] at hb
                split at hb
                · rename_i x hx; cases hb; rw [hx]; exact List.mem_singleton.2 rfl
                · cases hb
              obtain ⟨_, h2⟩ := sCode_sound (sFunc_sound P n) (fun id x hx => by simp only [blockAt, hf, ht, hx]) body (fun id' x hx => blocksOf_sub hmem id' x hx) _ _ _ _ _ hq (holds_reverse pl.holds)
              refine ⟨_, hb, fun a ds ha => ?_⟩
              rw [hnt] at ha ⊢
              obtain ⟨a', h3, h4⟩ := h2 ds a ha
              refine ⟨a', ?_, h4.weaken hg⟩
              have h3' : acode P (acall P n) n f none body a σ = some ((e1, a'), s.now) := h3
              simp only [acode, M.bind, h3']
              cases e1 with
              | normal => rfl
              | ret => rfl
              | exit k => simp only [leave]; cases Nat.beq k i <;> rfl
      | _ => cases h

/-- A row of cells that may only be read, and leads to objects that are known. -/
theorem Rel.readOnly' {B : Nat} {w0 w : World} {μ : Mu} {σ : AS} (h : Rel B w0 μ σ w) {id : Nat} (hid : σ.heap.get id = none) (hn : id < σ.next) (c : List Value) (hc : VinL σ.dom c) (b off : Nat)
    (hcell : ∀ i v, c[i]? = some v → w.cell? ⟨b, off + i, none⟩ = some (conc μ v)) (hb : b < B) : Rel B w0 (μ.upd id b off 0) (σ.put id (.cells c 0 true)) w := by
  have ha : Agree σ.dom μ (μ.upd id b off 0) := Mu.upd_agree hid
  have hblk : ∀ i, σ.dom i → (μ.upd id b off 0).blk i = μ.blk i := fun i hi => (ha i hi).1
  have hsame : (μ.upd id b off 0).blk id = b := by simp [Mu.upd]
  have hbase : (μ.upd id b off 0).base id = off := by simp [Mu.upd]
  refine ⟨fun i oi hi => ?_, fun i oi hi => ?_, fun i j oi oj hi hj hri hlj hne => ?_, fun i oi hi hri => ?_, fun i oi hi hli => ?_, fun i oi hi => ?_, h.below, h.base⟩
  all_goals try simp only [AS.put, Tr.get_set] at hi
  · split at hi
    · cases hi
      subst_vars
      refine ⟨fun i v hv => ?_, fun h => (by cases h), fun _ => by simp [Mu.upd]⟩
      rw [hsame, hbase, conc_agree ha v (VinL_iff.1 hc v (List.mem_of_getElem? hv))]
      exact hcell i v hv
    · exact (h.fits i oi hi).of_agree ha (dom_of_get hi) (h.vin i oi hi)
  · split at hi
    · cases hi; exact VinL_mono (fun i hi => dom_set σ id _ i hi) _ hc
    · exact AObj.Vin_mono (fun i hi => dom_set σ id _ i hi) (h.vin i oi hi)
  · simp only [AS.put, Tr.get_set] at hj
    split at hi
    · cases hi; cases hri
    · rw [hblk i (dom_of_get hi)]
      split at hj
      · subst_vars
        rw [hsame]
        have := h.own i oi hi hri
        omega
      · rw [hblk j (dom_of_get hj)]
        exact h.apart i j oi oj hi hj hri hlj hne
  · split at hi
    · cases hi; cases hri
    · rw [hblk i (dom_of_get hi)]; exact h.own i oi hi hri
  · split at hi
    · subst_vars
      rw [hsame]
      have := h.base
      omega
    · rw [hblk i (dom_of_get hi)]; exact h.size i oi hi hli
  · split at hi
    · subst_vars; exact hn
    · exact h.next i oi hi

end Go.Abs
