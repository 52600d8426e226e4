/- Runs with foreseen answers: whole functions, rounds of a loop, loops. No condition. -/
import Derived.Test.YtfokbdgiphphfaaAbs27
namespace Go.Abs
open Go.RowKit

/-- A function's run: what it answers, what is logged (oldest first), the state behind it. -/
def ran (P : Program) (n : Nat) (f : FuncId) (args : Array Value) (ans : List Ans) (σ : AS) : Option (Value × List Prop × AS) := match sFunc P n f args ⟨ans, [], σ, 0⟩ with
  | .ok v s => some (v, s.log.reverse, s.now)
  | .bad _ => none

/-- Where a run fails. -/
def ranBad (P : Program) (n : Nat) (f : FuncId) (args : Array Value) (ans : List Ans) (σ : AS) : Nat := match sFunc P n f args ⟨ans, [], σ, 0⟩ with
  | .ok _ _ => 0
  | .bad w => w

theorem holds_iff : ∀ {l : List Prop}, Holds l ↔ ∀ p ∈ l, p
  | [] => ⟨fun _ p hp => (by cases hp), fun _ => trivial⟩
  | q :: l => by
    constructor
    · intro h p hp
      rcases List.mem_cons.1 hp with rfl | hp
      · exact h.1
      · exact holds_iff.1 h.2 p hp
    · intro h
      exact ⟨h q List.mem_cons_self, holds_iff.2 fun p hp => h p (List.mem_cons_of_mem _ hp)⟩

theorem holds_reverse {l : List Prop} (h : Holds l.reverse) : Holds l := holds_iff.2 fun p hp => holds_iff.1 h p (List.mem_reverse.2 hp)

/-- What is foreseen, each with its proof, in the order in which it is asked. -/
inductive Plan : List Ans → List Prop → Prop where
  | nil : Plan [] []
  | yes {p : Prop} {a : List Ans} {l : List Prop} (h : p) (r : Plan a l) : Plan (.yes :: a) (p :: l)
  | no {p : Prop} {a : List Ans} {l : List Prop} (h : ¬ p) (r : Plan a l) : Plan (.no :: a) ((¬ p) :: l)
  | num {x y : Int} {a : List Ans} {l : List Prop} (h : x = y) (r : Plan a l) : Plan (.num y :: a) ((x = y) :: l)
  | ix {j : Int} {m len : Nat} {a : List Ans} {l : List Prop} (h : j = (m : Int) ∧ m < len) (r : Plan a l) : Plan (.ix m :: a) ((j = (m : Int) ∧ m < len) :: l)
  | val {x : Option (Value × AS)} {v : Value} {σ : AS} {a : List Ans} {l : List Prop} (h : x = some (v, σ)) (r : Plan a l) : Plan (.val v :: a) ((x = some (v, σ)) :: l)
  | up {x : Option (Value × AS)} {v : Value} {σ : AS} {a : List Ans} {l : List Prop} (h : x = some (v, σ)) (r : Plan a l) : Plan (.upto v σ :: a) ((x = some (v, σ)) :: l)
  | new {σ : AS} {id : Nat} {a : List Ans} {l : List Prop} (h : FreshAt σ id) (r : Plan a l) : Plan (.new :: a) (FreshAt σ id :: l)
  | auto {a : List Ans} {l : List Prop} (r : Plan a l) : Plan (.auto :: a) l
  | block {P : Program} {call : Tgt → Array Value → M Value} {n : Nat} {f : FuncId} {id nt : Nat} {slots : List Nat} {vals : List Value} {σ : AS} {e : AX} {vals' : List Value} {σ' : AS} {a : List Ans} {l : List Prop}
      (h : BlockOk P call n f id nt slots vals σ e vals' σ') (r : Plan a l) : Plan (.block id slots e vals' σ' :: a) (BlockOk P call n f id nt slots vals σ e vals' σ' :: l)
  /-- Of a region whose order is drawn: one more thing behind it. -/
  | also {p : Prop} {a : List Ans} {l : List Prop} (h : p) (r : Plan a l) : Plan a (p :: l)

theorem Plan.holds {a : List Ans} {l : List Prop} (h : Plan a l) : Holds l := by
  induction h with
  | nil => trivial
  | auto _ ih => exact ih
  | _ => rename_i h _ ih; exact ⟨h, ih⟩

theorem run_ok {P : Program} {n : Nat} {f : FuncId} {args : Array Value} {σ σ' : AS} {v : Value} (ans : List Ans) (l : List Prop) (h : ran P n f args ans σ = some (v, l, σ')) (hl : Holds l) : acall P n (.func f) args σ = some (v, σ') := by
  unfold ran at h
  cases hq : sFunc P n f args ⟨ans, [], σ, 0⟩ with
  | bad w => rw [hq] at h; cases h
  | ok u s =>
    rw [hq] at h
    cases h
    exact (sFunc_sound P n _ _ _ _ _ hq (holds_reverse hl)).2

theorem run {P : Program} {n : Nat} {f : FuncId} {args : Array Value} {σ σ' : AS} {v : Value} {ans : List Ans} {l : List Prop} (pl : Plan ans l) (h : ran P n f args ans σ = some (v, l, σ')) : acall P n (.func f) args σ = some (v, σ') := run_ok ans l h pl.holds

def ntOf (P : Program) (f : FuncId) : Nat := match P.funcs[f]? with
  | some fn => fn.ntmps
  | none => 0

/-- A round of a loop, of the slots that are known. -/
def ranRound (P : Program) (n : Nat) (f : FuncId) (id : Nat) (slots : List Nat) (vals : List Value) (ans : List Ans) (σ : AS) : Option (AX × List Value × List Prop × AS) :=
  match P.funcs[f]?, blockAt P f id with
  | some fn, some (.block _ (.loop body)) => match fn.body with
    | some top => match sCode P (acall P n) (sFunc P n) n f top fn.ntmps body (pfOf slots vals) ⟨ans, [], σ, 0⟩ with
      | .ok (e, pf) s => match pfGets pf slots with
        | some vs => some (e, vs, s.log.reverse, s.now)
        | none => none
      | .bad _ => none
    | none => none
  | _, _ => none

def ranRoundBad (P : Program) (n : Nat) (f : FuncId) (id : Nat) (slots : List Nat) (vals : List Value) (ans : List Ans) (σ : AS) : Nat :=
  match P.funcs[f]?, blockAt P f id with
  | some fn, some (.block _ (.loop body)) => match fn.body with
    | some top => match sCode P (acall P n) (sFunc P n) n f top fn.ntmps body (pfOf slots vals) ⟨ans, [], σ, 0⟩ with
      | .ok (_, pf) _ => match pfGets pf slots with
        | some _ => 0
        | none => 1
      | .bad w => w
    | none => 2
  | _, _ => 3

/-- What a round comes to. -/
def RoundOk (P : Program) (n : Nat) (f : FuncId) (id : Nat) (slots : List Nat) (vals : List Value) (σ : AS) (e : AX) (vals' : List Value) (σ' : AS) : Prop :=
  ∃ i body, blockAt P f id = some (.block i (.loop body)) ∧ ∀ ds a, FrameOk (ntOf P f) ds (pfOf slots vals) a → ∃ a', acode P (acall P n) n f none body a σ = some ((e, a'), σ') ∧ FrameOk (ntOf P f) ds (pfOf slots vals') a'

theorem blocksOf_loop {id : Nat} : ∀ {c : Code} {i : Nat} {b : Code}, Code.block i b ∈ blocksOf id c → i = id ∧ ∀ id' x, x ∈ blocksOf id' b → x ∈ blocksOf id' c := by
  intro c
  induction c with
  | seq x y ih1 ih2 =>
    intro i b h
    simp only [blocksOf, List.mem_append] at h
    rcases h with h | h
    · exact ⟨(ih1 h).1, fun id' z hz => by simp only [blocksOf, List.mem_append]; exact Or.inl ((ih1 h).2 id' z hz)⟩
    · exact ⟨(ih2 h).1, fun id' z hz => by simp only [blocksOf, List.mem_append]; exact Or.inr ((ih2 h).2 id' z hz)⟩
  | cond c x y ih1 ih2 =>
    intro i b h
    simp only [blocksOf, List.mem_append] at h
    rcases h with h | h
    · exact ⟨(ih1 h).1, fun id' z hz => by simp only [blocksOf, List.mem_append]; exact Or.inl ((ih1 h).2 id' z hz)⟩
    · exact ⟨(ih2 h).1, fun id' z hz => by simp only [blocksOf, List.mem_append]; exact Or.inr ((ih2 h).2 id' z hz)⟩
  | rangeFunc f ps x y ih1 ih2 =>
    intro i b h
    simp only [blocksOf, List.mem_append] at h
    rcases h with h | h
    · exact ⟨(ih1 h).1, fun id' z hz => by simp only [blocksOf, List.mem_append]; exact Or.inl ((ih1 h).2 id' z hz)⟩
    · exact ⟨(ih2 h).1, fun id' z hz => by simp only [blocksOf, List.mem_append]; exact Or.inr ((ih2 h).2 id' z hz)⟩
  | block j body ih =>
    intro i b h
    have up : ∀ id' x, x ∈ blocksOf id' body → x ∈ blocksOf id' (.block j body) := fun id' x hx => by
      simp only [blocksOf]
      cases Nat.beq j id' with
      | true => exact List.mem_cons_of_mem _ hx
      | false => exact hx
    simp only [blocksOf] at h
    cases hb : Nat.beq j id with
    | true =>
      rw [hb, cond_true] at h
      rcases List.mem_cons.1 h with h | h
      · cases h
        exact ⟨Nat.eq_of_beq_eq_true hb, up⟩
      · exact ⟨(ih h).1, fun id' z hz => up _ _ ((ih h).2 id' z hz)⟩
    | false =>
      rw [hb, cond_false] at h
      exact ⟨(ih h).1, fun id' z hz => up _ _ ((ih h).2 id' z hz)⟩
  | loop body ih => intro i b h; exact ih h
  | scope body ih => intro i b h; exact ih h
  | _ => intro i b h; simp [blocksOf] at h

theorem round_ok {P : Program} {n : Nat} {f : FuncId} {id : Nat} {slots : List Nat} {vals vals' : List Value} {σ σ' : AS} {e : AX} (ans : List Ans) (l : List Prop) (h : ranRound P n f id slots vals ans σ = some (e, vals', l, σ')) (hl : Holds l) : RoundOk P n f id slots vals σ e vals' σ' := by
  unfold ranRound at h
  cases hf : P.funcs[f]? with
  | none => rw [hf] at h; cases h
  | some fn =>
    rw [hf] at h
    cases hb : blockAt P f id with
    | none => rw [hb] at h; cases h
    | some c =>
      rw [hb] at h
      cases c with
      | block i c' =>
        cases c' with
        | loop body =>
          dsimp only at h
          cases ht : fn.body with
          | none => rw [ht] at h; cases h
          | some top =>
            rw [ht] at h
            dsimp only at h
            cases hq : sCode P (acall P n) (sFunc P n) n f top fn.ntmps body (pfOf slots vals) ⟨ans, [], σ, 0⟩ with
            | bad w => rw [hq] at h; cases h
            | ok r s =>
              obtain ⟨e1, pf⟩ := r
              rw [hq] at h
              dsimp only at h
              cases hg : pfGets pf slots with
              | none => rw [hg] at h; cases h
              | some vs =>
                rw [hg] at h
                cases h
                have hnt : ntOf P f = fn.ntmps := by simp only [ntOf, hf]
                have hmem : Code.block i (.loop body) ∈ blocksOf id top := by
                  simp only [blockAt, hf, ht] at hb
                  split at hb
                  · rename_i x hx; cases hb; rw [hx]; exact List.mem_singleton.2 rfl
                  · cases hb
                refine ⟨i, body, hb, fun ds a ha => ?_⟩
                rw [hnt] at ha ⊢
                obtain ⟨_, h2⟩ := sCode_sound (sFunc_sound P n) (fun id x hx => by simp only [blockAt, hf, ht, hx]) body (fun id' x hx => (blocksOf_loop hmem).2 id' x hx) _ _ _ _ _ hq (holds_reverse hl)
                obtain ⟨a', h3, h4⟩ := h2 ds a ha
                exact ⟨a', h3, h4.weaken hg⟩
        | _ => cases h
      | _ => cases h

theorem round {P : Program} {n : Nat} {f : FuncId} {id : Nat} {slots : List Nat} {vals vals' : List Value} {σ σ' : AS} {e : AX} {ans : List Ans} {l : List Prop} (pl : Plan ans l) (h : ranRound P n f id slots vals ans σ = some (e, vals', l, σ')) : RoundOk P n f id slots vals σ e vals' σ' := round_ok ans l h pl.holds

/-- How a block is left, if its loop is left so. -/
def leave (id : Nat) : AX → AX
  | .exit i => bif Nat.beq i id then .normal else .exit i
  | e => e

theorem loop_block {P : Program} {n : Nat} {f : FuncId} {id : Nat} {slots : List Nat} (I : Nat → List Value → AS → Prop) (Q : AX → List Value → AS → Prop)
    (hround : ∀ j vals σ, I j vals σ → ∃ e vals' σ', RoundOk P n f id slots vals σ e vals' σ' ∧ ((e = .normal ∧ ∃ j', j' < j ∧ I j' vals' σ') ∨ (e ≠ .normal ∧ Q (leave id e) vals' σ')))
    {j : Nat} {vals : List Value} {σ : AS} (hI : I j vals σ) (hn : j < n) : ∃ e vals' σ', BlockOk P (acall P n) n f id (ntOf P f) slots vals σ e vals' σ' ∧ Q e vals' σ' := by
  have key : ∀ m j vals σ, I j vals σ → j < m → ∃ i body e vals' σ', blockAt P f id = some (.block i (.loop body)) ∧ e ≠ .normal ∧ (∀ ds a, FrameOk (ntOf P f) ds (pfOf slots vals) a → ∃ a', aloop (acode P (acall P n) n f none body) m a σ = some ((e, a'), σ') ∧ FrameOk (ntOf P f) ds (pfOf slots vals') a') ∧ Q (leave id e) vals' σ' := by
    intro m
    induction m with
    | zero => intro j vals σ _ h; exact absurd h (Nat.not_lt_zero _)
    | succ m ih =>
      intro j vals σ hI hj
      obtain ⟨e, vals', σ', ⟨i, body, hb, hr⟩, hor⟩ := hround j vals σ hI
      rcases hor with ⟨rfl, j', hj', hI'⟩ | ⟨hne, hQ⟩
      · obtain ⟨i2, body2, e2, vals2, σ2, hb2, hne2, hr2, hQ2⟩ := ih j' vals' σ' hI' (by omega)
        rw [hb] at hb2
        cases hb2
        refine ⟨i, body, e2, vals2, σ2, hb, hne2, fun ds a ha => ?_, hQ2⟩
        obtain ⟨a1, h1, h2⟩ := hr ds a ha
        obtain ⟨a2, h3, h4⟩ := hr2 ds a1 h2
        exact ⟨a2, by simp only [aloop, M.bind, h1, h3], h4⟩
      · refine ⟨i, body, e, vals', σ', hb, hne, fun ds a ha => ?_, hQ⟩
        obtain ⟨a1, h1, h2⟩ := hr ds a ha
        refine ⟨a1, ?_, h2⟩
        simp only [aloop, M.bind, h1]
        cases e with
        | normal => exact (hne rfl).elim
        | _ => rfl
  obtain ⟨i, body, e, vals', σ', hb, hne, hr, hQ⟩ := key n j vals σ hI hn
  have hi : i = id := by
    unfold blockAt at hb
    split at hb
    · split at hb
      · split at hb
        · rename_i top _ _ x hx
          cases hb
          have : Code.block i (.loop body) ∈ blocksOf id top := by rw [hx]; exact List.mem_singleton.2 rfl
          exact (blocksOf_loop this).1
        · cases hb
      · cases hb
    · cases hb
  subst hi
  refine ⟨leave i e, vals', σ', ⟨_, hb, fun a ds ha => ?_⟩, hQ⟩
  obtain ⟨a', h1, h2⟩ := hr ds a ha
  refine ⟨a', ?_, h2⟩
  simp only [acode, M.bind, h1]
  cases e with
  | normal => exact (hne rfl).elim
  | ret => rfl
  | exit k =>
    simp only [leave]
    cases Nat.beq k i <;> rfl

end Go.Abs
