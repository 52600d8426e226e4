/- A list of calls in an abstract state, and which words may stand where. No condition beyond the hypotheses. -/
import Derived.Test.YtfokbdgiphphfaaLawStays
namespace Go.Proofs.Ytfokbdgiphphfaa
open Go Go.Abs Go.RowKit

/-- One call of a script. -/
structure OpD where
  k : Int
  x : Int
  y : Int
  u : Value
  xs : List Int

def OpD.cells (o : OpD) : List Value := opCells o.k o.x o.y o.u
def opsCells (os : List OpD) : List Value := os.flatMap OpD.cells

/-- A list of words that may be read and is older than B; or an empty one of any place. -/
def WordsOf (B : Nat) (σ : AS) (u : Value) (xs : List Int) : Prop :=
  (∀ b, slBase u = some b → b < B) ∧ (Rd 1 σ u (u64s xs) ∨ ∃ r, u = .chan (some r) ∧ xs = [])

structure OpD.In (B : Nat) (σ : AS) (o : OpD) : Prop where
  y : U64 o.y
  w : ∀ w ∈ o.xs, U64 w
  u : WordsOf B σ o.u o.xs

structure Script (B : Nat) (σ : AS) (v : Value) (os : List OpD) : Prop where
  rd : Rd 4 σ v (opsCells os)
  below : ∀ b, slBase v = some b → b < B
  ops : ∀ o ∈ os, o.In B σ

/-- Everything from B on. -/
def From (B : Nat) : Nat → Prop := fun i => B ≤ i

theorem WordsOf.fr {B : Nat} {σ σ' : AS} {u : Value} {xs : List Int} (h : WordsOf B σ u xs) (hf : Fr (From B) σ σ') : WordsOf B σ' u xs :=
  ⟨h.1, h.2.imp (fun hr => hr.fr hf fun b hb hh => by have := h.1 b hb; unfold From at hh; omega) id⟩
theorem Script.fr {B : Nat} {σ σ' : AS} {v : Value} {os : List OpD} (h : Script B σ v os) (hf : Fr (From B) σ σ') : Script B σ' v os :=
  ⟨h.rd.fr hf fun b hb hh => by have := h.below b hb; unfold From at hh; omega, h.below, fun o ho => ⟨(h.ops o ho).y, (h.ops o ho).w, (h.ops o ho).u.fr hf⟩⟩

theorem WordsOf.flat {B : Nat} {σ : AS} {u : Value} {xs : List Int} (h : WordsOf B σ u xs) : flat u = true ∧ u.cells = #[u] := by
  rcases h.2 with h | ⟨r, rfl, _⟩
  · obtain ⟨base, cap, rfl⟩ := rd_shape h
    exact ⟨rfl, rfl⟩
  · exact ⟨rfl, rfl⟩

theorem opsCells_length (os : List OpD) : (opsCells os).length = os.length * 4 := by
  induction os with
  | nil => rfl
  | cons o os ih => simp only [opsCells, List.flatMap_cons, List.length_append, List.length_cons] at ih ⊢; rw [ih]; simp only [OpD.cells, opCells, List.length_cons, List.length_nil]; omega

theorem opsCells_at : ∀ (os : List OpD) (i : Nat) (o : OpD), os[i]? = some o → ((opsCells os).drop (i * 4)).take 4 = o.cells
  | [], i, o, h => by simp at h
  | p :: os, 0, o, h => by
    simp only [List.getElem?_cons_zero, Option.some.injEq] at h
    subst h
    simp [opsCells, OpD.cells, opCells]
  | p :: os, i + 1, o, h => by
    have hh := opsCells_at os i o (by simpa using h)
    have h1 : opsCells (p :: os) = p.cells ++ opsCells os := by simp [opsCells]
    have h2 : p.cells.length = 4 := rfl
    rw [h1, List.drop_append, h2, List.drop_of_length_le (by rw [h2]; omega), List.nil_append, show (i + 1) * 4 - 4 = i * 4 by omega]
    exact hh

theorem Script.shape {B : Nat} {σ : AS} {v : Value} {os : List OpD} (h : Script B σ v os) : ∃ base cap, v = .slice base os.length cap := by
  rcases h.rd with ⟨rfl, hc⟩ | ⟨a, cap, rfl, hc⟩ | ⟨a, len, cap, c, room, ro, rfl, _, _, hc, _⟩
  · have := opsCells_length os
    rw [hc] at this
    have h0 : os.length = 0 := by simp only [List.length_nil] at this; omega
    rw [h0]
    exact ⟨none, 0, rfl⟩
  · have := opsCells_length os
    rw [hc] at this
    have h0 : os.length = 0 := by simp only [List.length_nil] at this; omega
    rw [h0]
    exact ⟨some a, cap, rfl⟩
  · rw [opsCells_length] at hc
    have : len = os.length := by omega
    subst this
    exact ⟨_, _, rfl⟩

theorem Script.place {B : Nat} {σ : AS} {base : Option Addr} {len cap : Nat} {os : List OpD} (h : Script B σ (.slice base len cap) os) {i : Nat} (hi : i < os.length) : ∃ a, base = some a := by
  have hl := opsCells_length os
  rcases h.rd with ⟨h1, hc⟩ | ⟨a, cap, _, hc⟩ | ⟨a, len', cap', c, room, ro, h1, _⟩
  · rw [hc] at hl; simp only [List.length_nil] at hl; omega
  · rw [hc] at hl; simp only [List.length_nil] at hl; omega
  · cases h1; exact ⟨a, rfl⟩

theorem Script.load {B : Nat} {σ : AS} {a : Addr} {len cap : Nat} {os : List OpD} (h : Script B σ (.slice (some a) len cap) os) {i : Nat} {o : OpD} (hi : os[i]? = some o) :
    aLoad Try.prog 43 (.pointer (some (addOff' a (timesOne i 4)))) σ = some (.agg #[.int .i64 o.k, .int .i64 o.x, .int .u64 o.y, o.u], σ) := by
  have hl := opsCells_length os
  have hlt : i < os.length := (List.getElem?_eq_some_iff.1 hi).1
  rcases h.rd with ⟨h1, hc⟩ | ⟨a, cap, _, hc⟩ | ⟨a', len', cap', c, room, ro, h1, h2, h3, h4, h5, h6⟩
  · cases h1
  · rw [hc] at hl; simp only [List.length_nil] at hl; omega
  · cases h1
    rw [addOff'_eq, timesOne_eq]
    have hlen : len = os.length := by omega
    subst hlen
    rw [addOff, aLoad_agg (n := 4) (by kernel_rfl) (by kernel_rfl) h3 (by omega)]
    have hat := opsCells_at os i o hi
    rw [← h6, List.drop_take, List.take_take, List.drop_drop, Nat.min_eq_left (by omega)] at hat
    rw [hat]
    rfl

/-! ## Which words may stand -/

theorem firstBad_none : ∀ {ws : List Int} {top : Int} {i : Nat}, firstBad ws top i = none ↔ ∀ w ∈ ws, mayB w top = true
  | [], top, i => by simp [firstBad]
  | w :: ws, top, i => by
    unfold firstBad
    split
    · rename_i h; rw [firstBad_none]; simp [h]
    · rename_i h; simp [h]

theorem bads_none {ws : List Int} : bads ws = none ↔ ∀ w ∈ ws, mayB w ws.length = true := by
  unfold bads
  rw [Option.map_eq_none_iff]
  refine Iff.trans ?_ (firstBad_none (i := 0))
  cases firstBad ws ws.length 0 <;> simp

theorem mayB_mono {w t t' : Int} (h : mayB w t = true) (ht : t ≤ t') : mayB w t' = true := by
  unfold mayB at h ⊢
  simp only [Bool.and_eq_true, Bool.or_eq_true, decide_eq_true_eq] at h ⊢
  exact ⟨h.1, h.2.imp id fun h => by omega⟩

theorem mayB_self {k t : Int} (h0 : 0 ≤ k) (h1 : k < t) (h2 : k < 65536) : mayB (8 * k) t = true := by
  have ht : wTag (8 * k) = 0 := by unfold wTag; omega
  have hv : wVal (8 * k) = k := by unfold wVal; rw [if_pos (by omega)]; omega
  unfold mayB goodB
  rw [ht, hv]
  simp [fitsB, h0, h1, h2]

theorem bads_alloc {max : Int} {ws : List Int} {x : Int} (h : bads ws = none) (hm : max ≤ 65536) : bads (allocW max ws x) = none := by
  rw [bads_none] at h ⊢
  unfold allocW
  split
  · rename_i ha
    have hx : ¬ x < 1 ∧ ¬ max - ws.length < x := by
      unfold allocF at ha
      split at ha
      · cases ha
      · rename_i h1
        split at ha
        · cases ha
        · rename_i h2; exact ⟨h1, h2⟩
    intro w hw
    rw [List.length_append, fresh_length]
    rcases List.mem_append.1 hw with hw | hw
    · exact mayB_mono (h w hw) (by omega)
    · obtain ⟨q, hq, rfl⟩ := List.mem_map.1 hw
      have := List.mem_range.1 hq
      exact mayB_self (by omega) (by omega) (by omega)
  · exact h

theorem bads_store {ws : List Int} {x w : Int} (h : bads ws = none) : bads (storeW ws x w) = none := by
  rw [bads_none] at h ⊢
  unfold storeW
  split
  · rename_i hc
    intro v hv
    rw [List.length_set]
    rcases List.mem_or_eq_of_mem_set hv with hv | rfl
    · exact h v hv
    · exact hc.2.2
  · exact h

theorem bads_fill {max : Int} {ws xs : List Int} (h : bads ws = none) : bads (fillW max ws xs) = none := by
  unfold fillW
  split
  · rename_i hf
    unfold fillF at hf
    split at hf
    · cases hf
    · exact hf
  · exact h

end Go.Proofs.Ytfokbdgiphphfaa
