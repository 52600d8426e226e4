/- Faults of the program and of the document's answer; new arenas; what two faults being the same comes to. No condition beyond the hypotheses. -/
import Derived.Test.YtfokbdgiphphfaaWords
namespace Go.Proofs.Ytfokbdgiphphfaa
open Go Go.Abs Go.RowKit

def noStr : Value := .string ⟨#[]⟩
def faultObj (c a : Int) : AObj := .cells [.int .i64 c, .int .i64 a, noStr, .nilIface] 0 false
/-- A fault of the document's answer. -/
def fv (c a : Int) : Value := .agg #[.int .i64 c, .int .i64 a, noStr, .slice none 0 0]
def fvCells (c a : Int) : List Value := [.int .i64 c, .int .i64 a, noStr, .slice none 0 0]
def fvObj (c a : Int) : AObj := .cells (fvCells c a) 0 false

/-- An error of the program: none, or a fault with its code and place. -/
def ErrOf (σ : AS) (v : Value) : Option (Int × Int) → Prop
  | none => v = .nilIface
  | some (c, a) => ∃ b, v = .iface 69 (.pointer (some ⟨b, 0, none⟩)) ∧ σ.heap.get b = some (faultObj c a)

def fvOf : Option (Int × Int) → Value
  | none => fv 0 0
  | some (c, a) => fv c a

theorem ErrOf.fr {S : Nat → Prop} {σ σ' : AS} {v : Value} {o : Option (Int × Int)} (h : ErrOf σ v o) (hf : Fr S σ σ') (hS : ∀ b, v = .iface 69 (.pointer (some ⟨b, 0, none⟩)) → ¬ S b) : ErrOf σ' v o := by
  cases o with
  | none => exact h
  | some ca =>
    obtain ⟨b, h1, h2⟩ := h
    exact ⟨b, h1, hf.same _ _ h2 (hS b h1)⟩
theorem ErrOf.nil {σ σ' : AS} {v : Value} {o : Option (Int × Int)} (h : ErrOf σ v o) (hf : Fr Nil σ σ') : ErrOf σ' v o := h.fr hf fun _ _ h => h

theorem fault_prog (n : Nat) (σ : AS) (c a : Int) (hw : Wf σ) : ∃ v σ', acall Try.prog (n + 1) (.func 26) #[.int .i64 c, .int .i64 a] σ = some (v, σ') ∧ ErrOf σ' v (some (c, a)) ∧ Fr Nil σ σ' ∧ ∀ b, v = .iface 69 (.pointer (some ⟨b, 0, none⟩)) → σ.next ≤ b := by
  have h1 : FreshAt (σ.up 7) (σ.next + 4) := hw.fresh (by omega) (by omega)
  refine ⟨_, (σ.up 7).put (σ.next + 4) (faultObj c a), run (v := .iface 69 (ptrTo (σ.next + 4))) (.new h1 .nil) (by kernel_rfl), ⟨_, rfl, AS.get_put_same _ _ _⟩, ?_, ?_⟩
  · exact ((Fr.refl hw).up 7).put _ (by rw [AS.next_up]; omega) (Or.inr (Or.inl (by omega))) hw
  · intro b hb
    cases hb
    omega

theorem at_ref (n : Nat) (σ : AS) (c a : Int) (hw : Wf σ) : ∃ σ', acall Try.prog (n + 1) (.func 25) #[.int .i64 c, .int .i64 a] σ = some (fv c a, σ') ∧ Fr Nil σ σ' := by
  have h1 : FreshAt (σ.up 1) σ.next := hw.fresh (Nat.le_refl _) (by omega)
  have h2 : aStore Try.prog 52 (fv c a) (ptrTo σ.next) (((σ.up 1).put σ.next (fvObj 0 0)).up 4) = some (undef, (((σ.up 1).put σ.next (fvObj 0 0)).up 4).put σ.next (fvObj c a)) :=
    aStore_cells (c := fvCells 0 0) (by kernel_rfl) (by kernel_rfl) (AS.get_put_same _ _ _) (Nat.le_refl 4)
  have h3 : aLoad Try.prog 52 (ptrTo σ.next) ((((σ.up 1).put σ.next (fvObj 0 0)).up 4).put σ.next (fvObj c a)) = some (fv c a, (((σ.up 1).put σ.next (fvObj 0 0)).up 4).put σ.next (fvObj c a)) :=
    aLoad_agg (n := 4) (by kernel_rfl) (by kernel_rfl) (AS.get_put_same _ _ _) (Nat.le_refl 4)
  refine ⟨(((σ.up 1).put σ.next (fvObj 0 0)).up 4).put σ.next (fvObj c a), run (.new h1 <| .up h2 <| .val h3 .nil) (by kernel_rfl), ?_⟩
  exact ((((Fr.refl hw).up 1).put _ (by rw [AS.next_up]; omega) (Or.inr (Or.inl (Nat.le_refl _))) hw).up 4).put _ (by rw [AS.next_up, AS.next_put, AS.next_up]; omega) (Or.inr (Or.inl (Nat.le_refl _))) hw

theorem no_ref (n : Nat) (σ : AS) (hw : Wf σ) : ∃ σ', acall Try.prog (n + 1) (.func 31) #[] σ = some (fv 0 0, σ') ∧ Fr Nil σ σ' := by
  have h1 : FreshAt (σ.up 1) σ.next := hw.fresh (Nat.le_refl _) (by omega)
  have h2 : aStore Try.prog 52 (fv 0 0) (ptrTo σ.next) (((σ.up 1).put σ.next (fvObj 0 0)).up 2) = some (undef, (((σ.up 1).put σ.next (fvObj 0 0)).up 2).put σ.next (fvObj 0 0)) :=
    aStore_cells (c := fvCells 0 0) (by kernel_rfl) (by kernel_rfl) (AS.get_put_same _ _ _) (Nat.le_refl 4)
  have h3 : aLoad Try.prog 52 (ptrTo σ.next) ((((σ.up 1).put σ.next (fvObj 0 0)).up 2).put σ.next (fvObj 0 0)) = some (fv 0 0, (((σ.up 1).put σ.next (fvObj 0 0)).up 2).put σ.next (fvObj 0 0)) :=
    aLoad_agg (n := 4) (by kernel_rfl) (by kernel_rfl) (AS.get_put_same _ _ _) (Nat.le_refl 4)
  refine ⟨(((σ.up 1).put σ.next (fvObj 0 0)).up 2).put σ.next (fvObj 0 0), run (.new h1 <| .up h2 <| .val h3 .nil) (by kernel_rfl), ?_⟩
  exact ((((Fr.refl hw).up 1).put _ (by rw [AS.next_up]; omega) (Or.inr (Or.inl (Nat.le_refl _))) hw).up 2).put _ (by rw [AS.next_up, AS.next_put, AS.next_up]; omega) (Or.inr (Or.inl (Nat.le_refl _))) hw

/-- The same fault on both sides. -/
theorem is_same (n : Nat) (σ : AS) (v : Value) (o : Option (Int × Int)) (hw : Wf σ) (h : ErrOf σ v o) (ho : ∀ c a, o = some (c, a) → c ≠ 0) : ∃ σ', acall Try.prog (n + 3) (.func 21) #[v, fvOf o] σ = some (.bool true, σ') ∧ Fr Nil σ σ' := by
  have h1 : FreshAt (σ.up 2) σ.next := hw.fresh (Nat.le_refl _) (by omega)
  have hfr : ∀ c a, Fr Nil σ ((σ.up 2).put σ.next (fvObj c a)) := fun c a => ((Fr.refl hw).up 2).put _ (by rw [AS.next_up]; omega) (Or.inr (Or.inl (Nat.le_refl _))) hw
  cases o with
  | none =>
    cases h
    have h2 : aLoad Try.prog 3 (ptrTo σ.next) (((σ.up 2).put σ.next (fvObj 0 0)).up 3) = some (.int .i64 0, ((σ.up 2).put σ.next (fvObj 0 0)).up 3) := aLoad_cell (by kernel_rfl) (AS.get_put_same _ _ _) rfl
    exact ⟨((σ.up 2).put σ.next (fvObj 0 0)).up 6, run (.new h1 <| .val h2 .nil) (by kernel_rfl), (hfr 0 0).up 6⟩
  | some ca =>
    obtain ⟨c, a⟩ := ca
    obtain ⟨b, rfl, hb⟩ := h
    have hbn := hw _ _ hb
    have hc := ho c a rfl
    have hb' : ∀ k, (((σ.up 2).put σ.next (fvObj c a)).up k).heap.get b = some (faultObj c a) := fun k => by
      rw [AS.get_up, AS.get_put_ne _ _ (by omega)]
      exact hb
    have hs : ∀ k, (((σ.up 2).put σ.next (fvObj c a)).up k).heap.get σ.next = some (fvObj c a) := fun k => AS.get_put_same _ _ _
    have l0 : aLoad Try.prog 3 (ptrTo σ.next) (((σ.up 2).put σ.next (fvObj c a)).up 3) = some (.int .i64 c, ((σ.up 2).put σ.next (fvObj c a)).up 3) := aLoad_cell (by kernel_rfl) (hs 3) rfl
    have l1 : aLoad Try.prog 60 (ptrTo b) (((σ.up 2).put σ.next (fvObj c a)).up 43) = some (.int .i64 c, ((σ.up 2).put σ.next (fvObj c a)).up 43) := aLoad_cell (by kernel_rfl) (hb' 43) rfl
    have l2 : aLoad Try.prog 3 (ptrTo σ.next) (((σ.up 2).put σ.next (fvObj c a)).up 43) = some (.int .i64 c, ((σ.up 2).put σ.next (fvObj c a)).up 43) := aLoad_cell (by kernel_rfl) (hs 43) rfl
    have l3 : aLoad Try.prog 3 (.pointer (some ⟨b, 1, none⟩)) (((σ.up 2).put σ.next (fvObj c a)).up 43) = some (.int .i64 a, ((σ.up 2).put σ.next (fvObj c a)).up 43) := aLoad_cell (by kernel_rfl) (hb' 43) rfl
    have l4 : aLoad Try.prog 3 (.pointer (some ⟨σ.next, 1, none⟩)) (((σ.up 2).put σ.next (fvObj c a)).up 43) = some (.int .i64 a, ((σ.up 2).put σ.next (fvObj c a)).up 43) := aLoad_cell (by kernel_rfl) (hs 43) rfl
    have l5 : aLoad Try.prog 9 (.pointer (some ⟨b, 2, none⟩)) (((σ.up 2).put σ.next (fvObj c a)).up 43) = some (noStr, ((σ.up 2).put σ.next (fvObj c a)).up 43) := aLoad_cell (by kernel_rfl) (hb' 43) rfl
    have l6 : aLoad Try.prog 9 (.pointer (some ⟨σ.next, 2, none⟩)) (((σ.up 2).put σ.next (fvObj c a)).up 43) = some (noStr, ((σ.up 2).put σ.next (fvObj c a)).up 43) := aLoad_cell (by kernel_rfl) (hs 43) rfl
    have l7 : aLoad Try.prog 50 (.pointer (some ⟨σ.next, 3, none⟩)) (((σ.up 2).put σ.next (fvObj c a)).up 47) = some (.slice none 0 0, ((σ.up 2).put σ.next (fvObj c a)).up 47) := aLoad_cell (by kernel_rfl) (hs 47) rfl
    have l8 : aLoad Try.prog 26 (.pointer (some ⟨b, 3, none⟩)) (((σ.up 2).put σ.next (fvObj c a)).up 53) = some (.nilIface, ((σ.up 2).put σ.next (fvObj c a)).up 53) := aLoad_cell (by kernel_rfl) (hb' 53) rfl
    exact ⟨((σ.up 2).put σ.next (fvObj c a)).up 53, run (.new h1 <| .val l0 <| .no hc <| .val l1 <| .val l2 <| .yes (rfl : c = c) <| .val l3 <| .val l4 <| .yes (rfl : a = a) <| .val l5 <| .val l6 <| .val l7 <| .val l8 .nil) (by kernel_rfl), (hfr c a).up 53⟩

end Go.Proofs.Ytfokbdgiphphfaa
