/- The program's arena: what each call answers and leaves. No condition beyond the hypotheses. -/
import Derived.Test.YtfokbdgiphphfaaCheck2
namespace Go.Proofs.Ytfokbdgiphphfaa
open Go Go.Abs Go.RowKit

/-- An arena of the program (prog) or of the document's answer: its object, its words, its size. -/
structure Arn (prog : Bool) (σ : AS) (A : Nat) (v : Value) (ws : List Int) (max : Int) : Prop where
  obj : σ.heap.get A = some (.cells (bif prog then [v, .int .i64 max] else [.int .i64 max, v]) 0 false)
  sl : Sl 1 σ v (u64s ws)
  words : ∀ w ∈ ws, U64 w
  le : (ws.length : Int) ≤ max
  mx : max ≤ 65536
  apart : slBase v ≠ some A

/-- What an arena stands in. -/
def foot (A : Nat) (v : Value) : Nat → Prop := fun i => i = A ∨ slBase v = some i

/-- The slice of an arena behind a call stands where it stood, or in new memory. -/
def Moved (σ : AS) (v v' : Value) : Prop := slBase v' = slBase v ∨ ∀ b, slBase v' = some b → σ.next ≤ b

theorem Arn.shape {prog : Bool} {σ : AS} {A : Nat} {v : Value} {ws : List Int} {max : Int} (h : Arn prog σ A v ws max) : ∃ base cap, v = .slice base ws.length cap := rd_shape h.sl.rd
theorem Arn.fr {prog : Bool} {S : Nat → Prop} {σ σ' : AS} {A : Nat} {v : Value} {ws : List Int} {max : Int} (h : Arn prog σ A v ws max) (hf : Fr S σ σ') (hS : ∀ i, foot A v i → ¬ S i) : Arn prog σ' A v ws max :=
  ⟨hf.same _ _ h.obj (hS A (Or.inl rfl)), h.sl.fr hf fun b hb => hS b (Or.inr hb), h.words, h.le, h.mx, h.apart⟩
theorem Arn.nil {prog : Bool} {σ σ' : AS} {A : Nat} {v : Value} {ws : List Int} {max : Int} (h : Arn prog σ A v ws max) (hf : Fr Nil σ σ') : Arn prog σ' A v ws max := h.fr hf fun _ _ h => h
theorem Arn.up {prog : Bool} {σ : AS} {A : Nat} {v : Value} {ws : List Int} {max : Int} (h : Arn prog σ A v ws max) (k : Nat) : Arn prog (σ.up k) A v ws max :=
  ⟨h.obj, h.sl.of_get fun _ _ => rfl, h.words, h.le, h.mx, h.apart⟩

theorem Arn.load_words {σ : AS} {A : Nat} {v : Value} {ws : List Int} {max : Int} (h : Arn true σ A v ws max) : aLoad Try.prog 22 (ptrTo A) σ = some (v, σ) := aLoad_cell (by kernel_rfl) h.obj rfl
theorem Arn.load_max {σ : AS} {A : Nat} {v : Value} {ws : List Int} {max : Int} (h : Arn true σ A v ws max) : aLoad Try.prog 3 (.pointer (some ⟨A, 1, none⟩)) σ = some (.int .i64 max, σ) := aLoad_cell (by kernel_rfl) h.obj rfl

theorem max_ok (n : Nat) (σ : AS) {A : Nat} {v : Value} {ws : List Int} {max : Int} (h : Arn true σ A v ws max) : acall Try.prog (n + 1) (.func 24) #[ptrTo A] σ = some (.int .i64 max, σ.up 8) :=
  run (.val ((h.up 8).load_max) .nil) (by kernel_rfl)
theorem top_ok (n : Nat) (σ : AS) {A : Nat} {v : Value} {ws : List Int} {max : Int} (h : Arn true σ A v ws max) : acall Try.prog (n + 1) (.func 16) #[ptrTo A] σ = some (.int .i64 (ws.length : Nat), σ.up 9) := by
  obtain ⟨base, cap, rfl⟩ := h.shape
  exact run (.val ((h.up 9).load_words) .nil) (by kernel_rfl)

def loadF (ws : List Int) (x : Int) : Option (Int × Int) := if 0 ≤ x ∧ x < ws.length then none else some (23, x)
def loadW (ws : List Int) (x : Int) : Int := if 0 ≤ x then (ws[x.toNat]?).getD 0 else 0

theorem load_ok (n : Nat) (σ : AS) {A : Nat} {v : Value} {ws : List Int} {max : Int} (hw : Wf σ) (h : Arn true σ A v ws max) (x : Int) :
    ∃ e σ', acall Try.prog (n + 2) (.func 17) #[ptrTo A, .int .i64 x] σ = some (.tuple #[.int .u64 (loadW ws x), e], σ') ∧ ErrOf σ' e (loadF ws x) ∧ Fr Nil σ σ' := by
  obtain ⟨base, cap, rfl⟩ := h.shape
  by_cases h0 : x < 0
  · obtain ⟨e, τ, t1, t2, t3, _⟩ := fault_prog n (σ.up 14) 23 x (hw.up 14)
    refine ⟨e, τ, ?_, by rw [loadF, if_neg (by omega)]; exact t2, t3.start⟩
    rw [loadW, if_neg (by omega)]
    exact run (.yes h0 <| .up t1 .nil) (by kernel_rfl)
  · have l1 := (h.up 19).load_words
    by_cases h1 : ((ws.length : Nat) : Int) ≤ x
    · obtain ⟨e, τ, t1, t2, t3, _⟩ := fault_prog n (σ.up 23) 23 x (hw.up 23)
      refine ⟨e, τ, ?_, by rw [loadF, if_neg (by omega)]; exact t2, t3.start⟩
      rw [loadW, if_pos (by omega), List.getElem?_eq_none (by omega)]
      exact run (.no h0 <| .val l1 <| .yes h1 <| .up t1 .nil) (by kernel_rfl)
    · have l2 := (h.up 28).load_words
      obtain ⟨a, rfl⟩ := rd_some h.sl.rd (i := x.toNat) (by rw [u64s_length]; omega)
      have t2 : x = ((x.toNat : Nat) : Int) ∧ x.toNat < ws.length := ⟨by omega, by omega⟩
      have hg : ws[x.toNat]? = some ws[x.toNat] := List.getElem?_eq_getElem t2.2
      have t3 : aLoad Try.prog 29 (.pointer (some (addOff' a x.toNat))) (σ.up 28) = some (.int .u64 ws[x.toNat], σ.up 28) := rd_load (by kernel_rfl) (h.up 28).sl.rd (u64s_at hg)
      refine ⟨.nilIface, σ.up 28, ?_, by rw [loadF, if_pos (by omega)]; rfl, (Fr.refl hw).up 28⟩
      rw [loadW, if_pos (by omega), hg]
      exact run (.no h0 <| .val l1 <| .no h1 <| .val l2 <| .ix t2 <| .val t3 .nil) (by kernel_rfl)

def storeF (ws : List Int) (x w : Int) : Option (Int × Int) := if 0 ≤ x ∧ x < ws.length then (if mayB w ws.length then none else some (24, x)) else some (23, x)
def storeW (ws : List Int) (x w : Int) : List Int := if 0 ≤ x ∧ x < ws.length ∧ mayB w ws.length = true then ws.set x.toNat w else ws

/-- A word is put into a slice. -/
theorem sl_store {σ : AS} {a : Addr} {len cap : Nat} {ws : List Int} (h : Sl 1 σ (.slice (some a) len cap) (u64s ws)) {i : Nat} (hi : i < ws.length) (w : Int) :
    ∃ o, aStore Try.prog 29 (.int .u64 w) (.pointer (some (addOff' a i))) σ = some (undef, σ.put a.block o) ∧ Sl 1 (σ.put a.block o) (.slice (some a) len cap) (u64s (ws.set i w)) := by
  rcases h with ⟨h, _⟩ | ⟨b, len', cap', c, room, h1, h2, h3, h4, h5, h6, h7⟩
  · cases h
  · cases h1
    rw [u64s_length, Nat.mul_one] at h6
    rw [Nat.mul_one] at h5 h7
    refine ⟨.cells (c.set i (.int .u64 w)) room false, ?_, Or.inr ⟨b, len, cap, _, room, rfl, AS.get_put_same _ _ _, h3, h4, ?_, ?_, ?_⟩⟩
    · rw [addOff'_eq]
      have := aStore_cell (P := Try.prog) (t := 29) (off := 0 + i) (x := .int .u64 w) (by kernel_rfl) rfl rfl h2 (by omega)
      rw [Nat.zero_add] at this
      simp only [addOff, Nat.zero_add]
      exact this
    · rw [List.length_set, Nat.mul_one]; exact h5
    · rw [u64s_length, List.length_set, Nat.mul_one]; exact h6
    · rw [Nat.mul_one, List.take_set, h7]
      simp only [u64s, List.map_set]

theorem store_ok (n : Nat) (σ : AS) {A : Nat} {v : Value} {ws : List Int} {max : Int} (hw : Wf σ) (h : Arn true σ A v ws max) (x w : Int) (hu : U64 w) :
    ∃ e σ', acall Try.prog (n + 5) (.func 18) #[ptrTo A, .int .i64 x, .int .u64 w] σ = some (e, σ') ∧ ErrOf σ' e (storeF ws x w) ∧ Arn true σ' A v (storeW ws x w) max ∧ Fr (foot A v) σ σ' := by
  obtain ⟨base, cap, rfl⟩ := h.shape
  have toF : ∀ {τ}, Fr Nil σ τ → Fr (foot A (.slice base ws.length cap)) σ τ := fun hf => hf.mono fun _ h => h.elim
  by_cases h0 : x < 0
  · obtain ⟨e, τ, t1, t2, t3, _⟩ := fault_prog (n + 3) (σ.up 19) 23 x (hw.up 19)
    exact ⟨e, τ, run (.yes h0 <| .up t1 .nil) (by kernel_rfl), by rw [storeF, if_neg (by omega)]; exact t2, by rw [storeW, if_neg (by omega)]; exact (h.up 19).nil t3, toF t3.start⟩
  · have l1 := (h.up 16).load_words
    by_cases h1 : ((ws.length : Nat) : Int) ≤ x
    · obtain ⟨e, τ, t1, t2, t3, _⟩ := fault_prog (n + 3) (σ.up 19) 23 x (hw.up 19)
      exact ⟨e, τ, run (.no h0 <| .val l1 <| .yes h1 <| .up t1 .nil) (by kernel_rfl), by rw [storeF, if_neg (by omega)]; exact t2, by rw [storeW, if_neg (by omega)]; exact (h.up 19).nil t3, toF t3.start⟩
    · have l2 := (h.up 25).load_words
      obtain ⟨k, t1⟩ := may_prog n (σ.up 25) w ws.length hu
      cases hm : mayB w ws.length with
      | false =>
        rw [hm] at t1
        obtain ⟨e, τ, t2, t3, t4, _⟩ := fault_prog (n + 3) (((σ.up 25).up k).up 3) 24 x (((hw.up 25).up k).up 3)
        exact ⟨e, τ, run (.no h0 <| .val l1 <| .no h1 <| .val l2 <| .up t1 <| .up t2 .nil) (by kernel_rfl), by rw [storeF, if_pos (by omega), hm]; exact t3, by rw [storeW, if_neg (by simp [hm])]; exact (((h.up 25).up k).up 3).nil t4, toF t4.start.start.start⟩
      | true =>
        rw [hm] at t1
        have l3 := (((h.up 25).up k).up 8).load_words
        obtain ⟨a, rfl⟩ := rd_some h.sl.rd (i := x.toNat) (by rw [u64s_length]; omega)
        have t2 : x = ((x.toNat : Nat) : Int) ∧ x.toNat < ws.length := ⟨by omega, by omega⟩
        obtain ⟨o, t3, t4⟩ := sl_store (((h.up 25).up k).up 8).sl t2.2 w
        have hne : a.block ≠ A := fun hh => h.apart (by rw [← hh]; rfl)
        have hlt := h.sl.base_lt hw (b := a.block) rfl
        refine ⟨.nilIface, ((((σ.up 25).up k).up 8).put a.block o).up 1, run (.no h0 <| .val l1 <| .no h1 <| .val l2 <| .up t1 <| .val l3 <| .ix t2 <| .up t3 .nil) (by kernel_rfl), by rw [storeF, if_pos (by omega), hm]; rfl, ?_, ?_⟩
        · rw [storeW, if_pos ⟨by omega, by omega, hm⟩]
          refine ⟨?_, t4.of_get fun _ _ => rfl, fun u hu' => ?_, by rw [List.length_set]; exact h.le, h.mx, h.apart⟩
          · rw [AS.get_up, AS.get_put_ne _ _ (Ne.symm hne)]
            exact h.obj
          · rcases List.mem_or_eq_of_mem_set hu' with hh | hh
            · exact h.words u hh
            · rw [hh]; exact hu
        · exact (((((Fr.refl hw).up 25).up k).up 8).put _ (by simp only [AS.next_up]; omega) (Or.inl (Or.inr rfl)) hw).up 1

end Go.Proofs.Ytfokbdgiphphfaa
