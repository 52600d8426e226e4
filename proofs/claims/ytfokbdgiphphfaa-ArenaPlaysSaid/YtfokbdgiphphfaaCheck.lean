/- The first word that may not stand in a list of words, on both sides. No condition beyond the hypotheses. -/
import Derived.Test.YtfokbdgiphphfaaFaults
namespace Go.Proofs.Ytfokbdgiphphfaa
open Go Go.Abs Go.RowKit

def u64s (ws : List Int) : List Value := ws.map (.int .u64)

theorem u64s_length (ws : List Int) : (u64s ws).length = ws.length := by simp [u64s]
theorem u64s_at {ws : List Int} {i : Nat} {w : Int} (h : ws[i]? = some w) : (u64s ws)[i]? = some (.int .u64 w) := by simp [u64s, h]
theorem u64s_append (a b : List Int) : u64s (a ++ b) = u64s a ++ u64s b := by simp [u64s]
theorem u64s_flat (ws : List Int) : (u64s ws).all flat = true := by
  rw [List.all_eq_true]
  intro x hx
  obtain ⟨w, _, rfl⟩ := List.mem_map.1 hx
  rfl

theorem rd_shape {σ : AS} {v : Value} {ws : List Int} (h : Rd 1 σ v (u64s ws)) : ∃ base cap, v = .slice base ws.length cap := by
  rcases h with ⟨rfl, h⟩ | ⟨a, cap, rfl, h⟩ | ⟨a, len, cap, c, room, ro, rfl, _, _, h, _⟩
  · have : ws = [] := by simpa [u64s] using h
    subst this
    exact ⟨none, 0, rfl⟩
  · have : ws = [] := by simpa [u64s] using h
    subst this
    exact ⟨some a, cap, rfl⟩
  · rw [u64s_length, Nat.mul_one] at h
    subst h
    exact ⟨_, _, rfl⟩

theorem rd_some {σ : AS} {base : Option Addr} {len cap : Nat} {cs : List Value} (h : Rd 1 σ (.slice base len cap) cs) {i : Nat} (hi : i < cs.length) : ∃ a, base = some a := by
  rcases h with ⟨h1, rfl⟩ | ⟨a, cap, _, rfl⟩ | ⟨a, len', cap', c, room, ro, h1, _⟩
  · simp at hi
  · simp at hi
  · cases h1; exact ⟨a, rfl⟩

theorem rd_load {P : Program} {t : TypeId} {σ : AS} {a : Addr} {len cap : Nat} {cs : List Value} (ht : isAgg' P t = some false) (h : Rd 1 σ (.slice (some a) len cap) cs) {i : Nat} {x : Value} (hi : cs[i]? = some x) :
    aLoad P t (.pointer (some (addOff' a i))) σ = some (x, σ) := by
  obtain ⟨a', cap', c, room, ro, h1, h2, h3, h4⟩ := h.at1 hi
  cases h1
  rw [addOff'_eq]
  exact aLoad_cell ht h3 h4

/-- The number of the first word that may not stand there. -/
def firstBad : List Int → Int → Nat → Option Nat
  | [], _, _ => none
  | w :: r, top, i => if mayB w top then firstBad r top (i + 1) else some i

def bads (ws : List Int) : Option (Int × Int) := (firstBad ws ws.length 0).map fun i => (24, (i : Int))

theorem firstBad_ge : ∀ {ws : List Int} {top : Int} {i k : Nat}, firstBad ws top i = some k → i ≤ k ∧ k < i + ws.length
  | [], _, _, _, h => by cases h
  | w :: r, top, i, k, h => by
    unfold firstBad at h
    split at h
    · have := firstBad_ge h; simp only [List.length_cons]; omega
    · cases h; simp

theorem firstBad_step {ws : List Int} {top : Int} {i : Nat} {w : Int} (h : ws[i]? = some w) : firstBad (ws.drop i) top i = if mayB w top then firstBad (ws.drop (i + 1)) top (i + 1) else some i := by
  obtain ⟨hl, hw⟩ := List.getElem?_eq_some_iff.1 h
  rw [List.drop_eq_getElem_cons hl, hw]
  rfl

theorem check_prog (n : Nat) (σ : AS) (v : Value) (ws : List Int) (hw : Wf σ) (hr : Rd 1 σ v (u64s ws)) (hu : ∀ w ∈ ws, U64 w) (hn : ws.length < n) (hl : ws.length < 140737488355328) :
    ∃ e σ', acall Try.prog (n + 6) (.func 27) #[v] σ = some (e, σ') ∧ ErrOf σ' e (bads ws) ∧ Fr Nil σ σ' := by
  obtain ⟨base, cap, rfl⟩ := rd_shape hr
  have hloop := loop_block (P := Try.prog) (n := n + 5) (f := 27) (id := 0) (slots := [0, 2, 5, 6, 7])
    (fun j vals τ => ∃ i : Nat, i + j = ws.length ∧ vals = [.slice base ws.length cap, .nilIface, .slice base ws.length cap, .int .i64 (ws.length : Nat), .int .i64 i] ∧ Fr Nil σ τ ∧ firstBad ws ws.length 0 = firstBad (ws.drop i) ws.length i)
    (fun e vals τ => ∃ er k, vals = [.slice base ws.length cap, er, .slice base ws.length cap, .int .i64 (ws.length : Nat), .int .i64 k] ∧ Fr Nil σ τ ∧
      ((e = .normal ∧ er = .nilIface ∧ firstBad ws ws.length 0 = none) ∨ (e = .ret ∧ ∃ i, firstBad ws ws.length 0 = some i ∧ ErrOf τ er (some (24, (i : Int))))))
    (by
      rintro j vals τ ⟨i, hij, rfl, hf, hb⟩
      by_cases hi : i < ws.length
      · obtain ⟨a, rfl⟩ := rd_some hr (i := i) (by rw [u64s_length]; exact hi)
        obtain ⟨w, hw'⟩ : ∃ w, ws[i]? = some w := ⟨ws[i], List.getElem?_eq_getElem hi⟩
        have hwu : U64 w := hu w (List.mem_of_getElem? hw')
        have t1 : ((i : Nat) : Int) < ((ws.length : Nat) : Int) := by omega
        have t2 : ((i : Nat) : Int) = (i : Int) ∧ i < ws.length := ⟨rfl, hi⟩
        have t3 : aLoad Try.prog 29 (.pointer (some (addOff' a i))) (τ.up 6) = some (.int .u64 w, τ.up 6) := rd_load (by kernel_rfl) ((hr.fr (hf.up 6) fun _ _ h => h)) (u64s_at hw')
        obtain ⟨k, t4⟩ := may_prog (n + 1) (τ.up 11) w ws.length hwu
        rw [firstBad_step hw'] at hb
        cases hm : mayB w ws.length with
        | true =>
          rw [hm, if_pos rfl] at hb
          rw [hm] at t4
          have t5 : IntKind.wrap .i64 ((i : Int) + 1) = ((i + 1 : Nat) : Int) := by rw [wrap_i64 (by unfold I64; omega)]; omega
          refine ⟨.normal, _, ((τ.up 11).up k).up 2, round (.yes t1 <| .ix t2 <| .val t3 <| .up t4 <| .num t5 .nil) (by kernel_rfl), Or.inl ⟨rfl, j - 1, by omega, i + 1, by omega, rfl, ((hf.up 11).up k).up 2, hb⟩⟩
        | false =>
          rw [hm] at hb t4
          obtain ⟨er, τ', t5, t6, t7, _⟩ := fault_prog (n + 4) (((τ.up 11).up k).up 3) 24 i ((((hf.up 11).up k).up 3).wf)
          exact ⟨.ret, _, τ', round (.yes t1 <| .ix t2 <| .val t3 <| .up t4 <| .up t5 .nil) (by kernel_rfl), Or.inr ⟨by simp, er, i, rfl, (((hf.up 11).up k).up 3).then t7, Or.inr ⟨rfl, i, by simpa using hb, t6⟩⟩⟩
      · have hie : i = ws.length := by omega
        subst hie
        have t1 : ¬ ((ws.length : Nat) : Int) < ((ws.length : Nat) : Int) := by omega
        refine ⟨.exit 0, _, τ.up 1, round (.no t1 .nil) (by kernel_rfl), Or.inr ⟨by simp, .nilIface, ws.length, rfl, hf.up 1, Or.inl ⟨rfl, rfl, ?_⟩⟩⟩
        rw [hb, List.drop_length]
        rfl)
    (j := ws.length) (vals := [.slice base ws.length cap, .nilIface, .slice base ws.length cap, .int .i64 (ws.length : Nat), .int .i64 0]) (σ := σ.up 4)
    ⟨0, by omega, rfl, (Fr.refl hw).up 4, by rfl⟩ (by omega)
  obtain ⟨e, vals', τ, hblock, er, k, rfl, hf, hcase⟩ := hloop
  rcases hcase with ⟨rfl, rfl, hb⟩ | ⟨rfl, i, hb, he⟩
  · refine ⟨.nilIface, τ.up 1, run (.block hblock .nil) (by kernel_rfl), ?_, hf.up 1⟩
    simp only [bads, hb]
    rfl
  · refine ⟨er, τ, run (.block hblock .nil) (by kernel_rfl), ?_, hf⟩
    simp only [bads, hb]
    exact he

end Go.Proofs.Ytfokbdgiphphfaa
