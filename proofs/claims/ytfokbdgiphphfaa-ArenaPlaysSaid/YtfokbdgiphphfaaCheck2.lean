/- The document's check of words; two lists being the same; a copy of a list. No condition beyond the hypotheses. -/
import Derived.Test.YtfokbdgiphphfaaCheck
namespace Go.Proofs.Ytfokbdgiphphfaa
open Go Go.Abs Go.RowKit

theorem store_fv {σ : AS} {R : Nat} {c a c' a' : Int} (h : σ.heap.get R = some (fvObj c a)) : aStore Try.prog 52 (fv c' a') (ptrTo R) σ = some (undef, σ.put R (fvObj c' a')) :=
  aStore_cells (c := fvCells c a) (by kernel_rfl) (by kernel_rfl) h (Nat.le_refl 4)
theorem load_fv {σ : AS} {R : Nat} {c a : Int} (h : σ.heap.get R = some (fvObj c a)) : aLoad Try.prog 52 (ptrTo R) σ = some (fv c a, σ) :=
  aLoad_agg (n := 4) (by kernel_rfl) (by kernel_rfl) h (Nat.le_refl 4)

theorem fvOf_bads (ws : List Int) : ∃ c a, fvOf (bads ws) = fv c a := by
  unfold bads
  cases firstBad ws ws.length 0 with
  | none => exact ⟨0, 0, rfl⟩
  | some i => exact ⟨24, i, rfl⟩

theorem check_ref (n : Nat) (σ : AS) (v : Value) (ws : List Int) (hw : Wf σ) (hr : Rd 1 σ v (u64s ws)) (hu : ∀ w ∈ ws, U64 w) (hn : ws.length < n) (hl : ws.length < 140737488355328) :
    ∃ σ', acall Try.prog (n + 7) (.func 37) #[v] σ = some (fvOf (bads ws), σ') ∧ Fr Nil σ σ' := by
  obtain ⟨base, cap, rfl⟩ := rd_shape hr
  have h0 : FreshAt (σ.up 1) σ.next := hw.fresh (Nat.le_refl _) (by omega)
  have hfr0 : Fr Nil σ (((σ.up 1).put σ.next (fvObj 0 0)).up 1) := (((Fr.refl hw).up 1).put _ (by rw [AS.next_up]; omega) (Or.inr (Or.inl (Nat.le_refl _))) hw).up 1
  have hloop := loop_block (P := Try.prog) (n := n + 6) (f := 37) (id := 0) (slots := [0, 2, 3])
    (fun j vals τ => ∃ i : Nat, i + j = ws.length ∧ vals = [.slice base ws.length cap, ptrTo σ.next, .int .i64 i] ∧ Fr Nil σ τ ∧ τ.heap.get σ.next = some (fvObj 0 0) ∧ σ.next < τ.next ∧ firstBad ws ws.length 0 = firstBad (ws.drop i) ws.length i)
    (fun e vals τ => ∃ k, vals = [.slice base ws.length cap, ptrTo σ.next, .int .i64 k] ∧ Fr Nil σ τ ∧ σ.next < τ.next ∧
      ((e = .normal ∧ τ.heap.get σ.next = some (fvObj 0 0) ∧ firstBad ws ws.length 0 = none) ∨ (e = .ret ∧ ∃ i, firstBad ws ws.length 0 = some i ∧ τ.heap.get σ.next = some (fvObj 24 i))))
    (by
      rintro j vals τ ⟨i, hij, rfl, hf, hR, hRn, hb⟩
      by_cases hi : i < ws.length
      · obtain ⟨a, rfl⟩ := rd_some hr (i := i) (by rw [u64s_length]; exact hi)
        obtain ⟨w, hw'⟩ : ∃ w, ws[i]? = some w := ⟨ws[i], List.getElem?_eq_getElem hi⟩
        have hwu : U64 w := hu w (List.mem_of_getElem? hw')
        have t1 : ((i : Nat) : Int) < ((ws.length : Nat) : Int) := by omega
        have t2 : ((i : Nat) : Int) = (i : Int) ∧ i < ws.length := ⟨rfl, hi⟩
        have t3 : aLoad Try.prog 29 (.pointer (some (addOff' a i))) (τ.up 12) = some (.int .u64 w, τ.up 12) := rd_load (by kernel_rfl) ((hr.fr (hf.up 12) fun _ _ h => h)) (u64s_at hw')
        obtain ⟨k, t4⟩ := may_ref (n + 1) (τ.up 12) w ws.length hwu
        rw [firstBad_step hw'] at hb
        cases hm : mayB w ws.length with
        | true =>
          rw [hm, if_pos rfl] at hb
          rw [hm] at t4
          have t5 : IntKind.wrap .i64 ((i : Int) + 1) = ((i + 1 : Nat) : Int) := by rw [wrap_i64 (by unfold I64; omega)]; omega
          exact ⟨.normal, _, ((τ.up 12).up k).up 3, round (.yes t1 <| .ix t2 <| .val t3 <| .up t4 <| .num t5 .nil) (by kernel_rfl), Or.inl ⟨rfl, j - 1, by omega, i + 1, by omega, rfl, ((hf.up 12).up k).up 3, hR, by simp only [AS.next_up]; omega, hb⟩⟩
        | false =>
          rw [hm] at hb t4
          obtain ⟨τ', t5, t7⟩ := at_ref (n + 5) (((τ.up 12).up k).up 3) 24 i ((((hf.up 12).up k).up 3).wf)
          have t8 := store_fv (c' := 24) (a' := i) (t7.same _ _ hR id)
          have hle := t7.le
          simp only [AS.next_up] at hle
          exact ⟨.ret, _, τ'.put σ.next (fvObj 24 i), round (.yes t1 <| .ix t2 <| .val t3 <| .up t4 <| .up t5 <| .up t8 .nil) (by kernel_rfl), Or.inr ⟨by simp, i, rfl, ((((hf.up 12).up k).up 3).then t7).put _ (by omega) (Or.inr (Or.inl (Nat.le_refl _))) hw, by rw [AS.next_put]; omega, Or.inr ⟨rfl, i, by simpa using hb, AS.get_put_same _ _ _⟩⟩⟩
      · have hie : i = ws.length := by omega
        subst hie
        have t1 : ¬ ((ws.length : Nat) : Int) < ((ws.length : Nat) : Int) := by omega
        refine ⟨.exit 0, _, τ.up 4, round (.no t1 .nil) (by kernel_rfl), Or.inr ⟨by simp, ws.length, rfl, hf.up 4, by rw [AS.next_up]; omega, Or.inl ⟨rfl, hR, ?_⟩⟩⟩
        rw [hb, List.drop_length]
        rfl)
    (j := ws.length) (vals := [.slice base ws.length cap, ptrTo σ.next, .int .i64 0]) (σ := ((σ.up 1).put σ.next (fvObj 0 0)).up 1)
    ⟨0, by omega, rfl, hfr0, AS.get_put_same _ _ _, by simp only [AS.next_up, AS.next_put]; omega, by rfl⟩ (by omega)
  obtain ⟨e, vals', τ, hblock, k, rfl, hf, hRn, hcase⟩ := hloop
  rcases hcase with ⟨rfl, hR, hb⟩ | ⟨rfl, i, hb, hR⟩
  · obtain ⟨τ', t1, t2⟩ := no_ref (n + 5) (τ.up 2) (hf.up 2).wf
    have hR' := t2.same _ _ hR id
    have hle := t2.le
    rw [AS.next_up] at hle
    have t3 := store_fv (c' := 0) (a' := 0) hR'
    have t4 := load_fv (AS.get_put_same τ' σ.next (fvObj 0 0))
    refine ⟨τ'.put σ.next (fvObj 0 0), ?_, ((hf.up 2).then t2).put _ (by omega) (Or.inr (Or.inl (Nat.le_refl _))) hw⟩
    simp only [bads, hb]
    exact run (.new h0 <| .block hblock <| .up t1 <| .up t3 <| .val t4 .nil) (by kernel_rfl)
  · have t4 := load_fv hR
    refine ⟨τ, ?_, hf⟩
    simp only [bads, hb]
    exact run (.new h0 <| .block hblock <| .val t4 .nil) (by kernel_rfl)

theorem same_ok (n : Nat) (σ : AS) (v v' : Value) (ws : List Int) (hw : Wf σ) (hr : Rd 1 σ v (u64s ws)) (hr' : Rd 1 σ v' (u64s ws)) (hn : ws.length < n) (hl : ws.length < 140737488355328) :
    ∃ σ', acall Try.prog (n + 2) (.func 12) #[v, v'] σ = some (.bool true, σ') ∧ Fr Nil σ σ' := by
  obtain ⟨base, cap, rfl⟩ := rd_shape hr
  obtain ⟨base', cap', rfl⟩ := rd_shape hr'
  have hloop := loop_block (P := Try.prog) (n := n + 1) (f := 12) (id := 0) (slots := [0, 1, 4, 5])
    (fun j vals τ => ∃ i : Nat, i + j = ws.length ∧ vals = [.slice base ws.length cap, .slice base' ws.length cap', .bool false, .int .i64 i] ∧ Fr Nil σ τ)
    (fun e vals τ => vals = [.slice base ws.length cap, .slice base' ws.length cap', .bool false, .int .i64 (ws.length : Nat)] ∧ Fr Nil σ τ ∧ e = .normal)
    (by
      rintro j vals τ ⟨i, hij, rfl, hf⟩
      by_cases hi : i < ws.length
      · obtain ⟨a, rfl⟩ := rd_some hr (i := i) (by rw [u64s_length]; exact hi)
        obtain ⟨a', rfl⟩ := rd_some hr' (i := i) (by rw [u64s_length]; exact hi)
        obtain ⟨w, hw'⟩ : ∃ w, ws[i]? = some w := ⟨ws[i], List.getElem?_eq_getElem hi⟩
        have t1 : ((i : Nat) : Int) < ((ws.length : Nat) : Int) := by omega
        have t2 : ((i : Nat) : Int) = (i : Int) ∧ i < ws.length := ⟨rfl, hi⟩
        have t3 : aLoad Try.prog 29 (.pointer (some (addOff' a i))) (τ.up 13) = some (.int .u64 w, τ.up 13) := rd_load (by kernel_rfl) ((hr.fr (hf.up 13) fun _ _ h => h)) (u64s_at hw')
        have t4 : aLoad Try.prog 29 (.pointer (some (addOff' a' i))) (τ.up 13) = some (.int .u64 w, τ.up 13) := rd_load (by kernel_rfl) ((hr'.fr (hf.up 13) fun _ _ h => h)) (u64s_at hw')
        have t5 : IntKind.wrap .i64 ((i : Int) + 1) = ((i + 1 : Nat) : Int) := by rw [wrap_i64 (by unfold I64; omega)]; omega
        exact ⟨.normal, _, τ.up 16, round (.yes t1 <| .ix t2 <| .val t3 <| .ix t2 <| .val t4 <| .yes (rfl : w = w) <| .num t5 .nil) (by kernel_rfl), Or.inl ⟨rfl, j - 1, by omega, i + 1, by omega, rfl, hf.up 16⟩⟩
      · have hie : i = ws.length := by omega
        subst hie
        have t1 : ¬ ((ws.length : Nat) : Int) < ((ws.length : Nat) : Int) := by omega
        exact ⟨.exit 0, _, τ.up 4, round (.no t1 .nil) (by kernel_rfl), Or.inr ⟨by simp, rfl, hf.up 4, rfl⟩⟩)
    (j := ws.length) (vals := [.slice base ws.length cap, .slice base' ws.length cap', .bool false, .int .i64 0]) (σ := σ.up 7)
    ⟨0, by omega, rfl, (Fr.refl hw).up 7⟩ (by omega)
  obtain ⟨e, vals', τ, hblock, rfl, hf, rfl⟩ := hloop
  have t0 : ((ws.length : Nat) : Int) = ((ws.length : Nat) : Int) := rfl
  exact ⟨τ.up 1, run (.yes t0 <| .block hblock .nil) (by kernel_rfl), hf.up 1⟩

theorem info_bytes {P : Program} {e : TypeId} {b : Nat} (h : (P.info? e).map (·.bytes) = some b) : ∃ i, P.info? e = some i ∧ i.bytes = b := by
  cases hi : P.info? e with
  | none => rw [hi] at h; cases h
  | some i => rw [hi] at h; cases h; exact ⟨i, rfl, rfl⟩

theorem u64_elem : Elem Try.prog 22 29 1 8 := ⟨by kernel_rfl, ⟨.int .u64 0, by kernel_rfl, rfl⟩, info_bytes (by kernel_rfl), by omega, by omega, by kernel_rfl⟩

/-- append of words to words. -/
theorem append_ok {σ : AS} {id : Nat} {s x : Value} {ws xs : List Int} (hs : Sl 1 σ s (u64s ws)) (hx : Rd 1 σ x (u64s xs)) (hsz : ws.length + xs.length ≤ 17592186043904) (hf : FreshAt σ id) (hw : Wf σ) :
    ∃ v' σ', aBuiltin Try.prog id .append #[22, 22] #[s, x] σ = some (v', σ') ∧ Sl 1 σ' v' (u64s (ws ++ xs)) ∧ Fr (fun i => slBase s = some i ∨ i = id) σ σ' ∧ (slBase v' = slBase s ∨ slBase v' = some id) := by
  have l1 : slLen s = ws.length := by have := hs.rd.length; rw [u64s_length] at this; omega
  have l2 : slLen x = xs.length := by have := hx.length; rw [u64s_length] at this; omega
  obtain ⟨v', σ', h1, h2, _, h4, h5⟩ := aAppend_ok u64_elem hs hx (u64s_flat xs) (by rw [l1, l2]; omega) hf hw
  exact ⟨v', σ', h1, by rw [u64s_append]; exact h2, h4, h5⟩

/-- A list in new memory. -/
theorem clone_ok (n : Nat) (σ : AS) (v : Value) (ws : List Int) (hw : Wf σ) (hr : Rd 1 σ v (u64s ws)) (hl : ws.length ≤ 17592186043904) :
    ∃ v' σ', acall Try.prog (n + 1) (.func 28) #[v] σ = some (v', σ') ∧ Sl 1 σ' v' (u64s ws) ∧ Fr Nil σ σ' ∧ (∀ b, slBase v' = some b → σ.next ≤ b) := by
  obtain ⟨base, cap, rfl⟩ := rd_shape hr
  cases base with
  | none =>
    have he : ws = [] ∧ cap = 0 := by
      rcases hr with ⟨h1, h2⟩ | ⟨a, cap, h1, _⟩ | ⟨a, len, cap, c, room, ro, h1, _⟩
      · simp only [Value.slice.injEq, true_and] at h1
        exact ⟨by simpa [u64s] using h2, h1.2⟩
      · cases h1
      · cases h1
    obtain ⟨rfl, rfl⟩ := he
    exact ⟨.slice none 0 0, σ.up 4, run .nil (by kernel_rfl), Or.inl ⟨rfl, rfl⟩, (Fr.refl hw).up 4, fun b hb => by cases hb⟩
  | some a =>
    have h0 : FreshAt (σ.up 7) (σ.next + 3) := hw.fresh (by omega) (by omega)
    have hfr0 : Fr Nil σ ((σ.up 7).put (σ.next + 3) (.cells [] 0 false)) := ((Fr.refl hw).up 7).put _ (by rw [AS.next_up]; omega) (Or.inr (Or.inl (by omega))) hw
    have hs : Sl 1 ((σ.up 7).put (σ.next + 3) (.cells [] 0 false)) (.slice (some ⟨σ.next + 3, 0, none⟩) 0 0) (u64s []) :=
      Or.inr ⟨σ.next + 3, 0, 0, [], 0, rfl, AS.get_put_same _ _ _, Or.inl rfl, Nat.le_refl _, rfl, rfl, rfl⟩
    have hx := hr.fr hfr0 fun _ _ h => h
    have hfresh : FreshAt ((σ.up 7).put (σ.next + 3) (.cells [] 0 false)) (σ.next + 5) := ⟨by rw [AS.get_put_ne _ _ (by omega)]; exact hw.none (by omega), by simp only [AS.next_put, AS.next_up]; omega⟩
    obtain ⟨v', σ', t1, t2, t3, t4⟩ := append_ok hs hx (by simpa using hl) hfresh hfr0.wf
    refine ⟨v', σ', run (.new h0 <| .up t1 .nil) (by kernel_rfl), by simpa using t2, hfr0.trans t3 (fun i hi => ?_) hw, fun b hb => ?_⟩
    · simp only [slBase, Option.some.injEq] at hi
      right; omega
    · rcases t4 with h | h
      · rw [h] at hb; simp only [slBase, Option.some.injEq] at hb; omega
      · rw [h] at hb; simp only [Option.some.injEq] at hb; omega

end Go.Proofs.Ytfokbdgiphphfaa
