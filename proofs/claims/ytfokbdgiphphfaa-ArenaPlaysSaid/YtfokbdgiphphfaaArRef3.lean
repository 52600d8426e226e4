/- The document's arena: Fill. No condition beyond the hypotheses. -/
import Derived.Test.YtfokbdgiphphfaaArRef2
import Derived.Test.YtfokbdgiphphfaaAbs31
namespace Go.Proofs.Ytfokbdgiphphfaa
open Go Go.Abs Go.RowKit

theorem bads_code {ws : List Int} {c a : Int} (h : bads ws = some (c, a)) : c = 24 := by
  cases hf : firstBad ws ws.length 0 with
  | none => simp [bads, hf] at h
  | some i => simp [bads, hf] at h; exact h.1.symm

theorem ref_fill_ok (n B : Nat) (σ : AS) {A : Nat} {v : Value} {ws : List Int} {max : Int} (hw : Wf σ) (h : Arn false σ A v ws max) (x : Value) (xs : List Int) (hx : WordsOf B σ x xs) (hxu : ∀ w ∈ xs, U64 w) (hn : 65536 < n) :
    ∃ v' σ', acall Try.prog (n + 8) (.func 36) #[ptrTo A, x] σ = some (fvOf (fillF max xs), σ') ∧ Arn false σ' A v' (fillW max ws xs) max ∧ Fr (If (fillF max xs) (foot A v)) σ σ' ∧ Moved σ v v' := by
  have toF : ∀ {τ}, Fr Nil σ τ → Fr (foot A v) σ τ := fun hf => hf.mono fun _ h => h.elim
  have toB : ∀ {τ}, Fr Nil σ τ → Fr (From B) σ τ := fun hf => hf.mono fun _ h => h.elim
  have hA := hw.lt h.obj
  have hmx := h.mx
  have hle := h.le
  have g0 : FreshAt (σ.up 1) σ.next := hw.fresh (by omega) (by omega)
  have f0 := cell_fr hw g0
  have hg : ((σ.up 1).put σ.next (fvObj 0 0)).heap.get σ.next = some (fvObj 0 0) := AS.get_put_same _ _ _
  have hg1 : ((σ.up 1).put σ.next (fvObj 0 0)).heap.get (σ.next + 10) = none := by
    rw [AS.get_put_ne _ _ (by omega)]; exact hw.none (by omega)
  have h0 := h.nil f0
  have hfl := h.foot_lt hw
  have hnR : ¬ foot A v σ.next := fun hh => by have := hfl _ hh; omega
  have hnR' : ¬ foot A v (σ.next + 10) := fun hh => by have := hfl _ hh; omega
  have hsn : ((σ.up 1).put σ.next (fvObj 0 0)).next = σ.next + 1 := rfl
  generalize hs : (σ.up 1).put σ.next (fvObj 0 0) = s at f0 hg h0 hsn hg1
  have l1 := (h0.up 7).ref_max
  by_cases h1 : max < ((xs.length : Nat) : Int)
  · have hF : fillF max xs = some (22, (xs.length : Int)) := by rw [fillF, if_pos h1]
    have hW : fillW max ws xs = ws := by rw [fillW, hF, if_neg (by simp)]
    obtain ⟨τ, t1, t2⟩ := at_ref (n + 6) (s.up 11) 22 xs.length (f0.wf.up 11)
    obtain ⟨t3, t4, f1⟩ := answer hw (f0.then t2.start) (Nat.le_refl _) (t2.same _ _ (show (s.up 11).heap.get σ.next = _ from hg) id) 22 xs.length
    rw [hF, hW]
    refine ⟨v, _, ?_, ((h0.up 11).nil t2).put hnR _, If.bad f1, Or.inl rfl⟩
    subst hs
    rcases hx.2 with hr | ⟨r, rfl, rfl⟩
    · obtain ⟨bu, cu, rfl⟩ := rd_shape hr
      exact run (.new g0 <| .val l1 <| .yes h1 <| .up t1 <| .up t3 <| .val t4 .nil) (by kernel_rfl)
    · exact run (.new g0 <| .val l1 <| .yes h1 <| .up t1 <| .up t3 <| .val t4 .nil) (by kernel_rfl)
  have hl : xs.length ≤ 65536 := by omega
  have hF : fillF max xs = bads xs := by rw [fillF, if_neg h1]
  obtain ⟨τ1, t1, f1⟩ := checkW_ref n B (s.up 11) x xs (f0.wf.up 11) (hx.fr (toB (f0.up 11))) hxu (by omega) (by omega)
  have hle1 := f1.le
  simp only [AS.next_up] at hle1
  have g1 : FreshAt τ1 (σ.next + 10) := ⟨call_low t1 (by simp only [AS.next_up]; omega) hg1, by omega⟩
  have F1 : Fr Nil σ (τ1.put (σ.next + 10) (fvObj 0 0)) := (f0.then f1.start).put _ g1.2 (Or.inr (Or.inl (by omega))) hw
  have a1 : Arn false (τ1.put (σ.next + 10) (fvObj 0 0)) A v ws max := ((h0.up 11).nil f1).put hnR' _
  have r1 : (τ1.put (σ.next + 10) (fvObj 0 0)).heap.get σ.next = some (fvObj 0 0) := by
    rw [AS.get_put_ne _ _ (by omega)]; exact f1.same _ _ (show (s.up 11).heap.get σ.next = _ from hg) id
  cases hb : bads xs with
  | some ca =>
    obtain ⟨c, a⟩ := ca
    have hc := bads_code hb
    subst hc
    rw [hb] at t1
    have hW : fillW max ws xs = ws := by rw [fillW, hF, hb, if_neg (by simp)]
    rw [hF, hb, hW]
    obtain ⟨t3, t4, f2⟩ := answer (c := 24) (a := a) hw F1 (by omega) (AS.get_put_same _ _ _)
    have a2 := a1.put hnR' (fvObj 24 a)
    have r2 : ((τ1.put (σ.next + 10) (fvObj 0 0)).put (σ.next + 10) (fvObj 24 a)).heap.get σ.next = some (fvObj 0 0) := by
      rw [AS.get_put_ne _ _ (by omega)]; exact r1
    have e2 : ((τ1.put (σ.next + 10) (fvObj 0 0)).put (σ.next + 10) (fvObj 24 a)).heap.get (σ.next + 10) = some (fvObj 24 a) := AS.get_put_same _ _ _
    generalize hs2 : (τ1.put (σ.next + 10) (fvObj 0 0)).put (σ.next + 10) (fvObj 24 a) = τ2 at t3 t4 f2 a2 r2 e2
    have t5 := load_fv (show (τ2.up 3).heap.get (σ.next + 10) = some (fvObj 24 a) from e2)
    obtain ⟨τ3, t6, f3⟩ := bad_ok (n + 6) (τ2.up 3) (f2.wf.up 3) 24 a
    have t6' : acall Try.prog (n + 7) (.func 22) #[fv 24 a] (τ2.up 3) = some (.bool true, τ3) := t6
    have e3 := f3.same _ _ (show (τ2.up 3).heap.get (σ.next + 10) = _ from e2) id
    have r3 := f3.same _ _ (show (τ2.up 3).heap.get σ.next = _ from r2) id
    have t7 := load_fv (show (τ3.up 2).heap.get (σ.next + 10) = some (fvObj 24 a) from e3)
    obtain ⟨t8, t9, f4⟩ := answer (c := 24) (a := a) hw ((f2.then f3.start).up 2) (Nat.le_refl _) (show (τ3.up 2).heap.get σ.next = _ from r3)
    refine ⟨v, _, ?_, (((a2.up 3).nil f3).up 2).put hnR _, If.bad f4, Or.inl rfl⟩
    subst hs
    rcases hx.2 with hr | ⟨r, rfl, rfl⟩
    · obtain ⟨bu, cu, rfl⟩ := rd_shape hr
      exact run (.new g0 <| .val l1 <| .no h1 <| .up t1 <| .new g1 <| .up t3 <| .val t5 <| .up t6' <| .val t7 <| .up t8 <| .val t9 .nil) (by kernel_rfl)
    · cases hb
  | none =>
    rw [hb] at t1
    have hW : fillW max ws xs = xs := by rw [fillW, hF, hb, if_pos rfl]
    rw [hF, hb, hW]
    obtain ⟨t3, t4, f2⟩ := answer (c := 0) (a := 0) hw F1 (by omega) (AS.get_put_same _ _ _)
    have a2 := a1.put hnR' (fvObj 0 0)
    have r2 : ((τ1.put (σ.next + 10) (fvObj 0 0)).put (σ.next + 10) (fvObj 0 0)).heap.get σ.next = some (fvObj 0 0) := by
      rw [AS.get_put_ne _ _ (by omega)]; exact r1
    have e2 : ((τ1.put (σ.next + 10) (fvObj 0 0)).put (σ.next + 10) (fvObj 0 0)).heap.get (σ.next + 10) = some (fvObj 0 0) := AS.get_put_same _ _ _
    generalize hs2 : (τ1.put (σ.next + 10) (fvObj 0 0)).put (σ.next + 10) (fvObj 0 0) = τ2 at t3 t4 f2 a2 r2 e2
    have t5 := load_fv (show (τ2.up 3).heap.get (σ.next + 10) = some (fvObj 0 0) from e2)
    obtain ⟨τ3, t6, f3⟩ := bad_ok (n + 6) (τ2.up 3) (f2.wf.up 3) 0 0
    have t6' : acall Try.prog (n + 7) (.func 22) #[fv 0 0] (τ2.up 3) = some (.bool false, τ3) := t6
    have e3 := f3.same _ _ (show (τ2.up 3).heap.get (σ.next + 10) = _ from e2) id
    have r3 := f3.same _ _ (show (τ2.up 3).heap.get σ.next = _ from r2) id
    have a3 := (a2.up 3).nil f3
    have F3 : Fr Nil σ τ3 := f2.then f3.start
    have hle3 := F3.le
    have g3 : FreshAt (τ3.up 7) (τ3.next + 1) := F3.wf.fresh (by omega) (by omega)
    have g4 : FreshAt (τ3.up 7) (τ3.next + 3) := F3.wf.fresh (by omega) (by omega)
    obtain ⟨w1, τ4, p1, p2, p3, p4⟩ := copyW_ok (F3.wf.up 7) (hx.fr (toB (F3.up 7))) (by omega) g3 g4 (by omega)
    have hbs : ∀ b, slBase w1 = some b → τ3.next + 1 ≤ b := fun b hb => by
      rcases p4 with p4 | p4 <;> rw [p4] at hb <;> simp only [Option.some.injEq] at hb <;> omega
    have e3lt := F3.wf.lt e3
    obtain ⟨o, q1, q2⟩ := Arn.set ((a3.up 7).nil p3).obj p2 hxu (by omega) hmx (fun hh => by have := hbs _ hh; omega)
    have f4 : Fr (foot A v) σ (τ4.put A o) := (toF (F3.then p3.start)).put _ (by have := p3.start.le; omega) (Or.inl (Or.inl rfl)) hw
    have e4 : (τ4.put A o).heap.get (σ.next + 10) = some (fvObj 0 0) := by
      rw [AS.get_put_ne _ _ (by omega)]; exact p3.same _ _ (show (τ3.up 7).heap.get _ = _ from e3) id
    have r4 : (τ4.put A o).heap.get σ.next = some (fvObj 0 0) := by
      rw [AS.get_put_ne _ _ (by omega)]; exact p3.same _ _ (show (τ3.up 7).heap.get _ = _ from r3) id
    have t7 := load_fv (show ((τ4.put A o).up 2).heap.get (σ.next + 10) = some (fvObj 0 0) from e4)
    obtain ⟨t8, t9, f5⟩ := answer (c := 0) (a := 0) hw (f4.up 2) (Nat.le_refl _) (show ((τ4.put A o).up 2).heap.get σ.next = _ from r4)
    refine ⟨w1, _, ?_, (q2.up 2).put (fun hh => ?_) _, If.good f5, Or.inr fun b hh => by have := hbs b hh; omega⟩
    · subst hs
      rcases hx.2 with hr | ⟨r, rfl, rfl⟩
      · obtain ⟨bu, cu, rfl⟩ := rd_shape hr
        exact run (.new g0 <| .val l1 <| .no h1 <| .up t1 <| .new g1 <| .up t3 <| .val t5 <| .up t6' <| .new g3 <| .up p1 <| .up q1 <| .val t7 <| .up t8 <| .val t9 .nil) (by kernel_rfl)
      · exact run (.new g0 <| .val l1 <| .no h1 <| .up t1 <| .new g1 <| .up t3 <| .val t5 <| .up t6' <| .new g3 <| .up p1 <| .up q1 <| .val t7 <| .up t8 <| .val t9 .nil) (by kernel_rfl)
    · rcases hh with hh | hh
      · omega
      · have := hbs _ hh; omega

end Go.Proofs.Ytfokbdgiphphfaa
