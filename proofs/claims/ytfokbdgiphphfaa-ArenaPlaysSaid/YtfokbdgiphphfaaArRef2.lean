/- The document's arena: New, Cut, Fill. No condition beyond the hypotheses. -/
import Derived.Test.YtfokbdgiphphfaaArRef
import Derived.Test.YtfokbdgiphphfaaCopy2
namespace Go.Proofs.Ytfokbdgiphphfaa
open Go Go.Abs Go.RowKit

theorem bad_ok (n : Nat) (σ : AS) (hw : Wf σ) (c a : Int) : ∃ σ', acall Try.prog (n + 1) (.func 22) #[fv c a] σ = some (.bool (decide (c ≠ 0)), σ') ∧ Fr Nil σ σ' := by
  have g0 : FreshAt (σ.up 2) σ.next := hw.fresh (by omega) (by omega)
  have f0 : Fr Nil σ ((σ.up 2).put σ.next (fvObj c a)) := ((Fr.refl hw).up 2).put _ g0.2 (Or.inr (Or.inr g0.1)) hw
  have l1 : aLoad Try.prog 3 (ptrTo σ.next) (((σ.up 2).put σ.next (fvObj c a)).up 4) = some (.int .i64 c, ((σ.up 2).put σ.next (fvObj c a)).up 4) :=
    aLoad_cell (by kernel_rfl) (show (((σ.up 2).put σ.next (fvObj c a)).up 4).heap.get σ.next = _ from AS.get_put_same _ _ _) rfl
  by_cases h : c = 0
  · exact ⟨_, by rw [show decide (c ≠ 0) = false by simp [h]]; exact run (.new g0 <| .val l1 <| .yes h .nil) (by kernel_rfl), f0.up 4⟩
  · exact ⟨_, by rw [show decide (c ≠ 0) = true by simp [h]]; exact run (.new g0 <| .val l1 <| .no h .nil) (by kernel_rfl), f0.up 4⟩

/-- A document's arena as a value. -/
def arV (m : Int) : Value := .agg #[.int .i64 m, .slice none 0 0]
def arObj (m : Int) : AObj := .cells [.int .i64 m, .slice none 0 0] 0 false

theorem store_ar {σ : AS} {R : Nat} {m m' : Int} (h : σ.heap.get R = some (arObj m)) : aStore Try.prog 49 (arV m') (ptrTo R) σ = some (undef, σ.put R (arObj m')) :=
  aStore_cells (P := Try.prog) (t := 49) (x := arV m') (b := R) (off := 0) (c := [.int .i64 m, .slice none 0 0]) (by kernel_rfl) rfl h (Nat.le_refl 2)
theorem load_ar {σ : AS} {R : Nat} {m : Int} (h : σ.heap.get R = some (arObj m)) : aLoad Try.prog 49 (ptrTo R) σ = some (arV m, σ) :=
  aLoad_agg (n := 2) (c := [.int .i64 m, .slice none 0 0]) (by kernel_rfl) (by kernel_rfl) h (Nat.le_refl 2)

theorem ref_new_ok (n : Nat) (σ : AS) (hw : Wf σ) (m : Int) : ∃ σ', acall Try.prog (n + 2) (.func 20) #[.int .i64 m] σ = some (.tuple #[arV (if newF m = none then m else 0), fvOf (newF m)], σ') ∧ Fr Nil σ σ' := by
  have g0 : FreshAt (σ.up 2) σ.next := hw.fresh (by omega) (by omega)
  have g1 : FreshAt ((σ.up 2).put σ.next (arObj 0)) (σ.next + 1) := ⟨by rw [AS.get_put_ne _ _ (by omega)]; exact hw.none (by omega), by simp only [AS.next_put, AS.next_up]; omega⟩
  have f0 : Fr Nil σ ((((σ.up 2).put σ.next (arObj 0)).put (σ.next + 1) (fvObj 0 0)).up 11) := ((((Fr.refl hw).up 2).put _ g0.2 (Or.inr (Or.inr g0.1)) hw).put _ g1.2 (Or.inr (Or.inl (by omega))) hw).up 11
  have hg1 : ((((σ.up 2).put σ.next (arObj 0)).put (σ.next + 1) (fvObj 0 0)).up 11).heap.get σ.next = some (arObj 0) := by
    rw [AS.get_up, AS.get_put_ne _ _ (by omega)]; exact AS.get_put_same _ _ _
  have hg2 : ((((σ.up 2).put σ.next (arObj 0)).put (σ.next + 1) (fvObj 0 0)).up 11).heap.get (σ.next + 1) = some (fvObj 0 0) := AS.get_put_same _ _ _
  generalize hs : (((σ.up 2).put σ.next (arObj 0)).put (σ.next + 1) (fvObj 0 0)).up 11 = s at f0 hg1 hg2
  have fin : ∀ (τ : AS), Fr Nil s τ → ∀ c a m', ∃ τ', aStore Try.prog 49 (arV m') (ptrTo σ.next) τ = some (undef, τ.put σ.next (arObj m')) ∧ aStore Try.prog 52 (fv c a) (ptrTo (σ.next + 1)) (τ.put σ.next (arObj m')) = some (undef, τ') ∧ aLoad Try.prog 49 (ptrTo σ.next) τ' = some (arV m', τ') ∧ aLoad Try.prog 52 (ptrTo (σ.next + 1)) τ' = some (fv c a, τ') ∧ Fr Nil σ τ' := by
    intro τ hf c a m'
    have q1 := hf.same _ _ hg1 id
    have q2 := hf.same _ _ hg2 id
    have q3 : (τ.put σ.next (arObj m')).heap.get (σ.next + 1) = some (fvObj 0 0) := by rw [AS.get_put_ne _ _ (by omega)]; exact q2
    have q4 : ((τ.put σ.next (arObj m')).put (σ.next + 1) (fvObj c a)).heap.get σ.next = some (arObj m') := by rw [AS.get_put_ne _ _ (by omega)]; exact AS.get_put_same _ _ _
    exact ⟨_, store_ar q1, store_fv q3, load_ar q4, load_fv (AS.get_put_same _ _ _), ((f0.then hf).put _ (hf.wf.lt q1) (Or.inr (Or.inl (Nat.le_refl _))) hw).put _ (hf.wf.lt q2) (Or.inr (Or.inl (by omega))) hw⟩
  by_cases h0 : m < 1
  · obtain ⟨τ, t1, t2⟩ := at_ref n s 20 m f0.wf
    obtain ⟨τ', t3, t4, t5, t6, t7⟩ := fin τ t2 20 m 0
    refine ⟨τ', ?_, t7⟩
    have hF : newF m = some (20, m) := by rw [newF, if_pos (Or.inl h0)]
    rw [hF, if_neg (by simp)]
    subst hs
    exact run (.new g0 <| .new g1 <| .yes h0 <| .up t1 <| .up t3 <| .up t4 <| .val t5 <| .val t6 .nil) (by kernel_rfl)
  by_cases h1 : 65536 < m
  · obtain ⟨τ, t1, t2⟩ := at_ref n s 20 m f0.wf
    obtain ⟨τ', t3, t4, t5, t6, t7⟩ := fin τ t2 20 m 0
    refine ⟨τ', ?_, t7⟩
    have hF : newF m = some (20, m) := by rw [newF, if_pos (Or.inr h1)]
    rw [hF, if_neg (by simp)]
    subst hs
    exact run (.new g0 <| .new g1 <| .no h0 <| .yes h1 <| .up t1 <| .up t3 <| .up t4 <| .val t5 <| .val t6 .nil) (by kernel_rfl)
  · obtain ⟨τ, t1, t2⟩ := no_ref n s f0.wf
    obtain ⟨τ', t3, t4, t5, t6, t7⟩ := fin τ t2 0 0 m
    refine ⟨τ', ?_, t7⟩
    have hF : newF m = none := by rw [newF, if_neg (by omega)]
    rw [hF, if_pos rfl]
    subst hs
    exact run (.new g0 <| .new g1 <| .no h0 <| .no h1 <| .up t1 <| .up t3 <| .up t4 <| .val t5 <| .val t6 .nil) (by kernel_rfl)

/-- The first fault of a call's words, wherever they stand. -/
theorem checkW_ref (n B : Nat) (σ : AS) (v : Value) (ws : List Int) (hw : Wf σ) (hr : WordsOf B σ v ws) (hu : ∀ w ∈ ws, U64 w) (hn : ws.length < n) (hl : ws.length < 140737488355328) :
    ∃ σ', acall Try.prog (n + 7) (.func 37) #[v] σ = some (fvOf (bads ws), σ') ∧ Fr Nil σ σ' := by
  rcases hr.2 with hr | ⟨r, rfl, rfl⟩
  · exact check_ref n σ v ws hw hr hu hn hl
  · have g0 : FreshAt (σ.up 1) σ.next := hw.fresh (by omega) (by omega)
    have f0 := cell_fr hw g0
    have hg : ((σ.up 1).put σ.next (fvObj 0 0)).heap.get σ.next = some (fvObj 0 0) := AS.get_put_same _ _ _
    generalize hs : (σ.up 1).put σ.next (fvObj 0 0) = s at f0 hg
    obtain ⟨τ, t1, t2⟩ := no_ref (n + 5) (s.up 7) (f0.wf.up 7)
    obtain ⟨t3, t4, f1⟩ := answer hw (f0.then t2.start) (Nat.le_refl _) (t2.same _ _ (show (s.up 7).heap.get σ.next = _ from hg) id) 0 0
    refine ⟨_, ?_, f1⟩
    subst hs
    exact run (.new g0 <| .up t1 <| .up t3 <| .val t4 .nil) (by kernel_rfl)

theorem ref_cut_ok (n : Nat) (σ : AS) {A : Nat} {v : Value} {ws : List Int} {max : Int} (hw : Wf σ) (h : Arn false σ A v ws max) (x : Int) :
    ∃ v' σ', acall Try.prog (n + 2) (.func 35) #[ptrTo A, .int .i64 x] σ = some (fvOf (cutF ws x), σ') ∧ Arn false σ' A v' (cutW ws x) max ∧ Fr (If (cutF ws x) (foot A v)) σ σ' ∧ Moved σ v v' := by
  obtain ⟨base, cap, rfl⟩ := h.shape
  have toF : ∀ {τ}, Fr Nil σ τ → Fr (foot A (.slice base ws.length cap)) σ τ := fun hf => hf.mono fun _ h => h.elim
  have hA := hw.lt h.obj
  have hmx := h.mx
  have hle := h.le
  have g0 : FreshAt (σ.up 1) σ.next := hw.fresh (by omega) (by omega)
  have f0 := cell_fr hw g0
  have hg : ((σ.up 1).put σ.next (fvObj 0 0)).heap.get σ.next = some (fvObj 0 0) := AS.get_put_same _ _ _
  have h0 := h.nil f0
  have hfl := h.foot_lt hw
  have hnR : ¬ foot A (.slice base ws.length cap) σ.next := fun hh => by have := hfl _ hh; omega
  have hsn : ((σ.up 1).put σ.next (fvObj 0 0)).next = σ.next + 1 := rfl
  generalize hs : (σ.up 1).put σ.next (fvObj 0 0) = s at f0 hg h0 hsn
  have l1 := (h0.up 11).ref_words
  obtain ⟨τ, t1, t2⟩ := at_ref n (s.up 14) 23 x (f0.wf.up 14)
  obtain ⟨t3, t4, f1⟩ := answer hw (f0.then t2.start) (Nat.le_refl _) (t2.same _ _ (show (s.up 14).heap.get σ.next = _ from hg) id) 23 x
  have a1 : Arn false (τ.put σ.next (fvObj 23 x)) A (.slice base ws.length cap) ws max := ((h0.up 14).nil t2).put hnR _
  by_cases h1 : x < 0
  · have hF : cutF ws x = some (23, x) := by rw [cutF, if_neg (by omega)]
    have hW : cutW ws x = ws := by rw [cutW, if_neg (by omega)]
    rw [hF, hW]
    refine ⟨_, _, ?_, a1, If.bad f1, Or.inl rfl⟩
    subst hs
    exact run (.new g0 <| .yes h1 <| .up t1 <| .up t3 <| .val t4 .nil) (by kernel_rfl)
  by_cases h2 : ((ws.length : Nat) : Int) < x
  · have hF : cutF ws x = some (23, x) := by rw [cutF, if_neg (by omega)]
    have hW : cutW ws x = ws := by rw [cutW, if_neg (by omega)]
    rw [hF, hW]
    refine ⟨_, _, ?_, a1, If.bad f1, Or.inl rfl⟩
    subst hs
    exact run (.new g0 <| .no h1 <| .val l1 <| .yes h2 <| .up t1 <| .up t3 <| .val t4 .nil) (by kernel_rfl)
  obtain ⟨k, rfl⟩ : ∃ k : Nat, x = (k : Int) := ⟨x.toNat, by omega⟩
  have hF : cutF ws k = none := by rw [cutF, if_pos (by omega)]
  have hW : cutW ws k = ws.take k := by rw [cutW, if_pos (by omega), Int.toNat_natCast]
  rw [hF, hW]
  have g1 : FreshAt (s.up 23) (σ.next + 13) := f0.wf.fresh (by omega) (by omega)
  have g2 : FreshAt (s.up 23) (σ.next + 20) := f0.wf.fresh (by omega) (by omega)
  have hput : Fr Nil (s.up 23) ((s.up 23).put (σ.next + 13) (.cells [] 0 false)) := (Fr.refl (f0.wf.up 23)).put _ g1.2 (Or.inr (Or.inr g1.1)) (f0.wf.up 23)
  have h3 := (h0.up 23).nil hput
  have l2 := h3.ref_words
  -- what stands behind the copy
  have tail : ∀ (xs : Value), Rd 1 (s.up 23) xs (u64s (ws.take k)) → ∃ w1 τ4 o τ1 τ2, aBuiltin Try.prog (σ.next + 20) .append #[22, 22] #[.slice (some ⟨σ.next + 13, 0, none⟩) 0 0, xs] ((s.up 23).put (σ.next + 13) (.cells [] 0 false)) = some (w1, τ4) ∧
      aStore Try.prog 22 w1 (.pointer (some ⟨A, 1, none⟩)) τ4 = some (undef, τ4.put A o) ∧ acall Try.prog (n + 1) (.func 31) #[] ((τ4.put A o).up 2) = some (fv 0 0, τ1) ∧ aStore Try.prog 52 (fv 0 0) (ptrTo σ.next) τ1 = some (undef, τ2) ∧ aLoad Try.prog 52 (ptrTo σ.next) τ2 = some (fv 0 0, τ2) ∧
      Arn false τ2 A w1 (ws.take k) max ∧ Fr (foot A (.slice base ws.length cap)) σ τ2 ∧ ∀ b, slBase w1 = some b → σ.next ≤ b := by
    intro xs hx
    obtain ⟨w1, τ4, p1, p2, p3, p4⟩ := copy_ok (f0.wf.up 23) hx (by rw [List.length_take]; omega) g1 g2 (by omega)
    have hb : ∀ b, slBase w1 = some b → σ.next + 13 ≤ b := fun b hb => by
      rcases p4 with p4 | p4 <;> rw [p4] at hb <;> simp only [Option.some.injEq] at hb <;> omega
    obtain ⟨o, q1, q2⟩ := Arn.set ((h0.up 23).nil p3).obj p2 (fun w hw' => h.words w (List.mem_of_mem_take hw')) (by rw [List.length_take]; omega) hmx (fun hh => by have := hb _ hh; omega)
    have f4 : Fr (foot A (.slice base ws.length cap)) σ (τ4.put A o) := (toF (f0.then p3.start)).put _ (by have := p3.start.le; omega) (Or.inl (Or.inl rfl)) hw
    have hg4 : (τ4.put A o).heap.get σ.next = some (fvObj 0 0) := by
      rw [AS.get_put_ne _ _ (by omega)]
      exact p3.same _ _ (show (s.up 23).heap.get σ.next = _ from hg) id
    obtain ⟨τ1, r1, r2⟩ := no_ref n ((τ4.put A o).up 2) (f4.wf.up 2)
    obtain ⟨r3, r4, f5⟩ := answer hw (f4.then (r2.start.mono fun _ h => h.elim)) (Nat.le_refl _) (r2.same _ _ (show ((τ4.put A o).up 2).heap.get σ.next = _ from hg4) id) 0 0
    refine ⟨w1, τ4, o, τ1, _, p1, q1, r1, r3, r4, ((q2.up 2).nil r2).put (fun hh => ?_) _, f5, fun b hh => by have := hb b hh; omega⟩
    rcases hh with hh | hh
    · omega
    · have := hb _ hh; omega
  cases base with
  | none =>
    have hws : ws = [] ∧ cap = 0 := by
      rcases h.sl with ⟨h1, h2⟩ | ⟨b, len, cap, c, room, h1, _⟩
      · simp only [Value.slice.injEq, true_and] at h1
        exact ⟨by simpa [u64s] using h2, h1.2⟩
      · cases h1
    obtain ⟨rfl, rfl⟩ := hws
    have hk : k = 0 := by simp at h2; omega
    subst hk
    obtain ⟨w1, τ4, o, τ1, τ2, p1, p2, p3, p4, p5, p6, p7, p8⟩ := tail (.slice none 0 0) (Or.inl ⟨rfl, rfl⟩)
    refine ⟨w1, τ2, ?_, p6, If.good p7, Or.inr p8⟩
    subst hs
    exact run (.new g0 <| .val l1 <| .new g1 <| .val l2 <| .auto <| .up p1 <| .up p2 <| .up p3 <| .up p4 <| .val p5 .nil) (by kernel_rfl)
  | some a =>
    obtain ⟨ab, ao, asp⟩ := a
    have ha : ao = 0 ∧ asp = none := by
      rcases h.sl with ⟨h1, _⟩ | ⟨b, len, cap, c, room, h1, _⟩
      · cases h1
      · cases h1; exact ⟨rfl, rfl⟩
    obtain ⟨rfl, rfl⟩ := ha
    have hk : k ≤ ws.length := by omega
    obtain ⟨t5, t6⟩ := Sl.head (P := Try.prog) (t := 22) (e := 29) (id := σ.next + 19) (j := .i64) (by kernel_rfl) h3.sl (x := k) hk
    obtain ⟨_, t7⟩ := Sl.head (P := Try.prog) (t := 22) (e := 29) (id := σ.next + 19) (j := .i64) (by kernel_rfl) (h0.up 23).sl (x := k) hk
    rw [Nat.mul_one, u64s_take] at t7
    obtain ⟨w1, τ4, o, τ1, τ2, p1, p2, p3, p4, p5, p6, p7, p8⟩ := tail _ t7.rd
    refine ⟨w1, τ2, ?_, p6, If.good p7, Or.inr p8⟩
    have h1' : ¬ ((k : Int) < 0) := h1
    subst hs
    exact run (.new g0 <| .no h1' <| .val l1 <| .no h2 <| .new g1 <| .val l2 <| .up t5 <| .up p1 <| .up p2 <| .up p3 <| .up p4 <| .val p5 .nil) (by kernel_rfl)

end Go.Proofs.Ytfokbdgiphphfaa
