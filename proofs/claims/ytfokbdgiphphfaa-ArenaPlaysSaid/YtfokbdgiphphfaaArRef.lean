/- The document's arena: Load, Store, Alloc. No condition beyond the hypotheses. -/
import Derived.Test.YtfokbdgiphphfaaLawOwns
namespace Go.Proofs.Ytfokbdgiphphfaa
open Go Go.Abs Go.RowKit

theorem Arn.ref_words {σ : AS} {A : Nat} {v : Value} {ws : List Int} {max : Int} (h : Arn false σ A v ws max) : aLoad Try.prog 22 (.pointer (some ⟨A, 1, none⟩)) σ = some (v, σ) := aLoad_cell (by kernel_rfl) h.obj rfl
theorem Arn.ref_max {σ : AS} {A : Nat} {v : Value} {ws : List Int} {max : Int} (h : Arn false σ A v ws max) : aLoad Try.prog 3 (ptrTo A) σ = some (.int .i64 max, σ) := aLoad_cell (by kernel_rfl) h.obj rfl

/-- A result's own cell, as it is at a function's entry. -/
theorem cell_fr {σ : AS} (hw : Wf σ) {k R : Nat} (hf : FreshAt (σ.up k) R) : Fr Nil σ ((σ.up k).put R (fvObj 0 0)) := ((Fr.refl hw).up k).put _ hf.2 (Or.inr (Or.inr hf.1)) hw

/-- What stands behind a fault that is answered. -/
theorem res_fr {S : Nat → Prop} {σ τ : AS} (hw : Wf σ) {R : Nat} (h : Fr S σ τ) (hR : σ.next ≤ R) {c a c' a' : Int} (hg : τ.heap.get R = some (fvObj c' a')) : Fr S σ (τ.put R (fvObj c a)) := h.put _ (h.wf.lt hg) (Or.inr (Or.inl hR)) hw

theorem Arn.put {prog : Bool} {σ : AS} {A R : Nat} {v : Value} {ws : List Int} {max : Int} (h : Arn prog σ A v ws max) (hR : ¬ foot A v R) (o : AObj) : Arn prog (σ.put R o) A v ws max :=
  ⟨by rw [AS.get_put_ne _ _ (fun hh => hR (Or.inl hh.symm))]; exact h.obj, h.sl.of_get fun b hb => AS.get_put_ne _ _ (fun hh => hR (Or.inr (by rw [← hh]; exact hb))), h.words, h.le, h.mx, h.apart⟩

theorem Arn.foot_lt {prog : Bool} {σ : AS} {A : Nat} {v : Value} {ws : List Int} {max : Int} (h : Arn prog σ A v ws max) (hw : Wf σ) : ∀ i, foot A v i → i < σ.next := fun i hi => by
  rcases hi with rfl | hi
  · exact hw.lt h.obj
  · exact h.sl.base_lt hw hi

theorem ref_load_ok (n : Nat) (σ : AS) {A : Nat} {v : Value} {ws : List Int} {max : Int} (hw : Wf σ) (h : Arn false σ A v ws max) (x : Int) :
    ∃ σ', acall Try.prog (n + 3) (.func 33) #[ptrTo A, .int .i64 x] σ = some (.tuple #[.int .u64 (loadW ws x), fvOf (loadF ws x)], σ') ∧ Fr Nil σ σ' := by
  obtain ⟨base, cap, rfl⟩ := h.shape
  have g0 : FreshAt (σ.up 2) (σ.next + 1) := hw.fresh (by omega) (by omega)
  have f0 := cell_fr hw g0
  have hg : ((σ.up 2).put (σ.next + 1) (fvObj 0 0)).heap.get (σ.next + 1) = some (fvObj 0 0) := AS.get_put_same _ _ _
  have h0 := h.nil f0
  generalize hs : (σ.up 2).put (σ.next + 1) (fvObj 0 0) = s at f0 hg h0
  have l1 := (h0.up 11).ref_words
  have l2 := (h0.up 21).ref_words
  have bad : ∀ (ho : loadF ws x = some (23, x)) (hl : loadW ws x = 0) {σ' : AS}, acall Try.prog (n + 3) (.func 33) #[ptrTo A, .int .i64 x] σ = some (.tuple #[.int .u64 0, fv 23 x], σ') → Fr Nil σ σ' → ∃ σ', acall Try.prog (n + 3) (.func 33) #[ptrTo A, .int .i64 x] σ = some (.tuple #[.int .u64 (loadW ws x), fvOf (loadF ws x)], σ') ∧ Fr Nil σ σ' := fun ho hl σ' h1 h2 => ⟨σ', by rw [ho, hl]; exact h1, h2⟩
  obtain ⟨τ, t1, t2⟩ := at_ref (n + 1) (s.up 15) 23 x (f0.wf.up 15)
  have hgτ := t2.same _ _ (show (s.up 15).heap.get (σ.next + 1) = _ from hg) id
  have t3 := store_fv (c' := 23) (a' := x) hgτ
  have t4 : aLoad Try.prog 52 (ptrTo (σ.next + 1)) (τ.put (σ.next + 1) (fvObj 23 x)) = some (fv 23 x, τ.put (σ.next + 1) (fvObj 23 x)) := load_fv (AS.get_put_same _ _ _)
  have f1 : Fr Nil σ (τ.put (σ.next + 1) (fvObj 23 x)) := (f0.then t2.start).put _ (t2.wf.lt hgτ) (Or.inr (Or.inl (by omega))) hw
  by_cases h1 : x < 0
  · refine bad (by rw [loadF, if_neg (by omega)]) (by rw [loadW, if_neg (by omega)]) (σ' := τ.put (σ.next + 1) (fvObj 23 x)) ?_ f1
    subst hs
    exact run (.new g0 <| .yes h1 <| .up t1 <| .up t3 <| .val t4 .nil) (by kernel_rfl)
  by_cases h2 : ((ws.length : Nat) : Int) ≤ x
  · refine bad (by rw [loadF, if_neg (by omega)]) (by rw [loadW, if_pos (by omega), List.getElem?_eq_none (by omega)]; rfl) (σ' := τ.put (σ.next + 1) (fvObj 23 x)) ?_ f1
    subst hs
    exact run (.new g0 <| .no h1 <| .val l1 <| .yes h2 <| .up t1 <| .up t3 <| .val t4 .nil) (by kernel_rfl)
  obtain ⟨i, rfl⟩ : ∃ i : Nat, x = (i : Int) := ⟨x.toNat, by omega⟩
  have hi : i < ws.length := by omega
  obtain ⟨w, hw'⟩ : ∃ w, ws[i]? = some w := ⟨ws[i], List.getElem?_eq_getElem hi⟩
  obtain ⟨a, rfl⟩ := rd_some h.sl.rd (i := i) (by rw [u64s_length]; exact hi)
  have ix : ((i : Nat) : Int) = (i : Int) ∧ i < ws.length := ⟨rfl, hi⟩
  have l3 : aLoad Try.prog 29 (.pointer (some (addOff' a i))) (s.up 21) = some (.int .u64 w, s.up 21) := rd_load (by kernel_rfl) (h0.up 21).sl.rd (u64s_at hw')
  obtain ⟨τ2, p1, p2⟩ := no_ref (n + 1) (s.up 21) (f0.wf.up 21)
  have hgτ2 := p2.same _ _ (show (s.up 21).heap.get (σ.next + 1) = _ from hg) id
  have p3 := store_fv (c' := 0) (a' := 0) hgτ2
  have p4 : aLoad Try.prog 52 (ptrTo (σ.next + 1)) (τ2.put (σ.next + 1) (fvObj 0 0)) = some (fv 0 0, τ2.put (σ.next + 1) (fvObj 0 0)) := load_fv (AS.get_put_same _ _ _)
  have l4 := ((h0.up 21).nil p2).ref_words
  have l5 : aLoad Try.prog 29 (.pointer (some (addOff' a i))) τ2 = some (.int .u64 w, τ2) := rd_load (by kernel_rfl) ((h0.up 21).nil p2).sl.rd (u64s_at hw')
  have f2 : Fr Nil σ (τ2.put (σ.next + 1) (fvObj 0 0)) := (f0.then p2.start).put _ (p2.wf.lt hgτ2) (Or.inr (Or.inl (by omega))) hw
  refine ⟨_, ?_, f2⟩
  rw [loadF, if_pos (by omega), loadW, if_pos (by omega), Int.toNat_natCast, hw']
  subst hs
  exact run (.new g0 <| .no h1 <| .val l1 <| .no h2 <| .val l2 <| .ix ix <| .val l3 <| .up p1 <| .up p3 <| .also l4 <| .also l5 <| .val p4 .nil) (by kernel_rfl)

/-- A fault (or none) is put into a result's cell and answered. -/
theorem answer {σ τ : AS} {S : Nat → Prop} (hw : Wf σ) {R : Nat} (hf : Fr S σ τ) (hR : σ.next ≤ R) {c0 a0 : Int} (hg : τ.heap.get R = some (fvObj c0 a0)) (c a : Int) :
    aStore Try.prog 52 (fv c a) (ptrTo R) τ = some (undef, τ.put R (fvObj c a)) ∧ aLoad Try.prog 52 (ptrTo R) (τ.put R (fvObj c a)) = some (fv c a, τ.put R (fvObj c a)) ∧ Fr S σ (τ.put R (fvObj c a)) :=
  ⟨store_fv hg, load_fv (AS.get_put_same _ _ _), hf.put _ (hf.wf.lt hg) (Or.inr (Or.inl hR)) hw⟩

/-- Only where there is no fault. -/
def If (o : Option (Int × Int)) (S : Nat → Prop) : Nat → Prop := fun i => o = none ∧ S i
theorem If.bad {o : Option (Int × Int)} {S : Nat → Prop} {σ τ : AS} (h : Fr Nil σ τ) : Fr (If o S) σ τ := h.mono fun _ h => h.elim
theorem If.good {S : Nat → Prop} {σ τ : AS} (h : Fr S σ τ) : Fr (If none S) σ τ := h.mono fun _ h => ⟨rfl, h⟩
theorem If.all {o : Option (Int × Int)} {S : Nat → Prop} {σ τ : AS} (h : Fr (If o S) σ τ) : Fr S σ τ := h.mono fun _ h => h.2
theorem If.err {o : Option (Int × Int)} {S : Nat → Prop} {σ τ : AS} {e : Value} (h : Fr (If o S) σ τ) (he : ErrOf σ e o) : ErrOf τ e o := by
  cases o with
  | none => exact he
  | some ca => exact he.nil (h.mono fun i hi => by cases hi.1)

theorem ref_store_ok (n : Nat) (σ : AS) {A : Nat} {v : Value} {ws : List Int} {max : Int} (hw : Wf σ) (h : Arn false σ A v ws max) (x w : Int) (hu : U64 w) :
    ∃ σ', acall Try.prog (n + 6) (.func 34) #[ptrTo A, .int .i64 x, .int .u64 w] σ = some (fvOf (storeF ws x w), σ') ∧ Arn false σ' A v (storeW ws x w) max ∧ Fr (If (storeF ws x w) (foot A v)) σ σ' := by
  obtain ⟨base, cap, rfl⟩ := h.shape
  have toF : ∀ {τ}, Fr Nil σ τ → Fr (foot A (.slice base ws.length cap)) σ τ := fun hf => hf.mono fun _ h => h.elim
  have g0 : FreshAt (σ.up 1) σ.next := hw.fresh (by omega) (by omega)
  have f0 := cell_fr hw g0
  have hg : ((σ.up 1).put σ.next (fvObj 0 0)).heap.get σ.next = some (fvObj 0 0) := AS.get_put_same _ _ _
  have h0 := h.nil f0
  have hfl := h.foot_lt hw
  have hnR : ¬ foot A (.slice base ws.length cap) σ.next := fun hh => by have := hfl _ hh; omega
  generalize hs : (σ.up 1).put σ.next (fvObj 0 0) = s at f0 hg h0
  have l1 := (h0.up 11).ref_words
  have l2 := (h0.up 19).ref_words
  obtain ⟨τ, t1, t2⟩ := at_ref (n + 4) (s.up 14) 23 x (f0.wf.up 14)
  obtain ⟨t3, t4, f1⟩ := answer hw (f0.then t2.start) (Nat.le_refl _) (t2.same _ _ (show (s.up 14).heap.get σ.next = _ from hg) id) 23 x
  have a1 : Arn false (τ.put σ.next (fvObj 23 x)) A (.slice base ws.length cap) ws max := ((h0.up 14).nil t2).put hnR _
  by_cases h1 : x < 0
  · have hF : storeF ws x w = some (23, x) := by rw [storeF, if_neg (by omega)]
    have hW : storeW ws x w = ws := by rw [storeW, if_neg (by omega)]
    rw [hF, hW]
    refine ⟨_, ?_, a1, If.bad f1⟩
    subst hs
    exact run (.new g0 <| .yes h1 <| .up t1 <| .up t3 <| .val t4 .nil) (by kernel_rfl)
  by_cases h2 : ((ws.length : Nat) : Int) ≤ x
  · have hF : storeF ws x w = some (23, x) := by rw [storeF, if_neg (by omega)]
    have hW : storeW ws x w = ws := by rw [storeW, if_neg (by omega)]
    rw [hF, hW]
    refine ⟨_, ?_, a1, If.bad f1⟩
    subst hs
    exact run (.new g0 <| .no h1 <| .val l1 <| .yes h2 <| .up t1 <| .up t3 <| .val t4 .nil) (by kernel_rfl)
  obtain ⟨k, m1⟩ := may_ref n (s.up 19) w ws.length hu
  cases hm : mayB w ws.length with
  | false =>
    rw [hm] at m1
    have hF : storeF ws x w = some (24, x) := by rw [storeF, if_pos (by omega), if_neg (by rw [hm]; decide)]
    have hW : storeW ws x w = ws := by rw [storeW, if_neg (by rw [hm]; simp)]
    rw [hF, hW]
    obtain ⟨τ, p1, p2⟩ := at_ref (n + 4) (((s.up 19).up k).up 3) 24 x (((f0.wf.up 19).up k).up 3)
    obtain ⟨p3, p4, f2⟩ := answer hw (f0.then p2.start.start.start) (Nat.le_refl _) (p2.same _ _ (show s.heap.get σ.next = _ from hg) id) 24 x
    refine ⟨_, ?_, ((((h0.up 19).up k).up 3).nil p2).put hnR _, If.bad f2⟩
    subst hs
    exact run (.new g0 <| .no h1 <| .val l1 <| .no h2 <| .val l2 <| .up m1 <| .up p1 <| .up p3 <| .val p4 .nil) (by kernel_rfl)
  | true =>
    rw [hm] at m1
    obtain ⟨i, rfl⟩ : ∃ i : Nat, x = (i : Int) := ⟨x.toNat, by omega⟩
    have hi : i < ws.length := by omega
    have hF : storeF ws i w = none := by rw [storeF, if_pos (by omega), if_pos hm]
    have hW : storeW ws i w = ws.set i w := by rw [storeW, if_pos ⟨by omega, by omega, hm⟩, Int.toNat_natCast]
    rw [hF, hW]
    obtain ⟨a, rfl⟩ := rd_some h.sl.rd (i := i) (by rw [u64s_length]; exact hi)
    have ix : ((i : Nat) : Int) = (i : Int) ∧ i < ws.length := ⟨rfl, hi⟩
    have hh := ((h0.up 19).up k).up 8
    have l3 := hh.ref_words
    obtain ⟨o, q1, q2⟩ := sl_store hh.sl hi w
    have hwh : Wf (((s.up 19).up k).up 8) := ((f0.wf.up 19).up k).up 8
    have hne : a.block ≠ A := fun e => h.apart (by rw [← e]; rfl)
    have hlt := h.sl.base_lt hw (b := a.block) rfl
    have hltA := hw.lt h.obj
    have f3 : Fr (foot A (.slice (some a) ws.length cap)) σ ((((s.up 19).up k).up 8).put a.block o) := ((((toF f0).up 19).up k).up 8).put _ (by have := f0.le; simp only [AS.next_up]; omega) (Or.inl (Or.inr rfl)) hw
    have a3 : Arn false ((((s.up 19).up k).up 8).put a.block o) A (.slice (some a) ws.length cap) (ws.set i w) max := by
      refine ⟨?_, q2, fun u hu' => ?_, by rw [List.length_set]; exact h.le, h.mx, h.apart⟩
      · rw [AS.get_put_ne _ _ (Ne.symm hne)]
        exact hh.obj
      · rcases List.mem_or_eq_of_mem_set hu' with hh | hh
        · exact h.words u hh
        · rw [hh]; exact hu
    have hg3 : ((((s.up 19).up k).up 8).put a.block o).heap.get σ.next = some (fvObj 0 0) := by
      rw [AS.get_put_ne _ _ (by omega)]; exact hg
    obtain ⟨τ, p1, p2⟩ := no_ref (n + 4) (((((s.up 19).up k).up 8).put a.block o).up 2) (f3.wf.up 2)
    obtain ⟨p3, p4, f2⟩ := answer hw (f3.then (p2.start.mono fun _ h => h.elim)) (Nat.le_refl _) (p2.same _ _ (show (((((s.up 19).up k).up 8).put a.block o).up 2).heap.get σ.next = _ from hg3) id) 0 0
    refine ⟨_, ?_, ((a3.up 2).nil p2).put hnR _, If.good f2⟩
    subst hs
    exact run (.new g0 <| .no h1 <| .val l1 <| .no h2 <| .val l2 <| .up m1 <| .val l3 <| .ix ix <| .up q1 <| .up p1 <| .up p3 <| .val p4 .nil) (by kernel_rfl)

theorem ref_alloc_ok (n : Nat) (σ : AS) {A : Nat} {v : Value} {ws : List Int} {max : Int} (hw : Wf σ) (h : Arn false σ A v ws max) (x : Int) (hn : 65536 < n) :
    ∃ v' σ', acall Try.prog (n + 3) (.func 32) #[ptrTo A, .int .i64 x] σ = some (.tuple #[.int .i64 (allocV max ws.length x), fvOf (allocF max ws.length x)], σ') ∧ Arn false σ' A v' (allocW max ws x) max ∧ Fr (If (allocF max ws.length x) (foot A v)) σ σ' ∧ Moved σ v v' := by
  have toF : ∀ {τ}, Fr Nil σ τ → Fr (foot A v) σ τ := fun hf => hf.mono fun _ h => h.elim
  have hle := h.le
  have hmx := h.mx
  have hA := hw.lt h.obj
  have g0 : FreshAt (σ.up 2) (σ.next + 1) := hw.fresh (by omega) (by omega)
  have f0 := cell_fr hw g0
  have hg : ((σ.up 2).put (σ.next + 1) (fvObj 0 0)).heap.get (σ.next + 1) = some (fvObj 0 0) := AS.get_put_same _ _ _
  have h0 := h.nil f0
  have hfl := h.foot_lt hw
  have hnR : ¬ foot A v (σ.next + 1) := fun hh => by have := hfl _ hh; omega
  generalize hs : (σ.up 2).put (σ.next + 1) (fvObj 0 0) = s at f0 hg h0
  by_cases h1 : x < 1
  · have hF : allocF max ws.length x = some (21, x) := by rw [allocF, if_pos h1]
    obtain ⟨τ, t1, t2⟩ := at_ref (n + 1) (s.up 6) 21 x (f0.wf.up 6)
    obtain ⟨t3, t4, f1⟩ := answer hw (f0.then t2.start) (by omega) (t2.same _ _ (show (s.up 6).heap.get (σ.next + 1) = _ from hg) id) 21 x
    refine ⟨v, _, ?_, by rw [allocW, hF, if_neg (by simp)]; exact ((h0.up 6).nil t2).put hnR _, If.bad f1, Or.inl rfl⟩
    rw [allocV, hF, if_neg (by simp)]
    subst hs
    exact run (.new g0 <| .yes h1 <| .up t1 <| .up t3 <| .val t4 .nil) (by kernel_rfl)
  obtain ⟨base, cap, rfl⟩ := h.shape
  have l1 := (h0.up 8).ref_words
  have l2 := (h0.up 16).ref_max
  have t0 : IntKind.wrap .i64 (max - ((ws.length : Nat) : Int)) = max - ((ws.length : Nat) : Int) := wrap_i64 (by unfold I64; omega)
  by_cases h2 : max - ((ws.length : Nat) : Int) < x
  · have hF : allocF max ws.length x = some (22, x) := by rw [allocF, if_neg h1, if_pos h2]
    obtain ⟨τ, t1, t2⟩ := at_ref (n + 1) (s.up 20) 22 x (f0.wf.up 20)
    obtain ⟨t3, t4, f1⟩ := answer hw (f0.then t2.start) (by omega) (t2.same _ _ (show (s.up 20).heap.get (σ.next + 1) = _ from hg) id) 22 x
    refine ⟨_, _, ?_, by rw [allocW, hF, if_neg (by simp)]; exact ((h0.up 20).nil t2).put hnR _, If.bad f1, Or.inl rfl⟩
    rw [allocV, hF, if_neg (by simp)]
    subst hs
    exact run (.new g0 <| .no h1 <| .val l1 <| .val l2 <| .num t0 <| .yes h2 <| .up t1 <| .up t3 <| .val t4 .nil) (by kernel_rfl)
  have hF : allocF max ws.length x = none := by rw [allocF, if_neg h1, if_neg h2]
  obtain ⟨m, rfl⟩ : ∃ m : Nat, x = (m : Int) := ⟨x.toNat, by omega⟩
  have hloop := loop_block (P := Try.prog) (n := n + 2) (f := 32) (id := 0) (slots := [0, 1, 5, 6, 7])
    (fun j vals τ => ∃ (i : Nat) (v' : Value), i + j = m ∧ vals = [ptrTo A, .int .i64 (m : Int), ptrTo (σ.next + 1), .int .i64 (ws.length : Nat), .int .i64 i] ∧ Arn false τ A v' (ws ++ fresh ws.length i) max ∧ Fr (foot A (.slice base ws.length cap)) s τ ∧ Moved s (.slice base ws.length cap) v')
    (fun e vals τ => ∃ v', e = .normal ∧ vals = [ptrTo A, .int .i64 (m : Int), ptrTo (σ.next + 1), .int .i64 (ws.length : Nat), .int .i64 (m : Int)] ∧ Arn false τ A v' (ws ++ fresh ws.length m) max ∧ Fr (foot A (.slice base ws.length cap)) s τ ∧ Moved s (.slice base ws.length cap) v')
    (by
      rintro j vals τ ⟨i, v', hij, rfl, ha, hf, hm⟩
      by_cases hi : i < m
      · have s1 : ((i : Nat) : Int) < (m : Int) := by omega
        have s2 : IntKind.wrap .i64 (((ws.length : Nat) : Int) + (i : Int)) = ((ws.length + i : Nat) : Int) := by rw [wrap_i64 (by unfold I64; omega)]; omega
        have s2' : IntKind.wrap .u64 ((ws.length + i : Nat) : Int) = ((ws.length + i : Nat) : Int) := wrap_u64 (by unfold U64; omega)
        have s2'' : IntKind.wrap .u64 (8 * ((ws.length + i : Nat) : Int)) = 8 * ((ws.length + i : Nat) : Int) := wrap_u64 (by unfold U64; omega)
        obtain ⟨base', cap', rfl⟩ := ha.shape
        have s3 := (ha.up 17).ref_words
        have g1 : FreshAt (τ.up 22) (τ.next + 12) := hf.wf.fresh (by omega) (by omega)
        have g2 : FreshAt (τ.up 22) (τ.next + 13) := hf.wf.fresh (by omega) (by omega)
        have hlen : (ws ++ fresh ws.length i).length = ws.length + i := by rw [List.length_append, fresh_length]
        have hAτ := hf.wf.lt ha.obj
        obtain ⟨u, τ2, s6, s7, s8, s9⟩ := grow_one (k := 8 * ((ws.length + i : Nat) : Int)) (hf.wf.up 22) (ha.up 22).sl (by rw [hlen]; omega) g1 g2 (by omega)
        have hobj := s8.same _ _ (ha.up 22).obj (fun hh => ha.apart hh)
        rw [List.append_assoc, ← fresh_succ] at s7
        have hua : slBase u ≠ some A := by
          rcases s9 with s9 | s9
          · rw [s9]; exact ha.apart
          · rw [s9]; intro hh; simp only [Option.some.injEq] at hh; omega
        obtain ⟨o, s10, s11⟩ := Arn.set hobj s7 (fun w hw' => by
          rcases List.mem_append.1 hw' with hh | hh
          · exact h.words w hh
          · obtain ⟨q, hq, rfl⟩ := List.mem_map.1 hh
            have := List.mem_range.1 hq
            unfold U64
            omega) (by rw [List.length_append, fresh_length]; omega) hmx hua
        have hput : Fr Nil (τ.up 22) ((τ.up 22).put (τ.next + 12) (.cells [.int .u64 (8 * ((ws.length + i : Nat) : Int))] 0 false)) := (Fr.refl (hf.wf.up 22)).put _ g1.2 (Or.inr (Or.inr g1.1)) (hf.wf.up 22)
        have s4 := (ha.up 22).ref_words
        have s5 := ((ha.up 22).nil hput).ref_words
        have s12 : IntKind.wrap .i64 ((i : Int) + 1) = ((i + 1 : Nat) : Int) := by rw [wrap_i64 (by unfold I64; omega)]; omega
        have hle0 := hf.le
        refine ⟨.normal, _, (τ2.put A o).up 3, round (.yes s1 <| .val s3 <| .num s2 <| .num s2' <| .num s2'' <| .new g1 <| .up s6 <| .up s10 <| .also s4 <| .also s5 <| .num s12 .nil) (by kernel_rfl), Or.inl ⟨rfl, j - 1, by omega, i + 1, u, by omega, rfl, s11.up 3, ?_, ?_⟩⟩
        · refine ((Fr.trans (S := foot A (.slice base ws.length cap)) (hf.up 22) s8 (fun q hq => ?_) f0.wf).put _ (by have := s8.le; simp only [AS.next_up] at this; omega) (Or.inl (Or.inl rfl)) f0.wf).up 3
          rcases hm with hm | hm
          · left; right; rw [← hm]; exact hq
          · right; exact hm q hq
        · rcases s9 with s9 | s9
          · rcases hm with hm | hm
            · left; rw [s9]; exact hm
            · right; intro b hb; rw [s9] at hb; exact hm b hb
          · right; intro b hb; rw [s9] at hb; simp only [Option.some.injEq] at hb; omega
      · have hie : i = m := by omega
        subst hie
        have s1 : ¬ ((i : Nat) : Int) < (i : Int) := by omega
        exact ⟨.exit 0, _, τ.up 3, round (.no s1 .nil) (by kernel_rfl), Or.inr ⟨by simp, v', rfl, rfl, ha.up 3, hf.up 3, hm⟩⟩)
    (j := m) (vals := [ptrTo A, .int .i64 (m : Int), ptrTo (σ.next + 1), .int .i64 (ws.length : Nat), .int .i64 0]) (σ := s.up 17)
    ⟨0, _, by omega, rfl, by simpa [fresh] using h0.up 17, (Fr.refl f0.wf).up 17, Or.inl rfl⟩ (by omega)
  obtain ⟨e, vals', τ, hblock, v', rfl, rfl, ha, hf, hm⟩ := hloop
  have hle0 := f0.le
  have hgτ : τ.heap.get (σ.next + 1) = some (fvObj 0 0) := hf.same _ _ hg hnR
  have hF0 : Fr (foot A (.slice base ws.length cap)) σ τ := (toF f0).then hf
  obtain ⟨τ2, p1, p2⟩ := no_ref (n + 1) (τ.up 4) (hf.wf.up 4)
  obtain ⟨p3, p4, f2⟩ := answer hw (hF0.then (p2.start.mono fun _ h => h.elim)) (by omega) (p2.same _ _ (show (τ.up 4).heap.get (σ.next + 1) = _ from hgτ) id) 0 0
  have hnR' : ¬ foot A v' (σ.next + 1) := fun hh => by
    rcases hh with hh | hh
    · omega
    · rcases hm with hm | hm
      · exact hnR (Or.inr (by rw [← hm]; exact hh))
      · have := hm _ hh
        have hlt := hw
        have hs2 : s.next = σ.next + 2 := by rw [← hs]; rfl
        omega
  refine ⟨v', τ2.put (σ.next + 1) (fvObj 0 0), ?_, by rw [allocW, hF, if_pos rfl, Int.toNat_natCast]; exact ((ha.up 4).nil p2).put hnR' _, by rw [hF]; exact If.good f2, ?_⟩
  · rw [allocV, hF, if_pos rfl]
    subst hs
    exact run (.new g0 <| .no h1 <| .val l1 <| .val l2 <| .num t0 <| .no h2 <| .block hblock <| .up p1 <| .up p3 <| .val p4 .nil) (by kernel_rfl)
  · rcases hm with hm | hm
    · exact Or.inl hm
    · exact Or.inr fun b hb => Nat.le_trans hle0 (hm b hb)

end Go.Proofs.Ytfokbdgiphphfaa
