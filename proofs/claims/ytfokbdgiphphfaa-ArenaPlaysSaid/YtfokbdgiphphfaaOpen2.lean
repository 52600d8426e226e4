/- A call (kind, number, word, words) that comes in, as objects of an abstract state. No condition beyond the hypotheses. -/
import Derived.Test.YtfokbdgiphphfaaOpen
import Derived.Test.YtfokbdgiphphfaaLawStays
import Derived.Lib.SmallJoins
namespace Go.Proofs.Ytfokbdgiphphfaa
open Go Go.Abs Go.RowKit Go.ChangeShapes Go.WideShapes Go.ChangeAt Go.Joins

/-- One more list as an object. -/
theorem words_add {w : World} {μ : Mu} {σ : AS} (hr : Rel w.heap.size w μ σ w) {id : Nat} (hid : σ.heap.get id = none) (hn : id < σ.next) (hw : Wf σ) {a : Option Addr} {len cap : Nat} {zs : List Int} (h : IsRow .u64 w a len cap zs) :
    ∃ μ' σ' v ws, Rel w.heap.size w μ' σ' w ∧ Wf σ' ∧ σ'.next = σ.next ∧ Agree σ.dom μ μ' ∧ (∀ i, σ.dom i → σ'.dom i) ∧ (∀ i, i ≠ id → σ'.heap.get i = σ.heap.get i) ∧ conc μ' v = .slice a len cap ∧ Vin σ'.dom v ∧ Rd 1 σ' v (u64s ws) ∧ (∀ x ∈ ws, U64 x) ∧ ws.length = len ∧ (∀ b, slBase v = some b → b = id) := by
  rcases h with ⟨rfl, rfl, rfl, rfl⟩ | ⟨b, off, rfl, hb, hl, hz, hcell, hwz⟩
  · exact ⟨μ, σ, .slice none 0 0, [], hr, hw, rfl, Agree.refl _ _, fun _ h => h, fun _ _ => rfl, rfl, trivial, Or.inl ⟨rfl, rfl⟩, fun x hx => (by cases hx), rfl, fun b hb => (by cases hb)⟩
  · have hr' := hr.readOnly' hid hn (zs.map (.int .u64)) (VinL_noids _ _ (noids_ints _ _)) b off (fun i v hv => by
      rw [List.getElem?_map] at hv
      cases hg : zs[i]? with
      | none => rw [hg] at hv; cases hv
      | some z =>
        rw [hg] at hv
        cases hv
        obtain ⟨hi, hzi⟩ := List.getElem?_eq_some_iff.1 hg
        rw [hcell i hi, List.getD_eq_getElem?_getD, hg]
        rfl) hb
    refine ⟨_, _, .slice (some ⟨id, 0, none⟩) len cap, zs.take len, hr', hw.put _ hn, rfl, Mu.upd_agree hid, fun i hi => dom_set σ id _ i hi, fun i hi => AS.get_put_ne _ _ hi, ?_, (fun hh => by
      have h0 : (σ.put id (AObj.cells (zs.map (.int .u64)) 0 true)).heap.get id = none := hh
      rw [AS.get_put_same] at h0
      cases h0), Or.inr (Or.inr ⟨⟨id, 0, none⟩, len, cap, zs.map (.int .u64), 0, true, rfl, rfl, AS.get_put_same _ _ _, ?_, ?_, ?_⟩), fun x hx => u64_wf (hwz x (List.mem_of_mem_take hx)), ?_, fun b hb => (by cases hb; rfl)⟩
    · simp [conc, Mu.at, Mu.upd]
    · rw [u64s_length, List.length_take, Nat.mul_one]; omega
    · rw [List.length_map, Nat.mul_one]; dsimp only; omega
    · simp [u64s]
    · rw [List.length_take]; omega

theorem cell_there {P : Program} {w : World} {base : Nat} {t e : TypeId} {a : Addr} {len cap : Nat} (hu : P.underlying t = some (.slice e)) (h : Cell.okWide P w .any base t (.slice (some a) len cap)) : a.spot = none ∧ a.block < w.heap.size :=
  slice_there hu (by simp only [Value.okWide, hu]; exact h)

/-- A call that is handed in by value. -/
theorem op_of {H : Type} {enc : TypeId × Value → H} {w : World} {base : Nat} {v : Value} {d : DataW H} {p : List MemPlace} (hok : Value.okWide Try.prog w .any base 43 v) (h : DataW.Trod enc Try.prog w 0 (fun _ => true) true 43 v d p) :
    ∃ (k x y : Int) (a : Option Addr) (len cap : Nat) (zs : List Int), v = .agg #[.int .i64 k, .int .i64 x, .int .u64 y, .slice a len cap] ∧ U64 y ∧ IsRow .u64 w a len cap zs := by
  obtain ⟨v0, v1, v2, v3, y0, y1, y2, y3, n, rfl, _, _, h0, h1, h2, h3⟩ := open_agg4 Try.underlying43 (by kernel_rfl) (by kernel_rfl) hok h
  obtain ⟨k, e0, _, _⟩ := DataW.trod_int Try.underlying3 h0
  obtain ⟨x, e1, _, _⟩ := DataW.trod_int Try.underlying3 h1
  obtain ⟨y, e2, _, hy⟩ := DataW.trod_int Try.underlying29 h2
  simp only [List.cons.injEq, and_true] at e0 e1 e2
  subst e0; subst e1; subst e2
  have hcell : Cell.okWide Try.prog w .any base 22 v3 := by
    have h' := hok
    simp only [Value.okWide, Try.underlying43] at h'
    obtain ⟨cs, hcs, _, ts, hts, _, hall⟩ := h'
    have hk : Try.prog.cellTypes Try.prog.depth 43 = some [3, 3, 29, 22] := by kernel_rfl
    rw [hk] at hts
    cases hts
    cases hcs
    obtain ⟨u, hu1, hu2⟩ := hall 3 v3 rfl
    cases hu1
    exact hu2
  rcases open_ints (k := .u64) Try.underlying22 Try.underlying29 (by kernel_rfl) h3 with ⟨hcs, _⟩ | ⟨z, l, c, zs, hcs, _, hl, hm, hz, _, hcl, hwz⟩
  · simp only [List.cons.injEq, and_true] at hcs
    subst hcs
    exact ⟨k, x, y, none, 0, 0, [], rfl, u64_wf hy, .inl ⟨rfl, rfl, rfl, rfl⟩⟩
  · simp only [List.cons.injEq, and_true] at hcs
    subst hcs
    obtain ⟨hs, hb⟩ := cell_there Try.underlying22 hcell
    obtain ⟨b, off, spot⟩ := z
    simp only at hs hb
    subst hs
    exact ⟨k, x, y, _, l, c, zs, rfl, u64_wf hy, .inr ⟨b, off, rfl, hb, hl, by simpa using hz, fun i hi => by rw [← Go.WideShapes.add_plain]; exact hcl i hi, hwz⟩⟩

end Go.Proofs.Ytfokbdgiphphfaa
