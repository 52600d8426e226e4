/- The abstract evaluator: each operation on memory does in the model what it does on the abstract state (second part: aggregates, slices, append, copy). No condition. -/
import Derived.Test.YtfokbdgiphphfaaAbs4
import Derived.Laws.AppendOwn
import Derived.Laws.IdiomStrings
import Derived.Lib.Strings
namespace Go.Abs
open Go.RowKit

/-! ### Aggregates that are built -/

theorem concA_set (μ : Mu) (a : Array Value) (i : Nat) (v : Value) : concA μ (a.setIfInBounds i v) = (concA μ a).setIfInBounds i (conc μ v) := by
  rw [concA_eq, concA_eq]
  apply Array.ext'
  simp

theorem fold_conc (μ : Mu) (off : Nat) (l : List (Value × Nat)) : ∀ cs : Array Value,
    (l.map fun p => (conc μ p.1, p.2)).foldl (fun cs p => cs.setIfInBounds (off + p.2) p.1) (concA μ cs) = concA μ (l.foldl (fun cs p => cs.setIfInBounds (off + p.2) p.1) cs) := by
  induction l with
  | nil => intro cs; rfl
  | cons p l ih => intro cs; simp only [List.map_cons, List.foldl_cons]; rw [← concA_set, ih]

theorem zipIdx_conc (μ : Mu) (a : Array Value) : (concA μ a).zipIdx.toList = a.zipIdx.toList.map fun p => (conc μ p.1, p.2) := by
  rw [concA_eq]
  simp only [Array.toList_zipIdx, Array.toList_map, List.zipIdx_map]
  rfl

theorem fold_zip (off : Nat) (a cs : Array Value) : a.zipIdx.foldl (fun cs (c, j) => cs.setIfInBounds (off + j) c) cs = a.zipIdx.toList.foldl (fun cs p => cs.setIfInBounds (off + p.2) p.1) cs := by
  rw [Array.foldl_toList]

theorem fill_conc (μ : Mu) (place : Nat → Option (Nat × Nat)) (parts : List (Nat × Value)) : ∀ cells : Array Value,
    Instr.fill place (concA μ cells) (parts.map fun p => (p.1, conc μ p.2)) = (Instr.fill place cells parts).map (concA μ) := by
  induction parts with
  | nil => intro cells; simp [Instr.fill]
  | cons p rest ih =>
    intro cells
    obtain ⟨i, v⟩ := p
    simp only [List.map_cons, Instr.fill]
    cases place i with
    | none => rfl
    | some os =>
      obtain ⟨off, size⟩ := os
      simp only [conc_cells, concA_size]
      split
      · rfl
      · rw [fold_zip, fold_zip, zipIdx_conc, fold_conc, ih]

theorem VinA_set {D : Nat → Prop} {a : Array Value} (h : VinA D a) (i : Nat) {v : Value} (hv : Vin D v) : VinA D (a.setIfInBounds i v) := by
  refine VinA_iff.2 fun u hu => ?_
  rcases Array.mem_or_eq_of_mem_setIfInBounds hu with hu | hu
  · exact VinA_iff.1 h u hu
  · exact hu ▸ hv

theorem fold_vin {D : Nat → Prop} (off : Nat) (l : List (Value × Nat)) (hl : ∀ p ∈ l, Vin D p.1) : ∀ cs : Array Value, VinA D cs →
    VinA D (l.foldl (fun cs p => cs.setIfInBounds (off + p.2) p.1) cs) := by
  induction l with
  | nil => intro cs h; exact h
  | cons p l ih =>
    intro cs h
    exact ih (fun q hq => hl q (by simp [hq])) _ (VinA_set h _ (hl p (by simp)))

theorem fill_vin {D : Nat → Prop} (place : Nat → Option (Nat × Nat)) (parts : List (Nat × Value)) : ∀ (cells r : Array Value), VinA D cells → (∀ p ∈ parts, Vin D p.2) →
    Instr.fill place cells parts = some r → VinA D r := by
  induction parts with
  | nil => intro cells r h _ he; simp only [Instr.fill, Option.some.injEq] at he; exact he ▸ h
  | cons p rest ih =>
    intro cells r h hp he
    obtain ⟨i, v⟩ := p
    simp only [Instr.fill] at he
    split at he
    · cases he
    · split at he
      · cases he
      · refine ih _ r ?_ (fun q hq => hp q (by simp [hq])) he
        rw [fold_zip]
        refine fold_vin _ _ (fun q hq => ?_) _ h
        have hv := VinA_iff.1 (Vin_cells (hp (i, v) (by simp)))
        obtain ⟨u, j⟩ := q
        have : u ∈ v.cells.toList := by
          rw [Array.toList_zipIdx] at hq
          exact List.fst_mem_of_mem_zipIdx hq
        exact hv u (by simpa using this)

theorem run_mapM {α β : Type} {P : Program} {w : World} (f : α → Sem β) (g : α → Option β) (h : ∀ a b, g a = some b → (f a).run P w = .ok b w) :
    ∀ (l : List α) (r : List β), l.mapM g = some r → (l.mapM f).run P w = .ok r w := by
  intro l
  induction l with
  | nil => intro r hr; simp only [List.mapM_nil] at hr; cases hr; rfl
  | cons a l ih =>
    intro r hr
    simp only [List.mapM_cons] at hr ⊢
    cases ha : g a with
    | none => rw [ha] at hr; cases hr
    | some b =>
      rw [ha] at hr
      cases hl : l.mapM g with
      | none => rw [hl] at hr; cases hr
      | some bs =>
        rw [hl] at hr
        cases hr
        simp only [Sem.run_bind, h a b ha, Result.andThen_ok, ih bs hl, Sem.run_pure]

theorem aBuild_sim {P : Program} {B : Nat} {w0 w : World} {μ : Mu} {σ σ' : AS} (hr : Rel B w0 μ σ w) {t : TypeId} {parts : Array (Nat × Value)} {v : Value} (hp : ∀ p ∈ parts, Vin σ.dom p.2)
    (h : aBuild P t parts σ = some (v, σ')) : Sim P B w0 μ σ w (Instr.build t (parts.map fun p => (p.1, conc μ p.2))) v σ' := by
  unfold aBuild at h
  generalize hz : zero' P t = z? at h
  generalize hu : P.underlying t = d at h
  have hpl : (parts.map fun p => (p.1, conc μ p.2)).toList = parts.toList.map fun p => (p.1, conc μ p.2) := by simp
  have hpm : ∀ p ∈ parts.toList, Vin σ.dom p.2 := fun p hm => hp p (by simpa using hm)
  split at h
  · rename_i z fs
    obtain ⟨z1, z2⟩ := run_zero (w := w) hz
    have zc := noids_cells z2
    generalize hm : fs.toList.mapM (fun f => (sizeOf' P f.type).map fun n => (f.offset, n)) = places? at h
    split at h
    · rename_i places
      obtain ⟨hf, rfl⟩ := M.ofOption_some h
      obtain ⟨cells, hc, rfl⟩ := Option.map_eq_some_iff.1 hf
      have hv := fill_vin _ _ _ _ (VinA_noids σ.dom _ zc) hpm hc
      refine Sim.same hr ?_ hv
      have hrun := run_mapM (P := P) (w := w) (fun f : Field => do pure (f.offset, ← sizeOf f.type)) (fun f : Field => (sizeOf' P f.type).map fun n => (f.offset, n))
        (fun f b hb => by
          obtain ⟨n, hn, rfl⟩ := Option.map_eq_some_iff.1 hb
          simp only [Sem.run_bind, run_size hn, Result.andThen_ok, Sem.run_pure]) _ _ hm
      have hfc := fill_conc μ (places.toArray[·]?) parts.toList z.cells
      rw [concA_noids μ _ zc, hc, ← hpl] at hfc
      simp only [Instr.build, Sem.run_bind, z1, Result.andThen_ok, run_und hu, Array.mapM_eq_mapM_toList, Sem.run_map, hrun, hfc, Option.map_some, Sem.run_pure, conc]
    · exact (M.fail_some h).elim
  · rename_i z n e
    obtain ⟨z1, z2⟩ := run_zero (w := w) hz
    have zc := noids_cells z2
    generalize hs : sizeOf' P e = n? at h
    split at h
    · rename_i n
      obtain ⟨hf, rfl⟩ := M.ofOption_some h
      obtain ⟨cells, hc, rfl⟩ := Option.map_eq_some_iff.1 hf
      have hv := fill_vin _ _ _ _ (VinA_noids σ.dom _ zc) hpm hc
      refine Sim.same hr ?_ hv
      have hfc := fill_conc μ (fun i => some (i * n, n)) parts.toList z.cells
      rw [concA_noids μ _ zc, hc, ← hpl] at hfc
      simp only [Instr.build, Sem.run_bind, z1, Result.andThen_ok, run_und hu, run_size hs, hfc, Option.map_some, Sem.run_pure, conc]
    · exact (M.fail_some h).elim
  · exact (M.fail_some h).elim

theorem noidsL_iff {l : List Value} : noidsL l = true ↔ ∀ v ∈ l, noids v = true := by
  induction l with
  | nil => simp [noidsL]
  | cons v vs ih => simp [noidsL, ih]
theorem noidsA_iff {a : Array Value} : noidsA a = true ↔ ∀ v ∈ a, noids v = true := by
  obtain ⟨l⟩ := a
  simp [noidsA, noidsL_iff]

theorem noidsA_zeros {z : Array Value} (h : noidsA z = true) (n : Nat) : noidsA (zeros z n) = true := by
  refine noidsA_iff.2 fun v hv => ?_
  simp only [zeros, Array.mem_map] at hv
  obtain ⟨i, _, rfl⟩ := hv
  by_cases hi : i % z.size < z.size
  · rw [getElem!_pos z _ hi]
    exact noidsA_iff.1 h _ (Array.getElem_mem _)
  · rw [getElem!_neg z _ hi]
    rfl

theorem elemSize_some {P : Program} {t e : TypeId} {n : Nat} (h : elemSize P t = some (e, n)) : P.underlying t = some (.slice e) ∧ sizeOf' P e = some n := by
  unfold elemSize at h
  split at h
  · rename_i e' hu
    obtain ⟨m, hm, h⟩ := Option.map_eq_some_iff.1 h
    cases h
    exact ⟨hu, hm⟩
  · cases h

theorem conc_slice0 (μ : Mu) (id b len cap : Nat) : conc (μ.upd id b 0 0) (.slice (some ⟨id, 0, none⟩) len cap) = .slice (some ⟨b, 0, none⟩) len cap := by
  simp [conc, Mu.at, Mu.upd]

theorem aBuildSlice_sim {P : Program} {B : Nat} {w0 w : World} {μ : Mu} {σ σ' : AS} (hr : Rel B w0 μ σ w) {id : Nat} {t : TypeId} {len : Nat} {parts : Array (Nat × Value)} {v : Value} (hp : ∀ p ∈ parts, Vin σ.dom p.2)
    (h : aBuildSlice P id t len parts σ = some (v, σ')) : Sim P B w0 μ σ w (Instr.buildSlice t len (parts.map fun p => (p.1, conc μ p.2))) v σ' := by
  unfold aBuildSlice at h
  generalize he : elemSize P t = en at h
  have hpl : (parts.map fun p => (p.1, conc μ p.2)).toList = parts.toList.map fun p => (p.1, conc μ p.2) := by simp
  have hpm : ∀ p ∈ parts.toList, Vin σ.dom p.2 := fun p hm => hp p (by simpa using hm)
  split at h
  · rename_i e n
    obtain ⟨hu, hs⟩ := elemSize_some he
    generalize hz : zero' P e = z? at h
    split at h
    · rename_i z
      obtain ⟨z1, z2⟩ := run_zero (w := w) hz
      have zc := noids_cells z2
      obtain ⟨hb, h⟩ := bif_some h
      have hle := Nat.le_of_ble_eq_true hb
      generalize hc : Instr.fill (fun i => some (i * n, n)) (zeros (bif Nat.beq (len * n) 0 then #[] else z.cells) (len * n)) parts.toList = c? at h
      split at h
      · rename_i c
        obtain ⟨_, σ₁, h1, h2⟩ := M.bind_some h
        obtain ⟨rfl, rfl⟩ := M.pure_some h2
        have zc' : noidsA (bif Nat.beq (len * n) 0 then #[] else z.cells) = true := by
          cases Nat.beq (len * n) 0
          · exact zc
          · rfl
        have hv := fill_vin _ _ _ _ (VinA_noids σ.dom _ (noidsA_zeros zc' _)) hpm hc
        obtain ⟨g1, g2, g3, g4⟩ := newCells_sim hr (VinA_toList hv) e h1
        refine ⟨_, _, ?_, g1, g2, g3, g4⟩
        have hfc := fill_conc μ (fun i => some (i * n, n)) parts.toList (zeros (bif Nat.beq (len * n) 0 then #[] else z.cells) (len * n))
        rw [concA_noids μ _ (noidsA_zeros zc' _), hc, ← hpl] at hfc
        rw [conc_slice0, concL_toArray]
        have hnot : ¬ len * n > 2 ^ 24 := by omega
        simp only [Instr.buildSlice, Sem.run_bind, run_und hu, Result.andThen_ok, run_size hs, hnot, if_false]
        by_cases h0 : len * n = 0
        · have hb0 : Nat.beq (len * n) 0 = true := by rw [h0]; rfl
          rw [hb0, cond_true] at hfc
          simp only [h0, if_true, Sem.run_bind, Sem.run_pure, Result.andThen_ok]
          rw [h0] at hfc
          have e1 : (Array.range 0).map (fun x => (#[] : Array Value)[x % (#[] : Array Value).size]!) = zeros #[] 0 := rfl
          rw [e1, hfc]
          simp only [Option.map_some, Sem.run_bind, run_newRow, Result.andThen_ok, Sem.run_pure, Array.toArray_toList]
        · have hb0 : Nat.beq (len * n) 0 = false := nbeq_false h0
          rw [hb0, cond_false] at hfc
          simp only [h0, if_false, Sem.run_bind, z1, Result.andThen_ok, Sem.run_pure]
          have e1 : (Array.range (len * n)).map (fun x => z.cells[x % z.cells.size]!) = zeros z.cells (len * n) := rfl
          rw [e1, hfc]
          simp only [Option.map_some, Sem.run_bind, run_newRow, Result.andThen_ok, Sem.run_pure, Array.toArray_toList]
      · exact (M.fail_some h).elim
    · exact (M.fail_some h).elim
  · exact (M.fail_some h).elim

theorem aMakeSlice_sim {P : Program} {B : Nat} {w0 w : World} {μ : Mu} {σ σ' : AS} (hr : Rel B w0 μ σ w) {id : Nat} {t : TypeId} {len cap : Value} {v : Value}
    (h : aMakeSlice P id t len cap σ = some (v, σ')) : Sim P B w0 μ σ w (Instr.makeSlice t (conc μ len) (conc μ cap)) v σ' := by
  unfold aMakeSlice at h
  generalize he : elemSize P t = en at h
  split at h
  · rename_i e n kl l kc c
    obtain ⟨hu, hs⟩ := elemSize_some he
    generalize hz : zero' P e = z? at h
    generalize hi : P.info? e = i? at h
    split at h
    · rename_i z i
      obtain ⟨z1, z2⟩ := run_zero (w := w) hz
      have zc := noids_cells z2
      obtain ⟨hb, h⟩ := bif_some h
      simp only [Bool.and_eq_true, decide_eq_true_eq] at hb
      obtain ⟨⟨⟨⟨⟨h0, hlc⟩, hc40⟩, hby⟩, hsz⟩, hcl⟩ := hb
      have hsz := Nat.eq_of_beq_eq_true hsz
      have hcl := Nat.le_of_ble_eq_true hcl
      obtain ⟨_, σ₁, h1, h2⟩ := M.bind_some h
      obtain ⟨rfl, rfl⟩ := M.pure_some h2
      have zc' : noidsA (bif Nat.beq (c.toNat * n) 0 then #[] else z.cells) = true := by
        cases Nat.beq (c.toNat * n) 0
        · exact zc
        · rfl
      obtain ⟨g1, g2, g3, g4⟩ := newCells_sim hr (VinA_toList (VinA_noids _ _ (noidsA_zeros zc' (c.toNat * n)))) e h1
      refine ⟨_, _, ?_, g1, g2, g3, g4⟩
      have hzz : i.zero = some z := by
        unfold zero' at hz
        rw [hi] at hz
        simp only [Option.bind_some] at hz
        cases hzi : i.zero with
        | none => rw [hzi] at hz; cases hz
        | some u =>
          rw [hzi] at hz
          simp only [Option.bind_some] at hz
          cases hn : noids u with
          | false => rw [hn] at hz; cases hz
          | true => rw [hn] at hz; exact hz
      have hrun := run_makeSlice (P := P) (w := w) t e i z hu hi hzz kl kc l c h0 hlc (by rw [hsz]; omega) (by omega) (by omega)
      rw [conc_slice0]
      simp only [conc]
      rw [hrun, hsz]
      have e1 : (concL μ (zeros (bif Nat.beq (c.toNat * n) 0 then #[] else z.cells) (c.toNat * n)).toList).toArray = madeCells z.cells (c.toNat * n) := by
        rw [concL_toArray, Array.toArray_toList, concA_noids μ _ (noidsA_zeros zc' _)]
        by_cases hc0 : c.toNat * n = 0
        · rw [hc0]; simp [zeros, madeCells]
        · rw [nbeq_false hc0]; rfl
      rw [e1]
    · exact (M.fail_some h).elim
  · exact (M.fail_some h).elim

end Go.Abs
