/- The abstract evaluator: each operation on memory does in the model what it does on the abstract state (first part). No condition. -/
import Derived.Test.YtfokbdgiphphfaaAbs3
import Derived.WalkKit
import Derived.Laws.MakeOwn
namespace Go.Abs
open Go.RowKit

theorem pureSem_run {α : Type} {P : Program} {s : Sem α} {a : α} (h : pureSem P s = some a) (w : World) : s.run P w = .ok a w := by
  induction s with
  | pure b => simp only [pureSem, Option.some.injEq] at h; subst h; rfl
  | program k ih => simp only [pureSem] at h; exact ih P h
  | _ => simp [pureSem] at h

theorem viaModel_some {P : Program} {s : Sem Value} {σ σ' : AS} {v : Value} (h : viaModel P s σ = some (v, σ')) :
    σ = σ' ∧ noids v = true ∧ ∀ w, s.run P w = .ok v w := by
  unfold viaModel at h
  generalize e : pureSem P s = d at h
  split at h
  · rename_i u
    unfold plainVal at h
    obtain ⟨h1, h2⟩ := bif_some h
    obtain ⟨rfl, rfl⟩ := M.pure_some h2
    exact ⟨rfl, h1, fun w => pureSem_run e w⟩
  · exact (M.fail_some h).elim

/-- The model's computation does what the abstract one has done. -/
def Sim (P : Program) (B : Nat) (w0 : World) (μ : Mu) (σ : AS) (w : World) (s : Sem Value) (v : Value) (σ' : AS) : Prop :=
  ∃ μ' w', s.run P w = .ok (conc μ' v) w' ∧ Rel B w0 μ' σ' w' ∧ Agree σ.dom μ μ' ∧ Vin σ'.dom v ∧ ∀ i, σ.dom i → σ'.dom i

theorem Sim.same {P : Program} {B : Nat} {w0 w : World} {μ : Mu} {σ : AS} {s : Sem Value} {v : Value} (hr : Rel B w0 μ σ w) (h : s.run P w = .ok (conc μ v) w) (hv : Vin σ.dom v) : Sim P B w0 μ σ w s v σ :=
  ⟨μ, w, h, hr, Agree.refl _ _, hv, fun _ h => h⟩

theorem Sim.via {P : Program} {B : Nat} {w0 w : World} {μ : Mu} {σ σ' : AS} {s : Sem Value} {v : Value} (hr : Rel B w0 μ σ w) (h : viaModel P s σ = some (v, σ')) : Sim P B w0 μ σ w s v σ' := by
  obtain ⟨rfl, hn, h⟩ := viaModel_some h
  exact Sim.same hr (by rw [h, conc_noids μ v hn]) (Vin_noids _ v hn)

section
variable {P : Program} {w : World}

theorem run_und {t : TypeId} {d : TypeDesc} (h : P.underlying t = some d) : (underlying t).run P w = .ok d w := by
  simp [underlying, h]

theorem run_size {t : TypeId} {n : Nat} (h : sizeOf' P t = some n) : (sizeOf t).run P w = .ok n w := by
  unfold sizeOf' at h
  cases hi : P.info? t with
  | none => rw [hi] at h; simp at h
  | some i => rw [hi] at h; simp only [Option.map_some, Option.some.injEq] at h; simp [sizeOf, typeInfo, hi, h]

theorem run_info {t : TypeId} {i : TypeInfo} (h : P.info? t = some i) : (typeInfo t).run P w = .ok i w := by
  simp [typeInfo, h]

theorem run_isAgg {t : TypeId} {b : Bool} (h : isAgg' P t = some b) : (isAgg t).run P w = .ok b w := by
  unfold isAgg' at h
  cases hu : P.underlying t with
  | none => rw [hu] at h; simp at h
  | some d =>
    rw [hu] at h
    unfold isAgg
    rw [Sem.run_bind, run_und hu]
    cases d <;> simp at h <;> subst h <;> rfl

theorem run_zero {t : TypeId} {z : Value} (h : zero' P t = some z) : (zeroValue t).run P w = .ok z w ∧ noids z = true := by
  unfold zero' at h
  cases hi : P.info? t with
  | none => rw [hi] at h; simp at h
  | some i =>
    rw [hi] at h
    simp only [Option.bind_some] at h
    cases hz : i.zero with
    | none => rw [hz] at h; simp at h
    | some u =>
      rw [hz] at h
      simp only [Option.bind_some] at h
      cases hn : noids u with
      | false => rw [hn] at h; simp at h
      | true =>
        rw [hn] at h
        simp only [cond_true, Option.some.injEq] at h
        subst h
        exact ⟨by simp [zeroValue, typeInfo, hi, hz], hn⟩
end

theorem conc_cells (μ : Mu) (v : Value) : (conc μ v).cells = concA μ v.cells := by
  cases v with
  | pointer a => cases a <;> simp [conc, Value.cells, concA, concL]
  | slice a l c => cases a <;> simp [conc, Value.cells, concA, concL]
  | map r => cases r <;> simp [conc, Value.cells, concA, concL]
  | chan r => cases r <;> simp [conc, Value.cells, concA, concL]
  | agg c => simp [conc, Value.cells]
  | _ => simp [conc, Value.cells, concA, concL]

theorem Vin_cells {D : Nat → Prop} {v : Value} (h : Vin D v) : VinA D v.cells := by
  cases v with
  | agg c => exact h
  | _ => simp only [Value.cells, VinA, VinL]; exact ⟨h, trivial⟩

theorem noids_cells {v : Value} (h : noids v = true) : noidsA v.cells = true := by
  cases v with
  | agg c => exact h
  | _ => simp only [Value.cells, noidsA, noidsL, h, Bool.and_self]

theorem concA_size (μ : Mu) (a : Array Value) : (concA μ a).size = a.size := by rw [concA_eq]; simp
theorem concL_length (μ : Mu) (l : List Value) : (concL μ l).length = l.length := by rw [concL_eq]; simp
theorem concA_getElem? (μ : Mu) (a : Array Value) (i : Nat) : (concA μ a)[i]? = (a[i]?).map (conc μ) := by rw [concA_eq]; simp
theorem concL_getElem? (μ : Mu) (l : List Value) (i : Nat) : (concL μ l)[i]? = (l[i]?).map (conc μ) := by rw [concL_eq]; simp
theorem concA_extract (μ : Mu) (a : Array Value) (i j : Nat) : (concA μ a).extract i j = concA μ (a.extract i j) := by rw [concA_eq, concA_eq]; simp
theorem concA_toList (μ : Mu) (a : Array Value) : (concA μ a).toList = concL μ a.toList := by rw [concA_eq, concL_eq]; simp
theorem concL_toArray (μ : Mu) (l : List Value) : (concL μ l).toArray = concA μ l.toArray := by rw [concA_eq, concL_eq]; simp
theorem concL_append (μ : Mu) (a b : List Value) : concL μ (a ++ b) = concL μ a ++ concL μ b := by simp [concL_eq]
theorem concA_append (μ : Mu) (a b : Array Value) : concA μ (a ++ b) = concA μ a ++ concA μ b := by simp [concA_eq]
theorem concL_take (μ : Mu) (n : Nat) (a : List Value) : concL μ (a.take n) = (concL μ a).take n := by simp [concL_eq]
theorem concL_drop (μ : Mu) (n : Nat) (a : List Value) : concL μ (a.drop n) = (concL μ a).drop n := by simp [concL_eq]

theorem VinA_get {D : Nat → Prop} {a : Array Value} (h : VinA D a) {i : Nat} {v : Value} (hi : a[i]? = some v) : Vin D v :=
  VinA_iff.1 h v (Array.mem_of_getElem? hi)
theorem VinL_get {D : Nat → Prop} {l : List Value} (h : VinL D l) {i : Nat} {v : Value} (hi : l[i]? = some v) : Vin D v :=
  VinL_iff.1 h v (List.mem_of_getElem? hi)
theorem VinA_extract {D : Nat → Prop} {a : Array Value} (h : VinA D a) (i j : Nat) : VinA D (a.extract i j) :=
  VinA_iff.2 fun v hv => VinA_iff.1 h v (by
    rw [Array.mem_extract_iff_getElem] at hv
    obtain ⟨k, hk, rfl⟩ := hv
    exact Array.getElem_mem _)
theorem VinA_toList {D : Nat → Prop} {a : Array Value} (h : VinA D a) : VinL D a.toList := by obtain ⟨l⟩ := a; exact h

/-! ### Parts of aggregates -/

theorem part_sim {P : Program} {w : World} {μ : Mu} {D : Nat → Prop} {t : TypeId} {cs : Array Value} {off : Nat} {v : Value} (h : part' P t cs off = some v) (hv : VinA D cs) :
    (part t (concA μ cs) off).run P w = .ok (conc μ v) w ∧ Vin D v := by
  unfold part' at h
  cases hb : isAgg' P t with
  | none => rw [hb] at h; simp at h
  | some b =>
    rw [hb] at h
    unfold part
    cases b with
    | true =>
      simp only at h
      cases hs : sizeOf' P t with
      | none => rw [hs] at h; simp at h
      | some n =>
        rw [hs] at h
        simp only [Option.map_some, Option.some.injEq] at h
        subst h
        refine ⟨?_, VinA_extract hv _ _⟩
        simp only [Sem.run_bind, run_isAgg hb, Result.andThen_ok, run_size hs, conc, concA_extract, if_true, Sem.run_pure]
    | false =>
      simp only at h
      refine ⟨?_, VinA_get hv h⟩
      simp only [Sem.run_bind, run_isAgg hb, Result.andThen_ok, concA_getElem?, h, Option.map_some, Bool.false_eq_true, if_false, Sem.run_pure]

theorem aField_sim {P : Program} {B : Nat} {w0 w : World} {μ : Mu} {σ σ' : AS} (hr : Rel B w0 μ σ w) {t : TypeId} {x : Value} {f : Nat} {v : Value} (hx : Vin σ.dom x)
    (h : aField P t x f σ = some (v, σ')) : Sim P B w0 μ σ w (Instr.field t (conc μ x) f) v σ' := by
  unfold aField at h
  generalize hu : P.underlying t = d at h
  split at h
  · rename_i fs cs
    generalize hf : fs[f]? = d at h
    split at h
    · rename_i fd
      obtain ⟨hp, rfl⟩ := M.ofOption_some h
      obtain ⟨h1, h2⟩ := part_sim (w := w) (μ := μ) hp (show VinA σ.dom cs from hx)
      refine Sim.same hr ?_ h2
      simp only [Instr.field, Sem.run_bind, run_und hu, Result.andThen_ok, hf, conc, asAgg, Sem.run_pure, h1]
    · exact (M.fail_some h).elim
  · exact (M.fail_some h).elim

theorem aIndex_sim {P : Program} {B : Nat} {w0 w : World} {μ : Mu} {σ σ' : AS} (hr : Rel B w0 μ σ w) {t : TypeId} {x i : Value} {v : Value} (hx : Vin σ.dom x)
    (h : aIndex P t x i σ = some (v, σ')) : Sim P B w0 μ σ w (Instr.index t (conc μ x) (conc μ i)) v σ' := by
  unfold aIndex at h
  have hb0 := bif_some h
  clear h
  obtain ⟨hi, h⟩ := hb0
  rw [conc_noids μ i hi]
  cases hn : noids x with
  | true => rw [hn] at h; rw [conc_noids μ x hn]; exact Sim.via hr h
  | false =>
    rw [hn, cond_false] at h
    generalize hu : P.underlying t = d at h
    split at h
    · rename_i len e cs k n
      generalize hs : sizeOf' P e = d at h
      split at h
      · rename_i n
        obtain ⟨hb, h⟩ := bif_some h
        simp only [Bool.and_eq_true, decide_eq_true_eq] at hb
        obtain ⟨hp, rfl⟩ := M.ofOption_some h
        obtain ⟨h1, h2⟩ := part_sim (w := w) (μ := μ) hp (show VinA σ.dom cs from hx)
        refine Sim.same hr ?_ h2
        simp only [Instr.index, Sem.run_bind, asIntOf, Sem.run_pure, Result.andThen_ok, run_und hu, conc, hb, and_self, if_true, run_size hs, h1]
      · exact (M.fail_some h).elim
    · exact (M.fail_some h).elim

/-! ### Loads and stores -/

theorem at_add (μ : Mu) (a : Addr) (n : Nat) : (μ.at a).add n = ⟨μ.blk a.block, μ.base a.block + (a.off + n), none⟩ := by
  unfold Addr.add Mu.at
  split
  · subst_vars; simp
  · simp [Nat.add_assoc]

theorem at_addOff (μ : Mu) (a : Addr) (n : Nat) : μ.at (addOff a n) = (μ.at a).add n := by
  rw [at_add]; simp [Mu.at, addOff]

theorem aLoad_sim {P : Program} {B : Nat} {w0 w : World} {μ : Mu} {σ σ' : AS} (hr : Rel B w0 μ σ w) {t : TypeId} {x : Value} {v : Value}
    (h : aLoad P t x σ = some (v, σ')) : ∃ a, x = .pointer (some a) ∧ (loadVar t (μ.at a)).run P w = .ok (conc μ v) w ∧ Vin σ.dom v ∧ σ = σ' := by
  unfold aLoad at h
  split at h
  · rename_i a
    obtain ⟨o, σ₁, h1, h2⟩ := M.bind_some h
    obtain ⟨g1, rfl⟩ := M.get_some h1
    split at h2
    · rename_i c room ro
      obtain ⟨hl2, rfl⟩ := M.ofOption_some h2
      clear h2 h
      have hv := hr.vin _ _ g1
      refine ⟨a, rfl, ?_⟩
      unfold loadFrom at hl2
      cases hb : isAgg' P t with
      | none => rw [hb] at hl2; cases hl2
      | some b =>
        rw [hb] at hl2
        cases b with
        | true =>
          simp only at hl2
          cases hs : sizeOf' P t with
          | none => rw [hs] at hl2; cases hl2
          | some n =>
            rw [hs] at hl2
            simp only at hl2
            cases hle : Nat.ble (a.off + n) c.length with
            | false => rw [hle] at hl2; simp at hl2
            | true =>
              rw [hle] at hl2
              simp only [cond_true, Option.some.injEq] at hl2
              have hle := Nat.le_of_ble_eq_true hle
              have hl : (concL μ ((c.drop a.off).take n)).length = n := by rw [concL_length]; simp; omega
              have hrun := run_loadCells_list (P := P) (w := w) (μ.at a) (concL μ ((c.drop a.off).take n)) (fun j u hj => by
                rw [concL_getElem?] at hj
                obtain ⟨u', hu', rfl⟩ := Option.map_eq_some_iff.1 hj
                rw [List.getElem?_take] at hu'
                split at hu'
                · rw [List.getElem?_drop] at hu'
                  rw [at_add]
                  exact hr.cell g1 hu'
                · cases hu')
              rw [hl] at hrun
              refine ⟨?_, ?_, rfl⟩
              · rw [← hl2]
                simp only [loadVar, Sem.run_bind, run_isAgg hb, Result.andThen_ok, run_size hs, hrun, conc, concL_toArray, if_true, Sem.run_pure]
              · rw [← hl2]
                exact VinL_iff.2 fun u hu => VinL_iff.1 hv u (List.mem_of_mem_drop (List.mem_of_mem_take hu))
        | false =>
          simp only at hl2
          refine ⟨?_, VinL_get hv hl2, rfl⟩
          have := hr.cell g1 hl2
          simp only [loadVar, Sem.run_bind, run_isAgg hb, Result.andThen_ok, Bool.false_eq_true, if_false, run_load, Mu.at, this]
    · exact (M.fail_some h2).elim
  · exact (M.fail_some h).elim

theorem aStore_sim {P : Program} {B : Nat} {w0 w : World} {μ : Mu} {σ σ' : AS} (hr : Rel B w0 μ σ w) {t : TypeId} {x p : Value} {v : Value} (hx : Vin σ.dom x)
    (h : aStore P t x p σ = some (v, σ')) : ∃ a w', p = .pointer (some a) ∧ v = undef ∧ (storeVar t (μ.at a) (conc μ x)).run P w = .ok () w' ∧ Rel B w0 μ σ' w' ∧ (∀ i, σ.dom i → σ'.dom i) := by
  unfold aStore at h
  split at h
  · rename_i a
    obtain ⟨o, σ₁, h1, h2⟩ := M.bind_some h
    obtain ⟨g1, rfl⟩ := M.get_some h1
    split at h2
    · rename_i c room
      obtain ⟨hb, h2⟩ := bif_some h2
      simp only [Bool.and_eq_true, decide_eq_true_eq] at hb
      obtain ⟨⟨hs, hle⟩, hfl⟩ := hb
      have hle := Nat.le_of_ble_eq_true hle
      obtain ⟨_, σ₂, h3, h4⟩ := M.bind_some h2
      obtain ⟨_, rfl⟩ := M.set_some h3
      obtain ⟨rfl, rfl⟩ := M.pure_some h4
      refine ⟨a, _, rfl, rfl, ?_, hr.setCells g1 a.off x.cells.toList (by simpa using hle) (VinA_toList (Vin_cells hx)), fun i hi => dom_set _ _ _ i hi⟩
      obtain ⟨f1, f2, f3⟩ := hr.fits _ _ g1
      have hl : (concL μ x.cells.toList).length = x.cells.size := by rw [concL_length]; simp
      have hrun := run_storeCells_cells (P := P) (μ.blk a.block) (μ.base a.block + a.off) (concL μ x.cells.toList) 0 w
        (fun j hj => by
          rw [hl] at hj
          have := (f2 rfl (a.off + j) (by omega)).1
          simpa [Nat.add_assoc] using this)
        (fun j hj => by
          rw [hl] at hj
          have := (f2 rfl (a.off + j) (by omega)).2
          simpa [Nat.add_assoc] using this)
        (fun u hu => by
          rw [concL_eq] at hu
          obtain ⟨u', hu', rfl⟩ := List.mem_map.1 hu
          exact flat_one μ u' (List.all_eq_true.1 hfl u' hu'))
      have hat : μ.at a = ⟨μ.blk a.block, μ.base a.block + a.off, none⟩ := rfl
      simp only [storeVar, Sem.run_bind, run_size hs, Result.andThen_ok, conc_cells, concA_size, ne_eq, not_true_eq_false, if_false, concA_toList, hat]
      rw [hrun, Nat.add_zero]
    · exact (M.fail_some h2).elim
  · exact (M.fail_some h).elim

/-! ### New objects -/

theorem run_newRow (P : Program) (w : World) (e : TypeId) (c : Array Value) : (newRow e c).run P w = .ok ⟨w.heap.size, 0, none⟩ (w.alloc (.cells c e)) := rfl

theorem conc_ptrTo (μ : Mu) (id b : Nat) : conc (μ.upd id b 0 0) (ptrTo id) = .pointer (some ⟨b, 0, none⟩) := by
  simp [conc, ptrTo, Mu.at, Mu.upd]

theorem newCells_sim {B : Nat} {w0 w : World} {μ : Mu} {σ σ' : AS} (hr : Rel B w0 μ σ w) {id : Nat} {c : List Value} {u : Unit} (hv : VinL σ.dom c) (e : TypeId)
    (h : newCells id c σ = some (u, σ')) : Rel B w0 (μ.upd id w.heap.size 0 0) σ' (w.alloc (.cells (concL μ c).toArray e)) ∧ Agree σ.dom μ (μ.upd id w.heap.size 0 0) ∧ σ'.dom id ∧ (∀ i, σ.dom i → σ'.dom i) := by
  unfold newCells at h
  obtain ⟨h1, h2, rfl⟩ := M.alloc_some h
  exact ⟨hr.newCells c e h1 h2 hv, Mu.upd_agree h1, dom_set_same _ _ _, fun i hi => dom_set _ _ _ i hi⟩

theorem aAlloc_sim {P : Program} {B : Nat} {w0 w : World} {μ : Mu} {σ σ' : AS} (hr : Rel B w0 μ σ w) {id : Nat} {e : TypeId} {z v : Value} (hz : zero' P e = some z)
    (h : (M.bind (newCells id z.cells.toList) fun _ => M.pure (ptrTo id)) σ = some (v, σ')) : Sim P B w0 μ σ w (Instr.alloc e true (.tuple #[])) v σ' := by
  obtain ⟨_, σ₁, h1, h2⟩ := M.bind_some h
  obtain ⟨rfl, rfl⟩ := M.pure_some h2
  obtain ⟨hz1, hz2⟩ := run_zero (w := w) hz
  have hzc := noids_cells hz2
  obtain ⟨g1, g2, g3, g4⟩ := newCells_sim hr (VinA_toList (VinA_noids _ _ hzc)) e h1
  refine ⟨_, _, ?_, g1, g2, g3, g4⟩
  have : (concL μ z.cells.toList).toArray = z.cells := by rw [concL_toArray]; simp [concA_noids μ _ hzc]
  rw [conc_ptrTo, this]
  simp only [Instr.alloc, Sem.run_bind, hz1, Result.andThen_ok, newVar, run_newRow, Sem.run_pure]

theorem aBox_sim {P : Program} {B : Nat} {w0 w : World} {μ : Mu} {σ σ' : AS} (hr : Rel B w0 μ σ w) {id : Nat} {e : TypeId} {x v : Value} (hx : Vin σ.dom x)
    (h : (M.bind (newCells id x.cells.toList) fun _ => M.pure (ptrTo id)) σ = some (v, σ')) : Sim P B w0 μ σ w (Instr.box e (conc μ x)) v σ' := by
  obtain ⟨_, σ₁, h1, h2⟩ := M.bind_some h
  obtain ⟨rfl, rfl⟩ := M.pure_some h2
  obtain ⟨g1, g2, g3, g4⟩ := newCells_sim hr (VinA_toList (Vin_cells hx)) e h1
  refine ⟨_, _, ?_, g1, g2, g3, g4⟩
  rw [conc_ptrTo, concL_toArray]
  simp only [Instr.box, Sem.run_bind, newVar, conc_cells, run_newRow, Result.andThen_ok, Sem.run_pure, Array.toArray_toList]

/-! ### Addresses -/

theorem aFieldAddr_sim {P : Program} {B : Nat} {w0 w : World} {μ : Mu} {σ σ' : AS} (hr : Rel B w0 μ σ w) {s : TypeId} {x : Value} {f : Nat} {v : Value} (hx : Vin σ.dom x)
    (h : aFieldAddr P s x f σ = some (v, σ')) : Sim P B w0 μ σ w (Instr.fieldAt s (conc μ x) f) v σ' := by
  unfold aFieldAddr at h
  generalize hu : P.underlying s = d at h
  split at h
  · rename_i fs a
    generalize hf : fs[f]? = d at h
    split at h
    · rename_i fd
      generalize hs : sizeOf' P fd.type = d at h
      split at h
      · rename_i n
        obtain ⟨rfl, rfl⟩ := M.pure_some h
        refine Sim.same hr ?_ (show σ.dom a.block from hx)
        have hs' := run_size (w := w) hs
        simp only [Instr.fieldAt, Sem.run_bind, run_und hu, Result.andThen_ok, hf, conc, Instr.sureAddr, Sem.run_pure, fieldPlace, hs', at_addOff, Nat.add_one_ne_zero, if_false]
      · exact (M.fail_some h).elim
    · exact (M.fail_some h).elim
  · exact (M.fail_some h).elim

theorem aIndexAddr_sim {P : Program} {B : Nat} {w0 w : World} {μ : Mu} {σ σ' : AS} (hr : Rel B w0 μ σ w) {t : TypeId} {x i : Value} {v : Value} (hx : Vin σ.dom x)
    (h : aIndexAddr P t x i σ = some (v, σ')) : Sim P B w0 μ σ w (Instr.indexAt t (conc μ x) (conc μ i)) v σ' := by
  unfold aIndexAddr at h
  generalize hu : P.underlying t = d at h
  split at h
  · rename_i e a len cap k n
    generalize hs : sizeOf' P e = d at h
    split at h
    · rename_i n
      obtain ⟨hb, h⟩ := bif_some h
      simp only [Bool.and_eq_true, decide_eq_true_eq] at hb
      obtain ⟨rfl, rfl⟩ := M.pure_some h
      refine Sim.same hr ?_ (show σ.dom a.block from hx)
      simp only [Instr.indexAt, Sem.run_bind, asIntOf, Sem.run_pure, Result.andThen_ok, run_und hu, conc, hb, and_self, if_true, run_size hs, at_addOff]
    · exact (M.fail_some h).elim
  · rename_i len e a k n
    generalize hs : sizeOf' P e = d at h
    split at h
    · rename_i n
      obtain ⟨hb, h⟩ := bif_some h
      simp only [Bool.and_eq_true, decide_eq_true_eq] at hb
      obtain ⟨rfl, rfl⟩ := M.pure_some h
      refine Sim.same hr ?_ (show σ.dom a.block from hx)
      simp only [Instr.indexAt, Sem.run_bind, asIntOf, Sem.run_pure, Result.andThen_ok, run_und hu, conc, Instr.sureAddr, hb, and_self, if_true, run_size hs, at_addOff]
    · exact (M.fail_some h).elim
  · exact (M.fail_some h).elim

end Go.Abs
