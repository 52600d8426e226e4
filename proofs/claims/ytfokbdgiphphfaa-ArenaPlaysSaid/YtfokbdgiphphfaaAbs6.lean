/- The abstract evaluator: each operation on memory does in the model what it does on the abstract state (third part: slices, append, copy, bytes). No condition. -/
import Derived.Test.YtfokbdgiphphfaaAbs5
namespace Go.Abs
open Go.RowKit

/-! ### Slices of slices -/

theorem bound'_some {P : Program} {w : World} {μ : Mu} {v : Value} {y y' k : Nat} (h : bound' v y = some k) (hy : y ≤ y') (code : BoundsCode) :
    (Instr.sliceBound (conc μ v) y' code).run P w = .ok k w ∧ k ≤ y := by
  unfold bound' at h
  split at h
  · rename_i kd i
    cases hb : decide (0 ≤ i) && decide (i ≤ (y : Int)) with
    | false => rw [hb] at h; cases h
    | true =>
      rw [hb] at h
      simp only [cond_true, Option.some.injEq] at h
      simp only [Bool.and_eq_true, decide_eq_true_eq] at hb
      have hc : 0 ≤ i ∧ i ≤ (y' : Int) := ⟨hb.1, by omega⟩
      refine ⟨?_, by omega⟩
      simp only [Instr.sliceBound, conc, asIntOf, Sem.run_bind, Sem.run_pure, Result.andThen_ok, hc, and_self, if_true, h]
  · cases h

theorem bounds'_some {P : Program} {w : World} {μ : Mu} {len cap cap' : Nat} {lo hi mx : Option Value} {l h m : Nat} (hb : bounds' len cap lo hi mx = some (l, h, m)) (hc : cap ≤ cap') (isS : Bool) :
    (Instr.sliceBounds isS len cap' (lo.map (conc μ)) (hi.map (conc μ)) (mx.map (conc μ))).run P w = .ok (l, h, if mx.isNone then cap' else m) w ∧ l ≤ h ∧ h ≤ m ∧ m ≤ cap ∧ (mx.isNone = true → m = cap) := by
  unfold bounds' at hb
  cases mx with
  | none =>
    simp only at hb
    cases hi with
    | none =>
      simp only at hb
      cases hlb : Nat.ble len cap with
      | false => rw [hlb] at hb; cases hb
      | true =>
      rw [hlb] at hb
      have hle := Nat.le_of_ble_eq_true hlb
      simp only [cond_true] at hb
      cases lo with
      | none =>
        simp only [Option.some.injEq, Prod.mk.injEq] at hb
        obtain ⟨rfl, rfl, rfl⟩ := hb
        refine ⟨?_, by omega, hle, Nat.le_refl _, fun _ => rfl⟩
        simp [Instr.sliceBounds]
      | some lv =>
        simp only at hb
        cases hl : bound' lv len with
        | none => rw [hl] at hb; cases hb
        | some k =>
          rw [hl] at hb
          simp only [Option.some.injEq, Prod.mk.injEq] at hb
          obtain ⟨rfl, rfl, rfl⟩ := hb
          obtain ⟨r1, r2⟩ := bound'_some (P := P) (w := w) (μ := μ) hl (Nat.le_refl _) .sliceB
          refine ⟨?_, r2, hle, Nat.le_refl _, fun _ => rfl⟩
          simp [Instr.sliceBounds, r1]
    | some hv =>
      simp only at hb
      cases hh : bound' hv cap with
      | none => rw [hh] at hb; cases hb
      | some k =>
        rw [hh] at hb
        simp only at hb
        have r0 := fun code => bound'_some (P := P) (w := w) (μ := μ) hh hc code
        have r02 := (r0 .sliceB).2
        cases lo with
        | none =>
          simp only [Option.some.injEq, Prod.mk.injEq] at hb
          obtain ⟨rfl, rfl, rfl⟩ := hb
          refine ⟨?_, by omega, r02, Nat.le_refl _, fun _ => rfl⟩
          simp [Instr.sliceBounds, (r0 _).1]
        | some lv =>
          simp only at hb
          cases hl : bound' lv k with
          | none => rw [hl] at hb; cases hb
          | some j =>
            rw [hl] at hb
            simp only [Option.some.injEq, Prod.mk.injEq] at hb
            obtain ⟨rfl, rfl, rfl⟩ := hb
            obtain ⟨r1, r2⟩ := bound'_some (P := P) (w := w) (μ := μ) hl (Nat.le_refl _) .sliceB
            refine ⟨?_, r2, r02, Nat.le_refl _, fun _ => rfl⟩
            simp [Instr.sliceBounds, (r0 _).1, r1]
  | some mv =>
    simp only at hb
    cases hm : bound' mv cap with
    | none => rw [hm] at hb; cases hb
    | some km =>
      rw [hm] at hb
      have rm := fun code => bound'_some (P := P) (w := w) (μ := μ) hm hc code
      have rm2 := (rm .sliceB).2
      cases hi with
      | none => cases hb
      | some hv =>
        simp only at hb
        cases hh : bound' hv km with
        | none => rw [hh] at hb; cases hb
        | some k =>
          rw [hh] at hb
          simp only at hb
          have r0 := fun code => bound'_some (P := P) (w := w) (μ := μ) hh (Nat.le_refl _) code
          have r02 := (r0 .sliceB).2
          cases lo with
          | none =>
            simp only [Option.some.injEq, Prod.mk.injEq] at hb
            obtain ⟨rfl, rfl, rfl⟩ := hb
            refine ⟨?_, by omega, r02, rm2, fun h => by cases h⟩
            simp [Instr.sliceBounds, (r0 _).1, (rm _).1]
          | some lv =>
            simp only at hb
            cases hl : bound' lv k with
            | none => rw [hl] at hb; cases hb
            | some j =>
              rw [hl] at hb
              simp only [Option.some.injEq, Prod.mk.injEq] at hb
              obtain ⟨rfl, rfl, rfl⟩ := hb
              obtain ⟨r1, r2⟩ := bound'_some (P := P) (w := w) (μ := μ) hl (Nat.le_refl _) .slice3C
              refine ⟨?_, r2, r02, rm2, fun h => by cases h⟩
              simp [Instr.sliceBounds, (r0 _).1, (rm _).1, r1]

/-- An object that is never looked at. -/
theorem Rel.newDead {B : Nat} {w0 w : World} {μ : Mu} {σ : AS} (h : Rel B w0 μ σ w) {id : Nat} (hid : σ.heap.get id = none) (hn : id < σ.next) (b base extra : Nat) :
    Rel B w0 (μ.upd id b base extra) { σ with heap := σ.heap.set id .dead } w := by
  have ha : Agree σ.dom μ (μ.upd id b base extra) := Mu.upd_agree hid
  have hblk : ∀ i, σ.dom i → (μ.upd id b base extra).blk i = μ.blk i := fun i hi => (ha i hi).1
  refine ⟨fun i oi hi => ?_, fun i oi hi => ?_, fun i j oi oj hi hj hri hlj hne => ?_, fun i oi hi hri => ?_, fun i oi hi hli => ?_, fun i oi hi => ?_, h.below, h.base⟩
  all_goals simp only [Tr.get_set] at hi
  · split at hi
    · cases hi; trivial
    · exact (h.fits i oi hi).of_agree ha (dom_of_get hi) (h.vin i oi hi)
  · split at hi
    · cases hi; trivial
    · exact AObj.Vin_mono (fun i hi => dom_set σ id _ i hi) (h.vin i oi hi)
  · simp only [Tr.get_set] at hj
    split at hi
    · cases hi; exact hri.elim
    · split at hj
      · cases hj; exact hlj.elim
      · rw [hblk i (dom_of_get hi), hblk j (dom_of_get hj)]; exact h.apart i j oi oj hi hj hri hlj hne
  · split at hi
    · cases hi; exact hri.elim
    · rw [hblk i (dom_of_get hi)]; exact h.own i oi hi hri
  · split at hi
    · cases hi; exact hli.elim
    · rw [hblk i (dom_of_get hi)]; exact h.size i oi hi hli
  · split at hi
    · subst_vars; exact hn
    · exact h.next i oi hi

theorem aSlice_sim {P : Program} {B : Nat} {w0 w : World} {μ : Mu} {σ σ' : AS} (hr : Rel B w0 μ σ w) {id : Nat} {t : TypeId} {x : Value} {lo hi mx : Option Value} {v : Value} (hx : Vin σ.dom x)
    (h : aSlice P id t x lo hi mx σ = some (v, σ')) : Sim P B w0 μ σ w (Instr.sliceAt t (conc μ x) (lo.map (conc μ)) (hi.map (conc μ)) (mx.map (conc μ))) v σ' := by
  unfold aSlice at h
  split at h
  · rename_i a len cap
    generalize he : elemSize P t = en at h
    generalize hb : bounds' len cap lo hi mx = b? at h
    split at h
    · rename_i e n l hh m
      obtain ⟨hu, hs⟩ := elemSize_some he
      obtain ⟨hrun, hl, hhm, hmc, hmx⟩ := bounds'_some (P := P) (w := w) (μ := μ) hb (cap' := cap + μ.extra a.block) (Nat.le_add_right _ _) true
      have hmod : ∀ m', (if mx.isNone then cap + μ.extra a.block else m) = m' → (Instr.sliceAt t (conc μ (.slice (some a) len cap)) (lo.map (conc μ)) (hi.map (conc μ)) (mx.map (conc μ))).run P w =
          .ok (.slice (if m' = l then some (μ.at a) else some ((μ.at a).add (l * n))) (hh - l) (m' - l)) w := by
        intro m' hm'
        rw [hm'] at hrun
        simp only [Instr.sliceAt, Instr.slice, conc, Sem.run_bind, run_und hu, Result.andThen_ok, hrun, run_size hs, Sem.run_pure, Option.map_some]
      cases hc1 : mx.isNone && !Nat.beq m l with
      | true =>
        rw [hc1] at h
        simp only [cond_true] at h
        obtain ⟨rfl, rfl⟩ := M.pure_some h
        simp only [Bool.and_eq_true, Bool.not_eq_true'] at hc1
        have hne := ne_of_nbeq hc1.2
        have hm := hmx hc1.1
        refine Sim.same hr ?_ (show σ.dom a.block from hx)
        rw [hmod (cap + μ.extra a.block) (by rw [hc1.1, if_pos rfl]), if_neg (by omega)]
        simp only [conc, at_addOff, Result.ok.injEq, Value.slice.injEq, and_true, true_and]
        simp only [addOff]
        omega
      | false =>
        rw [hc1, cond_false] at h
        obtain ⟨o, σ₁, h1, h2⟩ := M.bind_some h
        obtain ⟨g1, rfl⟩ := M.get_some h1
        split at h2
        · rename_i c ro
          obtain ⟨rfl, rfl⟩ := M.pure_some h2
          have hex : μ.extra a.block = 0 := (hr.fits _ _ g1).2.2 rfl
          refine Sim.same hr ?_ (show σ.dom a.block from hx)
          rw [hmod m (by cases hn : mx.isNone with
            | true => rw [if_pos rfl, hex, hmx hn]; rfl
            | false => rw [if_neg (by simp)])]
          by_cases hml : m = l
          · have : Nat.beq m l = true := by rw [hml]; exact Nat.beq_refl l
            rw [if_pos hml, this]
            have hex' : μ.extra (addOff a 0).block = 0 := hex
            simp only [conc, cond_true, hex', Nat.add_zero]
            rfl
          · rw [if_neg hml, nbeq_false hml]
            have hex' : μ.extra (addOff a (l * n)).block = 0 := hex
            simp only [conc, cond_false, hex', at_addOff, Nat.add_zero]
        · rename_i c room ro hroom
          obtain ⟨hn, h2⟩ := bif_some h2
          obtain ⟨_, σ₂, h3, h4⟩ := M.bind_some h2
          obtain ⟨rfl, rfl⟩ := M.pure_some h4
          obtain ⟨a1, a2, rfl⟩ := M.alloc_some h3
          rw [hn] at hc1
          simp only [Bool.true_and, Bool.not_eq_false'] at hc1
          have hml := Nat.eq_of_beq_eq_true hc1
          have hm := hmx hn
          have hwhere := hmod (cap + μ.extra a.block) (by rw [hn, if_pos rfl])
          by_cases he0 : cap + μ.extra a.block = l
          · refine ⟨_, _, ?_, hr.newDead a1 a2 (μ.blk a.block) (μ.base a.block + a.off) (μ.extra a.block), Mu.upd_agree a1, dom_set_same _ _ _, fun i hi => dom_set _ _ _ i hi⟩
            rw [hwhere, if_pos he0]
            simp only [conc, Mu.at, Mu.upd, if_true, Nat.add_zero]
            congr 2 <;> omega
          · refine ⟨_, _, ?_, hr.newDead a1 a2 (μ.blk a.block) (μ.base a.block + (a.off + l * n)) (μ.extra a.block), Mu.upd_agree a1, dom_set_same _ _ _, fun i hi => dom_set _ _ _ i hi⟩
            rw [hwhere, if_neg he0, at_add]
            simp only [conc, Mu.at, Mu.upd, if_true, Nat.add_zero]
            congr 2 <;> omega
        · exact (M.fail_some h2).elim
    · exact (M.fail_some h).elim
  · exact (M.fail_some h).elim

/-! ### Where cells come from -/

theorem srcCells_sim {P : Program} {B : Nat} {w0 w : World} {μ : Mu} {σ σ' : AS} (hr : Rel B w0 μ σ w) {n k : Nat} {x : Value} {c : List Value}
    (h : srcCells n k x σ = some (c, σ')) : σ = σ' ∧ (Builtin.firstCells n k (conc μ x)).run P w = .ok (concL μ c).toArray w ∧ VinL σ.dom c ∧ (∀ s, x = .string s → n = 1) := by
  unfold srcCells at h
  split at h
  · obtain ⟨rfl, rfl⟩ := M.pure_some h
    exact ⟨rfl, by simp [Builtin.firstCells, conc, concL], by simp [VinL], fun s e => by cases e⟩
  · rename_i a len cap
    cases hk : Nat.beq k 0 with
    | true =>
      rw [hk] at h
      obtain ⟨rfl, rfl⟩ := M.pure_some h
      have := Nat.eq_of_beq_eq_true hk
      subst this
      exact ⟨rfl, by simp [Builtin.firstCells, conc, concL, loadCells, loadCellsFrom], by simp [VinL], fun s e => by cases e⟩
    | false =>
      rw [hk, cond_false] at h
      obtain ⟨o, σ₁, h1, h2⟩ := M.bind_some h
      obtain ⟨g1, rfl⟩ := M.get_some h1
      split at h2
      · rename_i c room ro
        obtain ⟨hb, h2⟩ := bif_some h2
        have hle := Nat.le_of_ble_eq_true hb
        obtain ⟨rfl, rfl⟩ := M.pure_some h2
        refine ⟨rfl, ?_, ?_, fun s e => by cases e⟩
        · have hl : (concL μ ((c.drop a.off).take (k * n))).length = k * n := by rw [concL_length]; simp; omega
          have hrun := run_loadCells_list (P := P) (w := w) (μ.at a) (concL μ ((c.drop a.off).take (k * n))) (fun j u hj => by
            rw [concL_getElem?] at hj
            obtain ⟨u', hu', rfl⟩ := Option.map_eq_some_iff.1 hj
            rw [List.getElem?_take] at hu'
            split at hu'
            · rw [List.getElem?_drop] at hu'
              rw [at_add]
              exact hr.cell g1 hu'
            · cases hu')
          rw [hl] at hrun
          simp only [Builtin.firstCells, conc]
          exact hrun
        · exact VinL_iff.2 fun u hu => VinL_iff.1 (hr.vin _ _ g1) u (List.mem_of_mem_drop (List.mem_of_mem_take hu))
      · exact (M.fail_some h2).elim
  · rename_i s
    obtain ⟨hb, h⟩ := bif_some h
    obtain ⟨rfl, rfl⟩ := M.pure_some h
    refine ⟨rfl, ?_, ?_, fun _ _ => Nat.eq_of_beq_eq_true hb⟩
    · simp only [Builtin.firstCells, conc, Sem.run_pure]
      congr 1
      apply Array.ext'
      have e1 : (s.extract 0 k).data.toList = s.data.toList.take k := by rw [Lib.extract_data]; simp
      simp only [Array.toList_map, e1, concL_eq, List.map_map]
      apply List.map_congr_left
      intro b _
      simp [conc]
    · exact VinL_iff.2 fun u hu => by
        obtain ⟨b, _, rfl⟩ := List.mem_map.1 hu
        simp [Vin]
  · obtain ⟨hk, h⟩ := bif_some h
    obtain ⟨rfl, rfl⟩ := M.pure_some h
    have := Nat.eq_of_beq_eq_true hk
    subst this
    exact ⟨rfl, by simp [Builtin.firstCells, conc, concL, loadCells, loadCellsFrom], by simp [VinL], fun s e => by cases e⟩
  · exact (M.fail_some h).elim

theorem lenOf'_some {P : Program} {w : World} {μ : Mu} {x : Value} {k : Nat} (h : lenOf' x = some k) : (Builtin.lenOf (conc μ x)).run P w = .ok k w := by
  unfold lenOf' at h
  split at h
  · rename_i a l c
    cases h
    cases a <;> simp [Builtin.lenOf, conc]
  · cases h; simp [Builtin.lenOf, conc]
  · cases h; simp [Builtin.lenOf, conc]
  · cases h

/-! ### append -/

theorem growBy_le (need : Nat) : ∀ (r c : Nat), c ≤ need → Builtin.growBy need r c ≤ 2 * need + 512
  | 0, c, h => by simp only [Builtin.growBy]; omega
  | r + 1, c, h => by
    simp only [Builtin.growBy]
    split
    · omega
    · by_cases h2 : c + (c + 768) / 4 ≤ need
      · exact growBy_le need r _ h2
      · cases r with
        | zero => simp only [Builtin.growBy]; omega
        | succ r => simp only [Builtin.growBy]; rw [if_pos (by omega)]; omega

theorem nextslicecap_le (need old : Nat) (h : old < need) : Builtin.nextslicecap need old ≤ 2 * need + 512 := by
  unfold Builtin.nextslicecap
  split
  · omega
  · split
    · omega
    · exact growBy_le need 4 old (by omega)

theorem flat_all (μ : Mu) {l : List Value} (h : l.all flat = true) : ∀ v ∈ concL μ l, v.oneCell' = true := fun v hv => by
  rw [concL_eq] at hv
  obtain ⟨u, hu, rfl⟩ := List.mem_map.1 hv
  exact flat_one μ u (List.all_eq_true.1 h u hu)

theorem zeroCells_size (z : Array Value) (n : Nat) : (Builtin.zeroCells z n).size = n * z.size := by simp [Builtin.zeroCells]

theorem run_storeCells_in {P : Program} {B : Nat} {w0 w : World} {μ : Mu} {σ : AS} (hr : Rel B w0 μ σ w) {id : Nat} {c : List Value} {room : Nat} (hid : σ.heap.get id = some (.cells c room false))
    (o : Nat) (vs : List Value) (hfit : o + vs.length ≤ c.length + μ.extra id * room) (hfl : vs.all flat = true) :
    (storeCells ⟨μ.blk id, μ.base id + o, none⟩ (concL μ vs)).run P w = .ok () (w.setCells (μ.blk id) (μ.base id + o) (concL μ vs)) := by
  obtain ⟨f1, f2, f3⟩ := hr.fits _ _ hid
  have hl : (concL μ vs).length = vs.length := concL_length μ vs
  have hrun := run_storeCells_cells (P := P) (μ.blk id) (μ.base id + o) (concL μ vs) 0 w
    (fun j hj => by
      rw [hl] at hj
      have := (f2 rfl (o + j) (by omega)).1
      simpa [Nat.add_assoc] using this)
    (fun j hj => by
      rw [hl] at hj
      have := (f2 rfl (o + j) (by omega)).2
      simpa [Nat.add_assoc] using this)
    (flat_all μ hfl)
  rw [hrun, Nat.add_zero]

def Appendable (P : Program) (xt : TypeId) : Prop := (∃ e, P.underlying xt = some (.slice e)) ∨ P.underlying xt = some .string

theorem appendable {P : Program} {xt : TypeId} (hx : notAppendable P xt = false) : Appendable P xt := by
  unfold notAppendable at hx
  split at hx
  · rename_i e h; exact .inl ⟨e, h⟩
  · rename_i h; exact .inr h
  · cases hx

theorem append_room_none {P : Program} {w : World} {t xt e : TypeId} {n k len cap : Nat} {x : Value} {new : Array Value} (ty : TypeId) (hu : P.underlying t = some (.slice e)) (hs : sizeOf' P e = some n)
    (hx : Appendable P xt) (hk : (Builtin.lenOf x).run P w = .ok k w) (hc : len + k ≤ cap) (hf : (Builtin.firstCells n k x).run P w = .ok new w) :
    (Builtin.append_ #[t, xt] ty #[.slice none len cap, x]).run P w = .ok (.slice none (len + k) cap) w := by
  rcases hx with ⟨e', hd⟩ | hd
  all_goals simp [Builtin.append_, run_und hu, run_size hs, run_und hd, hk, hc, hf]

theorem append_room_some {P : Program} {w w' : World} {t xt e : TypeId} {n k len cap : Nat} {a : Addr} {x : Value} {new : Array Value} (ty : TypeId) (hu : P.underlying t = some (.slice e)) (hs : sizeOf' P e = some n)
    (hx : Appendable P xt) (hk : (Builtin.lenOf x).run P w = .ok k w) (hc : len + k ≤ cap) (hf : (Builtin.firstCells n k x).run P w = .ok new w)
    (hst : (storeCells (a.add (len * n)) new.toList).run P w = .ok () w') :
    (Builtin.append_ #[t, xt] ty #[.slice (some a) len cap, x]).run P w = .ok (.slice (some a) (len + k) cap) w' := by
  rcases hx with ⟨e', hd⟩ | hd
  all_goals simp [Builtin.append_, run_und hu, run_size hs, run_und hd, hk, hc, hf, hst]

theorem append_grow {P : Program} {w : World} {t xt e : TypeId} {i : TypeInfo} {z : Value} {k len cap : Nat} {base : Option Addr} {x : Value} {old new : Array Value} (ty : TypeId) (hu : P.underlying t = some (.slice e))
    (hi : P.info? e = some i) (hz : i.zero = some z)
    (hx : Appendable P xt) (hk : (Builtin.lenOf x).run P w = .ok k w) (hc : cap < len + k) (h63 : ((len + k : Nat) : Int) ≤ 9223372036854775807) (hfit : Builtin.nextslicecap (len + k) cap * i.bytes ≤ 281474976710656)
    (hfo : (Builtin.firstCells i.size len (.slice base len cap)).run P w.drew = .ok old w.drew) (hf : (Builtin.firstCells i.size k x).run P w.drew = .ok new w.drew) :
    (Builtin.append_ #[t, xt] ty #[.slice base len cap, x]).run P w =
      .ok (.slice (some ⟨w.heap.size, 0, none⟩) (len + k) (grownCap w (len + k) cap e)) (w.drew.alloc (.cells (old ++ new ++ Builtin.zeroCells z.cells (grownCap w (len + k) cap e - (len + k))) e)) := by
  have hn : ¬ (len + k ≤ cap) := by omega
  have h63' : ¬ (9223372036854775807 < ((len : Int) + (k : Int))) := by omega
  have h48' : ¬ (281474976710656 < Builtin.nextslicecap (len + k) cap * i.bytes) := by omega
  rcases hx with ⟨e', hd⟩ | hd
  all_goals (simp [Builtin.append_, run_und hu, run_und hd, sizeOf, typeInfo, zeroValue, hi, hz, hk, hn, h63', h48', Question.forced, hf, hfo, newRow, grownCap]; done)

end Go.Abs
