/- A list of calls that comes in, as objects of an abstract state. No condition beyond the hypotheses. -/
import Derived.Test.YtfokbdgiphphfaaOpen2
import Derived.Test.YtfokbdgiphphfaaScript
import Derived.DataReads
namespace Go.Proofs.Ytfokbdgiphphfaa
open Go Go.Abs Go.RowKit Go.ChangeShapes Go.WideShapes Go.ChangeAt Go.Joins

/-- An inner slice of integers: a row, or an empty one of any place. -/
def IsAny (k : IntKind) (w : World) (a : Option Addr) (len cap : Nat) (zs : List Int) : Prop :=
  IsRow k w a len cap zs ∨ ∃ x, a = some x ∧ len = 0 ∧ cap = 0 ∧ zs = []

theorem cell_some {w : World} {a : Addr} {v : Value} (h : w.cell? a = some v) : a.spot = none ∧ a.block < w.heap.size := by
  unfold World.cell? at h
  split at h
  · rename_i hg
    split at h
    · cases h
    · rename_i hs
      refine ⟨?_, (Array.getElem?_eq_some_iff.1 hg).1⟩
      cases hq : a.spot with
      | none => rfl
      | some q => rw [hq] at hs; simp at hs
  · cases h

theorem any_of {H : Type} {enc : TypeId × Value → H} {P : Program} {w : World} {t e : TypeId} {k : IntKind} {fuel : Nat} {c : Value} {x : DataW H × List MemPlace} (ht : P.underlying t = some (.slice e)) (he : P.underlying e = some (.int k)) (hc : P.cellsOf e = 1)
    (h : DataW.trod enc P w 0 (fun _ => true) true fuel t [c] = some x) : ∃ a len cap zs, c = .slice a len cap ∧ IsAny k w a len cap zs ∧ ∀ n ∈ zs, (Lit.int k n).wf = true := by
  rcases open_ints ht he hc h with ⟨hcs, _⟩ | ⟨z, l, cp, zs, hcs, _, hl, hm, hz, _, hcell, hwz⟩
  · simp only [List.cons.injEq, and_true] at hcs
    exact ⟨none, 0, 0, [], hcs, Or.inl (Or.inl ⟨rfl, rfl, rfl, rfl⟩), fun n hn => by cases hn⟩
  · simp only [List.cons.injEq, and_true] at hcs
    have hz' : zs.length = cp := by simpa using hz
    by_cases h0 : cp = 0
    · subst h0
      have : zs = [] := by simpa using hz'
      subst this
      exact ⟨some z, l, 0, [], hcs, Or.inr ⟨z, rfl, by omega, rfl, rfl⟩, fun n hn => by cases hn⟩
    · have h1 := hcell 0 (by omega)
      have hz0 : z.add 0 = z := by simp [Addr.add]
      rw [hz0] at h1
      obtain ⟨hs, hb⟩ := cell_some h1
      obtain ⟨b, off, spot⟩ := z
      simp only at hs hb
      subst hs
      exact ⟨_, l, cp, zs, hcs, Or.inl (Or.inr ⟨b, off, rfl, hb, hl, hz', fun i hi => by rw [← Go.WideShapes.add_plain]; exact hcell i hi, hwz⟩), hwz⟩

/-- A call as it lies in memory: its words' slice as it is. -/
def RawOk (w : World) (o : OpD) : Prop := U64 o.y ∧ ∃ a len cap zs, o.u = .slice a len cap ∧ IsAny .u64 w a len cap zs

theorem op_cells {H : Type} {enc : TypeId × Value → H} {w : World} {fuel : Nat} {cs : List Value} {x : DataW H × List MemPlace} (h : DataW.trod enc Try.prog w 0 (fun _ => true) true fuel 43 cs = some x) : ∃ o, RawOk w o ∧ cs = o.cells := by
  obtain ⟨y0, y1, y2, y3, n, _, hl, h0, h1, h2, h3⟩ := trod_struct4 Try.underlying43 h
  have hc : Try.prog.cellsOf 43 = 4 := by kernel_rfl
  rw [hc] at hl
  obtain ⟨c0, c1, c2, c3, rfl⟩ : ∃ c0 c1 c2 c3, cs = [c0, c1, c2, c3] := by
    match cs, hl with
    | [c0, c1, c2, c3], _ => exact ⟨c0, c1, c2, c3, rfl⟩
  have e3 : Try.prog.cellsOf 3 = 1 := by kernel_rfl
  have e29 : Try.prog.cellsOf 29 = 1 := by kernel_rfl
  have e22 : Try.prog.cellsOf 22 = 1 := by kernel_rfl
  have g0 : DataW.trod enc Try.prog w 0 (fun _ => true) true n 3 [c0] = some y0 := by rw [← h0]; dsimp only; rw [e3]; rfl
  have g1 : DataW.trod enc Try.prog w 0 (fun _ => true) true n 3 [c1] = some y1 := by rw [← h1]; dsimp only; rw [e3]; rfl
  have g2 : DataW.trod enc Try.prog w 0 (fun _ => true) true n 29 [c2] = some y2 := by rw [← h2]; dsimp only; rw [e29]; rfl
  have g3 : DataW.trod enc Try.prog w 0 (fun _ => true) true n 22 [c3] = some y3 := by rw [← h3]; dsimp only; rw [e22]; rfl
  obtain ⟨k, q0, _, _⟩ := DataW.trod_int Try.underlying3 g0
  obtain ⟨x, q1, _, _⟩ := DataW.trod_int Try.underlying3 g1
  obtain ⟨y, q2, _, hy⟩ := DataW.trod_int Try.underlying29 g2
  obtain ⟨a, len, cap, zs, rfl, hany, hwz⟩ := any_of (k := .u64) Try.underlying22 Try.underlying29 e29 g3
  simp only [List.cons.injEq, and_true] at q0 q1 q2
  subst q0; subst q1; subst q2
  exact ⟨⟨k, x, y, .slice a len cap, []⟩, ⟨u64_wf hy, a, len, cap, zs, rfl, hany⟩, rfl⟩

theorem opsCells_get {os : List OpD} {i : Nat} {v : Value} (h : (opsCells os)[i]? = some v) : ∃ o, os[i / 4]? = some o ∧ o.cells[i % 4]? = some v := by
  have hlt := (List.getElem?_eq_some_iff.1 h).1
  rw [opsCells_length] at hlt
  have hq : i / 4 < os.length := by omega
  refine ⟨os[i / 4], List.getElem?_eq_getElem hq, ?_⟩
  rw [← opsCells_at os (i / 4) _ (List.getElem?_eq_getElem hq), List.getElem?_take_of_lt (by omega), List.getElem?_drop, show i / 4 * 4 + i % 4 = i by omega]
  exact h

/-- A list of calls in memory. -/
theorem rows_of {H : Type} {enc : TypeId × Value → H} {w : World} {base : Nat} {a : Option Addr} {len cap : Nat} {d : DataW H} {p : List MemPlace}
    (hok : Value.okWide Try.prog w .any base 41 (.slice a len cap)) (h : DataW.Trod enc Try.prog w 0 (fun _ => true) true 41 (.slice a len cap) d p) :
    ∃ rs : List OpD, rs.length = len ∧ (∀ o ∈ rs, RawOk w o) ∧ ((a = none ∧ len = 0 ∧ cap = 0) ∨ ∃ b off, a = some ⟨b, off, none⟩ ∧ b < w.heap.size ∧ ∀ i v, (opsCells rs)[i]? = some v → w.cell? ⟨b, off + i, none⟩ = some v) := by
  obtain ⟨fuel, hf⟩ := h
  have e43 : Try.prog.cellsOf 43 = 4 := by kernel_rfl
  rcases DataW.trod_slice Try.underlying41 hf with ⟨hcs, _⟩ | ⟨x, l, c, elems, rest, n, _, hcs, _, _, hl, _, hlen, hel, _, _⟩
  · simp [Value.cells] at hcs
    obtain ⟨rfl, rfl, rfl⟩ := hcs
    exact ⟨[], rfl, (fun o ho => by cases ho), Or.inl ⟨rfl, rfl, rfl⟩⟩
  · simp [Value.cells] at hcs
    obtain ⟨rfl, rfl, rfl⟩ := hcs
    obtain ⟨hs, hb⟩ := slice_there Try.underlying41 hok
    obtain ⟨b, off, spot⟩ := x
    simp only at hs hb
    subst hs
    rw [e43] at hel
    have each : ∀ i, ∃ o : OpD, i < len → RawOk w o ∧ ∀ j v, o.cells[j]? = some v → w.cell? ⟨b, off + (i * 4 + j), none⟩ = some v := by
      intro i
      by_cases hi : i < len
      · have h1 := hel i hi
        have hin : i < elems.length := by omega
        rw [List.getElem?_eq_getElem hin, Option.bind_eq_some_iff] at h1
        obtain ⟨cs, h2, h3⟩ := h1
        obtain ⟨_, hcl, hcell⟩ := World.cells?_some h2
        obtain ⟨o, ho, rfl⟩ := op_cells h3
        refine ⟨o, fun _ => ⟨ho, fun j v hv => ?_⟩⟩
        have hj : j < 4 := by have := (List.getElem?_eq_some_iff.1 hv).1; rw [hcl] at this; exact this
        have h4 := hcell j hj
        rw [hv, Go.WideShapes.add_plain, Go.WideShapes.add_plain] at h4
        rw [← h4, Nat.add_assoc]
      · exact ⟨⟨0, 0, 0, .nilIface, []⟩, fun h => absurd h hi⟩
    have hch : ∃ f : Nat → OpD, ∀ i, i < len → RawOk w (f i) ∧ ∀ j v, (f i).cells[j]? = some v → w.cell? ⟨b, off + (i * 4 + j), none⟩ = some v := ⟨fun i => (each i).choose, fun i => (each i).choose_spec⟩
    obtain ⟨f, hf'⟩ := hch
    refine ⟨(List.range len).map f, by simp, fun o ho => ?_, Or.inr ⟨b, off, rfl, hb, fun i v hv => ?_⟩⟩
    · obtain ⟨i, hi, rfl⟩ := List.mem_map.1 ho
      exact (hf' i (List.mem_range.1 hi)).1
    · obtain ⟨o, h1, h2⟩ := opsCells_get hv
      rw [List.getElem?_map] at h1
      obtain ⟨q, h3, rfl⟩ := Option.map_eq_some_iff.1 h1
      obtain ⟨h4, h5⟩ := List.getElem?_eq_some_iff.1 h3
      rw [List.length_range] at h4
      rw [List.getElem_range] at h5
      subst h5
      have := (hf' (i / 4) h4).2 (i % 4) v h2
      rwa [show i / 4 * 4 + i % 4 = i by omega] at this

/-! ## As objects -/

/-- An object that is never looked at: a place of any kind. -/
theorem dead_add {B : Nat} {w0 w : World} {μ : Mu} {σ : AS} (h : Rel B w0 μ σ w) {id : Nat} (hid : σ.heap.get id = none) (hn : id < σ.next) (b off ex : Nat) : Rel B w0 (μ.upd id b off ex) (σ.put id .dead) w := by
  have ha : Agree σ.dom μ (μ.upd id b off ex) := Mu.upd_agree hid
  have hblk : ∀ i, σ.dom i → (μ.upd id b off ex).blk i = μ.blk i := fun i hi => (ha i hi).1
  refine ⟨fun i oi hi => ?_, fun i oi hi => ?_, fun i j oi oj hi hj hri hlj hne => ?_, fun i oi hi hri => ?_, fun i oi hi hli => ?_, fun i oi hi => ?_, h.below, h.base⟩
  all_goals try simp only [AS.put, Tr.get_set] at hi
  · split at hi
    · cases hi; trivial
    · exact (h.fits i oi hi).of_agree ha (dom_of_get hi) (h.vin i oi hi)
  · split at hi
    · cases hi; trivial
    · exact AObj.Vin_mono (fun i hi => dom_set σ id _ i hi) (h.vin i oi hi)
  · simp only [AS.put, Tr.get_set] at hj
    split at hi
    · cases hi; cases hri
    · rw [hblk i (dom_of_get hi)]
      split at hj
      · cases hj; cases hlj
      · rw [hblk j (dom_of_get hj)]
        exact h.apart i j oi oj hi hj hri hlj hne
  · split at hi
    · cases hi; cases hri
    · rw [hblk i (dom_of_get hi)]; exact h.own i oi hi hri
  · split at hi
    · cases hi; cases hli
    · rw [hblk i (dom_of_get hi)]; exact h.size i oi hi hli
  · split at hi
    · subst_vars; exact hn
    · exact h.next i oi hi

/-- One more inner list as an object. -/
theorem any_add {w : World} {μ : Mu} {σ : AS} (hr : Rel w.heap.size w μ σ w) {id : Nat} (hid : σ.heap.get id = none) (hn : id < σ.next) (hw : Wf σ) {a : Option Addr} {len cap : Nat} {zs : List Int} (h : IsAny .u64 w a len cap zs) :
    ∃ μ' σ' v ws, Rel w.heap.size w μ' σ' w ∧ Wf σ' ∧ σ'.next = σ.next ∧ Agree σ.dom μ μ' ∧ (∀ i, σ.dom i → σ'.dom i) ∧ (∀ i, i ≠ id → σ'.heap.get i = σ.heap.get i) ∧ conc μ' v = .slice a len cap ∧ Vin σ'.dom v ∧ WordsOf (id + 1) σ' v ws ∧ (∀ x ∈ ws, U64 x) := by
  rcases h with h | ⟨⟨b, off, spot⟩, rfl, rfl, rfl, rfl⟩
  · obtain ⟨μ', σ', v, ws, h1, h2, h3, h4, h5, h6, h7, h8, h9, h10, h11, h12⟩ := words_add hr hid hn hw h
    exact ⟨μ', σ', v, ws, h1, h2, h3, h4, h5, h6, h7, h8, ⟨fun b hb => by rw [h12 b hb]; exact Nat.lt_succ_self _, Or.inl h9⟩, h10⟩
  · have hr' := fun ex => dead_add hr hid hn b off ex
    have hd : (σ.put id .dead).dom id := fun hh => by
      have h0 : (σ.put id AObj.dead).heap.get id = none := hh
      rw [AS.get_put_same] at h0
      cases h0
    cases spot with
    | none =>
      exact ⟨_, _, .slice (some ⟨id, 0, none⟩) 0 0, [], hr' 0, hw.put _ hn, rfl, Mu.upd_agree hid, fun i hi => dom_set σ id _ i hi, fun i hi => AS.get_put_ne _ _ hi, by simp [conc, Mu.at, Mu.upd], hd,
        ⟨(fun b hb => by cases hb; exact Nat.lt_succ_self _), Or.inl (Or.inr (Or.inl ⟨_, _, rfl, rfl⟩))⟩, (fun x hx => by cases hx)⟩
    | some s =>
      exact ⟨_, _, .chan (some id), [], hr' s, hw.put _ hn, rfl, Mu.upd_agree hid, fun i hi => dom_set σ id _ i hi, fun i hi => AS.get_put_ne _ _ hi, by simp [conc, Mu.upd], hd,
        ⟨(fun b hb => by cases hb), Or.inr ⟨id, rfl, rfl⟩⟩, (fun x hx => by cases hx)⟩

/-- The calls' own lists as objects, one number each. -/
theorem ops_in {w : World} : ∀ (rs : List OpD) (μ : Mu) (σ : AS) (id : Nat), Rel w.heap.size w μ σ w → Wf σ → (∀ i, id ≤ i → σ.heap.get i = none) → id + rs.length ≤ σ.next → (∀ o ∈ rs, RawOk w o) →
    ∃ μ' σ' os, Rel w.heap.size w μ' σ' w ∧ Wf σ' ∧ σ'.next = σ.next ∧ Agree σ.dom μ μ' ∧ (∀ i, σ.dom i → σ'.dom i) ∧ (∀ i, i < id → σ'.heap.get i = σ.heap.get i) ∧ (∀ i, id + rs.length ≤ i → σ'.heap.get i = none) ∧
      (opsCells os).map (conc μ') = opsCells rs ∧ os.length = rs.length ∧ VinL σ'.dom (opsCells os) ∧ ∀ o ∈ os, o.In (id + rs.length) σ'
  | [], μ, σ, id, hr, hw, hfree, _, _ => ⟨μ, σ, [], hr, hw, rfl, Agree.refl _ _, fun _ h => h, fun _ _ => rfl, fun i hi => hfree i (by simpa using hi), rfl, rfl, trivial, fun o ho => by cases ho⟩
  | r :: rs, μ, σ, id, hr, hw, hfree, hn, hok => by
    obtain ⟨hy, a, len, cap, zs, hu, hany⟩ := hok r (List.mem_cons_self ..)
    simp only [List.length_cons] at hn
    obtain ⟨μ1, σ1, v, ws, r1, w1, n1, ag1, d1, same1, c1, vin1, wo1, u1⟩ := any_add hr (hfree id (Nat.le_refl _)) (by omega) hw hany
    obtain ⟨μ2, σ2, os, r2, w2, n2, ag2, d2, same2, free2, c2, l2, vin2, in2⟩ := ops_in rs μ1 σ1 (id + 1) r1 w1 (fun i hi => by rw [same1 i (by omega)]; exact hfree i (by omega)) (by rw [n1]; omega) (fun o ho => hok o (List.mem_cons_of_mem _ ho))
    refine ⟨μ2, σ2, ⟨r.k, r.x, r.y, v, ws⟩ :: os, r2, w2, n2.trans n1, ag1.trans ag2 d1, fun i hi => d2 i (d1 i hi), fun i hi => ?_, fun i hi => free2 i (by simp only [List.length_cons] at hi; omega), ?_, by simp [l2], ?_, fun o ho => ?_⟩
    · rw [same2 i (by omega), same1 i (by omega)]
    · have h1 : opsCells (⟨r.k, r.x, r.y, v, ws⟩ :: os) = [.int .i64 r.k, .int .i64 r.x, .int .u64 r.y, v] ++ opsCells os := by simp [opsCells, OpD.cells, opCells]
      have h2 : opsCells (r :: rs) = [.int .i64 r.k, .int .i64 r.x, .int .u64 r.y, r.u] ++ opsCells rs := by simp [opsCells, OpD.cells, opCells]
      rw [h1, h2, List.map_append, c2]
      congr 1
      simp only [List.map_cons, List.map_nil]
      rw [conc_agree ag2 v vin1, c1, hu]
      simp [conc]
    · have h1 : opsCells (⟨r.k, r.x, r.y, v, ws⟩ :: os) = [.int .i64 r.k, .int .i64 r.x, .int .u64 r.y, v] ++ opsCells os := by simp [opsCells, OpD.cells, opCells]
      rw [h1]
      refine VinL_iff.2 fun z hz => ?_
      rcases List.mem_append.1 hz with hz | hz
      · simp only [List.mem_cons, List.not_mem_nil, or_false] at hz
        rcases hz with rfl | rfl | rfl | rfl
        · trivial
        · trivial
        · trivial
        · exact Vin_mono d2 _ vin1
      · exact VinL_iff.1 vin2 z hz
    · rcases List.mem_cons.1 ho with rfl | ho
      · refine ⟨hy, u1, fun b hb => by have := wo1.1 b hb; simp only [List.length_cons]; omega, wo1.2.imp (fun hr => hr.of_get fun b hb => same2 b (wo1.1 b hb)) fun h => h⟩
      · have := in2 o ho
        simp only [List.length_cons]
        rwa [show id + 1 + rs.length = id + (rs.length + 1) by omega] at this

/-- A script that comes in, as an object. -/
theorem script_in {w : World} {a : Option Addr} {len cap : Nat} {rs : List OpD} (hl : rs.length = len) (hok : ∀ o ∈ rs, RawOk w o)
    (h : (a = none ∧ len = 0 ∧ cap = 0) ∨ ∃ b off, a = some ⟨b, off, none⟩ ∧ b < w.heap.size ∧ ∀ i v, (opsCells rs)[i]? = some v → w.cell? ⟨b, off + i, none⟩ = some v) :
    ∃ μ σ v os, Rel w.heap.size w μ σ w ∧ Wf σ ∧ conc μ v = .slice a len cap ∧ Vin σ.dom v ∧ Script σ.next σ v os := by
  subst hl
  rcases h with ⟨rfl, h0, rfl⟩ | ⟨b, off, rfl, hb, hcell⟩
  · have : rs = [] := List.length_eq_zero_iff.1 h0
    subst this
    exact ⟨⟨id, id, id⟩, ⟨.leaf, 1⟩, .slice none 0 0, [], Rel.empty w _ 1, fun i o hi => (by cases hi), rfl, trivial, Or.inl ⟨rfl, rfl⟩, fun b hb => (by cases hb), fun o ho => (by cases ho)⟩
  · have hw0 : Wf ⟨.leaf, rs.length + 1⟩ := fun i o hi => by cases hi
    obtain ⟨μ, σ, os, r2, w2, n2, _, _, _, free2, c2, l2, vin2, in2⟩ := ops_in rs ⟨id, id, id⟩ ⟨.leaf, rs.length + 1⟩ 0 (Rel.empty w _ _) hw0 (fun _ _ => rfl) (by show 0 + rs.length ≤ rs.length + 1; omega) hok
    have n2' : σ.next = rs.length + 1 := n2
    have hr' := r2.readOnly' (id := rs.length) (free2 _ (by omega)) (by omega) (opsCells os) vin2 b off (fun i v hv => by
      refine hcell i _ ?_
      rw [← c2, List.getElem?_map, hv]
      rfl) hb
    have hget : ∀ i, i ≠ rs.length → (σ.put rs.length (.cells (opsCells os) 0 true)).heap.get i = σ.heap.get i := fun i hi => AS.get_put_ne _ _ hi
    refine ⟨_, _, .slice (some ⟨rs.length, 0, none⟩) rs.length cap, os, hr', w2.put _ (by omega), by simp [conc, Mu.at, Mu.upd], (fun hh => by
      have h0 : (σ.put rs.length (.cells (opsCells os) 0 true)).heap.get rs.length = none := hh
      rw [AS.get_put_same] at h0
      cases h0), Or.inr (Or.inr ⟨⟨rs.length, 0, none⟩, rs.length, cap, opsCells os, 0, true, rfl, rfl, AS.get_put_same _ _ _, ?_, ?_, ?_⟩), fun b hb => ?_, fun o ho => ?_⟩
    · rw [opsCells_length, l2]
    · rw [opsCells_length, l2]; dsimp only; omega
    · rw [← l2, ← opsCells_length]; simp
    · cases hb; show rs.length < σ.next; omega
    · have hin := in2 o ho
      refine ⟨hin.y, hin.w, fun b hb => ?_, hin.u.2.imp (fun hr => hr.of_get fun b hb => hget b ?_) fun h => h⟩
      · have := hin.u.1 b hb
        show b < σ.next
        omega
      · have := hin.u.1 b hb
        omega

end Go.Proofs.Ytfokbdgiphphfaa
