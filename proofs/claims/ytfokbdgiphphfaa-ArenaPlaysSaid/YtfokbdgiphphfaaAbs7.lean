/- The abstract evaluator: each operation on memory does in the model what it does on the abstract state (fourth part: append, copy, bytes). No condition. -/
import Derived.Test.YtfokbdgiphphfaaAbs6
namespace Go.Abs
open Go.RowKit

/-- An append that finds room behind what is known of its array. -/
theorem Rel.extend {B : Nat} {w0 w : World} {μ : Mu} {σ : AS} (h : Rel B w0 μ σ w) {id : Nat} {a : Addr} {c : List Value} {n len k cap : Nat} (hid : σ.heap.get a.block = some (.cells c n false))
    (hnew : σ.heap.get id = none) (hn : id < σ.next) (hend : a.off + cap * n = c.length) (hlc : len ≤ cap) (hroom : len + k ≤ cap + μ.extra a.block) (hn1 : 1 ≤ n) (new : List Value) (hl : new.length = k * n) (hv : VinL σ.dom new) :
    Rel B w0 (μ.upd id (μ.blk a.block) (μ.base a.block + a.off) (cap + μ.extra a.block - (len + k)))
      { σ with heap := (σ.heap.set a.block .dead).set id (.cells ((c.drop a.off).take (len * n) ++ new) n false) } (w.setCells (μ.blk a.block) (μ.base a.block + (a.off + len * n)) (concL μ new)) := by
  obtain ⟨f1, f2, f3⟩ := h.fits _ _ hid
  have hne : id ≠ a.block := fun e => by rw [e, hid] at hnew; cases hnew
  have hk := h.kill hid
  have hlen : (concL μ new).length = k * n := by rw [concL_length, hl]
  have hmul : len * n ≤ cap * n := Nat.mul_le_mul_right n hlc
  have hadd : (len + k) * n = len * n + k * n := Nat.add_mul _ _ _
  have hroom' : (len + k) * n ≤ (cap + μ.extra a.block) * n := Nat.mul_le_mul_right n hroom
  have hcap : (cap + μ.extra a.block) * n = cap * n + μ.extra a.block * n := Nat.add_mul _ _ _
  have hold : ((c.drop a.off).take (len * n)).length = len * n := by simp; omega
  have hnew' : ({ σ with heap := σ.heap.set a.block .dead } : AS).heap.get id = none := by simp only [Tr.get_set]; rw [if_neg hne]; exact hnew
  have hbl : ∀ i oi, ({ σ with heap := σ.heap.set a.block .dead } : AS).heap.get i = some oi → oi.live → μ.blk i ≠ μ.blk a.block := by
    intro i oi hi hli
    simp only [Tr.get_set] at hi
    split at hi
    · cases hi; exact hli.elim
    · rename_i hne'
      exact fun e => h.apart a.block i _ oi hid hi rfl hli (fun e => hne' e.symm) e.symm
  have hcells : ∀ j, j < (concL μ new).length → (w.cell? ⟨μ.blk a.block, μ.base a.block + (a.off + len * n) + j, none⟩).isSome = true := fun j hj => by
    have := (f2 rfl (a.off + len * n + j) (by omega)).1
    rwa [show μ.base a.block + (a.off + len * n + j) = μ.base a.block + (a.off + len * n) + j by omega] at this
  have hag : Agree σ.dom μ (μ.upd id (μ.blk a.block) (μ.base a.block + a.off) (cap + μ.extra a.block - (len + k))) := Mu.upd_agree hnew
  have hbk : (μ.upd id (μ.blk a.block) (μ.base a.block + a.off) (cap + μ.extra a.block - (len + k))).blk id = μ.blk a.block := by simp [Mu.upd]
  have hbs : (μ.upd id (μ.blk a.block) (μ.base a.block + a.off) (cap + μ.extra a.block - (len + k))).base id = μ.base a.block + a.off := by simp [Mu.upd]
  have hex : (μ.upd id (μ.blk a.block) (μ.base a.block + a.off) (cap + μ.extra a.block - (len + k))).extra id = cap + μ.extra a.block - (len + k) := by simp [Mu.upd]
  have hvo : VinL σ.dom ((c.drop a.off).take (len * n) ++ new) := VinL_iff.2 fun u hu => by
    rcases List.mem_append.1 hu with hu | hu
    · exact VinL_iff.1 (h.vin _ _ hid) u (List.mem_of_mem_drop (List.mem_of_mem_take hu))
    · exact VinL_iff.1 hv u hu
  refine hk.new hnew' hn _ _ _ (fun _ => ⟨hbl, h.own _ _ hid rfl, Nat.lt_of_lt_of_le (h.size _ _ hid trivial) (Turned.setCells (B := B) _ _ _ _).size⟩) (Turned.setCells _ _ _ _) (fun _ => h.own _ _ hid rfl) hbl ⟨fun i v hi => ?_, fun _ i hi => ?_, fun hz => ?_⟩ ?_
  · rw [hbk, hbs, conc_agree hag v (VinL_iff.1 hvo v (List.mem_of_getElem? hi))]
    by_cases hlt : i < len * n
    · rw [List.getElem?_append_left (by omega), List.getElem?_take, if_pos hlt, List.getElem?_drop] at hi
      rw [World.cell?_setCells_out _ _ _ _ _ (fun _ _ => .inl (by simp only; omega)), Nat.add_assoc]
      exact f1 _ _ hi
    · rw [List.getElem?_append_right (by omega), hold] at hi
      have hlt' : i - len * n < new.length := by
        rcases Nat.lt_or_ge (i - len * n) new.length with h | h
        · exact h
        · rw [List.getElem?_eq_none h] at hi; cases hi
      have hin := World.cell?_setCells_in (μ.blk a.block) (concL μ new) (μ.base a.block + (a.off + len * n)) w hcells (i - len * n) (by omega)
      rw [show μ.base a.block + (a.off + len * n) + (i - len * n) = μ.base a.block + a.off + i by omega] at hin
      rw [hin]
      simp only [concL_eq, List.getElem_map, Option.some.injEq]
      congr 1
      rw [List.getElem?_eq_getElem hlt'] at hi
      exact Option.some.inj hi
  · rw [hbk, hbs, World.frozen?_setCells]
    rw [hex, List.length_append, hold, hl] at hi
    have hi' : i < (cap + μ.extra a.block) * n := by
      have : (len + k) * n + (cap + μ.extra a.block - (len + k)) * n = (cap + μ.extra a.block) * n := by rw [← Nat.add_mul]; congr 1; omega
      omega
    have hf := f2 rfl (a.off + i) (by omega)
    rw [← Nat.add_assoc] at hf
    refine ⟨?_, hf.2⟩
    by_cases hlt : len * n ≤ i ∧ i < len * n + k * n
    · have hin := World.cell?_setCells_in (μ.blk a.block) (concL μ new) (μ.base a.block + (a.off + len * n)) w hcells (i - len * n) (by omega)
      rw [show μ.base a.block + (a.off + len * n) + (i - len * n) = μ.base a.block + a.off + i by omega] at hin
      rw [hin]; rfl
    · rw [World.cell?_setCells_out _ _ _ _ _ (fun _ _ => by simp only [hlen]; omega)]
      exact hf.1
  · omega
  · exact VinL_mono (fun i hi => dom_set σ a.block _ i hi) _ hvo

/-- An append that makes a new array. -/
theorem Rel.grown {B : Nat} {w0 w : World} {μ : Mu} {σ : AS} (h : Rel B w0 μ σ w) {id : Nat} {n need : Nat} (hnew : σ.heap.get id = none) (hn : id < σ.next) (old new : List Value) (z : Array Value) (cap : Nat) (e : TypeId)
    (hz : z.size = n) (h1 : 1 ≤ n) (hv : VinL σ.dom (old ++ new)) :
    Rel B w0 (μ.upd id w.heap.size 0 (cap - need)) { σ with heap := σ.heap.set id (.cells (old ++ new) n false) }
      (w.drew.alloc (.cells ((concL μ old).toArray ++ (concL μ new).toArray ++ Builtin.zeroCells z (cap - need)) e)) := by
  have hd := h.drew
  have hag : Agree σ.dom μ (μ.upd id w.drew.heap.size 0 (cap - need)) := Mu.upd_agree hnew
  refine hd.push (id := id) (o := .cells (old ++ new) n false) _ (cap - need) hnew hn ⟨fun i v hi => ?_, fun _ i hi => ?_, fun hz' => by omega⟩ hv
  · have hb : (μ.upd id w.drew.heap.size 0 (cap - need)).blk id = w.drew.heap.size := by simp [Mu.upd]
    have hb' : (μ.upd id w.drew.heap.size 0 (cap - need)).base id = 0 := by simp [Mu.upd]
    rw [hb, hb', Nat.zero_add, cell?_alloc_self, conc_agree hag v (VinL_iff.1 hv v (List.mem_of_getElem? hi))]
    have hlt : i < (old ++ new).length := by
      rcases Nat.lt_or_ge i (old ++ new).length with h | h
      · exact h
      · rw [List.getElem?_eq_none h] at hi; cases hi
    rw [Array.getElem?_append_left (by simp [concL_length]; simpa using hlt)]
    rw [List.append_toArray, List.getElem?_toArray, ← concL_append, concL_getElem?, hi]
    rfl
  · have hb : (μ.upd id w.drew.heap.size 0 (cap - need)).blk id = w.drew.heap.size := by simp [Mu.upd]
    have hb' : (μ.upd id w.drew.heap.size 0 (cap - need)).base id = 0 := by simp [Mu.upd]
    have he : (μ.upd id w.drew.heap.size 0 (cap - need)).extra id = cap - need := by simp [Mu.upd]
    rw [he] at hi
    rw [hb, hb', Nat.zero_add, cell?_alloc_self, frozen?_alloc_self]
    refine ⟨?_, rfl⟩
    rw [Array.getElem?_eq_getElem (by simp only [Array.size_append, List.size_toArray, concL_length, zeroCells_size, hz]; simp only [List.length_append] at hi; exact hi)]
    rfl

theorem zero'_zero {P : Program} {e : TypeId} {i : TypeInfo} {z : Value} (hz : zero' P e = some z) (hi : P.info? e = some i) : i.zero = some z := by
  unfold zero' at hz
  rw [hi] at hz
  simp only [Option.bind_some] at hz
  cases hzi : i.zero with
  | none => rw [hzi] at hz; cases hz
  | some u =>
    rw [hzi] at hz
    simp only [Option.bind_some] at hz
    cases hn : noids u with
    | false => rw [hn] at hz; cases hz
    | true => rw [hn] at hz; exact hz

theorem sizeOf'_info {P : Program} {e : TypeId} {i : TypeInfo} {n : Nat} (hs : sizeOf' P e = some n) (hi : P.info? e = some i) : i.size = n := by
  unfold sizeOf' at hs
  rw [hi] at hs
  exact Option.some.inj hs

theorem aAppend_sim {P : Program} {B : Nat} {w0 w : World} {μ : Mu} {σ σ' : AS} (hr : Rel B w0 μ σ w) {id : Nat} {t xt ty : TypeId} {s x : Value} {v : Value} (hs : Vin σ.dom s) (hx : Vin σ.dom x)
    (h : aAppend P id t xt s x σ = some (v, σ')) : Sim P B w0 μ σ w (Builtin.append_ #[t, xt] ty #[conc μ s, conc μ x]) v σ' := by
  unfold aAppend at h
  generalize he : elemSize P t = en at h
  generalize hk : lenOf' x = k? at h
  split at h
  · rename_i e n base len cap k
    obtain ⟨hu, hsz⟩ := elemSize_some he
    have hlen := fun w : World => lenOf'_some (P := P) (w := w) (μ := μ) hk
    cases hap : notAppendable P xt with
    | true => rw [hap, cond_true] at h; exact (M.fail_some h).elim
    | false =>
    rw [hap, cond_false] at h
    have hxt := appendable hap
    cases hle : Nat.ble (len + k) cap with
    | true =>
      rw [hle, cond_true] at h
      have hle := Nat.le_of_ble_eq_true hle
      cases base with
      | none =>
        simp only at h
        obtain ⟨hk0, h⟩ := bif_some h
        have hk0 := Nat.eq_of_beq_eq_true hk0
        subst hk0
        obtain ⟨rfl, rfl⟩ := M.pure_some h
        refine Sim.same hr ?_ (by simp [Vin])
        have hf : (Builtin.firstCells n 0 (conc μ x)).run P w = .ok #[] w := by
          unfold lenOf' at hk
          split at hk
          · rename_i b l c
            cases b <;> simp [conc, Builtin.firstCells, loadCells, loadCellsFrom]
          · rename_i str
            simp only [conc, Builtin.firstCells, Sem.run_pure]
            congr 1
            apply Array.ext'
            simp
          · simp [conc, Builtin.firstCells, loadCells, loadCellsFrom]
          · cases hk
        simp only [conc]
        rw [append_room_none ty hu hsz hxt (hlen w) hle hf, Nat.add_zero]
      | some a =>
        simp only at h
        obtain ⟨new, σ₁, h1, h2⟩ := M.bind_some h
        obtain ⟨rfl, hf, hvn, hstr⟩ := srcCells_sim (w0 := w0) hr h1
        obtain ⟨o, σ₂, h3, h4⟩ := M.bind_some h2
        obtain ⟨g3, rfl⟩ := M.get_some h3
        split at h4
        · rename_i c room
          obtain ⟨hb, h5⟩ := bif_some h4
          simp only [Bool.and_eq_true] at hb
          have hle2 := Nat.le_of_ble_eq_true hb.1
          obtain ⟨_, σ₃, h6, h7⟩ := M.bind_some h5
          obtain ⟨_, rfl⟩ := M.set_some h6
          obtain ⟨rfl, rfl⟩ := M.pure_some h7
          have hst := run_storeCells_in (P := P) hr g3 (a.off + len * n) new (by omega) hb.2
          refine ⟨_, _, ?_, hr.setCells g3 (a.off + len * n) new (by omega) hvn, Agree.refl _ _, dom_set σ _ _ _ (show σ.dom a.block from hs), fun i hi => dom_set _ _ _ i hi⟩
          simp only [conc]
          refine append_room_some ty hu hsz hxt (hlen w) (by omega) hf ?_
          rw [at_add]
          simpa using hst
        · obtain ⟨hk0, h5⟩ := bif_some h4
          have hk0 := Nat.eq_of_beq_eq_true hk0
          subst hk0
          obtain ⟨rfl, rfl⟩ := M.pure_some h5
          refine Sim.same hr ?_ (show σ.dom a.block from hs)
          have hn0 : new = [] := by
            have hlr : (Builtin.firstCells n 0 (conc μ x)).run P w = .ok #[] w := by
              unfold lenOf' at hk
              split at hk
              · rename_i b l c
                cases b <;> simp [conc, Builtin.firstCells, loadCells, loadCellsFrom]
              · rename_i str
                simp only [conc, Builtin.firstCells, Sem.run_pure]
                congr 1
                apply Array.ext'
                simp
              · simp [conc, Builtin.firstCells, loadCells, loadCellsFrom]
              · cases hk
            rw [hlr] at hf
            have := congrArg Array.toList (Result.ok.inj hf).1
            simp only [concL_eq] at this
            cases new with
            | nil => rfl
            | cons _ _ => simp at this
          subst hn0
          simp only [conc]
          rw [append_room_some ty hu hsz hxt (hlen w) (by omega) hf (w' := w) (by simp [concL, storeCells]), Nat.add_zero]
    | false =>
      rw [hle, cond_false] at h
      have hle : cap < len + k := by
        rcases Nat.lt_or_ge cap (len + k) with h | h
        · exact h
        · rw [Nat.ble_eq_true_of_le h] at hle; cases hle
      generalize hz : zero' P e = z? at h
      generalize hi : P.info? e = i? at h
      split at h
      · rename_i z i
        obtain ⟨hb, h⟩ := bif_some h
        simp only [Bool.and_eq_true] at hb
        obtain ⟨⟨⟨hzs, hbound⟩, hby⟩, hn1⟩ := hb
        have hzs := Nat.eq_of_beq_eq_true hzs
        have hbound := Nat.le_of_ble_eq_true hbound
        have hby := Nat.le_of_ble_eq_true hby
        have hn1 := Nat.le_of_ble_eq_true hn1
        have hsi := sizeOf'_info hsz hi
        have hzi := zero'_zero hz hi
        obtain ⟨old, σ₁, h1, h2⟩ := M.bind_some h
        obtain ⟨rfl, hfo, hvo, _⟩ := srcCells_sim (P := P) (w0 := w0) hr h1
        obtain ⟨_, hfo', _, _⟩ := srcCells_sim (P := P) (w0 := w0) hr.drew h1
        obtain ⟨new, σ₂, h3, h4⟩ := M.bind_some h2
        obtain ⟨rfl, hfn, hvn, _⟩ := srcCells_sim (P := P) (w0 := w0) hr h3
        obtain ⟨_, hfn', _, _⟩ := srcCells_sim (P := P) (w0 := w0) hr.drew h3
        obtain ⟨hb2, h5⟩ := bif_some h4
        simp only [Bool.and_eq_true] at hb2
        have hlo := Nat.eq_of_beq_eq_true hb2.1.2
        have hln := Nat.eq_of_beq_eq_true hb2.2
        obtain ⟨_, σ₃, h6, h7⟩ := M.bind_some h5
        obtain ⟨_, σ₄, h8, h9⟩ := M.bind_some h7
        obtain ⟨a1, a2, rfl⟩ := M.alloc_some h8
        obtain ⟨rfl, rfl⟩ := M.pure_some h9
        have hnb : ∀ c', c' < len + k → Builtin.nextslicecap (len + k) c' * i.bytes ≤ 281474976710656 := fun c' hc' => by
          have := nextslicecap_le (len + k) c' hc'
          have := Nat.mul_le_mul_right i.bytes this
          omega
        have h63 : ((len + k : Nat) : Int) ≤ 9223372036854775807 := by
          have : (len + k) * 1 ≤ (2 * (len + k) + 512) * i.bytes := Nat.mul_le_mul (by omega) hby
          omega
        have hvall : VinL σ.dom (old ++ new) := VinL_iff.2 fun u hu => by
          rcases List.mem_append.1 hu with hu | hu
          · exact VinL_iff.1 hvo u hu
          · exact VinL_iff.1 hvn u hu
        -- a new array is made
        have hgrow : ∀ (σ₃ : AS), Rel B w0 μ σ₃ w → (∀ j, σ.dom j → σ₃.dom j) → σ₃.heap.get id = none → id < σ₃.next → ∀ cap', cap' < len + k → (∀ c', conc μ (.slice base len cap) = c' → c' = .slice (base.map μ.at) len cap') →
            Sim P B w0 μ σ w (Builtin.append_ #[t, xt] ty #[conc μ (.slice base len cap), conc μ x]) (.slice (some ⟨id, 0, none⟩) (len + k) (len + k)) { σ₃ with heap := σ₃.heap.set id (.cells (old ++ new) n false) } := by
          intro σ₃ hr₃ hdom b1 b2 cap' hcap' hconc
          have hge := grownCap_ge w (len + k) cap' e
          refine ⟨_, _, ?_, hr₃.grown (need := len + k) b1 b2 old new z.cells (grownCap w (len + k) cap' e) e hzs hn1 (VinL_mono hdom _ hvall), fun j hj => (Mu.upd_agree b1) j (hdom j hj), dom_set_same _ _ _, fun j hj => dom_set _ _ _ j (hdom j hj)⟩
          rw [hconc _ rfl]
          have hfo'' : (Builtin.firstCells i.size len (.slice (base.map μ.at) len cap')).run P w.drew = .ok (concL μ old).toArray w.drew := by
            rw [hsi]
            rw [hconc _ rfl] at hfo'
            exact hfo'
          rw [append_grow ty hu hi hzi hxt (hlen w) hcap' h63 (hnb _ hcap') hfo'' (by rw [hsi]; exact hfn')]
          simp only [conc, Mu.at, Mu.upd, if_true, Nat.add_zero]
          congr 2
          omega
        cases base with
        | none =>
          simp only at h6
          obtain ⟨_, rfl⟩ := M.pure_some h6
          exact hgrow σ hr (fun _ h => h) a1 a2 cap hle (fun c' hc' => by rw [← hc']; simp [conc])
        | some a =>
          simp only at h6
          obtain ⟨o, σ₅, h10, h11⟩ := M.bind_some h6
          obtain ⟨g10, rfl⟩ := M.get_some h10
          split at h11
          · obtain ⟨_, rfl⟩ := M.pure_some h11
            have hex : μ.extra a.block = 0 := (hr.fits _ _ g10).2.2 rfl
            exact hgrow σ hr (fun _ h => h) a1 a2 cap hle (fun c' hc' => by rw [← hc']; simp [conc, hex])
          · rename_i c room hroom
            obtain ⟨hb3, h12⟩ := bif_some h11
            simp only [Bool.and_eq_true] at hb3
            have hrn := Nat.eq_of_beq_eq_true hb3.1
            have hend := Nat.eq_of_beq_eq_true hb3.2
            subst hrn
            obtain ⟨_, rfl⟩ := M.set_some h12
            have hdomk : ∀ j, σ.dom j → ({ σ with heap := σ.heap.set a.block .dead } : AS).dom j := fun j hj => dom_set _ _ _ j hj
            have hne : id ≠ a.block := fun e => by
              rw [e] at a1
              simp only [Tr.get_set_same] at a1
              cases a1
            have a1' : σ.heap.get id = none := by
              simp only [Tr.get_set] at a1
              rw [if_neg hne] at a1
              exact a1
            by_cases hfit : len + k ≤ cap + μ.extra a.block
            · by_cases hlc : len ≤ cap
              · have hold : old = (c.drop a.off).take (len * room) := by
                  unfold srcCells at h1
                  simp only at h1
                  cases hl0 : Nat.beq len 0 with
                  | true =>
                    rw [hl0, cond_true] at h1
                    obtain ⟨rfl, _⟩ := M.pure_some h1
                    have := Nat.eq_of_beq_eq_true hl0
                    subst this
                    simp
                  | false =>
                    rw [hl0, cond_false] at h1
                    obtain ⟨o', σ₆, q1, q2⟩ := M.bind_some h1
                    obtain ⟨q3, rfl⟩ := M.get_some q1
                    rw [g10] at q3
                    cases q3
                    obtain ⟨_, q4⟩ := bif_some q2
                    obtain ⟨rfl, _⟩ := M.pure_some q4
                    rfl
                have hext := hr.extend (k := k) g10 a1' (by exact a2) hend hlc hfit hn1 new hln hvn
                rw [← hold] at hext
                refine ⟨_, _, ?_, hext, Mu.upd_agree a1', dom_set_same _ _ _, fun j hj => dom_set { σ with heap := σ.heap.set a.block .dead } id _ j (dom_set _ _ _ j hj)⟩
                have hst := run_storeCells_in (P := P) hr g10 (a.off + len * room) new (by
                  have : (cap + μ.extra a.block) * room = cap * room + μ.extra a.block * room := Nat.add_mul _ _ _
                  have : (len + k) * room ≤ (cap + μ.extra a.block) * room := Nat.mul_le_mul_right _ hfit
                  have : (len + k) * room = len * room + k * room := Nat.add_mul _ _ _
                  omega) hb2.1.1
                simp only [conc]
                rw [append_room_some ty hu hsz hxt (hlen w) hfit hfn (by rw [at_add]; simpa using hst)]
                simp only [Mu.at, Mu.upd, if_true, Nat.add_zero]
                congr 2
                omega
              · -- more is read than there is: no cells stand behind the capacity
                exfalso
                have hol : old.length = len * room := hlo
                unfold srcCells at h1
                simp only at h1
                rw [nbeq_false (by omega : len ≠ 0), cond_false] at h1
                obtain ⟨o', σ₆, q1, q2⟩ := M.bind_some h1
                obtain ⟨q3, rfl⟩ := M.get_some q1
                rw [g10] at q3
                cases q3
                obtain ⟨q5, q4⟩ := bif_some q2
                have q5 := Nat.le_of_ble_eq_true q5
                have : (cap + 1) * room ≤ len * room := Nat.mul_le_mul_right _ (by omega)
                have : (cap + 1) * room = cap * room + room := by rw [Nat.add_mul]; simp
                omega
            · exact hgrow _ (hr.kill g10) hdomk a1 a2 (cap + μ.extra a.block) (by omega) (fun c' hc' => by rw [← hc']; simp [conc])
          · exact (M.fail_some h11).elim
      · exact (M.fail_some h).elim
  · exact (M.fail_some h).elim

end Go.Abs
