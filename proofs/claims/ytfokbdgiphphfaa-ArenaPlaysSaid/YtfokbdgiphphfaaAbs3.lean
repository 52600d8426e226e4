/- The abstract evaluator: the relation between an abstract state and a world, and its laws at each step of memory. No condition. -/
import Derived.Test.YtfokbdgiphphfaaAbs2
import Derived.Laws.IdiomCopy
namespace Go.Abs
open Go.RowKit

def AS.dom (σ : AS) (i : Nat) : Prop := σ.heap.get i ≠ none

def AObj.Vin (D : Nat → Prop) : AObj → Prop
  | .cells c _ _ => VinL D c
  | .map es _ => ∀ e ∈ es, Abs.Vin D e.key ∧ Abs.Vin D e.val
  | .loop l => VinA D l.tmps ∧ D l.defers
  | .deferred => True
  | .dead => True

/-- It has a block of its own, which may be written. -/
def AObj.rw : AObj → Prop
  | .cells _ _ ro => ro = false
  | .dead => False
  | _ => True

def AObj.live : AObj → Prop
  | .dead => False
  | _ => True

theorem AObj.rw_live {o : AObj} (h : o.rw) : o.live := by cases o <;> simp_all [AObj.rw, AObj.live]

def concEntry (μ : Mu) (e : MapEntry) : MapEntry := { e with key := conc μ e.key, val := conc μ e.val }
def concLoop (μ : Mu) (l : Loop) : Loop := { l with tmps := concA μ l.tmps, defers := μ.blk l.defers }

def Fits (μ : Mu) (w : World) (id : Nat) : AObj → Prop
  | .cells c room ro =>
    (∀ i v, c[i]? = some v → w.cell? ⟨μ.blk id, μ.base id + i, none⟩ = some (conc μ v)) ∧
    (ro = false → ∀ i, i < c.length + μ.extra id * room → (w.cell? ⟨μ.blk id, μ.base id + i, none⟩).isSome = true ∧ w.frozen? ⟨μ.blk id, μ.base id + i, none⟩ = false) ∧
    (room = 0 → μ.extra id = 0)
  | .map es clock => w.heap[μ.blk id]? = some (.map (es.map (concEntry μ)).toArray clock)
  | .loop l => w.heap[μ.blk id]? = some (.loop (concLoop μ l))
  | .deferred => w.heap[μ.blk id]? = some (.deferred (some []))
  | .dead => True

structure Rel (B : Nat) (w0 : World) (μ : Mu) (σ : AS) (w : World) : Prop where
  fits : ∀ i o, σ.heap.get i = some o → Fits μ w i o
  vin : ∀ i o, σ.heap.get i = some o → o.Vin σ.dom
  apart : ∀ i j oi oj, σ.heap.get i = some oi → σ.heap.get j = some oj → oi.rw → oj.live → i ≠ j → μ.blk i ≠ μ.blk j
  own : ∀ i o, σ.heap.get i = some o → o.rw → B ≤ μ.blk i
  size : ∀ i o, σ.heap.get i = some o → o.live → μ.blk i < w.heap.size
  next : ∀ i o, σ.heap.get i = some o → i < σ.next
  below : Below B w0 w
  base : B ≤ w.heap.size

theorem Fits.of_block {μ : Mu} {w w' : World} {id : Nat} {o : AObj} (h : Fits μ w id o) (hb : w'.heap[μ.blk id]? = w.heap[μ.blk id]?) : Fits μ w' id o := by
  cases o with
  | cells c room ro =>
    obtain ⟨h1, h2, h3⟩ := h
    refine ⟨fun i v hv => ?_, fun hr i hi => ?_, h3⟩
    · rw [World.cell?_of_block (w := w) (w' := w') hb]; exact h1 i v hv
    · rw [World.cell?_of_block (w := w) (w' := w') hb, World.frozen?_of_block (w := w) (w' := w') hb]; exact h2 hr i hi
  | map es clock => exact hb.trans h
  | loop l => exact hb.trans h
  | deferred => exact hb.trans h
  | dead => trivial

theorem Fits.of_agree {D : Nat → Prop} {μ μ' : Mu} {w : World} {id : Nat} {o : AObj} (ha : Agree D μ μ') (hid : D id) (hv : o.Vin D) (h : Fits μ w id o) : Fits μ' w id o := by
  obtain ⟨a1, a2, a3⟩ := ha id hid
  cases o with
  | cells c room ro =>
    obtain ⟨h1, h2, h3⟩ := h
    have hv' := VinL_iff.1 hv
    refine ⟨fun i v hiv => ?_, fun hr i hi => ?_, fun hr => by rw [a3]; exact h3 hr⟩
    · rw [a1, a2, conc_agree ha v (hv' v (List.mem_of_getElem? hiv))]; exact h1 i v hiv
    · rw [a1, a2]; exact h2 hr i (by rw [a3] at hi; exact hi)
  | map es clock =>
    have he : es.map (concEntry μ') = es.map (concEntry μ) := List.map_congr_left fun e hm => by
      unfold concEntry; rw [conc_agree ha _ (hv e hm).1, conc_agree ha _ (hv e hm).2]
    show w.heap[μ'.blk id]? = _
    rw [a1, he]; exact h
  | loop l =>
    show w.heap[μ'.blk id]? = some (.loop (concLoop μ' l))
    have : concLoop μ' l = concLoop μ l := by
      unfold concLoop; rw [concA_agree ha _ hv.1, (ha _ hv.2).1]
    rw [a1, this]; exact h
  | deferred => show w.heap[μ'.blk id]? = _; rw [a1]; exact h
  | dead => trivial

theorem AObj.Vin_mono {D E : Nat → Prop} (h : ∀ i, D i → E i) {o : AObj} (hv : o.Vin D) : o.Vin E := by
  cases o with
  | cells c room ro => exact VinL_mono h c hv
  | map es clock => exact fun e he => ⟨Abs.Vin_mono h _ (hv e he).1, Abs.Vin_mono h _ (hv e he).2⟩
  | loop l => exact ⟨VinA_mono h _ hv.1, h _ hv.2⟩
  | deferred => trivial
  | dead => trivial

theorem dom_set (σ : AS) (id : Nat) (o : AObj) (i : Nat) (h : σ.dom i) : ({ σ with heap := σ.heap.set id o } : AS).dom i := by
  unfold AS.dom at *
  simp only [Tr.get_set]
  split <;> simp_all

theorem dom_set_same (σ : AS) (id : Nat) (o : AObj) : ({ σ with heap := σ.heap.set id o } : AS).dom id := by
  unfold AS.dom; simp [Tr.get_set_same]

theorem dom_of_get {σ : AS} {id : Nat} {o : AObj} (h : σ.heap.get id = some o) : σ.dom id := by
  unfold AS.dom; rw [h]; simp

/-- The world has turned in one block alone: that of an object that may be written, or a new one. -/
structure Turned (B : Nat) (b : Nat) (w w' : World) : Prop where
  os : w'.os = w.os
  tape : w'.tape = w.tape
  output : w'.output = w.output
  size : w.heap.size ≤ w'.heap.size
  block : ∀ k, k ≠ b → k < w.heap.size → w'.heap[k]? = w.heap[k]?

/-- One object is written anew. -/
theorem Rel.update {B : Nat} {w0 w w' : World} {μ : Mu} {σ : AS} (h : Rel B w0 μ σ w) {id : Nat} {o o' : AObj} (hid : σ.heap.get id = some o) (hrw : o.rw)
    (ht : Turned B (μ.blk id) w w') (hfit : Fits μ w' id o') (hv : o'.Vin σ.dom) : Rel B w0 μ { σ with heap := σ.heap.set id o' } w' := by
  have hlive := AObj.rw_live hrw
  refine ⟨fun i oi hi => ?_, fun i oi hi => ?_, fun i j oi oj hi hj hri hlj hne => ?_, fun i oi hi hri => ?_, fun i oi hi hli => ?_, fun i oi hi => ?_, ?_, ?_⟩
  · simp only [Tr.get_set] at hi
    split at hi
    · cases hi; subst_vars; exact hfit
    · rename_i hne
      cases oi with
      | dead => trivial
      | _ => exact (h.fits i _ hi).of_block (ht.block _ (fun e => h.apart id i o _ hid hi hrw (by trivial) (fun e => hne e.symm) e.symm) (h.size i _ hi (by trivial)))
  · simp only [Tr.get_set] at hi
    split at hi
    · cases hi; exact AObj.Vin_mono (fun i hi => dom_set σ id _ i hi) hv
    · exact AObj.Vin_mono (fun i hi => dom_set σ id _ i hi) (h.vin i oi hi)
  · simp only [Tr.get_set] at hi hj
    split at hi
    · split at hj
      · simp_all
      · subst_vars; exact h.apart _ j o oj hid hj hrw hlj hne
    · split at hj
      · subst_vars; exact h.apart i _ oi o hi hid hri hlive hne
      · exact h.apart i j oi oj hi hj hri hlj hne
  · simp only [Tr.get_set] at hi
    split at hi
    · subst_vars; exact h.own _ o hid hrw
    · exact h.own i oi hi hri
  · simp only [Tr.get_set] at hi
    split at hi
    · subst_vars; exact Nat.lt_of_lt_of_le (h.size _ o hid hlive) ht.size
    · exact Nat.lt_of_lt_of_le (h.size i oi hi hli) ht.size
  · simp only [Tr.get_set] at hi
    split at hi
    · subst_vars; exact h.next _ o hid
    · exact h.next i oi hi
  · exact h.below.trans ⟨ht.os, ht.tape, ht.output, ht.size, fun k hk => ht.block k (fun e => by have := h.own id o hid hrw; omega) (Nat.lt_of_lt_of_le hk h.base)⟩
  · exact Nat.le_trans h.base ht.size

/-- An object is given up. -/
theorem Rel.kill {B : Nat} {w0 w : World} {μ : Mu} {σ : AS} (h : Rel B w0 μ σ w) {id : Nat} {o : AObj} (hid : σ.heap.get id = some o) : Rel B w0 μ { σ with heap := σ.heap.set id .dead } w := by
  refine ⟨fun i oi hi => ?_, fun i oi hi => ?_, fun i j oi oj hi hj hri hlj hne => ?_, fun i oi hi hri => ?_, fun i oi hi hli => ?_, fun i oi hi => ?_, h.below, h.base⟩
  all_goals simp only [Tr.get_set] at hi
  · split at hi
    · cases hi; trivial
    · exact h.fits i oi hi
  · split at hi
    · cases hi; trivial
    · exact AObj.Vin_mono (fun i hi => dom_set σ id _ i hi) (h.vin i oi hi)
  · simp only [Tr.get_set] at hj
    split at hi
    · cases hi; exact hri.elim
    · split at hj
      · cases hj; exact hlj.elim
      · exact h.apart i j oi oj hi hj hri hlj hne
  · split at hi
    · cases hi; exact hri.elim
    · exact h.own i oi hi hri
  · split at hi
    · cases hi; exact hli.elim
    · exact h.size i oi hi hli
  · split at hi
    · subst_vars; exact h.next _ o hid
    · exact h.next i oi hi

def Mu.upd (μ : Mu) (id b base extra : Nat) : Mu :=
  { blk := fun i => if i = id then b else μ.blk i, base := fun i => if i = id then base else μ.base i, extra := fun i => if i = id then extra else μ.extra i }

theorem Mu.upd_agree {σ : AS} {μ : Mu} {id b base extra : Nat} (h : σ.heap.get id = none) : Agree σ.dom μ (μ.upd id b base extra) := fun i hi => by
  have : i ≠ id := fun e => hi (e ▸ h)
  simp [Mu.upd, this]

/-- A new object, in a block that no other one has. -/
theorem Rel.new {B : Nat} {w0 w w' : World} {μ : Mu} {σ : AS} (h : Rel B w0 μ σ w) {id : Nat} {o : AObj} (hid : σ.heap.get id = none) (hn : id < σ.next) (b base extra : Nat)
    (hb : o.live → (∀ i oi, σ.heap.get i = some oi → oi.live → μ.blk i ≠ b) ∧ B ≤ b ∧ b < w'.heap.size)
    (ht : Turned B b w w') (hB : b < w.heap.size → B ≤ b) (hbl : ∀ i oi, σ.heap.get i = some oi → oi.live → μ.blk i ≠ b)
    (hfit : Fits (μ.upd id b base extra) w' id o) (hv : o.Vin σ.dom) : Rel B w0 (μ.upd id b base extra) { σ with heap := σ.heap.set id o } w' := by
  have ha : Agree σ.dom μ (μ.upd id b base extra) := Mu.upd_agree hid
  have hblk : ∀ i, σ.dom i → (μ.upd id b base extra).blk i = μ.blk i := fun i hi => (ha i hi).1
  have hsame : (μ.upd id b base extra).blk id = b := by simp [Mu.upd]
  refine ⟨fun i oi hi => ?_, fun i oi hi => ?_, fun i j oi oj hi hj hri hlj hne => ?_, fun i oi hi hri => ?_, fun i oi hi hli => ?_, fun i oi hi => ?_, ?_, ?_⟩
  all_goals try simp only [Tr.get_set] at hi
  · split at hi
    · cases hi; subst_vars; exact hfit
    · cases hl : oi with
      | dead => trivial
      | _ =>
        have hlv : oi.live := by rw [hl]; trivial
        rw [← hl]
        refine ((h.fits i oi hi).of_agree ha (dom_of_get hi) (h.vin i oi hi)).of_block ?_
        rw [hblk i (dom_of_get hi)]
        exact ht.block _ (hbl i oi hi hlv) (h.size i oi hi hlv)
  · split at hi
    · cases hi; exact AObj.Vin_mono (fun i hi => dom_set σ id _ i hi) hv
    · exact AObj.Vin_mono (fun i hi => dom_set σ id _ i hi) (h.vin i oi hi)
  · simp only [Tr.get_set] at hj
    split at hi
    · split at hj
      · simp_all
      · subst_vars
        cases hi
        rw [hsame, hblk j (dom_of_get hj)]
        exact fun e => (hb (AObj.rw_live hri)).1 j oj hj hlj e.symm
    · split at hj
      · subst_vars
        cases hj
        rw [hsame, hblk i (dom_of_get hi)]
        exact (hb hlj).1 i oi hi (AObj.rw_live hri)
      · rw [hblk i (dom_of_get hi), hblk j (dom_of_get hj)]
        exact h.apart i j oi oj hi hj hri hlj hne
  · split at hi
    · subst_vars; cases hi; rw [hsame]; exact (hb (AObj.rw_live hri)).2.1
    · rw [hblk i (dom_of_get hi)]; exact h.own i oi hi hri
  · split at hi
    · subst_vars; cases hi; rw [hsame]; exact (hb hli).2.2
    · rw [hblk i (dom_of_get hi)]; exact Nat.lt_of_lt_of_le (h.size i oi hi hli) ht.size
  · split at hi
    · subst_vars; exact hn
    · exact h.next i oi hi
  · exact h.below.trans ⟨ht.os, ht.tape, ht.output, ht.size, fun k hk => by
      have hkw : k < w.heap.size := Nat.lt_of_lt_of_le hk h.base
      refine ht.block k (fun e => ?_) hkw
      subst e
      have := hB hkw
      omega⟩
  · exact Nat.le_trans h.base ht.size

theorem Turned.alloc (B : Nat) (w : World) (o : Obj) : Turned B w.heap.size w (w.alloc o) :=
  ⟨rfl, rfl, rfl, by simp, fun k hne hk => Below.heap_alloc w o k hk⟩

theorem Turned.drew {B b : Nat} {w w' : World} (h : Turned B b w w') : Turned B b w w'.drew := ⟨h.os, h.tape, h.output, h.size, h.block⟩
theorem Turned.of_drew {B b : Nat} {w w' : World} (h : Turned B b w.drew w') : Turned B b w w' := ⟨h.os, h.tape, h.output, h.size, h.block⟩

theorem blk_fresh {B : Nat} {w0 w : World} {μ : Mu} {σ : AS} (h : Rel B w0 μ σ w) : ∀ i oi, σ.heap.get i = some oi → oi.live → μ.blk i ≠ w.heap.size :=
  fun i oi hi hl e => by have := h.size i oi hi hl; omega

/-- A draw turns nothing. -/
theorem Fits.drew {μ : Mu} {w : World} {id : Nat} {o : AObj} (h : Fits μ w id o) : Fits μ w.drew id o := h.of_block rfl
theorem Rel.drew {B : Nat} {w0 w : World} {μ : Mu} {σ : AS} (h : Rel B w0 μ σ w) : Rel B w0 μ σ w.drew :=
  ⟨fun i o hi => (h.fits i o hi).drew, h.vin, h.apart, h.own, h.size, h.next, h.below.drew, h.base⟩
theorem Rel.reserve {B : Nat} {w0 w : World} {μ : Mu} {σ : AS} (h : Rel B w0 μ σ w) (n : Nat) : Rel B w0 μ { σ with next := σ.next + n } w :=
  ⟨h.fits, h.vin, h.apart, h.own, h.size, fun i o hi => Nat.lt_of_lt_of_le (h.next i o hi) (Nat.le_add_right _ _), h.below, h.base⟩

/-- A new block that is an object by itself. -/
theorem Rel.push {B : Nat} {w0 w : World} {μ : Mu} {σ : AS} (h : Rel B w0 μ σ w) {id : Nat} {o : AObj} (ob : Obj) (extra : Nat) (hid : σ.heap.get id = none) (hn : id < σ.next)
    (hfit : Fits (μ.upd id w.heap.size 0 extra) (w.alloc ob) id o) (hv : o.Vin σ.dom) : Rel B w0 (μ.upd id w.heap.size 0 extra) { σ with heap := σ.heap.set id o } (w.alloc ob) :=
  h.new hid hn _ _ _ (fun _ => ⟨blk_fresh h, h.base, by simp⟩) (Turned.alloc B w ob) (fun _ => h.base) (blk_fresh h) hfit hv

theorem cell?_alloc_self (w : World) (c : Array Value) (e : TypeId) (fr : Nat × Nat) (i : Nat) : (w.alloc (.cells c e fr)).cell? ⟨w.heap.size, i, none⟩ = c[i]? := by
  show (match (w.heap.push (Obj.cells c e fr))[w.heap.size]? with | some (.cells c _ _) => c[i]? | _ => none) = _
  rw [Array.getElem?_push_size]
theorem frozen?_alloc_self (w : World) (c : Array Value) (e : TypeId) (i : Nat) : (w.alloc (.cells c e)).frozen? ⟨w.heap.size, i, none⟩ = false := by
  show (match (w.heap.push (Obj.cells c e))[w.heap.size]? with | some (.cells _ _ (lo, hi)) => decide (lo ≤ i) && decide (i < hi) | _ => false) = _
  rw [Array.getElem?_push_size]
  simp

/-- A new row of cells. -/
theorem Rel.newCells {B : Nat} {w0 w : World} {μ : Mu} {σ : AS} (h : Rel B w0 μ σ w) {id : Nat} (c : List Value) (e : TypeId) (hid : σ.heap.get id = none) (hn : id < σ.next)
    (hv : VinL σ.dom c) : Rel B w0 (μ.upd id w.heap.size 0 0) { σ with heap := σ.heap.set id (.cells c 0 false) } (w.alloc (.cells (concL μ c).toArray e)) := by
  refine h.push _ 0 hid hn ⟨fun i v hi => ?_, fun _ i hi => ?_, fun _ => by simp [Mu.upd]⟩ hv
  · have hb : (μ.upd id w.heap.size 0 0).blk id = w.heap.size := by simp [Mu.upd]
    have hb' : (μ.upd id w.heap.size 0 0).base id = 0 := by simp [Mu.upd]
    rw [hb, hb', Nat.zero_add, cell?_alloc_self, conc_agree (Mu.upd_agree hid) v (VinL_iff.1 hv v (List.mem_of_getElem? hi))]
    simp [concL_eq, hi]
  · have hb : (μ.upd id w.heap.size 0 0).blk id = w.heap.size := by simp [Mu.upd]
    have hb' : (μ.upd id w.heap.size 0 0).base id = 0 := by simp [Mu.upd]
    have he : (μ.upd id w.heap.size 0 0).extra id = 0 := by simp [Mu.upd]
    rw [he, Nat.zero_mul, Nat.add_zero] at hi
    rw [hb, hb', Nat.zero_add, cell?_alloc_self, frozen?_alloc_self]
    refine ⟨?_, rfl⟩
    simp [concL_eq, hi]

theorem flat_one (μ : Mu) (v : Value) (h : flat v = true) : (conc μ v).oneCell' = true := by
  cases v with
  | pointer a => cases a <;> rfl
  | slice a l c => cases a <;> rfl
  | map r => cases r <;> rfl
  | chan r => cases r <;> rfl
  | agg c => simp [flat] at h
  | tuple c => simp [flat] at h
  | _ => simp [conc, Value.oneCell']

theorem putCells_length : ∀ (vs c : List Value) (i : Nat), (putCells c i vs).length = c.length
  | [], _, _ => rfl
  | v :: vs, c, i => by rw [putCells, putCells_length vs]; simp

theorem getElem?_putCells : ∀ (vs c : List Value) (i j : Nat), i + vs.length ≤ c.length →
    (putCells c i vs)[j]? = if i ≤ j ∧ j < i + vs.length then vs[j - i]? else c[j]?
  | [], c, i, j, _ => by rw [if_neg (by simp only [List.length_nil]; omega)]; rfl
  | v :: vs, c, i, j, h => by
    simp only [List.length_cons] at h
    rw [putCells, getElem?_putCells vs (c.set i v) (i + 1) j (by simp; omega)]
    by_cases h1 : i + 1 ≤ j ∧ j < i + 1 + vs.length
    · rw [if_pos h1, if_pos (by simp only [List.length_cons]; omega)]
      have : j - i = (j - (i + 1)) + 1 := by omega
      rw [this, List.getElem?_cons_succ]
    · rw [if_neg h1]
      by_cases h2 : j = i
      · subst h2
        rw [if_pos (by simp only [List.length_cons]; omega), List.getElem?_set_self (by omega)]
        simp
      · rw [if_neg (by simp only [List.length_cons]; omega), List.getElem?_set_ne (fun e => h2 e.symm)]

theorem mem_putCells : ∀ (vs c : List Value) (i : Nat) (v : Value), v ∈ putCells c i vs → v ∈ c ∨ v ∈ vs
  | [], _, _, _, h => .inl h
  | u :: vs, c, i, v, h => by
    rw [putCells] at h
    rcases mem_putCells vs _ _ _ h with h | h
    · rcases List.mem_or_eq_of_mem_set h with h | h
      · exact .inl h
      · exact .inr (by simp [h])
    · exact .inr (by simp [h])

theorem Turned.setCells {B : Nat} (b o : Nat) (vs : List Value) (w : World) : Turned B b w (w.setCells b o vs) := by
  induction vs generalizing o w with
  | nil => exact ⟨rfl, rfl, rfl, Nat.le_refl _, fun _ _ _ => rfl⟩
  | cons v vs ih =>
    have := ih (o + 1) (w.setCell ⟨b, o, none⟩ v)
    refine ⟨this.os, this.tape, this.output, ?_, fun k hne hk => ?_⟩
    · have := this.size; simp [World.setCells] at this ⊢; exact this
    · have h1 := this.block k hne (by simpa using hk)
      rw [World.setCells, h1]
      exact Below.heap_setCell w _ v k hne

/-- Cells of an object that may be written are written. -/
theorem Rel.setCells {B : Nat} {w0 w : World} {μ : Mu} {σ : AS} (h : Rel B w0 μ σ w) {id : Nat} {c : List Value} {room : Nat} (hid : σ.heap.get id = some (.cells c room false))
    (o : Nat) (vs : List Value) (hfit : o + vs.length ≤ c.length) (hv : VinL σ.dom vs) :
    Rel B w0 μ { σ with heap := σ.heap.set id (.cells (putCells c o vs) room false) } (w.setCells (μ.blk id) (μ.base id + o) (concL μ vs)) := by
  obtain ⟨h1, h2, h3⟩ := h.fits id _ hid
  have hlen : (concL μ vs).length = vs.length := by simp [concL_eq]
  refine h.update hid (by rfl) (Turned.setCells _ _ _ _) ⟨fun i v hi => ?_, fun hr i hi => ?_, h3⟩ ?_
  · rw [getElem?_putCells vs c o i hfit] at hi
    split at hi
    · rename_i hb
      have hin := World.cell?_setCells_in (μ.blk id) (concL μ vs) (μ.base id + o) w (fun j hj => by
        rw [hlen] at hj
        have := (h2 rfl (o + j) (by omega)).1
        rwa [← Nat.add_assoc] at this) (i - o) (by omega)
      have e : μ.base id + o + (i - o) = μ.base id + i := by omega
      rw [e] at hin
      rw [hin]
      simp only [concL_eq, List.getElem_map, Option.some.injEq]
      congr 1
      rw [List.getElem?_eq_getElem (by omega)] at hi
      exact Option.some.inj hi
    · rename_i hb
      rw [World.cell?_setCells_out _ _ _ _ _ (fun _ _ => by simp only [hlen]; omega)]
      exact h1 i v hi
  · rw [putCells_length] at hi
    rw [World.frozen?_setCells]
    refine ⟨?_, (h2 hr i hi).2⟩
    by_cases hb : o ≤ i ∧ i < o + vs.length
    · have hin := World.cell?_setCells_in (μ.blk id) (concL μ vs) (μ.base id + o) w (fun j hj => by
        rw [hlen] at hj
        have := (h2 rfl (o + j) (by omega)).1
        rwa [← Nat.add_assoc] at this) (i - o) (by omega)
      have e : μ.base id + o + (i - o) = μ.base id + i := by omega
      rw [e] at hin
      rw [hin]; rfl
    · rw [World.cell?_setCells_out _ _ _ _ _ (fun _ _ => by simp only [hlen]; omega)]
      exact (h2 hr i hi).1
  · exact VinL_iff.2 fun v hm => by
      rcases mem_putCells _ _ _ _ hm with hm | hm
      · exact VinL_iff.1 (h.vin id _ hid) v hm
      · exact VinL_iff.1 hv v hm

/-- An object that is no row of cells is written anew. -/
theorem Rel.setObj {B : Nat} {w0 w : World} {μ : Mu} {σ : AS} (h : Rel B w0 μ σ w) {id : Nat} {o o' : AObj} (hid : σ.heap.get id = some o) (hrw : o.rw) (ob : Obj)
    (hfit : Fits μ { w with heap := w.heap.setIfInBounds (μ.blk id) ob } id o') (hv : o'.Vin σ.dom) :
    Rel B w0 μ { σ with heap := σ.heap.set id o' } { w with heap := w.heap.setIfInBounds (μ.blk id) ob } :=
  h.update hid hrw ⟨rfl, rfl, rfl, by simp, fun k hne hk => Array.getElem?_setIfInBounds_ne (Ne.symm hne)⟩ hfit hv

theorem heap_setObj {B : Nat} {w0 w : World} {μ : Mu} {σ : AS} (h : Rel B w0 μ σ w) {id : Nat} {o : AObj} (hid : σ.heap.get id = some o) (hl : o.live) (ob : Obj) :
    (w.heap.setIfInBounds (μ.blk id) ob)[μ.blk id]? = some ob := by
  have := h.size id o hid hl
  simp [this]

/-- The cells of an object, as the world holds them. -/
theorem Rel.cell {B : Nat} {w0 w : World} {μ : Mu} {σ : AS} (h : Rel B w0 μ σ w) {id : Nat} {c : List Value} {room : Nat} {ro : Bool} (hid : σ.heap.get id = some (.cells c room ro)) {i : Nat} {v : Value} (hi : c[i]? = some v) :
    w.cell? ⟨μ.blk id, μ.base id + i, none⟩ = some (conc μ v) := (h.fits id _ hid).1 i v hi

end Go.Abs
