/- Plain facts on abstract states: what a call leaves, slices and what they hold, loads, stores, appends. No condition beyond the hypotheses. -/
import Derived.Test.YtfokbdgiphphfaaAbs28
namespace Go.Abs
open Go.RowKit

theorem AS.get_up (σ : AS) (k i : Nat) : (σ.up k).heap.get i = σ.heap.get i := rfl
theorem AS.next_up (σ : AS) (k : Nat) : (σ.up k).next = σ.next + k := rfl
theorem AS.get_put (σ : AS) (i j : Nat) (o : AObj) : (σ.put i o).heap.get j = if j = i then some o else σ.heap.get j := Tr.get_set _ _ _ _
theorem AS.get_put_same (σ : AS) (i : Nat) (o : AObj) : (σ.put i o).heap.get i = some o := Tr.get_set_same _ _ _
theorem AS.get_put_ne (σ : AS) {i j : Nat} (o : AObj) (h : j ≠ i) : (σ.put i o).heap.get j = σ.heap.get j := Tr.get_set_ne _ _ h
theorem AS.next_put (σ : AS) (i : Nat) (o : AObj) : (σ.put i o).next = σ.next := rfl

/-- All objects have numbers below the next one. -/
def Wf (σ : AS) : Prop := ∀ i o, σ.heap.get i = some o → i < σ.next

theorem Wf.up {σ : AS} (h : Wf σ) (k : Nat) : Wf (σ.up k) := fun i o hi => Nat.lt_of_lt_of_le (h i o hi) (Nat.le_add_right _ _)
theorem Wf.put {σ : AS} (h : Wf σ) {i : Nat} (o : AObj) (hi : i < σ.next) : Wf (σ.put i o) := fun j p hj => by
  rw [AS.get_put] at hj
  split at hj
  · rename_i e; rw [e]; exact hi
  · exact h j p hj
theorem Wf.none {σ : AS} (h : Wf σ) {i : Nat} (hi : σ.next ≤ i) : σ.heap.get i = .none := by
  cases hg : σ.heap.get i with
  | none => rfl
  | some o => exact absurd (h i o hg) (by omega)
theorem Wf.fresh {σ : AS} (h : Wf σ) {i k : Nat} (hi : σ.next ≤ i) (hk : i < σ.next + k) : FreshAt (σ.up k) i := ⟨h.none hi, hk⟩
theorem Wf.lt {σ : AS} (h : Wf σ) {i : Nat} {o : AObj} (hi : σ.heap.get i = some o) : i < σ.next := h i o hi

/-- What a call leaves: objects outside of S as they were; new ones have new numbers. -/
structure Fr (S : Nat → Prop) (σ σ' : AS) : Prop where
  wf : Wf σ'
  le : σ.next ≤ σ'.next
  same : ∀ i o, σ.heap.get i = some o → ¬ S i → σ'.heap.get i = some o

/-- Nothing. -/
def Nil : Nat → Prop := fun _ => False

theorem Fr.refl {S : Nat → Prop} {σ : AS} (h : Wf σ) : Fr S σ σ := ⟨h, Nat.le_refl _, fun _ _ h _ => h⟩
theorem Fr.up {S : Nat → Prop} {σ σ' : AS} (h : Fr S σ σ') (k : Nat) : Fr S σ (σ'.up k) := ⟨h.wf.up k, Nat.le_trans h.le (Nat.le_add_right _ _), h.same⟩
theorem Fr.start {S : Nat → Prop} {σ σ' : AS} {k : Nat} (h : Fr S (σ.up k) σ') : Fr S σ σ' := ⟨h.wf, Nat.le_trans (Nat.le_add_right _ _) h.le, h.same⟩
theorem Fr.put {S : Nat → Prop} {σ σ' : AS} (h : Fr S σ σ') {i : Nat} (o : AObj) (hi : i < σ'.next) (hS : S i ∨ σ.next ≤ i ∨ σ.heap.get i = none) (hw : Wf σ) : Fr S σ (σ'.put i o) := by
  refine ⟨h.wf.put o hi, h.le, fun j p hj hn => ?_⟩
  rw [AS.get_put_ne]
  · exact h.same j p hj hn
  · rintro rfl
    rcases hS with h1 | h1 | h1
    · exact hn h1
    · have := hw j p hj; omega
    · rw [h1] at hj; cases hj
theorem Fr.trans {S T : Nat → Prop} {a b c : AS} (h : Fr S a b) (k : Fr T b c) (hT : ∀ i, T i → S i ∨ a.next ≤ i) (hw : Wf a) : Fr S a c :=
  ⟨k.wf, Nat.le_trans h.le k.le, fun i o hi hn => k.same i o (h.same i o hi hn) fun ht => by
    rcases hT i ht with h1 | h1
    · exact hn h1
    · have := hw i o hi; omega⟩
theorem Fr.then {S : Nat → Prop} {a b c : AS} (h : Fr S a b) (k : Fr S b c) : Fr S a c :=
  ⟨k.wf, Nat.le_trans h.le k.le, fun i o hi hn => k.same i o (h.same i o hi hn) hn⟩
theorem Fr.mono {S T : Nat → Prop} {a b : AS} (h : Fr S a b) (hs : ∀ i, S i → T i) : Fr T a b := ⟨h.wf, h.le, fun i o hi hn => h.same i o hi fun hS => hn (hs i hS)⟩

/-! ## Loads and stores -/

theorem aLoad_cell {P : Program} {t : TypeId} {σ : AS} {b off : Nat} {c : List Value} {room : Nat} {ro : Bool} {v : Value} (ht : isAgg' P t = some false) (h : σ.heap.get b = some (.cells c room ro)) (hv : c[off]? = some v) :
    aLoad P t (.pointer (some ⟨b, off, none⟩)) σ = some (v, σ) := by
  simp only [aLoad, M.bind, M.get, h, M.ofOption, loadFrom, ht, hv]
  rfl

theorem aLoad_agg {P : Program} {t : TypeId} {σ : AS} {b off n : Nat} {c : List Value} {room : Nat} {ro : Bool} (ht : isAgg' P t = some true) (hs : sizeOf' P t = some n) (h : σ.heap.get b = some (.cells c room ro)) (hl : off + n ≤ c.length) :
    aLoad P t (.pointer (some ⟨b, off, none⟩)) σ = some (.agg ((c.drop off).take n).toArray, σ) := by
  simp only [aLoad, M.bind, M.get, h, M.ofOption, loadFrom, ht, hs, Nat.ble_eq_true_of_le hl, cond_true]
  rfl

theorem aStore_cells {P : Program} {t : TypeId} {σ : AS} {b off : Nat} {c : List Value} {room : Nat} {x : Value} (hs : sizeOf' P t = some x.cells.size) (hf : x.cells.toList.all flat = true) (h : σ.heap.get b = some (.cells c room false)) (hl : off + x.cells.size ≤ c.length) :
    aStore P t x (.pointer (some ⟨b, off, none⟩)) σ = some (undef, σ.put b (.cells (putCells c off x.cells.toList) room false)) := by
  have hb : (decide (sizeOf' P t = some x.cells.size) && Nat.ble (off + x.cells.size) c.length && x.cells.toList.all flat) = true := by
    rw [decide_eq_true hs, Nat.ble_eq_true_of_le hl, hf]
    rfl
  simp only [aStore, M.bind, M.get, h]
  rw [hb, cond_true]
  simp only [M.bind, M.set, h, M.pure]
  rfl

theorem aStore_cell {P : Program} {t : TypeId} {σ : AS} {b off : Nat} {c : List Value} {room : Nat} {x : Value} (ht : sizeOf' P t = some 1) (hx : x.cells = #[x]) (hf : flat x = true) (h : σ.heap.get b = some (.cells c room false)) (hl : off < c.length) :
    aStore P t x (.pointer (some ⟨b, off, none⟩)) σ = some (undef, σ.put b (.cells (c.set off x) room false)) := by
  have := aStore_cells (x := x) (off := off) (by rw [hx]; exact ht) (by rw [hx]; simp [hf]) h (by rw [hx]; exact hl)
  rw [this, hx]
  rfl

/-! ## Slices -/

def slLen : Value → Nat
  | .slice _ n _ => n
  | _ => 0

/-- The object that a slice's cells stand in. -/
def slBase : Value → Option Nat
  | .slice (some a) _ _ => some a.block
  | _ => none

/-- A slice whose cells may be read: n cells an element. -/
def Rd (n : Nat) (σ : AS) (x : Value) (cs : List Value) : Prop :=
  (x = .slice none 0 0 ∧ cs = []) ∨ (∃ a cap, x = .slice (some a) 0 cap ∧ cs = []) ∨
  ∃ a len cap c room ro, x = .slice (some a) len cap ∧ a.spot = none ∧ σ.heap.get a.block = some (.cells c room ro) ∧ cs.length = len * n ∧ a.off + len * n ≤ c.length ∧ (c.drop a.off).take (len * n) = cs

/-- A slice that is somebody's own, from its object's head on. -/
def Sl (n : Nat) (σ : AS) (v : Value) (cs : List Value) : Prop :=
  (v = .slice none 0 0 ∧ cs = []) ∨
  ∃ b len cap c room, v = .slice (some ⟨b, 0, none⟩) len cap ∧ σ.heap.get b = some (.cells c room false) ∧ (room = 0 ∨ (room = n ∧ 0 < cap)) ∧ len ≤ cap ∧ c.length = cap * n ∧ cs.length = len * n ∧ c.take (len * n) = cs

theorem Sl.rd {n : Nat} {σ : AS} {v : Value} {cs : List Value} (h : Sl n σ v cs) : Rd n σ v cs := by
  rcases h with h | ⟨b, len, cap, c, room, h1, h2, h3, h4, h5, h6, h7⟩
  · exact Or.inl h
  · refine Or.inr (Or.inr ⟨⟨b, 0, none⟩, len, cap, c, room, false, h1, rfl, h2, h6, ?_, by simpa using h7⟩)
    have := Nat.mul_le_mul_right n h4
    dsimp only
    omega

theorem Sl.of_get {n : Nat} {σ σ' : AS} {v : Value} {cs : List Value} (h : Sl n σ v cs) (hg : ∀ b, slBase v = some b → σ'.heap.get b = σ.heap.get b) : Sl n σ' v cs := by
  rcases h with h | ⟨b, len, cap, c, room, h1, h2, h3⟩
  · exact Or.inl h
  · refine Or.inr ⟨b, len, cap, c, room, h1, ?_, h3⟩
    rw [hg b (by rw [h1]; rfl)]
    exact h2

theorem Rd.of_get {n : Nat} {σ σ' : AS} {v : Value} {cs : List Value} (h : Rd n σ v cs) (hg : ∀ b, slBase v = some b → σ'.heap.get b = σ.heap.get b) : Rd n σ' v cs := by
  rcases h with h | h | ⟨a, len, cap, c, room, ro, h1, h0, h2, h3⟩
  · exact Or.inl h
  · exact Or.inr (Or.inl h)
  · refine Or.inr (Or.inr ⟨a, len, cap, c, room, ro, h1, h0, ?_, h3⟩)
    rw [hg a.block (by rw [h1]; rfl)]
    exact h2

theorem Sl.fr {n : Nat} {S : Nat → Prop} {σ σ' : AS} {v : Value} {cs : List Value} (h : Sl n σ v cs) (hf : Fr S σ σ') (hS : ∀ b, slBase v = some b → ¬ S b) : Sl n σ' v cs := by
  rcases h with h | ⟨b, len, cap, c, room, h1, h2, h3⟩
  · exact Or.inl h
  · exact Or.inr ⟨b, len, cap, c, room, h1, hf.same _ _ h2 (hS b (by rw [h1]; rfl)), h3⟩

theorem Rd.fr {n : Nat} {S : Nat → Prop} {σ σ' : AS} {v : Value} {cs : List Value} (h : Rd n σ v cs) (hf : Fr S σ σ') (hS : ∀ b, slBase v = some b → ¬ S b) : Rd n σ' v cs := by
  rcases h with h | h | ⟨a, len, cap, c, room, ro, h1, h0, h2, h3⟩
  · exact Or.inl h
  · exact Or.inr (Or.inl h)
  · refine Or.inr (Or.inr ?_)
    exact ⟨a, len, cap, c, room, ro, h1, h0, hf.same _ _ h2 (hS a.block (by rw [h1]; rfl)), h3⟩

theorem Sl.base_lt {n : Nat} {σ : AS} {v : Value} {cs : List Value} (h : Sl n σ v cs) (hw : Wf σ) {b : Nat} (hb : slBase v = some b) : b < σ.next := by
  rcases h with ⟨rfl, _⟩ | ⟨b', len, cap, c, room, rfl, h2, _⟩
  · cases hb
  · cases hb; exact hw _ _ h2

theorem Rd.length {n : Nat} {σ : AS} {v : Value} {cs : List Value} (h : Rd n σ v cs) : cs.length = slLen v * n := by
  rcases h with ⟨rfl, rfl⟩ | ⟨a, cap, rfl, rfl⟩ | ⟨a, len, cap, c, room, ro, rfl, _, _, h3, _⟩
  · simp [slLen]
  · simp [slLen]
  · exact h3

theorem Rd.lenOf {n : Nat} {σ : AS} {v : Value} {cs : List Value} (h : Rd n σ v cs) : lenOf' v = some (slLen v) := by
  rcases h with ⟨rfl, rfl⟩ | ⟨a, cap, rfl, rfl⟩ | ⟨a, len, cap, c, room, ro, rfl, _⟩ <;> rfl

theorem Rd.src {n : Nat} {σ : AS} {v : Value} {cs : List Value} (h : Rd n σ v cs) : srcCells n (slLen v) v σ = some (cs, σ) := by
  rcases h with ⟨rfl, rfl⟩ | ⟨a, cap, rfl, rfl⟩ | ⟨a, len, cap, c, room, ro, rfl, _, h2, h3, h4, h5⟩
  · rfl
  · rfl
  · simp only [srcCells, slLen]
    cases hl : Nat.beq len 0 with
    | true =>
      have := Nat.eq_of_beq_eq_true hl
      subst this
      rw [Nat.zero_mul] at h3
      rw [List.eq_nil_of_length_eq_zero h3]
      rfl
    | false =>
      simp only [cond_false, M.bind, M.get, h2, Nat.ble_eq_true_of_le h4, cond_true, M.pure, h5]

/-- An element of a slice of one-cell elements. -/
theorem Rd.at1 {σ : AS} {v : Value} {cs : List Value} (h : Rd 1 σ v cs) {i : Nat} {x : Value} (hi : cs[i]? = some x) :
    ∃ a cap c room ro, v = .slice (some a) cs.length cap ∧ a.spot = none ∧ σ.heap.get a.block = some (.cells c room ro) ∧ c[a.off + i]? = some x := by
  rcases h with ⟨rfl, rfl⟩ | ⟨a, cap, rfl, rfl⟩ | ⟨a, len, cap, c, room, ro, rfl, h1, h2, h3, h4, h5⟩
  · simp at hi
  · simp at hi
  · rw [Nat.mul_one] at h3 h4 h5
    refine ⟨a, cap, c, room, ro, by rw [h3], h1, h2, ?_⟩
    rw [← h5] at hi
    have hl : i < len := by
      have := (List.getElem?_eq_some_iff.1 hi).1
      simp only [List.length_take, List.length_drop] at this
      omega
    rw [List.getElem?_take_of_lt hl, List.getElem?_drop] at hi
    exact hi

/-- What stands at a slice's head. -/
theorem Sl.head {P : Program} {t e : TypeId} {n id : Nat} (he : elemSize P t = some (e, n)) {σ : AS} {b len cap x : Nat} {cs : List Value} (h : Sl n σ (.slice (some ⟨b, 0, none⟩) len cap) cs) (hx : x ≤ len) {j : IntKind} :
    aSlice P id t (.slice (some ⟨b, 0, none⟩) len cap) none (some (.int j (x : Int))) none σ = some (.slice (some ⟨b, 0, none⟩) x cap, σ) ∧ Sl n σ (.slice (some ⟨b, 0, none⟩) x cap) (cs.take (x * n)) := by
  rcases h with ⟨h, _⟩ | ⟨b', len', cap', c, room, h1, h2, h3, h4, h5, h6, h7⟩
  · cases h
  · cases h1
    have hxc : x ≤ cap := Nat.le_trans hx h4
    constructor
    · have hb : bounds' len cap none (some (.int j (x : Int))) none = some (0, x, cap) := by
        have hb' : bound' (.int j (x : Int)) cap = some x := by
          unfold bound'
          dsimp only
          rw [decide_eq_true (by omega : (0 : Int) ≤ (x : Int)), decide_eq_true (by omega : (x : Int) ≤ (cap : Int))]
          rfl
        delta bounds'
        dsimp only
        rw [hb']
      simp only [aSlice, he, hb]
      cases hc : Nat.beq cap 0 with
      | false =>
        rw [show ((none : Option Value).isNone && !false) = true from rfl, cond_true]
        simp only [M.pure, addOff, Nat.zero_mul, Nat.add_zero, Nat.sub_zero]
      | true =>
        have hc0 := Nat.eq_of_beq_eq_true hc
        rw [show ((none : Option Value).isNone && !true) = false from rfl, cond_false]
        have hr : room = 0 := by
          rcases h3 with h3 | h3
          · exact h3
          · omega
        subst hr
        simp only [M.bind, M.get, h2, M.pure, cond_true, addOff, Nat.add_zero, Nat.sub_zero]
    · have hm := Nat.mul_le_mul_right n hx
      refine Or.inr ⟨b, x, cap, c, room, rfl, h2, h3, hxc, h5, ?_, ?_⟩
      · rw [List.length_take, h6]; omega
      · rw [← h7, List.take_take, Nat.min_eq_left hm]

/-! ## append -/

structure Elem (P : Program) (t e : TypeId) (n bytes : Nat) : Prop where
  size : elemSize P t = some (e, n)
  zero : ∃ z, zero' P e = some z ∧ z.cells.size = n
  info : ∃ i, P.info? e = some i ∧ i.bytes = bytes
  pos : 1 ≤ n
  bpos : 1 ≤ bytes
  app : notAppendable P t = false

theorem putCells_eq : ∀ (xs c : List Value) (i : Nat), i + xs.length ≤ c.length → putCells c i xs = c.take i ++ xs ++ c.drop (i + xs.length)
  | [], c, i, h => by simp [putCells]
  | x :: xs, c, i, h => by
    simp only [List.length_cons] at h
    simp only [putCells]
    rw [putCells_eq xs (c.set i x) (i + 1) (by simp; omega)]
    have h1 : (c.set i x).take (i + 1) = c.take i ++ [x] := by
      rw [List.take_succ_eq_append_getElem (by simp; omega), List.take_set_of_le (Nat.le_refl i)]
      simp
    have h2 : (c.set i x).drop (i + 1 + xs.length) = c.drop (i + (xs.length + 1)) := by
      rw [List.drop_set]
      rw [if_pos (by omega)]
      congr 1
      omega
    rw [h1, h2]
    simp

theorem aAppend_ok {P : Program} {t e : TypeId} {n bytes id : Nat} (he : Elem P t e n bytes) {σ : AS} {s x : Value} {cs xs : List Value} (hs : Sl n σ s cs) (hx : Rd n σ x xs) (hfl : xs.all flat = true)
    (hsz : (2 * (slLen s + slLen x) + 512) * bytes ≤ 2 ^ 48) (hf : FreshAt σ id) (hw : Wf σ) :
    ∃ v' σ', aAppend P id t t s x σ = some (v', σ') ∧ Sl n σ' v' (cs ++ xs) ∧ slLen v' = slLen s + slLen x ∧ Fr (fun i => slBase s = some i ∨ i = id) σ σ' ∧ (slBase v' = slBase s ∨ slBase v' = some id) := by
  obtain ⟨z, hz1, hz2⟩ := he.zero
  obtain ⟨inf, hi1, hi2⟩ := he.info
  have hlx := hx.lenOf
  have hsrc := hx.src
  have hxl := hx.length
  have grow : ∀ (base : Option Addr) (len cap : Nat) (old : List Value), s = .slice base len cap → ¬ len + slLen x ≤ cap → srcCells n len s σ = some (old, σ) → old = cs → cs.length = len * n →
      (∀ a, base = some a → ∃ c room, σ.heap.get a.block = some (.cells c room false) ∧ (room = 0 ∨ (room = n ∧ a.off + cap * n = c.length))) →
      ∃ v' σ', aAppend P id t t s x σ = some (v', σ') ∧ Sl n σ' v' (cs ++ xs) ∧ slLen v' = len + slLen x ∧ Fr (fun i => slBase s = some i ∨ i = id) σ σ' ∧ (slBase v' = slBase s ∨ slBase v' = some id) := by
    intro base len cap old hsv hcap hold holdcs hcsl hbase
    subst hsv
    have hslr : slLen (.slice base len cap) = len := rfl
    rw [hslr] at hsz
    have hc1 : Nat.ble (len + slLen x) cap = false := by
      cases hb : Nat.ble (len + slLen x) cap with
      | false => rfl
      | true => exact absurd (Nat.le_of_ble_eq_true hb) hcap
    have hc2 : (Nat.beq z.cells.size n && Nat.ble ((2 * (len + slLen x) + 512) * inf.bytes) (2 ^ 48) && Nat.ble 1 inf.bytes && Nat.ble 1 n) = true := by
      rw [hz2, hi2, Nat.beq_refl, Nat.ble_eq_true_of_le hsz, Nat.ble_eq_true_of_le he.pos, Nat.ble_eq_true_of_le he.bpos]
      rfl
    have hc3 : (xs.all flat && Nat.beq old.length (len * n) && Nat.beq xs.length (slLen x * n)) = true := by
      rw [hfl, holdcs, hcsl, hxl, Nat.beq_refl, Nat.beq_refl]
      rfl
    have fin : ∀ σ1 : AS, (σ1 = σ ∨ ∃ a, base = some a ∧ ∃ o, σ.heap.get a.block = some o ∧ σ1 = σ.put a.block .dead) →
        σ1.heap.get id = none ∧ id < σ1.next ∧ Fr (fun i => slBase (.slice base len cap) = some i ∨ i = id) σ (σ1.put id (.cells (old ++ xs) n false)) := by
      rintro σ1 (rfl | ⟨a, rfl, o, ho, rfl⟩)
      · exact ⟨hf.1, hf.2, (Fr.refl hw).put _ hf.2 (Or.inl (Or.inr rfl)) hw⟩
      · have hne : a.block ≠ id := by rintro h; rw [h, hf.1] at ho; cases ho
        refine ⟨by rw [AS.get_put_ne _ _ (Ne.symm hne)]; exact hf.1, hf.2, ((Fr.refl hw).put _ (hw _ _ ho) (Or.inl (Or.inl rfl)) hw).put _ hf.2 (Or.inl (Or.inr rfl)) hw⟩
    have mid : ∃ σ1 : AS, aAppend P id t t (.slice base len cap) x σ = some (.slice (some ⟨id, 0, none⟩) (len + slLen x) (len + slLen x), σ1.put id (.cells (old ++ xs) n false)) ∧ (σ1 = σ ∨ ∃ a, base = some a ∧ ∃ o, σ.heap.get a.block = some o ∧ σ1 = σ.put a.block .dead) := by
      have last : ∀ σ1 : AS, (σ1 = σ ∨ ∃ a, base = some a ∧ ∃ o, σ.heap.get a.block = some o ∧ σ1 = σ.put a.block .dead) →
          (M.bind (M.alloc id (.cells (old ++ xs) n false)) fun _ => M.pure (Value.slice (some ⟨id, 0, none⟩) (len + slLen x) (len + slLen x))) σ1 = some (.slice (some ⟨id, 0, none⟩) (len + slLen x) (len + slLen x), σ1.put id (.cells (old ++ xs) n false)) := by
        intro σ1 hm
        obtain ⟨h1, h2, _⟩ := fin σ1 hm
        simp only [M.bind, M.alloc_of h1 h2]
        rfl
      cases base with
      | none =>
        refine ⟨σ, ?_, Or.inl rfl⟩
        simp only [aAppend, he.size, hlx, he.app, cond_false, hc1, hz1, hi1]
        rw [hc2, cond_true]
        simp only [M.bind, hold, hsrc]
        rw [hc3, cond_true]
        exact last σ (Or.inl rfl)
      | some a =>
        obtain ⟨c, room, h1, h2⟩ := hbase a rfl
        cases room with
        | zero =>
          refine ⟨σ, ?_, Or.inl rfl⟩
          simp only [aAppend, he.size, hlx, he.app, cond_false, hc1, hz1, hi1]
          rw [hc2, cond_true]
          simp only [M.bind, hold, hsrc]
          rw [hc3, cond_true]
          simp only [M.bind, M.get, h1]
          exact last σ (Or.inl rfl)
        | succ r =>
          rcases h2 with h2 | ⟨h2, h3⟩
          · cases h2
          · refine ⟨σ.put a.block .dead, ?_, Or.inr ⟨a, rfl, _, h1, rfl⟩⟩
            have hb : (Nat.beq (r + 1) n && Nat.beq (a.off + cap * n) c.length) = true := by rw [h2, h3, Nat.beq_refl, Nat.beq_refl]; rfl
            simp only [aAppend, he.size, hlx, he.app, cond_false, hc1, hz1, hi1]
            rw [hc2, cond_true]
            simp only [M.bind, hold, hsrc]
            rw [hc3, cond_true]
            simp only [M.bind, M.get, h1]
            rw [hb, cond_true]
            simp only [M.set, h1]
            exact last _ (Or.inr ⟨a, rfl, _, h1, rfl⟩)
    obtain ⟨σ1, hm1, hm2⟩ := mid
    obtain ⟨hf1, hf2, hfr⟩ := fin σ1 hm2
    refine ⟨.slice (some ⟨id, 0, none⟩) (len + slLen x) (len + slLen x), σ1.put id (.cells (old ++ xs) n false), hm1, ?_, rfl, hfr, Or.inr rfl⟩
    · refine Or.inr ⟨id, len + slLen x, len + slLen x, old ++ xs, n, rfl, AS.get_put_same _ _ _, Or.inr ⟨rfl, by omega⟩, Nat.le_refl _, ?_, ?_, ?_⟩
      · rw [List.length_append, holdcs, hcsl, hxl, Nat.add_mul]
      · rw [List.length_append, hcsl, hxl, Nat.add_mul]
      · rw [holdcs]
        apply List.take_of_length_le
        rw [List.length_append, hcsl, hxl, Nat.add_mul]
        exact Nat.le_refl _
  rcases hs with ⟨rfl, rfl⟩ | ⟨b, len, cap, c, room, rfl, h2, h3, h4, h5, h6, h7⟩
  · by_cases hx0 : slLen x = 0
    · refine ⟨.slice none 0 0, σ, ?_, ?_, (by rw [hx0]; rfl), Fr.refl hw, Or.inl rfl⟩
      · simp only [aAppend, he.size, hlx, he.app, cond_false, hx0]
        rfl
      · rw [hx0, Nat.zero_mul] at hxl
        rw [List.eq_nil_of_length_eq_zero hxl]
        exact Or.inl ⟨rfl, rfl⟩
    · exact grow none 0 0 [] rfl (by omega) rfl rfl (by simp) (fun a ha => by cases ha)
  · have hslr : slLen (.slice (some ⟨b, 0, none⟩) len cap) = len := rfl
    by_cases hcap : len + slLen x ≤ cap
    · have hmul := Nat.mul_le_mul_right n hcap
      rw [Nat.add_mul] at hmul
      have hput := putCells_eq xs c (len * n) (by rw [hxl, h5]; exact hmul)
      refine ⟨.slice (some ⟨b, 0, none⟩) (len + slLen x) cap, σ.put b (.cells (putCells c (len * n) xs) room false), ?_, ?_, rfl, ?_, Or.inl rfl⟩
      · simp only [aAppend, he.size, hlx, he.app, cond_false, Nat.ble_eq_true_of_le hcap, cond_true, M.bind, hsrc, M.get, h2, Nat.zero_add]
        have : (Nat.ble (len * n + xs.length) c.length && xs.all flat) = true := by
          rw [hfl, Nat.ble_eq_true_of_le (by rw [hxl, h5]; exact hmul)]
          rfl
        rw [this, cond_true]
        simp only [M.bind, M.set, h2, M.pure]
        rfl
      · refine Or.inr ⟨b, len + slLen x, cap, _, room, rfl, AS.get_put_same _ _ _, h3, hcap, by rw [putCells_length]; exact h5, by rw [List.length_append, h6, hxl, Nat.add_mul], ?_⟩
        rw [hput, h7]
        apply List.take_left'
        rw [List.length_append, h6, hxl, Nat.add_mul]
      · exact (Fr.refl hw).put _ (hw _ _ h2) (Or.inl (Or.inl rfl)) hw
    · refine grow (some ⟨b, 0, none⟩) len cap cs rfl hcap ?_ rfl h6 (fun a ha => ?_)
      · have := (Sl.rd (Or.inr ⟨b, len, cap, c, room, rfl, h2, h3, h4, h5, h6, h7⟩ : Sl n σ _ cs)).src
        exact this
      · cases ha
        refine ⟨c, room, h2, ?_⟩
        rcases h3 with h3 | h3
        · exact Or.inl h3
        · exact Or.inr ⟨h3.1, by rw [h5]; exact Nat.zero_add _⟩

end Go.Abs
