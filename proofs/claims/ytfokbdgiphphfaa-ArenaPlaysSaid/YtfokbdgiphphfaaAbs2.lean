/- The abstract evaluator: the heap's laws, how abstract values and objects stand for the model's own, the relation, and its laws at one step of memory. No condition. -/
import Derived.Test.YtfokbdgiphphfaaAbs1
namespace Go.Abs
open Go.RowKit

theorem nbeq_false {a b : Nat} (h : a ≠ b) : Nat.beq a b = false := by
  cases e : Nat.beq a b with
  | false => rfl
  | true => exact absurd (Nat.eq_of_beq_eq_true e) h
theorem ne_of_nbeq {a b : Nat} (h : Nat.beq a b = false) : a ≠ b := Nat.ne_of_beq_eq_false h
theorem nblt {a b : Nat} : Nat.blt a b = true ↔ a < b := by
  unfold Nat.blt; rw [Nat.ble_eq]; exact Iff.rfl

/-! ## The trie -/
namespace Tr
variable {α : Type}

theorem get_setF (f : Nat) : ∀ (t : Tr α) (k k' : Nat) (v : α), k < f → (setF f t k v).get k' = if k' = k then some v else t.get k' := by
  induction f with
  | zero => intro t k k' v h; omega
  | succ f ih =>
    intro t k k' v h
    by_cases hk0 : k = 0
    · subst hk0
      cases t with
      | leaf =>
        by_cases hk' : k' = 0
        · subst hk'; simp [setF, get]
        · simp [setF, get, hk', nbeq_false hk']
      | node o l r =>
        by_cases hk' : k' = 0
        · subst hk'; simp [setF, get]
        · simp [setF, get, hk', nbeq_false hk']
    · have hb0 : Nat.beq k 0 = false := nbeq_false hk0
      by_cases hp : k % 2 = 1
      · have hb1 : Nat.beq (k % 2) 1 = true := by rw [hp]; rfl
        cases t with
        | leaf =>
          simp only [setF, hb0, hb1, cond_false, cond_true, get]
          by_cases hk' : k' = 0
          · subst hk'
            have : (0 : Nat) ≠ k := fun e => hk0 e.symm
            simp [this]
          · have hb0' : Nat.beq k' 0 = false := nbeq_false hk'
            simp only [hb0', cond_false]
            by_cases hp' : k' % 2 = 1
            · have hb1' : Nat.beq (k' % 2) 1 = true := by rw [hp']; rfl
              rw [hb1', cond_true, ih _ _ _ _ (by omega)]
              by_cases e : k' = k
              · subst e; simp
              · rw [if_neg (by omega), if_neg e]; simp [get]
            · have hb1' : Nat.beq (k' % 2) 1 = false := nbeq_false hp'
              rw [hb1', cond_false]
              have : k' ≠ k := fun e => hp' (e ▸ hp)
              simp [this]
        | node o l r =>
          simp only [setF, hb0, hb1, cond_false, cond_true, get]
          by_cases hk' : k' = 0
          · subst hk'
            have : (0 : Nat) ≠ k := fun e => hk0 e.symm
            simp [this]
          · have hb0' : Nat.beq k' 0 = false := nbeq_false hk'
            simp only [hb0', cond_false]
            by_cases hp' : k' % 2 = 1
            · have hb1' : Nat.beq (k' % 2) 1 = true := by rw [hp']; rfl
              rw [hb1', cond_true, cond_true, ih _ _ _ _ (by omega)]
              by_cases e : k' = k
              · subst e; simp
              · rw [if_neg (by omega), if_neg e]
            · have hb1' : Nat.beq (k' % 2) 1 = false := nbeq_false hp'
              rw [hb1', cond_false, cond_false]
              have : k' ≠ k := fun e => hp' (e ▸ hp)
              simp [this]
      · have hb1 : Nat.beq (k % 2) 1 = false := nbeq_false hp
        cases t with
        | leaf =>
          simp only [setF, hb0, hb1, cond_false, get]
          by_cases hk' : k' = 0
          · subst hk'
            have : (0 : Nat) ≠ k := fun e => hk0 e.symm
            simp [this]
          · have hb0' : Nat.beq k' 0 = false := nbeq_false hk'
            simp only [hb0', cond_false]
            by_cases hp' : k' % 2 = 1
            · have hb1' : Nat.beq (k' % 2) 1 = true := by rw [hp']; rfl
              rw [hb1', cond_true]
              have : k' ≠ k := fun e => hp (e ▸ hp')
              simp [this]
            · have hb1' : Nat.beq (k' % 2) 1 = false := nbeq_false hp'
              rw [hb1', cond_false, ih _ _ _ _ (by omega)]
              by_cases e : k' = k
              · subst e; simp
              · rw [if_neg (by omega), if_neg e]; simp [get]
        | node o l r =>
          simp only [setF, hb0, hb1, cond_false, get]
          by_cases hk' : k' = 0
          · subst hk'
            have : (0 : Nat) ≠ k := fun e => hk0 e.symm
            simp [this]
          · have hb0' : Nat.beq k' 0 = false := nbeq_false hk'
            simp only [hb0', cond_false]
            by_cases hp' : k' % 2 = 1
            · have hb1' : Nat.beq (k' % 2) 1 = true := by rw [hp']; rfl
              rw [hb1', cond_true, cond_true]
              have : k' ≠ k := fun e => hp (e ▸ hp')
              simp [this]
            · have hb1' : Nat.beq (k' % 2) 1 = false := nbeq_false hp'
              rw [hb1', cond_false, cond_false, ih _ _ _ _ (by omega)]
              by_cases e : k' = k
              · subst e; simp
              · rw [if_neg (by omega), if_neg e]

theorem get_set (t : Tr α) (k k' : Nat) (v : α) : (t.set k v).get k' = if k' = k then some v else t.get k' :=
  get_setF (k + 1) t k k' v (Nat.lt_succ_self k)

theorem get_set_same (t : Tr α) (k : Nat) (v : α) : (t.set k v).get k = some v := by rw [get_set, if_pos rfl]
theorem get_set_ne (t : Tr α) {k k' : Nat} (v : α) (h : k' ≠ k) : (t.set k v).get k' = t.get k' := by rw [get_set, if_neg h]

/-- Two stores at two places commute: the trie is the same one. -/
theorem setF_comm (f : Nat) : ∀ (g : Nat) (t : Tr α) (k k' : Nat) (v v' : α), k ≠ k' → k < f → k' < g → setF f (setF g t k' v') k v = setF g (setF f t k v) k' v' := by
  induction f with
  | zero => intro g t k k' v v' hne h h'; omega
  | succ f ih =>
    intro g t k k' v v' hne h h'
    obtain ⟨g, rfl⟩ : ∃ m, g = m + 1 := ⟨g - 1, by omega⟩
    by_cases hk0 : k = 0
    · subst hk0
      have hk' : k' ≠ 0 := fun e => hne e.symm
      have hb0' : Nat.beq k' 0 = false := nbeq_false hk'
      have hz : Nat.beq 0 0 = true := rfl
      cases hp : Nat.beq (k' % 2) 1 <;> cases t <;> simp [setF, hb0', hp]
    · have hb0 : Nat.beq k 0 = false := nbeq_false hk0
      by_cases hk0' : k' = 0
      · subst hk0'
        cases hp : Nat.beq (k % 2) 1 <;> cases t <;> simp [setF, hb0, hp]
      · have hb0' : Nat.beq k' 0 = false := nbeq_false hk0'
        cases hp : Nat.beq (k % 2) 1 <;> cases hp' : Nat.beq (k' % 2) 1
        · have h1 : k % 2 ≠ 1 := ne_of_nbeq hp
          have h1' : k' % 2 ≠ 1 := ne_of_nbeq hp'
          cases t <;> simp [setF, hb0, hb0', hp, hp'] <;> exact ih _ _ _ _ _ _ (by omega) (by omega) (by omega)
        · cases t <;> simp [setF, hb0, hb0', hp, hp']
        · cases t <;> simp [setF, hb0, hb0', hp, hp']
        · have h1 : k % 2 = 1 := Nat.eq_of_beq_eq_true hp
          have h1' : k' % 2 = 1 := Nat.eq_of_beq_eq_true hp'
          cases t <;> simp [setF, hb0, hb0', hp, hp'] <;> exact ih _ _ _ _ _ _ (by omega) (by omega) (by omega)

theorem set_comm (t : Tr α) {k k' : Nat} (v v' : α) (h : k ≠ k') : (t.set k' v').set k v = (t.set k v).set k' v' :=
  setF_comm _ _ _ _ _ _ _ h (Nat.lt_succ_self _) (Nat.lt_succ_self _)
end Tr

/-! ## The monad -/
namespace M
variable {α β : Type}
theorem bind_some {m : M α} {f : α → M β} {s s' : AS} {b : β} (h : M.bind m f s = some (b, s')) : ∃ a s₁, m s = some (a, s₁) ∧ f a s₁ = some (b, s') := by
  unfold M.bind at h
  split at h
  · cases h
  · rename_i a s₁ e; exact ⟨a, s₁, e, h⟩
theorem bind_of {m : M α} {f : α → M β} {s s₁ : AS} {a : α} (h : m s = some (a, s₁)) : M.bind m f s = f a s₁ := by
  unfold M.bind; rw [h]
theorem pure_some {a b : α} {s s' : AS} (h : M.pure a s = some (b, s')) : b = a ∧ s = s' := by
  unfold M.pure at h; cases h; exact ⟨rfl, rfl⟩
theorem fail_some {b : α} {s s' : AS} (h : (M.fail : M α) s = some (b, s')) : False := by cases h
theorem ofOption_some {o : Option α} {b : α} {s s' : AS} (h : M.ofOption o s = some (b, s')) : o = some b ∧ s = s' := by
  cases o with
  | none => cases h
  | some a => cases h; exact ⟨rfl, rfl⟩
theorem get_some {id : Nat} {o : AObj} {s s' : AS} (h : M.get id s = some (o, s')) : s.heap.get id = some o ∧ s = s' := by
  unfold M.get at h
  split at h
  · cases h
  · rename_i x e; cases h; exact ⟨e, rfl⟩
theorem get_of {id : Nat} {o : AObj} {s : AS} (h : s.heap.get id = some o) : M.get id s = some (o, s) := by
  unfold M.get; rw [h]
theorem set_some {id : Nat} {o : AObj} {s s' : AS} {u : Unit} (h : M.set id o s = some (u, s')) : (∃ x, s.heap.get id = some x) ∧ s' = { s with heap := s.heap.set id o } := by
  unfold M.set at h
  split at h
  · cases h
  · rename_i x e; cases h; exact ⟨⟨x, e⟩, rfl⟩
theorem set_of {id : Nat} {o x : AObj} {s : AS} (h : s.heap.get id = some x) : M.set id o s = some ((), { s with heap := s.heap.set id o }) := by
  unfold M.set; rw [h]
theorem alloc_some {id : Nat} {o : AObj} {s s' : AS} {u : Unit} (h : M.alloc id o s = some (u, s')) : s.heap.get id = none ∧ id < s.next ∧ s' = { s with heap := s.heap.set id o } := by
  unfold M.alloc at h
  split at h
  · rename_i e
    cases hb : Nat.blt id s.next with
    | true => rw [hb] at h; cases h; exact ⟨e, nblt.1 hb, rfl⟩
    | false => rw [hb] at h; cases h
  · cases h
theorem alloc_of {id : Nat} {o : AObj} {s : AS} (h : s.heap.get id = none) (hl : id < s.next) : M.alloc id o s = some ((), { s with heap := s.heap.set id o }) := by
  unfold M.alloc; rw [h]
  have : Nat.blt id s.next = true := nblt.2 hl
  rw [this]; rfl
theorem reserve_some {n b : Nat} {s s' : AS} (h : M.reserve n s = some (b, s')) : b = s.next ∧ s' = { s with next := s.next + n } := by
  unfold M.reserve at h; cases h; exact ⟨rfl, rfl⟩
end M

theorem bif_some {α : Type} {b : Bool} {m : M α} {s s' : AS} {v : α} (h : (bif b then m else M.fail) s = some (v, s')) : b = true ∧ m s = some (v, s') := by
  cases b
  · cases h
  · exact ⟨rfl, h⟩

/-! ## How an abstract value stands for one of the model's -/

/-- Where the objects lie: block, first cell, how many elements stand behind the known ones. -/
structure Mu where
  blk : Nat → Nat
  base : Nat → Nat
  extra : Nat → Nat

def Mu.at (μ : Mu) (a : Addr) : Addr := ⟨μ.blk a.block, μ.base a.block + a.off, none⟩

def concFn (μ : Mu) : Fn → Fn
  | .yield l => .yield (μ.blk l)
  | f => f

mutual
def conc (μ : Mu) : Value → Value
  | .pointer (some a) => .pointer (some (μ.at a))
  | .slice (some a) l c => .slice (some (μ.at a)) l (c + μ.extra a.block)
  | .map (some r) => .map (some (μ.blk r))
  | .chan (some r) => .slice (some ⟨μ.blk r, μ.base r, some (μ.extra r)⟩) 0 0
  | .func fn xs ys => .func (concFn μ fn) (concA μ xs) (concA μ ys)
  | .iface t v => .iface t (conc μ v)
  | .agg cs => .agg (concA μ cs)
  | .tuple vs => .tuple (concA μ vs)
  | v => v
def concA (μ : Mu) : Array Value → Array Value
  | ⟨l⟩ => ⟨concL μ l⟩
def concL (μ : Mu) : List Value → List Value
  | [] => []
  | v :: vs => conc μ v :: concL μ vs
end

theorem concL_eq (μ : Mu) (l : List Value) : concL μ l = l.map (conc μ) := by
  induction l with
  | nil => rfl
  | cons v vs ih => simp [concL, ih]

theorem concA_eq (μ : Mu) (a : Array Value) : concA μ a = a.map (conc μ) := by
  obtain ⟨l⟩ := a
  simp [concA, concL_eq]

mutual
theorem conc_noids (μ : Mu) : ∀ v : Value, noids v = true → conc μ v = v
  | .bool _, _ | .int _ _, _ | .float _ _, _ | .complex _ _ _, _ | .string _, _ | .nilFunc, _ | .nilIface, _ => by simp [conc]
  | .pointer none, _ | .slice none _ _, _ | .map none, _ => by simp [conc]
  | .pointer (some _), h | .slice (some _) _ _, h | .map (some _), h => by simp [noids] at h
  | .chan none, _ => by simp [conc]
  | .chan (some _), h => by simp [noids] at h
  | .func fn xs ys, h => by
    simp only [noids, Bool.and_eq_true] at h
    simp only [conc]
    rw [concA_noids μ xs h.1.2, concA_noids μ ys h.2]
    cases fn <;> first | rfl | simp at h
  | .iface t v, h => by simp only [noids] at h; simp only [conc]; rw [conc_noids μ v h]
  | .agg cs, h => by simp only [noids] at h; simp only [conc]; rw [concA_noids μ cs h]
  | .tuple vs, h => by simp only [noids] at h; simp only [conc]; rw [concA_noids μ vs h]
theorem concA_noids (μ : Mu) : ∀ a : Array Value, noidsA a = true → concA μ a = a
  | ⟨l⟩, h => by simp only [noidsA] at h; simp only [concA]; rw [concL_noids μ l h]
theorem concL_noids (μ : Mu) : ∀ l : List Value, noidsL l = true → concL μ l = l
  | [], _ => by simp [concL]
  | v :: vs, h => by
    simp only [noidsL, Bool.and_eq_true] at h
    simp only [concL]
    rw [conc_noids μ v h.1, concL_noids μ vs h.2]
end

mutual
/-- All addresses of a value lie in the domain. -/
def Vin (D : Nat → Prop) : Value → Prop
  | .pointer (some a) => D a.block
  | .slice (some a) _ _ => D a.block
  | .map (some r) => D r
  | .chan (some r) => D r
  | .func fn xs ys => (match fn with | .yield l => D l | _ => True) ∧ VinA D xs ∧ VinA D ys
  | .iface _ v => Vin D v
  | .agg cs => VinA D cs
  | .tuple vs => VinA D vs
  | _ => True
def VinA (D : Nat → Prop) : Array Value → Prop
  | ⟨l⟩ => VinL D l
def VinL (D : Nat → Prop) : List Value → Prop
  | [] => True
  | v :: vs => Vin D v ∧ VinL D vs
end

theorem VinL_iff {D : Nat → Prop} {l : List Value} : VinL D l ↔ ∀ v ∈ l, Vin D v := by
  induction l with
  | nil => simp [VinL]
  | cons v vs ih => simp [VinL, ih]

theorem VinA_iff {D : Nat → Prop} {a : Array Value} : VinA D a ↔ ∀ v ∈ a, Vin D v := by
  obtain ⟨l⟩ := a
  simp [VinA, VinL_iff]

mutual
theorem Vin_noids (D : Nat → Prop) : ∀ v : Value, noids v = true → Vin D v
  | .bool _, _ | .int _ _, _ | .float _ _, _ | .complex _ _ _, _ | .string _, _ | .nilFunc, _ | .nilIface, _ => by simp [Vin]
  | .pointer none, _ | .slice none _ _, _ | .map none, _ => by simp [Vin]
  | .pointer (some _), h | .slice (some _) _ _, h | .map (some _), h => by simp [noids] at h
  | .chan none, _ => by simp [Vin]
  | .chan (some _), h => by simp [noids] at h
  | .func fn xs ys, h => by
    simp only [noids, Bool.and_eq_true] at h
    simp only [Vin]
    refine ⟨?_, VinA_noids D xs h.1.2, VinA_noids D ys h.2⟩
    cases fn <;> first | trivial | simp at h
  | .iface t v, h => by simp only [noids] at h; simp only [Vin]; exact Vin_noids D v h
  | .agg cs, h => by simp only [noids] at h; simp only [Vin]; exact VinA_noids D cs h
  | .tuple vs, h => by simp only [noids] at h; simp only [Vin]; exact VinA_noids D vs h
theorem VinA_noids (D : Nat → Prop) : ∀ a : Array Value, noidsA a = true → VinA D a
  | ⟨l⟩, h => by simp only [noidsA] at h; simp only [VinA]; exact VinL_noids D l h
theorem VinL_noids (D : Nat → Prop) : ∀ l : List Value, noidsL l = true → VinL D l
  | [], _ => by simp [VinL]
  | v :: vs, h => by
    simp only [noidsL, Bool.and_eq_true] at h
    simp only [VinL]
    exact ⟨Vin_noids D v h.1, VinL_noids D vs h.2⟩
end

mutual
theorem Vin_mono {D E : Nat → Prop} (h : ∀ i, D i → E i) : ∀ v : Value, Vin D v → Vin E v
  | .bool _, _ | .int _ _, _ | .float _ _, _ | .complex _ _ _, _ | .string _, _ | .nilFunc, _ | .nilIface, _ => by simp [Vin]
  | .pointer none, _ | .slice none _ _, _ | .map none, _ | .chan none, _ => by simp [Vin]
  | .chan (some r), hv => by simp only [Vin] at hv ⊢; exact h _ hv
  | .pointer (some a), hv => by simp only [Vin] at hv ⊢; exact h _ hv
  | .slice (some a) _ _, hv => by simp only [Vin] at hv ⊢; exact h _ hv
  | .map (some r), hv => by simp only [Vin] at hv ⊢; exact h _ hv
  | .func fn xs ys, hv => by
    simp only [Vin] at hv ⊢
    refine ⟨?_, VinA_mono h xs hv.2.1, VinA_mono h ys hv.2.2⟩
    cases fn <;> first | trivial | exact h _ hv.1
  | .iface t v, hv => by simp only [Vin] at hv ⊢; exact Vin_mono h v hv
  | .agg cs, hv => by simp only [Vin] at hv ⊢; exact VinA_mono h cs hv
  | .tuple vs, hv => by simp only [Vin] at hv ⊢; exact VinA_mono h vs hv
theorem VinA_mono {D E : Nat → Prop} (h : ∀ i, D i → E i) : ∀ a : Array Value, VinA D a → VinA E a
  | ⟨l⟩, hv => by simp only [VinA] at hv ⊢; exact VinL_mono h l hv
theorem VinL_mono {D E : Nat → Prop} (h : ∀ i, D i → E i) : ∀ l : List Value, VinL D l → VinL E l
  | [], _ => by simp [VinL]
  | v :: vs, hv => by simp only [VinL] at hv ⊢; exact ⟨Vin_mono h v hv.1, VinL_mono h vs hv.2⟩
end

/-- Two layouts agree on a domain. -/
def Agree (D : Nat → Prop) (μ μ' : Mu) : Prop := ∀ i, D i → μ'.blk i = μ.blk i ∧ μ'.base i = μ.base i ∧ μ'.extra i = μ.extra i

theorem Agree.refl (D : Nat → Prop) (μ : Mu) : Agree D μ μ := fun _ _ => ⟨rfl, rfl, rfl⟩
theorem Agree.trans {D E : Nat → Prop} {a b c : Mu} (h : Agree D a b) (k : Agree E b c) (hs : ∀ i, D i → E i) : Agree D a c := fun i hi =>
  ⟨(k i (hs i hi)).1.trans (h i hi).1, (k i (hs i hi)).2.1.trans (h i hi).2.1, (k i (hs i hi)).2.2.trans (h i hi).2.2⟩

mutual
theorem conc_agree {D : Nat → Prop} {μ μ' : Mu} (h : Agree D μ μ') : ∀ v : Value, Vin D v → conc μ' v = conc μ v
  | .bool _, _ | .int _ _, _ | .float _ _, _ | .complex _ _ _, _ | .string _, _ | .nilFunc, _ | .nilIface, _ => by simp [conc]
  | .pointer none, _ | .slice none _ _, _ | .map none, _ | .chan none, _ => by simp [conc]
  | .chan (some r), hv => by simp only [Vin] at hv; simp only [conc, (h _ hv).1, (h _ hv).2.1, (h _ hv).2.2]
  | .pointer (some a), hv => by simp only [Vin] at hv; simp only [conc, Mu.at, (h _ hv).1, (h _ hv).2.1]
  | .slice (some a) _ _, hv => by simp only [Vin] at hv; simp only [conc, Mu.at, (h _ hv).1, (h _ hv).2.1, (h _ hv).2.2]
  | .map (some r), hv => by simp only [Vin] at hv; simp only [conc, (h _ hv).1]
  | .func fn xs ys, hv => by
    simp only [Vin] at hv
    simp only [conc, concA_agree h xs hv.2.1, concA_agree h ys hv.2.2]
    cases fn <;> first | rfl | (have := hv.1; simp only at this; simp only [concFn, (h _ this).1])
  | .iface t v, hv => by simp only [Vin] at hv; simp only [conc, conc_agree h v hv]
  | .agg cs, hv => by simp only [Vin] at hv; simp only [conc, concA_agree h cs hv]
  | .tuple vs, hv => by simp only [Vin] at hv; simp only [conc, concA_agree h vs hv]
theorem concA_agree {D : Nat → Prop} {μ μ' : Mu} (h : Agree D μ μ') : ∀ a : Array Value, VinA D a → concA μ' a = concA μ a
  | ⟨l⟩, hv => by simp only [VinA] at hv; simp only [concA, concL_agree h l hv]
theorem concL_agree {D : Nat → Prop} {μ μ' : Mu} (h : Agree D μ μ') : ∀ l : List Value, VinL D l → concL μ' l = concL μ l
  | [], _ => by simp [concL]
  | v :: vs, hv => by simp only [VinL] at hv; simp only [concL, conc_agree h v hv.1, concL_agree h vs hv.2]
end

mutual
theorem veq_eq : ∀ a b : Value, veq a b = true → a = b
  | .bool a, b, h => by cases b <;> simp_all [veq]
  | .int j a, b, h => by cases b <;> simp_all [veq]
  | .float j a, b, h => by cases b <;> simp_all [veq]
  | .complex _ _ _, b, h => by cases b <;> simp_all [veq]
  | .string a, b, h => by cases b <;> simp_all [veq]
  | .pointer a, b, h => by cases b <;> simp_all [veq]
  | .slice a l c, b, h => by cases b <;> simp_all [veq]
  | .map a, b, h => by cases b <;> simp_all [veq]
  | .chan _, b, h => by cases b <;> simp_all [veq]
  | .nilFunc, b, h => by cases b <;> simp_all [veq]
  | .nilIface, b, h => by cases b <;> simp_all [veq]
  | .func f xs ys, b, h => by
    cases b <;> simp only [veq, Bool.false_eq_true, Bool.and_eq_true, decide_eq_true_eq] at h
    rw [h.1.1, veqA_eq _ _ h.1.2, veqA_eq _ _ h.2]
  | .iface t v, b, h => by
    cases b <;> simp only [veq, Bool.false_eq_true, Bool.and_eq_true, decide_eq_true_eq] at h
    rw [h.1, veq_eq _ _ h.2]
  | .agg a, b, h => by
    cases b <;> simp only [veq, Bool.false_eq_true] at h
    rw [veqA_eq _ _ h]
  | .tuple a, b, h => by
    cases b <;> simp only [veq, Bool.false_eq_true] at h
    rw [veqA_eq _ _ h]
theorem veqA_eq : ∀ a b : Array Value, veqA a b = true → a = b
  | ⟨a⟩, ⟨b⟩, h => by simp only [veqA] at h; rw [veqL_eq _ _ h]
theorem veqL_eq : ∀ a b : List Value, veqL a b = true → a = b
  | [], b, h => by cases b <;> simp_all [veqL]
  | a :: as, b, h => by
    cases b <;> simp only [veqL, Bool.false_eq_true, Bool.and_eq_true] at h
    rw [veq_eq _ _ h.1, veqL_eq _ _ h.2]
end

end Go.Abs
