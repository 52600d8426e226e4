/- A call puts no object at a number that was reserved ahead of it. No condition. -/
import Derived.Test.YtfokbdgiphphfaaAbs30
namespace Go.Abs
open Go.RowKit

/-- Below b nothing new is put. -/
def Low {α : Type} (b : Nat) (m : M α) : Prop := ∀ σ v σ', b ≤ σ.next → m σ = some (v, σ') → b ≤ σ'.next ∧ ∀ i, i < b → σ.heap.get i = none → σ'.heap.get i = none

section
variable {α β : Type} {b : Nat}

theorem Low.pure (a : α) : Low b (M.pure a) := fun σ v σ' hb h => by
  obtain ⟨rfl, rfl⟩ := M.pure_some h
  exact ⟨hb, fun _ _ h => h⟩
theorem Low.fail : Low b (M.fail : M α) := fun _ _ _ _ h => (M.fail_some h).elim
theorem Low.bind {m : M α} {f : α → M β} (hm : Low b m) (hf : ∀ a, Low b (f a)) : Low b (M.bind m f) := fun σ v σ' hb h => by
  obtain ⟨a, σ1, h1, h2⟩ := M.bind_some h
  obtain ⟨b1, l1⟩ := hm _ _ _ hb h1
  obtain ⟨b2, l2⟩ := hf a _ _ _ b1 h2
  exact ⟨b2, fun i hi hn => l2 i hi (l1 i hi hn)⟩
theorem Low.ofOption (o : Option α) : Low b (M.ofOption o) := by cases o; exact Low.fail; exact Low.pure _
theorem Low.get (id : Nat) : Low b (M.get id) := fun σ v σ' hb h => by
  obtain ⟨_, rfl⟩ := M.get_some h
  exact ⟨hb, fun _ _ h => h⟩
theorem Low.bif {c : Bool} {m m' : M α} (hm : Low b m) (hm' : Low b m') : Low b (bif c then m else m') := by cases c; exact hm'; exact hm
theorem Low.set (id : Nat) (o : AObj) : Low b (M.set id o) := fun σ v σ' hb h => by
  obtain ⟨h1, rfl⟩ := M.set_some h
  refine ⟨hb, fun i hi hn => ?_⟩
  rw [Tr.get_set]
  split
  · subst_vars
    obtain ⟨q, hq⟩ := h1
    rw [hq] at hn
    cases hn
  · exact hn
theorem Low.alloc {id : Nat} (hid : b ≤ id) (o : AObj) : Low b (M.alloc id o) := fun σ v σ' hb h => by
  obtain ⟨_, _, rfl⟩ := M.alloc_some h
  refine ⟨hb, fun i hi hn => ?_⟩
  rw [Tr.get_set]
  split
  · subst_vars; omega
  · exact hn
theorem Low.reserve {k : Nat} {f : Nat → M β} (hf : ∀ base, b ≤ base → Low b (f base)) : Low b (M.bind (M.reserve k) f) := fun σ v σ' hb h => by
  obtain ⟨a, σ1, h1, h2⟩ := M.bind_some h
  cases h1
  obtain ⟨b2, l2⟩ := hf σ.next hb _ _ _ (Nat.le_trans hb (Nat.le_add_right _ _)) h2
  exact ⟨b2, l2⟩
theorem Low.viaModel (P : Program) (s : Sem Value) : Low b (viaModel P s) := by
  unfold Abs.viaModel plainVal
  split
  · exact Low.bif (Low.pure _) Low.fail
  · exact Low.fail
end

section
variable {P : Program} {call : Tgt → Array Value → M Value} {b id : Nat} {ρ : Operand → Value}

theorem low_cells (hid : b ≤ id) (c : List Value) : Low b (newCells id c) := Low.alloc hid _

theorem low_src (n k : Nat) (x : Value) : Low b (srcCells n k x) := by
  have hid : b ≤ b := Nat.le_refl _
  have hcall : ∀ (t : Tgt) (a : Array Value), Low b (M.fail : M Value) := fun _ _ => Low.fail
  unfold srcCells
  repeat' first | with_reducible exact Low.fail | with_reducible exact Low.pure _ | with_reducible exact Low.get _ | with_reducible exact Low.set _ _ | with_reducible exact Low.alloc hid _ | with_reducible exact Low.ofOption _ | with_reducible exact Low.viaModel _ _ | with_reducible exact hcall _ _ | ((with_reducible refine Low.bind ?_ fun _ => ?_) <;> try dsimp only) | with_reducible refine Low.bif ?_ ?_ | contradiction | split

theorem low_aop (hid : b ≤ id) (hcall : ∀ t a, Low b (call t a)) (o : Oper) : Low b (aop P call id ρ o) := by
  obtain ⟨dst, op, type, pos, after, guard⟩ := o
  have hc := fun c => low_cells hid c
  have hs := fun n k x => low_src (b := b) n k x
  cases op <;> simp only [aop] <;> refine Low.bif ?_ Low.fail
  case call c =>
    unfold aCall
    cases c.callee with
    | builtin bi =>
      unfold aBuiltin aLen aCap aAppend aCopy
      dsimp only
      repeat' first | with_reducible exact hs _ _ _ | with_reducible exact Low.fail | with_reducible exact Low.pure _ | with_reducible exact Low.get _ | with_reducible exact Low.set _ _ | with_reducible exact Low.alloc hid _ | with_reducible exact Low.ofOption _ | with_reducible exact Low.viaModel _ _ | with_reducible exact hcall _ _ | ((with_reducible refine Low.bind ?_ fun _ => ?_) <;> try dsimp only) | with_reducible refine Low.bif ?_ ?_ | contradiction | split
    | _ => repeat' first | with_reducible exact Low.fail | with_reducible exact Low.pure _ | with_reducible exact Low.get _ | with_reducible exact Low.set _ _ | with_reducible exact Low.alloc hid _ | with_reducible exact Low.ofOption _ | with_reducible exact Low.viaModel _ _ | with_reducible exact hcall _ _ | ((with_reducible refine Low.bind ?_ fun _ => ?_) <;> try dsimp only) | with_reducible refine Low.bif ?_ ?_ | contradiction | split
  all_goals try unfold aBuild
  all_goals try unfold aBuildSlice
  all_goals try unfold aLoad
  all_goals try unfold aStore
  all_goals try unfold aBinOp
  all_goals try unfold aBytes
  all_goals try unfold aMakeSlice
  all_goals try unfold aSlice
  all_goals try unfold aFieldAddr
  all_goals try unfold aField
  all_goals try unfold aIndexAddr
  all_goals try unfold aIndex
  all_goals try unfold aLookup
  all_goals try unfold aMapUpdate
  all_goals try unfold aTypeAssert
  all_goals try dsimp only
  all_goals repeat' first | with_reducible exact hc _ | with_reducible exact Low.fail | with_reducible exact Low.pure _ | with_reducible exact Low.get _ | with_reducible exact Low.set _ _ | with_reducible exact Low.alloc hid _ | with_reducible exact Low.ofOption _ | with_reducible exact Low.viaModel _ _ | with_reducible exact hcall _ _ | ((with_reducible refine Low.bind ?_ fun _ => ?_) <;> try dsimp only) | with_reducible refine Low.bif ?_ ?_ | contradiction | split
theorem low_step (hcall : ∀ t a, Low b (call t a)) {ops : Array Oper} {base i : Nat} (hb : b ≤ base) (o : Oper) (a : Act) : Low b (stepOp P call ops base i o a) := by
  unfold stepOp
  exact Low.bif (Low.bind (low_aop (by omega) hcall o) fun _ => Low.pure _) (Low.pure _)

theorem low_ops (hcall : ∀ t a, Low b (call t a)) {ops : Array Oper} {base : Nat} (hb : b ≤ base) : ∀ (l : List Oper) (i : Nat) (a : Act), Low b (runOps P call ops base i l a)
  | [], _, _ => Low.pure _
  | o :: l, i, a => Low.bind (low_step hcall hb o a) fun a' => low_ops hcall hb l (i + 1) a'

theorem low_drawAll (hcall : ∀ t a, Low b (call t a)) {ops : Array Oper} {base : Nat} (hb : b ≤ base) (bf : Array Nat) : ∀ (l : List Oper) (i : Nat) (d d' : DS), b ≤ d.st.next → drawAll P call ops base bf i l d = some d' → b ≤ d'.st.next ∧ ∀ j, j < b → d.st.heap.get j = none → d'.st.heap.get j = none
  | [], _, d, d', hd, h => by cases h; exact ⟨hd, fun _ _ h => h⟩
  | o :: l, i, d, d', hd, h => by
    unfold drawAll at h
    split at h
    · rename_i d1 h1
      have key : b ≤ d1.st.next ∧ ∀ j, j < b → d.st.heap.get j = none → d1.st.heap.get j = none := by
        unfold drawOne at h1
        split at h1
        · cases h1
        · rename_i v σ' hv
          have hl : Low b (opVal P call ops base i o d.act) := by
            unfold opVal
            exact Low.bif (low_aop (by omega) hcall o) (Low.pure _)
          have := hl _ _ _ hd hv
          cases he : isEff P ops o d.act with
          | true =>
            rw [he, cond_true] at h1
            cases hq : Nat.beq (d.mask &&& bf.getD i 0) d.mask with
            | true => rw [hq, cond_true] at h1; cases h1; exact this
            | false => rw [hq, cond_false] at h1; cases h1
          | false => rw [he, cond_false] at h1; cases h1; exact ⟨hd, fun _ _ h => h⟩
      obtain ⟨k1, k2⟩ := key
      obtain ⟨m1, m2⟩ := low_drawAll hcall hb bf l (i + 1) d1 d' k1 h
      exact ⟨m1, fun j hj hn => m2 j hj (k2 j hj hn)⟩
    · cases h

theorem low_draw (hcall : ∀ t a, Low b (call t a)) {ops : Array Oper} {base : Nat} (hb : b ≤ base) (a : Act) : Low b (runDraw P call ops base a) := fun σ v σ' hn h => by
  unfold runDraw at h
  obtain ⟨_, h⟩ : (drawStatic ops (bef ops) && P.follows .mixedOrders) = true ∧ _ := by
    cases hq : (drawStatic ops (bef ops) && P.follows .mixedOrders) with
    | true => rw [hq] at h; exact ⟨rfl, h⟩
    | false => rw [hq] at h; cases h
  rw [cond_true] at h
  split at h
  · rename_i d hd
    have := low_drawAll hcall hb (bef ops) ops.toList 0 _ d hn hd
    cases hq : d.reads.all fun r => d.phases.all fun p => readOk P call ops base (bef ops) d.mask r p with
    | true => rw [hq, cond_true] at h; cases h; exact this
    | false => rw [hq, cond_false] at h; cases h
  · cases h

theorem low_loop {body : Act → M (AX × Act)} (hbody : ∀ a, Low b (body a)) : ∀ (n : Nat) (a : Act), Low b (aloop body n a)
  | 0, _ => Low.fail
  | n + 1, a => Low.bind (hbody a) fun r => by
    obtain ⟨e, a'⟩ := r
    cases e with
    | normal => exact low_loop hbody n a'
    | exit _ => exact Low.pure _
    | ret => exact Low.pure _

theorem low_range (hcall : ∀ t a, Low b (call t a)) (fn : FuncId) (ro : Option Nat) (f : Operand) (params : Array Tmp) (assign body : Code) (a : Act) : Low b (aRange P call fn ro f params assign body a) := by
  unfold aRange
  refine Low.reserve fun base hbase => ?_
  have hid : b ≤ base := hbase
  have hid1 : b ≤ base + 1 := by omega
  repeat' first | with_reducible exact Low.fail | with_reducible exact Low.pure _ | with_reducible exact Low.get _ | with_reducible exact Low.set _ _ | with_reducible exact Low.alloc hid _ | with_reducible exact Low.alloc hid1 _ | with_reducible exact Low.ofOption _ | with_reducible exact Low.viaModel _ _ | with_reducible exact hcall _ _ | ((with_reducible refine Low.bind ?_ fun _ => ?_) <;> try dsimp only) | with_reducible refine Low.bif ?_ ?_ | contradiction | split

theorem low_code (hcall : ∀ t a, Low b (call t a)) (n : Nat) (fn : FuncId) (ro : Option Nat) : ∀ (c : Code) (a : Act), Low b (acode P call n fn ro c a)
  | .skip, a => Low.pure _
  | .region _ ops draw, a => by
    unfold acode
    refine Low.reserve fun base hb => Low.bif (Low.bind (low_draw hcall hb a) fun _ => Low.pure _) (Low.bind (low_ops hcall hb _ _ _) fun _ => Low.pure _)
  | .seq x y, a => by
    unfold acode
    refine Low.bind (low_code hcall n fn ro x a) fun r => ?_
    obtain ⟨e, a'⟩ := r
    cases e with
    | normal => exact low_code hcall n fn ro y a'
    | exit _ => exact Low.pure _
    | ret => exact Low.pure _
  | .cond c x y, a => by
    unfold acode
    refine Low.bif ?_ Low.fail
    split
    · exact low_code hcall n fn ro x a
    · exact low_code hcall n fn ro y a
    · exact Low.fail
  | .block id body, a => by
    unfold acode
    refine Low.bind (low_code hcall n fn ro body a) fun r => ?_
    obtain ⟨e, a'⟩ := r
    cases e with
    | normal => exact Low.pure _
    | exit _ => exact Low.bif (Low.pure _) (Low.pure _)
    | ret => exact Low.pure _
  | .loop body, a => by
    unfold acode
    exact low_loop (fun a => low_code hcall n fn ro body a) n a
  | .rangeFunc f params assign body, a => by
    unfold acode
    exact low_range hcall fn ro f params assign body a
  | .exit id, a => Low.pure _
  | .ret, a => Low.pure _
  | .label _, a => Low.pure _
  | .scope _, _ => Low.fail
  | .goto _, _ => Low.fail
  | .refuse _, _ => Low.fail

theorem low_take : ∀ (ds : List Deferred), Low b (takeAll ds)
  | [] => Low.pure _
  | d :: ds => by
    unfold takeAll
    split
    · refine Low.bind (Low.get _) fun o => ?_
      split
      · exact Low.bind (Low.set _ _) fun _ => low_take ds
      · exact Low.fail
    · exact Low.fail

theorem low_results (tmps : Array Value) : ∀ (l : List ResultVar), Low b (aResultList P tmps l)
  | [] => Low.pure _
  | r :: rs => by
    have hid : b ≤ b := Nat.le_refl _
    unfold aResultList
    refine Low.bind ?_ fun _ => Low.bind (low_results tmps rs) fun _ => Low.pure _
    unfold aResult aLoad
    repeat' first | with_reducible exact Low.fail | with_reducible exact Low.pure _ | with_reducible exact Low.get _ | with_reducible exact Low.set _ _ | with_reducible exact Low.alloc hid _ | with_reducible exact Low.ofOption _ | with_reducible exact Low.viaModel _ _ | with_reducible exact hcall _ _ | ((with_reducible refine Low.bind ?_ fun _ => ?_) <;> try dsimp only) | with_reducible refine Low.bif ?_ ?_ | contradiction | split
end

theorem low_call (P : Program) (b : Nat) : ∀ (n : Nat) (t : Tgt) (args : Array Value), Low b (acall P n t args)
  | 0, _, _ => Low.fail
  | n + 1, .func f, args => by
    have hc := low_call P b n
    unfold acall
    split
    · split
      · refine Low.bind (low_code hc n f none _ _) fun r => ?_
        obtain ⟨e, a⟩ := r
        have fin : Low b (M.bind (takeAll a.defers) fun _ => aResults P ‹Func› a.tmps) := by
          refine Low.bind (low_take _) fun _ => ?_
          unfold aResults
          refine Low.bind (low_results _ _) fun l => ?_
          split <;> exact Low.pure _
        cases e with
        | normal => exact fin
        | exit _ => exact Low.fail
        | ret => exact fin
      · exact Low.fail
    · exact Low.fail
  | n + 1, .yield l, args => by
    have hcall := low_call P b n
    have hcode := fun fn ro c a => low_code (P := P) (b := b) hcall n fn ro c a
    have hid : b ≤ b := Nat.le_refl _
    unfold acall
    repeat' first | with_reducible exact Low.fail | with_reducible exact Low.pure _ | with_reducible exact Low.get _ | with_reducible exact Low.set _ _ | with_reducible exact Low.alloc hid _ | with_reducible exact hcode _ _ _ _ | with_reducible exact Low.ofOption _ | with_reducible exact Low.viaModel _ _ | with_reducible exact hcall _ _ | ((with_reducible refine Low.bind ?_ fun _ => ?_) <;> try dsimp only) | with_reducible refine Low.bif ?_ ?_ | contradiction | split

/-- A number that was reserved ahead of a call, and stood empty, stands empty behind it. -/
theorem call_low {P : Program} {n : Nat} {t : Tgt} {args : Array Value} {σ σ' : AS} {v : Value} (h : acall P n t args σ = some (v, σ')) {i : Nat} (hi : i < σ.next) (hn : σ.heap.get i = none) : σ'.heap.get i = none :=
  (low_call P σ.next n t args σ v σ' (Nat.le_refl _) h).2 i hi hn

end Go.Abs
