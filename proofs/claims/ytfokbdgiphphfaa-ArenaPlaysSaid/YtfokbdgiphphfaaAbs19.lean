/- The abstract evaluator: in a region whose order is drawn, every order says the same. No condition. -/
import Derived.Test.YtfokbdgiphphfaaAbs18
namespace Go.Abs
open Go.RowKit

theorem edgeBits_iff (b : Array Nat) (j : Nat) : ∀ l : List Edge, (edgeBits b l).testBit j = true ↔ ∃ e ∈ l, Region.binds .any e = true ∧ (j = e.on ∨ (b.getD e.on 0).testBit j = true)
  | [] => by simp [edgeBits]
  | e :: r => by
    simp only [edgeBits, List.mem_cons, exists_eq_or_imp]
    cases hb : Region.binds .any e with
    | true =>
      have hc : (e.on = j) ↔ (j = e.on) := eq_comm
      simp only [cond_true, Nat.testBit_or, Nat.testBit_two_pow, Bool.or_eq_true, decide_eq_true_eq, edgeBits_iff b j r, true_and, hc]
    | false => simp only [cond_false, edgeBits_iff b j r, Bool.false_eq_true, false_and, false_or]

/-- What the static check of a region says. -/
structure Static (ops : Array Oper) (b : Array Nat) : Prop where
  bits : ∀ i o, ops[i]? = some o → ∀ j, (b.getD i 0).testBit j = true ↔ ∃ e ∈ o.after, Region.binds .any e = true ∧ (j = e.on ∨ (b.getD e.on 0).testBit j = true)
  low : ∀ i o, ops[i]? = some o → ∀ e ∈ o.after, Region.binds .any e = true → e.on < i
  one : ∀ (i j : Nat) (x y : Oper) (t : Tmp), ops[i]? = some x → ops[j]? = some y → x.dst = some t → y.dst = some t → i = j
  apart : ∀ (i j : Nat) (x y : Oper) (t : Tmp), ops[i]? = some x → ops[j]? = some y → x.dst = some t → t ∈ readsOf ops y → i = j ∨ (i < j ∧ (b.getD j 0).testBit i = true) ∨ (j < i ∧ (b.getD i 0).testBit j = true)

theorem static_of {ops : Array Oper} {b : Array Nat} (h : drawStatic ops b = true) : Static ops b := by
  unfold drawStatic at h
  have h1 : ∀ i < ops.size, _ := fun i hi => List.all_eq_true.1 h i (List.mem_range.2 hi)
  have lt : ∀ {i o}, ops[i]? = some o → i < ops.size := fun ho => (Array.getElem?_eq_some_iff.1 ho).1
  have h2 : ∀ i o, ops[i]? = some o → b.getD i 0 = edgeBits b o.after.toList ∧ ∀ e ∈ o.after, Region.binds .any e = true → e.on < i := fun i o ho => by
    have := h1 i (lt ho)
    rw [ho] at this
    simp only [Bool.and_eq_true] at this
    refine ⟨Nat.eq_of_beq_eq_true this.1.1, fun e he hb => ?_⟩
    have := List.all_eq_true.1 this.1.2 e (by simpa using he)
    simpa [hb] using this
  have h3 : ∀ i j, i < ops.size → j < ops.size → pairOk ops b i j = true := fun i j hi hj => by
    have := h1 i hi
    simp only [Bool.and_eq_true] at this
    exact List.all_eq_true.1 this.2 j (List.mem_range.2 hj)
  refine ⟨fun i o ho j => ?_, fun i o ho => (h2 i o ho).2, fun i j x y t hx hy hdx hdy => ?_, fun i j x y t hx hy hdx hr => ?_⟩
  · rw [(h2 i o ho).1, edgeBits_iff]
    simp
  · have := h3 i j (lt hx) (lt hy)
    simp only [pairOk, hx, hy, hdx, hdy, Bool.or_eq_true, Bool.and_eq_true] at this
    rcases this with hq | hq
    · exact Nat.eq_of_beq_eq_true hq
    · simp at hq
  · have := h3 i j (lt hx) (lt hy)
    simp only [pairOk, hx, hy, hdx, Bool.or_eq_true, Bool.and_eq_true] at this
    rcases this with hq | ⟨_, hq⟩
    · exact .inl (Nat.eq_of_beq_eq_true hq)
    · rcases hq with hq | hq
      · exact absurd hr (by simpa using hq)
      · cases hb : Nat.blt i j with
        | true => rw [hb] at hq; exact .inr (.inl ⟨by simpa using hb, hq⟩)
        | false =>
          rw [hb] at hq
          have : ¬ i < j := fun hlt => by rw [← Nat.blt_eq, hb] at hlt; cases hlt
          by_cases hij : i = j
          · exact .inl hij
          · exact .inr (.inr ⟨by omega, hq⟩)

/-! ## The walk in the order of the text -/

section
variable {P : Program} {call : Tgt → Array Value → M Value} {ops : Array Oper} {base : Nat} {b : Array Nat}

theorem walk : ∀ (l : List Oper) (i : Nat) (d d' : DS), drawAll P call ops base b i l d = some d' →
    ∃ ds : Nat → DS, ds i = d ∧ ds (i + l.length) = d' ∧ ∀ k o, l[k]? = some o → drawOne P call ops base b (i + k) o (ds (i + k)) = some (ds (i + k + 1))
  | [], i, d, d', h => by
    cases h
    exact ⟨fun _ => d, rfl, rfl, fun k o hk => by simp at hk⟩
  | o :: l, i, d, d', h => by
    simp only [drawAll] at h
    cases h1 : drawOne P call ops base b i o d with
    | none => rw [h1] at h; cases h
    | some d1 =>
      rw [h1] at h
      obtain ⟨ds, e1, e2, e3⟩ := walk l (i + 1) d1 d' h
      refine ⟨fun k => if k = i then d else ds k, if_pos rfl, ?_, fun k o' hk => ?_⟩
      · show (if _ then _ else _) = _
        rw [if_neg (by simp), ← e2, List.length_cons]
        congr 1; omega
      · cases k with
        | zero =>
          simp only [List.getElem?_cons_zero, Option.some.injEq] at hk
          subst hk
          simp only [Nat.add_zero, if_true]
          rw [if_neg (by omega), h1, e1]
        | succ k =>
          rw [List.getElem?_cons_succ] at hk
          have := e3 k o' hk
          simp only
          rw [if_neg (by omega), if_neg (by omega)]
          have ha : i + 1 + k = i + (k + 1) := by omega
          rw [ha] at this
          exact this

/-- One step of the walk. -/
structure Went (P : Program) (call : Tgt → Array Value → M Value) (ops : Array Oper) (base : Nat) (b : Array Nat) (k : Nat) (o : Oper) (d d' : DS) (v : Value) : Prop where
  act : d'.act = d.act.put o.dst v
  how : (isEff P ops o d.act = true ∧ opVal P call ops base k o d.act d.st = some (v, d'.st) ∧ d.mask &&& b.getD k 0 = d.mask ∧ d'.mask = d.mask ||| 2 ^ k ∧ d'.ups = d.ups ||| b.getD k 0 ∧ d'.phases = (d'.mask, d'.ups, d'.st) :: d.phases ∧ d'.reads = d.reads) ∨
    (isEff P ops o d.act = false ∧ (∃ s, opVal P call ops base k o d.act d.st = some (v, s)) ∧ d'.mask = d.mask ∧ d'.ups = d.ups ∧ d'.st = d.st ∧ d'.phases = d.phases ∧ d'.reads = (k, o, d.act, v) :: d.reads)

theorem went {k : Nat} {o : Oper} {d d' : DS} (h : drawOne P call ops base b k o d = some d') : ∃ v, Went P call ops base b k o d d' v := by
  unfold drawOne at h
  cases h1 : opVal P call ops base k o d.act d.st with
  | none => rw [h1] at h; cases h
  | some r =>
    obtain ⟨v, s⟩ := r
    rw [h1] at h
    simp only at h
    cases he : isEff P ops o d.act with
    | true =>
      rw [he, cond_true] at h
      cases hm : Nat.beq (d.mask &&& b.getD k 0) d.mask with
      | false => rw [hm, cond_false] at h; cases h
      | true =>
        rw [hm, cond_true] at h
        cases h
        exact ⟨v, rfl, .inl ⟨he, h1, Nat.eq_of_beq_eq_true hm, rfl, rfl, rfl, rfl⟩⟩
    | false =>
      rw [he, cond_false] at h
      cases h
      exact ⟨v, rfl, .inr ⟨he, ⟨s, h1⟩, rfl, rfl, rfl, rfl, rfl⟩⟩

/-- The whole walk. -/
structure Walk (P : Program) (call : Tgt → Array Value → M Value) (ops : Array Oper) (base : Nat) (b : Array Nat) (a : Act) (σ : AS) (ds : Nat → DS) (val : Nat → Value) : Prop where
  zero : ds 0 = { act := a, mask := 0, ups := 0, st := σ, phases := [(0, 0, σ)], reads := [] }
  step : ∀ k o, ops[k]? = some o → Went P call ops base b k o (ds k) (ds (k + 1)) (val k)
  reads : ∀ r ∈ (ds ops.size).reads, ∀ p ∈ (ds ops.size).phases, readOk P call ops base b (ds ops.size).mask r p = true

theorem walk_of {a a' : Act} {σ σ' : AS} (h : runDraw P call ops base a σ = some (a', σ')) :
    Static ops (bef ops) ∧ P.follows .mixedOrders = true ∧ ∃ ds val, Walk P call ops base (bef ops) a σ ds val ∧ a' = (ds ops.size).act ∧ σ' = (ds ops.size).st := by
  unfold runDraw at h
  cases h0 : drawStatic ops (bef ops) && P.follows .mixedOrders with
  | false => rw [h0, cond_false] at h; cases h
  | true =>
    rw [h0, cond_true] at h
    simp only [Bool.and_eq_true] at h0
    cases h1 : drawAll P call ops base (bef ops) 0 ops.toList { act := a, mask := 0, ups := 0, st := σ, phases := [(0, 0, σ)], reads := [] } with
    | none => rw [h1] at h; cases h
    | some d =>
      rw [h1] at h
      simp only at h
      cases h2 : d.reads.all fun r => d.phases.all fun p => readOk P call ops base (bef ops) d.mask r p with
      | false => rw [h2, cond_false] at h; cases h
      | true =>
        rw [h2, cond_true] at h
        cases h
        obtain ⟨ds, e1, e2, e3⟩ := walk _ _ _ _ h1
        have e2 : ds ops.size = d := by simpa using e2
        have hw : ∀ k o, ops[k]? = some o → ∃ v, Went P call ops base (bef ops) k o (ds k) (ds (k + 1)) v := fun k o ho => by
          have := e3 k o (by simpa using ho)
          rw [Nat.zero_add] at this
          exact went this
        classical
        refine ⟨static_of h0.1, h0.2, ds, fun k => if hk : ∃ v o, ops[k]? = some o ∧ Went P call ops base (bef ops) k o (ds k) (ds (k + 1)) v then hk.choose else undef, ⟨e1, fun k o ho => ?_, ?_⟩, by rw [e2], by rw [e2]⟩
        · have hk : ∃ v o, ops[k]? = some o ∧ Went P call ops base (bef ops) k o (ds k) (ds (k + 1)) v := (hw k o ho).imp fun v hv => ⟨o, ho, hv⟩
          rw [dif_pos hk]
          obtain ⟨o', ho', hv⟩ := hk.choose_spec
          rw [ho] at ho'
          cases ho'
          exact hv
        · rw [e2]
          intro r hr p hp
          exact List.all_eq_true.1 (List.all_eq_true.1 h2 r hr) p hp

variable {a : Act} {σ : AS} {ds : Nat → DS} {val : Nat → Value}

def E (P : Program) (ops : Array Oper) (ds : Nat → DS) (k : Nat) : Prop := ∃ o, ops[k]? = some o ∧ isEff P ops o (ds k).act = true

theorem Walk.mask (W : Walk P call ops base b a σ ds val) : ∀ k ≤ ops.size, ∀ e, (ds k).mask.testBit e = true ↔ e < k ∧ E P ops ds e
  | 0, _, e => by rw [W.zero]; simp
  | k + 1, hk, e => by
    have ho : ops[k]? = some ops[k] := Array.getElem?_eq_getElem (by omega)
    rcases (W.step k _ ho).how with ⟨he, _, _, hm, _⟩ | ⟨he, _, hm, _⟩
    · rw [hm, Nat.testBit_or, Nat.testBit_two_pow, Bool.or_eq_true, W.mask k (by omega) e, decide_eq_true_eq]
      constructor
      · rintro (⟨h1, h2⟩ | rfl)
        · exact ⟨by omega, h2⟩
        · exact ⟨by omega, _, ho, he⟩
      · rintro ⟨h1, h2⟩
        by_cases hek : k = e
        · exact .inr hek
        · exact .inl ⟨by omega, h2⟩
    · rw [hm, W.mask k (by omega) e]
      constructor
      · rintro ⟨h1, h2⟩; exact ⟨by omega, h2⟩
      · rintro ⟨h1, h2⟩
        by_cases hek : k = e
        · subst hek
          obtain ⟨o, ho', he'⟩ := h2
          rw [ho] at ho'; cases ho'
          rw [he] at he'; cases he'
        · exact ⟨by omega, h2⟩

theorem Walk.ups (W : Walk P call ops base b a σ ds val) : ∀ k ≤ ops.size, ∀ j, (ds k).ups.testBit j = true → ∃ e < k, E P ops ds e ∧ (b.getD e 0).testBit j = true
  | 0, _, j, h => by rw [W.zero] at h; simp at h
  | k + 1, hk, j, h => by
    have ho : ops[k]? = some ops[k] := Array.getElem?_eq_getElem (by omega)
    rcases (W.step k _ ho).how with ⟨he, _, _, _, hm, _⟩ | ⟨he, _, _, hm, _⟩
    · rw [hm, Nat.testBit_or, Bool.or_eq_true] at h
      rcases h with h | h
      · obtain ⟨e, h1, h2⟩ := W.ups k (by omega) j h; exact ⟨e, by omega, h2⟩
      · exact ⟨k, by omega, ⟨_, ho, he⟩, h⟩
    · rw [hm] at h
      obtain ⟨e, h1, h2⟩ := W.ups k (by omega) j h; exact ⟨e, by omega, h2⟩

theorem Walk.phases (W : Walk P call ops base b a σ ds val) (p : Nat) : ∀ q, p ≤ q → q ≤ ops.size → ∀ x ∈ (ds p).phases, x ∈ (ds q).phases
  | 0, hpq, _, x, hx => by have : p = 0 := by omega
                           rw [this] at hx; exact hx
  | q + 1, hpq, hq, x, hx => by
    by_cases h : p = q + 1
    · rw [h] at hx; exact hx
    · have ih := W.phases p q (by omega) (by omega) x hx
      have ho : ops[q]? = some ops[q] := Array.getElem?_eq_getElem (by omega)
      rcases (W.step q _ ho).how with ⟨_, _, _, _, _, hm, _⟩ | ⟨_, _, _, _, _, hm, _⟩
      · rw [hm]; exact List.mem_cons_of_mem _ ih
      · rw [hm]; exact ih

theorem Walk.phase (W : Walk P call ops base b a σ ds val) : ∀ p ≤ ops.size, ((ds p).mask, (ds p).ups, (ds p).st) ∈ (ds p).phases
  | 0, _ => by rw [W.zero]; simp
  | p + 1, hp => by
    have ho : ops[p]? = some ops[p] := Array.getElem?_eq_getElem (by omega)
    rcases (W.step p _ ho).how with ⟨_, _, _, _, _, hm, _⟩ | ⟨_, _, h1, h2, h3, hm, _⟩
    · rw [hm]; exact List.mem_cons_self
    · rw [hm, h1, h2, h3]; exact W.phase p (by omega)

theorem Walk.readMem (W : Walk P call ops base b a σ ds val) {k : Nat} {o : Oper} (ho : ops[k]? = some o) (he : isEff P ops o (ds k).act = false) : ∀ q, k < q → q ≤ ops.size → (k, o, (ds k).act, val k) ∈ (ds q).reads
  | 0, h, _ => by omega
  | q + 1, h, hq => by
    have hoq : ops[q]? = some ops[q] := Array.getElem?_eq_getElem (by omega)
    by_cases hkq : k = q
    · subst hkq
      rcases (W.step k _ ho).how with ⟨h1, _⟩ | ⟨_, _, _, _, _, _, hm⟩
      · rw [he] at h1; cases h1
      · rw [hm]; exact List.mem_cons_self
    · have ih := W.readMem ho he q (by omega) (by omega)
      rcases (W.step q _ hoq).how with ⟨_, _, _, _, _, _, hm⟩ | ⟨_, _, _, _, _, _, hm⟩
      · rw [hm]; exact ih
      · rw [hm]; exact List.mem_cons_of_mem _ ih

theorem Walk.still (W : Walk P call ops base b a σ ds val) (p : Nat) : ∀ q, p ≤ q → q ≤ ops.size → (∀ e, p ≤ e → e < q → ¬ E P ops ds e) → (ds q).st = (ds p).st
  | 0, hpq, _, _ => by have : p = 0 := by omega
                       rw [this]
  | q + 1, hpq, hq, hn => by
    by_cases h : p = q + 1
    · rw [h]
    · have ho : ops[q]? = some ops[q] := Array.getElem?_eq_getElem (by omega)
      rcases (W.step q _ ho).how with ⟨he, _⟩ | ⟨_, _, _, _, hm, _⟩
      · exact absurd ⟨_, ho, he⟩ (hn q (by omega) (by omega))
      · rw [hm]; exact W.still p q (by omega) (by omega) fun e h1 h2 => hn e h1 (by omega)

theorem Walk.chain (W : Walk P call ops base b a σ ds val) {e e' : Nat} (h : E P ops ds e) (h' : E P ops ds e') (hlt : e < e') : (b.getD e' 0).testBit e = true := by
  obtain ⟨o, ho, he⟩ := h'
  have hn : e' < ops.size := (Array.getElem?_eq_some_iff.1 ho).1
  rcases (W.step e' o ho).how with ⟨_, _, hm, _⟩ | ⟨he2, _⟩
  · have := (W.mask e' (by omega) e).2 ⟨hlt, h⟩
    rw [← hm, Nat.testBit_and, Bool.and_eq_true] at this
    exact this.2
  · rw [he] at he2; cases he2

end
end Go.Abs
