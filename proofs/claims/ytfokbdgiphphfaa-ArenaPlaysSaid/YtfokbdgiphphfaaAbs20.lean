/- The abstract evaluator: a region whose order is drawn, in any order that may be drawn. No condition. -/
import Derived.Test.YtfokbdgiphphfaaAbs19
namespace Go.Abs
open Go.RowKit

/-- The temporaries behind a set of operations. -/
structure TmpsAt (ops : Array Oper) (val : Nat → Value) (a0 : Act) (D : Nat → Prop) (x : Act) : Prop where
  defers : x.defers = a0.defers
  size : x.tmps.size = a0.tmps.size
  put : ∀ (i : Nat) (o : Oper) (t : Tmp), ops[i]? = some o → D i → o.dst = some t → t < a0.tmps.size → x.tmps[t]? = some (val i)
  same : ∀ (t : Tmp), (∀ (i : Nat) (o : Oper), ops[i]? = some o → D i → o.dst ≠ some t) → x.tmps[t]? = a0.tmps[t]?

section
variable {P : Program} {call : Tgt → Array Value → M Value} {ops : Array Oper} {base : Nat} {b : Array Nat} {val : Nat → Value} {a0 x y : Act} {D D' : Nat → Prop}

theorem TmpsAt.iff (h : TmpsAt ops val a0 D x) (hD : ∀ i, D i ↔ D' i) : TmpsAt ops val a0 D' x :=
  ⟨h.defers, h.size, fun i o t ho hd => h.put i o t ho ((hD i).2 hd), fun t ht => h.same t fun i o ho hd => ht i o ho ((hD i).1 hd)⟩

theorem TmpsAt.nothing (hD : ∀ i, ¬ D i) : TmpsAt ops val a0 D a0 := ⟨rfl, rfl, fun i _ _ _ hd => absurd hd (hD i), fun _ _ => rfl⟩

theorem TmpsAt.add (hs : Static ops b) (h : TmpsAt ops val a0 D x) {i : Nat} {o : Oper} (ho : ops[i]? = some o) : TmpsAt ops val a0 (fun j => D j ∨ j = i) (x.put o.dst (val i)) := by
  cases hd : o.dst with
  | none =>
    refine ⟨h.defers, h.size, fun j o' t ho' hD ht hlt => ?_, fun t ht => h.same t fun j o' ho' hD => ht j o' ho' (.inl hD)⟩
    rcases hD with hD | rfl
    · exact h.put j o' t ho' hD ht hlt
    · rw [ho] at ho'; cases ho'; rw [hd] at ht; cases ht
  | some d =>
    refine ⟨h.defers, by simp only [Act.put, Array.size_setIfInBounds]; exact h.size, fun j o' t ho' hD ht hlt => ?_, fun t ht => ?_⟩
    · simp only [Act.put, Array.getElem?_setIfInBounds]
      by_cases hji : j = i
      · subst hji
        rw [ho] at ho'; cases ho'
        rw [hd] at ht; cases ht
        rw [if_pos rfl, if_pos (by rw [h.size]; exact hlt)]
      · have hne : d ≠ t := fun hdt => hji (hs.one j i o' o t ho' ho ht (by rw [hd, hdt]))
        rw [if_neg hne]
        exact h.put j o' t ho' (hD.resolve_right hji) ht hlt
    · simp only [Act.put, Array.getElem?_setIfInBounds]
      have hne : d ≠ t := fun hdt => ht i o ho (.inr rfl) (by rw [hd, hdt])
      rw [if_neg hne]
      exact h.same t fun j o' ho' hD => ht j o' ho' (.inl hD)

theorem same_tmp (hs : Static ops b) (hx : TmpsAt ops val a0 D x) (hy : TmpsAt ops val a0 D' y) {i : Nat} {o : Oper} (ho : ops[i]? = some o) {t : Tmp} (ht : t ∈ readsOf ops o) (hi : ¬ D i) (hi' : ¬ D' i)
    (h1 : ∀ j, j < i → (b.getD i 0).testBit j = true → D j ∧ D' j) (h2 : ∀ j, i < j → (b.getD j 0).testBit i = true → ¬ D j ∧ ¬ D' j) : x.tmps[t]? = y.tmps[t]? := by
  by_cases hw : ∃ (j : Nat) (z : Oper), ops[j]? = some z ∧ z.dst = some t
  · obtain ⟨j, z, hz, hdst⟩ := hw
    have none : ¬ D j → ¬ D' j → x.tmps[t]? = y.tmps[t]? := fun n n' => by
      rw [hx.same t fun k o' ho' hk hd => n (hs.one k j o' z t ho' hz hd hdst ▸ hk), hy.same t fun k o' ho' hk hd => n' (hs.one k j o' z t ho' hz hd hdst ▸ hk)]
    rcases hs.apart j i z o t hz ho hdst ht with hji | ⟨hlt, hb⟩ | ⟨hlt, hb⟩
    · rw [hji] at none; exact none hi hi'
    · obtain ⟨d1, d2⟩ := h1 j hlt hb
      by_cases hsz : t < a0.tmps.size
      · rw [hx.put j z t hz d1 hdst hsz, hy.put j z t hz d2 hdst hsz]
      · rw [Array.getElem?_eq_none (by rw [hx.size]; exact Nat.le_of_not_lt hsz), Array.getElem?_eq_none (by rw [hy.size]; exact Nat.le_of_not_lt hsz)]
    · obtain ⟨d1, d2⟩ := h2 j hlt hb
      exact none d1 d2
  · have hn : ∀ (j : Nat) (z : Oper), ops[j]? = some z → z.dst ≠ some t := fun j z hz hd => hw ⟨j, z, hz, hd⟩
    rw [hx.same t fun j z hz _ => hn j z hz, hy.same t fun j z hz _ => hn j z hz]

theorem mem_tmpsOf {t : Tmp} : ∀ {l : List Operand}, Operand.tmp t ∈ l → t ∈ tmpsOf l
  | [], h => by cases h
  | u :: r, h => by
    rcases List.mem_cons.1 h with rfl | h
    · simp [tmpsOf]
    · have := mem_tmpsOf h
      cases u
      case tmp => exact List.mem_cons_of_mem _ this
      all_goals exact this

theorem opVal_congr {i : Nat} {o : Oper} (h : ∀ t ∈ readsOf ops o, x.tmps[t]? = y.tmps[t]?) : opVal P call ops base i o x = opVal P call ops base i o y := by
  have hev : ∀ u ∈ o.op.operands, x.eval u = y.eval u := fun u hu => by
    cases u with
    | tmp t =>
      have := h t (List.mem_append_left _ (mem_tmpsOf (by simpa using hu)))
      simp only [Act.eval, Array.getD_eq_getD_getElem?, this]
    | _ => rfl
  have hwt : Region.wanted o (yielded ops x.tmps) = Region.wanted o (yielded ops y.tmps) := by
    unfold Region.wanted
    cases hg : o.guard with
    | none => rfl
    | some gw =>
      obtain ⟨g, want⟩ := gw
      have : yielded ops x.tmps g = yielded ops y.tmps g := by
        unfold yielded
        cases ht : (ops[g]?).bind (·.dst) with
        | none => rfl
        | some t =>
          have := h t (List.mem_append_right _ (by simp [hg, ht]))
          simp only [Option.bind_some, this]
      simp only [this]
  unfold opVal
  rw [hwt, aop_congr o hev]

theorem opVal_read {i : Nat} {o : Oper} (h : isEff P ops o x = false) : Keeps (opVal P call ops base i o x) := by
  unfold isEff at h
  unfold opVal
  cases hw : Region.wanted o (yielded ops x.tmps) with
  | true =>
    rw [hw] at h
    rw [cond_true]
    exact aop_read o (by simpa using h)
  | false => rw [cond_false]; exact Keeps.pure _

variable {a : Act} {σ : AS} {ds : Nat → DS}

theorem Walk.tmps (hs : Static ops b) (W : Walk P call ops base b a σ ds val) : ∀ k ≤ ops.size, TmpsAt ops val a (· < k) (ds k).act
  | 0, _ => by rw [W.zero]; exact TmpsAt.nothing fun i => Nat.not_lt_zero i
  | k + 1, hk => by
    have ho : ops[k]? = some ops[k] := Array.getElem?_eq_getElem (by omega)
    have h := (Walk.tmps hs W k (by omega)).add hs ho
    rw [← (W.step k _ ho).act] at h
    exact h.iff fun i => by omega

/-- What holds along an order that may be drawn. -/
structure Inv (P : Program) (ops : Array Oper) (b : Array Nat) (a : Act) (ds : Nat → DS) (val : Nat → Value) (listed : Array Bool) (x : Act) (s : AS) : Prop where
  size : listed.size = ops.size
  closed : ∀ i j, listed.getD i false = true → (b.getD i 0).testBit j = true → listed.getD j false = true
  tmps : TmpsAt ops val a (fun i => listed.getD i false = true) x
  st : ∃ p ≤ ops.size, s = (ds p).st ∧ ∀ e, E P ops ds e → (listed.getD e false = true ↔ e < p)

theorem getD_set {listed : Array Bool} {i j : Nat} (hi : i < listed.size) : (listed.setIfInBounds i true).getD j false = true ↔ listed.getD j false = true ∨ j = i := by
  simp only [Array.getD_eq_getD_getElem?, Array.getElem?_setIfInBounds]
  by_cases hij : i = j
  · subst hij; simp [hi]
  · rw [if_neg hij]
    constructor
    · exact .inl
    · rintro (h | h)
      · exact h
      · exact absurd h.symm hij

theorem Inv.step (hs : Static ops b) (W : Walk P call ops base b a σ ds val) {listed : Array Bool} {s : AS} (h : Inv P ops b a ds val listed x s) {i : Nat} (hr : i ∈ Region.ready .any ops listed) :
    ∃ o x' s', ops[i]? = some o ∧ stepOp P call ops base i o x s = some (x', s') ∧ Inv P ops b a ds val (listed.setIfInBounds i true) x' s' ∧ listed[i]? = some false := by
  obtain ⟨hun, o, ho, hall⟩ := mem_ready.1 hr
  have hn : i < ops.size := (Array.getElem?_eq_some_iff.1 ho).1
  have hnl : i < listed.size := by rw [h.size]; exact hn
  have hli : listed[i]? = some false := by
    rw [Array.getD_eq_getD_getElem?, Array.getElem?_eq_getElem hnl] at hun
    rw [Array.getElem?_eq_getElem hnl]
    simpa using hun
  have hi : ¬ listed.getD i false = true := by rw [Array.getD_eq_getD_getElem?, hli]; simp
  have hb : ∀ j, (b.getD i 0).testBit j = true → listed.getD j false = true := fun j hj => by
    obtain ⟨e, he, hbd, hje⟩ := (hs.bits i o ho j).1 hj
    have hl := hall e he hbd
    rcases hje with rfl | hje
    · exact hl
    · exact h.closed _ _ hl hje
  have hup : ∀ j, (b.getD j 0).testBit i = true → ¬ listed.getD j false = true := fun j hj hl => hi (h.closed j i hl hj)
  have heq : opVal P call ops base i o x = opVal P call ops base i o (ds i).act := opVal_congr fun t ht =>
    same_tmp hs h.tmps (Walk.tmps hs W i (by omega)) ho ht hi (Nat.lt_irrefl i) (fun j hlt hj => ⟨hb j hj, hlt⟩) (fun j hlt hj => ⟨hup j hj, by omega⟩)
  obtain ⟨p, hp, rfl, hpe⟩ := h.st
  have key : ∀ s', opVal P call ops base i o x (ds p).st = some (val i, s') → stepOp P call ops base i o x (ds p).st = some (x.put o.dst (val i), s') := fun s' hq => by
    unfold opVal at hq
    unfold stepOp
    cases hw : Region.wanted o (yielded ops x.tmps) with
    | true => rw [hw, cond_true] at hq; rw [cond_true]; simp only [M.bind, hq, M.pure]
    | false =>
      rw [hw, cond_false] at hq
      obtain ⟨e1, e2⟩ := M.pure_some hq
      rw [cond_false, e2, e1]
      rfl
  have htm : TmpsAt ops val a (fun j => (listed.setIfInBounds i true).getD j false = true) (x.put o.dst (val i)) := (h.tmps.add hs ho).iff fun j => (getD_set hnl).symm
  have hcl : ∀ j k, (listed.setIfInBounds i true).getD j false = true → (b.getD j 0).testBit k = true → (listed.setIfInBounds i true).getD k false = true := fun j k hj hk => by
    rw [getD_set hnl] at hj ⊢
    rcases hj with hj | rfl
    · exact .inl (h.closed j k hj hk)
    · exact .inl (hb k hk)
  have hsz : (listed.setIfInBounds i true).size = ops.size := by rw [Array.size_setIfInBounds, h.size]
  rcases (W.step i o ho).how with ⟨he, hv, _⟩ | ⟨he, _⟩
  · have hE : E P ops ds i := ⟨o, ho, he⟩
    have hcmp : ∀ e, E P ops ds e → e ≠ i → (e < p ↔ e < i) := fun e hEe hne => by
      constructor
      · intro hlt
        by_cases hei : e < i
        · exact hei
        · exact absurd ((hpe e hEe).2 hlt) (hup e (W.chain hE hEe (by omega)))
      · intro hlt; exact (hpe e hEe).1 (hb e (W.chain hEe hE hlt))
    have hpi : p ≤ i := by
      by_cases hlt : i < p
      · exact absurd ((hpe i hE).2 hlt) hi
      · omega
    have hst : (ds i).st = (ds p).st := W.still p i hpi (by omega) fun e h1 h2 hEe => by
      have := (hcmp e hEe (by omega)).2 h2
      omega
    refine ⟨o, _, (ds (i + 1)).st, ho, key _ (by rw [heq, ← hst]; exact hv), ⟨hsz, hcl, htm, i + 1, by omega, rfl, fun e hEe => ?_⟩, hli⟩
    rw [getD_set hnl]
    by_cases hei : e = i
    · subst hei; exact ⟨fun _ => by omega, fun _ => .inr rfl⟩
    · rw [hpe e hEe, hcmp e hEe hei]; omega
  · have hmem := W.readMem ho he ops.size hn (Nat.le_refl _)
    have hph := W.phases p ops.size hp (Nat.le_refl _) _ (W.phase p hp)
    have hok := W.reads _ hmem _ hph
    have hne : ∀ e, E P ops ds e → e ≠ i := fun e hEe hei => by
      obtain ⟨o', ho', he'⟩ := hEe
      subst hei
      rw [ho] at ho'; cases ho'
      rw [he] at he'; cases he'
    unfold readOk readSkip at hok
    simp only [Bool.or_eq_true] at hok
    have hv : opVal P call ops base i o x (ds p).st = some (val i, (ds p).st) := by
      rcases hok with ((hok | hok) | hok) | hok
      · exfalso
        have : b.getD i 0 &&& (ds ops.size).mask &&& (ds p).mask = b.getD i 0 &&& (ds ops.size).mask := Nat.eq_of_testBit_eq fun e => by
          simp only [Nat.testBit_and]
          cases h1 : (b.getD i 0).testBit e with
          | false => simp
          | true =>
            cases h2 : (ds ops.size).mask.testBit e with
            | false => simp
            | true =>
              have hEe := (W.mask _ (Nat.le_refl _) e).1 h2
              have hlt := (hpe e hEe.2).1 (hb e h1)
              rw [(W.mask p hp e).2 ⟨hlt, hEe.2⟩]
              rfl
        rw [this] at hok
        simp at hok
      · exfalso
        obtain ⟨e, hlt, hEe, hbe⟩ := W.ups p hp i hok
        exact hup e hbe ((hpe e hEe).2 hlt)
      · have hm : (ds p).mask = (ds ops.size).mask % 2 ^ i := Nat.eq_of_beq_eq_true hok
        have hcmp : ∀ e, E P ops ds e → (e < p ↔ e < i) := fun e hEe => by
          have h1 := W.mask p hp e
          rw [hm, Nat.testBit_mod_two_pow, Bool.and_eq_true, decide_eq_true_eq, W.mask _ (Nat.le_refl _) e] at h1
          have hen : e < ops.size := by
            obtain ⟨o', ho', _⟩ := hEe
            exact (Array.getElem?_eq_some_iff.1 ho').1
          constructor
          · intro hlt; exact (h1.2 ⟨hlt, hEe⟩).1
          · intro hlt; exact (h1.1 ⟨hlt, hen, hEe⟩).1
        have hst : (ds p).st = (ds i).st := by
          by_cases hpi : p ≤ i
          · exact (W.still p i hpi (by omega) fun e h1 h2 hEe => by
              have := (hcmp e hEe).2 h2
              omega).symm
          · exact W.still i p (by omega) hp fun e h1 h2 hEe => by
              have := (hcmp e hEe).1 h2
              omega
        rcases (W.step i o ho).how with ⟨he', _⟩ | ⟨_, ⟨s', hs'⟩, _⟩
        · rw [he] at he'; cases he'
        · rw [heq, hst, hs']
          have := opVal_read he _ _ _ hs'
          rw [this]
      · rw [heq]
        cases hq : opVal P call ops base i o (ds i).act (ds p).st with
        | none => rw [hq] at hok; cases hok
        | some r =>
          obtain ⟨v, s'⟩ := r
          rw [hq] at hok
          have := opVal_read he _ _ _ hq
          rw [this, veq_eq _ _ hok]
    refine ⟨o, _, (ds p).st, ho, key _ hv, ⟨hsz, hcl, htm, p, hp, rfl, fun e hEe => ?_⟩, hli⟩
    rw [getD_set hnl]
    have := hne e hEe
    rw [← hpe e hEe]
    exact ⟨fun hq => hq.resolve_right this, .inl⟩

/-- A row of operations, in a given order. -/
def runList (P : Program) (call : Tgt → Array Value → M Value) (ops : Array Oper) (base : Nat) : List Nat → Act → M Act
  | [], a => M.pure a
  | i :: r, a => match ops[i]? with
    | some o => M.bind (stepOp P call ops base i o a) (runList P call ops base r)
    | none => M.fail

theorem ready_nil (hs : Static ops b) {listed : Array Bool} (hsz : listed.size = ops.size) (h : Region.ready .any ops listed = []) : ∀ i, i < ops.size → listed.getD i false = true := fun i => by
  induction i using Nat.strongRecOn with
  | ind i ih =>
    intro hi
    cases hl : listed.getD i false with
    | true => rfl
    | false =>
      exfalso
      have ho : ops[i]? = some ops[i] := Array.getElem?_eq_getElem hi
      have hm : i ∈ Region.ready .any ops listed := mem_ready.2 ⟨by
        rw [Array.getD_eq_getD_getElem?, Array.getElem?_eq_getElem (by omega)] at hl ⊢
        simpa using hl, _, ho, fun e he hb => by
        have := hs.low i _ ho e he hb
        exact ih _ this (by omega)⟩
      rw [h] at hm
      cases hm

theorem Inv.done (hs : Static ops b) (W : Walk P call ops base b a σ ds val) {listed : Array Bool} {s : AS} (h : Inv P ops b a ds val listed x s) (hall : ∀ i, i < ops.size → listed.getD i false = true) :
    x = (ds ops.size).act ∧ s = (ds ops.size).st := by
  have hw := Walk.tmps hs W ops.size (Nat.le_refl _)
  constructor
  · have htm : x.tmps = (ds ops.size).act.tmps := by
      refine Array.ext_getElem? fun t => ?_
      by_cases hwr : ∃ (j : Nat) (z : Oper), ops[j]? = some z ∧ z.dst = some t
      · obtain ⟨j, z, hz, hd⟩ := hwr
        have hj : j < ops.size := (Array.getElem?_eq_some_iff.1 hz).1
        by_cases hsz : t < a.tmps.size
        · rw [h.tmps.put j z t hz (hall j hj) hd hsz, hw.put j z t hz hj hd hsz]
        · rw [Array.getElem?_eq_none (by rw [h.tmps.size]; omega), Array.getElem?_eq_none (by rw [hw.size]; omega)]
      · have hn : ∀ (j : Nat) (z : Oper), ops[j]? = some z → z.dst ≠ some t := fun j z hz hd => hwr ⟨j, z, hz, hd⟩
        rw [h.tmps.same t fun j z hz _ => hn j z hz, hw.same t fun j z hz _ => hn j z hz]
    have hdf : x.defers = (ds ops.size).act.defers := by rw [h.tmps.defers, hw.defers]
    cases x
    cases hq : (ds ops.size).act
    rw [hq] at htm hdf
    simp only at htm hdf
    rw [htm, hdf]
  · obtain ⟨p, hp, rfl, hpe⟩ := h.st
    refine (W.still p ops.size hp (Nat.le_refl _) fun e h1 h2 hE => ?_).symm
    have := (hpe e hE).1 (hall e h2)
    omega

theorem go_ok (hs : Static ops b) (W : Walk P call ops base b a σ ds val) : ∀ (fuel t : Nat) (listed : Array Bool) (x : Act) (s : AS), Inv P ops b a ds val listed x s → listed.toList.countP (!·) ≤ fuel →
    runList P call ops base (Region.linearise.go .any ops fuel t listed []) x s = some ((ds ops.size).act, (ds ops.size).st)
  | 0, t, listed, x, s, h, hc => by
    have hall : ∀ i, i < ops.size → listed.getD i false = true := fun i hi => by
      have h0 := List.countP_eq_zero.1 (Nat.le_zero.1 hc)
      have hil : i < listed.size := by rw [h.size]; exact hi
      have := h0 listed[i] (by simp)
      rw [Array.getD_eq_getD_getElem?, Array.getElem?_eq_getElem hil]
      simpa using this
    obtain ⟨rfl, rfl⟩ := h.done hs W hall
    rfl
  | fuel + 1, t, listed, x, s, h, hc => by
    simp only [Region.linearise.go]
    change runList P call ops base (match (Region.ready .any ops listed)[t % (Region.ready .any ops listed).length]? with
      | some i => Region.linearise.go .any ops fuel (t / (Region.ready .any ops listed).length) (listed.setIfInBounds i true) [i]
      | none => [].reverse) x s = _
    cases hi : (Region.ready .any ops listed)[t % (Region.ready .any ops listed).length]? with
    | none =>
      have hnil : Region.ready .any ops listed = [] := by
        cases hr : Region.ready .any ops listed with
        | nil => rfl
        | cons u us =>
          rw [hr] at hi
          have hlt : t % (u :: us).length < (u :: us).length := Nat.mod_lt _ (by simp)
          simp at hi
          simp at hlt
          omega
      obtain ⟨rfl, rfl⟩ := h.done hs W (ready_nil hs h.size hnil)
      rfl
    | some i =>
      simp only []
      rw [linearise_go_acc, List.reverse_singleton, List.singleton_append]
      obtain ⟨o, x', s', ho, hst, hinv, hli⟩ := h.step hs W (List.mem_of_getElem? hi)
      simp only [runList, ho, M.bind, hst]
      refine go_ok hs W fuel _ _ x' s' hinv ?_
      have hil : i < listed.toList.length := by
        have := (Array.getElem?_eq_some_iff.1 hli).1
        simpa using this
      have hget : listed.toList[i] = false := by
        have := (Array.getElem?_eq_some_iff.1 hli).2
        simpa using this
      rw [Array.toList_setIfInBounds, List.countP_set hil, hget]
      simp only [Bool.not_false, if_true, Bool.not_true, Bool.false_eq_true, if_false]
      omega

end

theorem order_free {P : Program} {call : Tgt → Array Value → M Value} {ops : Array Oper} {base : Nat} {a a' : Act} {σ σ' : AS} (h : runDraw P call ops base a σ = some (a', σ')) (t : Nat) :
    runList P call ops base (Region.schedule (P.follows .mixedOrders) ops t) a σ = some (a', σ') := by
  obtain ⟨hs, hf, ds, val, W, rfl, rfl⟩ := walk_of h
  rw [hf]
  simp only [Region.schedule, Bool.true_or, if_true, Region.linearise]
  have hno : ∀ i, ¬ (Array.replicate ops.size false).getD i false = true := fun i hi => by
    rw [Array.getD_eq_getD_getElem?, Array.getElem?_replicate] at hi
    by_cases hlt : i < ops.size
    · rw [if_pos hlt] at hi; cases hi
    · rw [if_neg hlt] at hi; cases hi
  refine go_ok hs W ops.size t _ a σ ⟨by simp, fun i j hi => ?_, TmpsAt.nothing fun i hi => ?_, 0, Nat.zero_le _, by rw [W.zero], fun e _ => ?_⟩ ?_
  · exact (hno i hi).elim
  · exact hno i hi
  · constructor
    · intro hi; exact (hno _ hi).elim
    · intro hi; omega
  · exact Nat.le_trans List.countP_le_length (by simp)

/-- A row of operations, in a given order, as steps. -/
theorem list_steps {P : Program} {call : Tgt → Array Value → M Value} (hcall : CallOk P call) {ops : Array Oper} {base : Nat} {B : Nat} {w0 : World} : ∀ (l : List Nat) (a a' : Act) (σ σ' : AS), runList P call ops base l a σ = some (a', σ') →
    ∀ (μ : Mu) (w : World), Rel B w0 μ σ w → VinAct σ.dom a → ∀ (b : Frame) (k : List Item) (cs : List Frame),
    ∃ μ' w', Steps P (lone (b.atR (concAct μ a) (.inRegion ops l :: k)) cs w) (lone (b.atR (concAct μ' a') k) cs w') ∧ Adv B w0 σ μ σ' μ' w' ∧ VinAct σ'.dom a'
  | [], a, a', σ, σ', h, μ, w, hr, ha, b, k, cs => by
    obtain ⟨rfl, rfl⟩ := M.pure_some h
    exact ⟨μ, w, .one stepR_region_end, Adv.refl hr, ha⟩
  | i :: l, a, a', σ, σ', h, μ, w, hr, ha, b, k, cs => by
    simp only [runList] at h
    cases ho : ops[i]? with
    | none => rw [ho] at h; exact (M.fail_some h).elim
    | some o =>
      rw [ho] at h
      obtain ⟨a₁, σ₁, h1, h2⟩ := M.bind_some h
      obtain ⟨μ₁, w₁, s1, adv1, ha1⟩ := op_steps hcall h1 ho hr ha b k cs l
      obtain ⟨μ₂, w₂, s2, adv2, ha2⟩ := list_steps hcall l a₁ a' σ₁ σ' h2 μ₁ w₁ adv1.rel ha1 b k cs
      exact ⟨μ₂, w₂, s1.trans s2, adv1.trans adv2, ha2⟩

theorem Rel.draw {B : Nat} {w0 w : World} {μ : Mu} {σ : AS} (h : Rel B w0 μ σ w) : Rel B w0 μ σ { w with drawn := w.drawn + 1 } :=
  ⟨fun i o hi => (h.fits i o hi).of_block rfl, h.vin, h.apart, h.own, h.size, h.next, ⟨h.below.os, h.below.tape, h.below.output, h.below.size, h.below.block⟩, h.base⟩

/-- Drawn regions, done. -/
theorem draw_ok {P : Program} {call : Tgt → Array Value → M Value} (hcall : CallOk P call) : DrawOk P call := by
  intro ops base a σ a' σ' h _ B w0 μ w hr ha b k cs id
  have hr' : Rel B w0 μ σ { w with drawn := w.drawn + 1 } := hr.draw
  obtain ⟨μ', w', hst, adv, hv⟩ := list_steps hcall _ a a' σ σ' (order_free h (w.tape w.drawn (.order b.fn id))) μ _ hr' ha b k cs
  exact ⟨μ', w', .head stepR_region_draw hst, adv, hv⟩

/-- Every call. -/
theorem call_ok {P : Program} (n : Nat) : CallOk P (acall P n) := acall_ok (fun _ h => draw_ok h) n

end Go.Abs
