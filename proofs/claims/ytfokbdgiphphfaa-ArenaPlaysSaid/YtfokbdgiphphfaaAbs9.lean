/- The abstract evaluator: each operation on memory does in the model what it does on the abstract state (sixth part: maps, bytes, comparisons with nil). No condition. -/
import Derived.Test.YtfokbdgiphphfaaAbs8
namespace Go.Abs
open Go.RowKit

/-! ### Maps -/

theorem all_ints {j : IntKind} {l : List Value} (h : l.all (fun | .int j' _ => decide (j = j') | _ => false) = true) : ∀ v ∈ l, ∃ n, v = .int j n := by
  intro v hv
  have := List.all_eq_true.1 h v hv
  cases v <;> simp at this
  subst this
  exact ⟨_, rfl⟩

/-- What a key may be. -/
inductive IsKey (P : Program) (t : TypeId) : Value → Prop
  | int (j : IntKind) (n : Int) : P.underlying t = some (.int j) → IsKey P t (.int j n)
  | string (s : ByteArray) : P.underlying t = some .string → IsKey P t (.string s)
  | bool (b : Bool) : P.underlying t = some .bool → IsKey P t (.bool b)
  | pair (e : TypeId) (j : IntKind) (a b : Int) : P.underlying t = some (.array 2 e) → P.underlying e = some (.int j) → sizeOf' P e = some 1 → IsKey P t (.agg #[.int j a, .int j b])

theorem keyKind_is {P : Program} {t : TypeId} {k : Value} (h : keyKind P t k = true) : IsKey P t k := by
  unfold keyKind at h
  split at h
  · rename_i j j' n hu
    have := of_decide_eq_true h
    subst this
    exact .int _ _ hu
  · rename_i s hu; exact .string _ hu
  · rename_i b hu; exact .bool _ hu
  · rename_i len e cs hu
    simp only [Bool.and_eq_true] at h
    obtain ⟨⟨h1, h2⟩, h3⟩ := h
    have h3 := Nat.eq_of_beq_eq_true h3
    have h2 := Nat.eq_of_beq_eq_true h2
    subst h3
    split at h1
    · rename_i j i he hi
      simp only [Bool.and_eq_true] at h1
      have hs := Nat.eq_of_beq_eq_true h1.1
      have hall := all_ints h1.2
      obtain ⟨l⟩ := cs
      match l, h2, hall with
      | [a, b], _, hall =>
        obtain ⟨x, rfl⟩ := hall a (by simp)
        obtain ⟨y, rfl⟩ := hall b (by simp)
        exact .pair e j x y hu he (by unfold sizeOf'; rw [hi]; simp [hs])
    · cases h1
  · cases h

theorem beq_bytes (s s' : ByteArray) : (s == s') = decide (s = s') := by
  obtain ⟨a⟩ := s
  obtain ⟨b⟩ := s'
  have h : ((⟨a⟩ : ByteArray) == ⟨b⟩) = (a == b) := rfl
  rw [h]
  by_cases e : a = b
  · subst e; simp
  · simp [e]

theorem IsKey.noids {P : Program} {t : TypeId} {k : Value} (h : IsKey P t k) : noids k = true := by
  cases h <;> simp [Abs.noids, noidsA, noidsL]

theorem run_checkKey {P : Program} {w : World} {t : TypeId} {k : Value} (h : IsKey P t k) (b : Bool) (n : Nat) : (Instr.checkKey b (n + 2) t k).run P w = .ok () w := by
  cases h with
  | int j m hu => simp [Instr.checkKey, run_und hu]
  | string s hu => simp [Instr.checkKey, run_und hu]
  | bool c hu => simp [Instr.checkKey, run_und hu]
  | pair e j x y hu he hs =>
    have hagg : isAgg' P e = some false := by unfold isAgg'; rw [he]
    have hp : ∀ i, i < 2 → (part e #[.int j x, .int j y] i).run P w = .ok (#[Value.int j x, .int j y].getD i undef) w := fun i hi => by
      unfold part
      rw [Sem.run_bind, run_isAgg hagg]
      match i, hi with
      | 0, _ => rfl
      | 1, _ => rfl
    have h0 := hp 0 (by omega)
    have h1 := hp 1 (by omega)
    have hk : ∀ u, (Instr.checkKey b (n + 1) e (.int j u)).run P w = .ok () w := fun u => by simp [Instr.checkKey, run_und he]
    rw [Instr.checkKey]
    simp [run_und hu, run_size hs, h0, h1, hk, Std.Legacy.Range.forIn_eq_forIn_range', List.range', Std.Legacy.Range.size]

theorem veq_refl_key {P : Program} {t : TypeId} {k : Value} (h : IsKey P t k) : veq k k = true := by
  cases h <;> simp [veq, veqA, veqL]

theorem sameBits_key {P : Program} {t : TypeId} {k : Value} (h : IsKey P t k) (n : Nat) : Instr.sameBits (n + 2) k k = true := by
  cases h <;> simp [Instr.sameBits, beq_bytes]

/-- How two keys compare. -/
theorem key_now {P : Program} {t : TypeId} {k k' : Value} (h : IsKey P t k) (h' : IsKey P t k') :
    (∃ d, P.underlying t = some d ∧ Instr.sameNow d k k' = some (veq k k')) ∨ (∀ d, P.underlying t = some d → ∀ k'', Instr.sameNow d k k'' = none) := by
  cases h with
  | int j n hu =>
    cases h' with
    | int j' n' hu' =>
      rw [hu] at hu'; cases hu'
      refine .inl ⟨_, hu, ?_⟩
      by_cases e : n = n' <;> simp [Instr.sameNow, veq, e]
    | string s hu' => rw [hu] at hu'; cases hu'
    | bool s hu' => rw [hu] at hu'; cases hu'
    | pair e j a b hu' => rw [hu] at hu'; cases hu'
  | string s hu =>
    cases h' with
    | string s' hu' => exact .inl ⟨_, hu, by simp [Instr.sameNow, veq, beq_bytes]⟩
    | int j n hu' => rw [hu] at hu'; cases hu'
    | bool s hu' => rw [hu] at hu'; cases hu'
    | pair e j a b hu' => rw [hu] at hu'; cases hu'
  | bool s hu =>
    cases h' with
    | bool s' hu' => exact .inl ⟨_, hu, by simp [Instr.sameNow, veq]⟩
    | int j n hu' => rw [hu] at hu'; cases hu'
    | string s hu' => rw [hu] at hu'; cases hu'
    | pair e j a b hu' => rw [hu] at hu'; cases hu'
  | pair e j a b hu he hs => exact .inr fun d hd k'' => by rw [hu] at hd; cases hd; rfl

set_option maxHeartbeats 2000000 in
theorem pair_equal {P : Program} {w : World} {t e : TypeId} {j : IntKind} (hu : P.underlying t = some (.array 2 e)) (he : P.underlying e = some (.int j)) (hs : sizeOf' P e = some 1) (a b a' b' : Int) (m : Nat) :
    (Op.equalIn (m + 2) t (.agg #[.int j a, .int j b]) (.agg #[.int j a', .int j b'])).run P w = .ok (a == a' && b == b') w := by
  have hagg : isAgg' P e = some false := by unfold isAgg'; rw [he]
  have hp : ∀ (x y : Int) i, i < 2 → (part e #[.int j x, .int j y] i).run P w = .ok (#[Value.int j x, .int j y].getD i undef) w := fun x y i hi => by
    unfold part
    rw [Sem.run_bind, run_isAgg hagg]
    match i, hi with
    | 0, _ => rfl
    | 1, _ => rfl
  have h0 : ∀ x y, (part e #[.int j x, .int j y] (0 * 1)).run P w = .ok (.int j x) w := fun x y => hp x y 0 (by omega)
  have h1 : ∀ x y, (part e #[.int j x, .int j y] (1 * 1)).run P w = .ok (.int j y) w := fun x y => hp x y 1 (by omega)
  have hk : ∀ u u', (Op.equalIn (m + 1) e (.int j u) (.int j u')).run P w = .ok (u == u') w := fun u u' => by simp [Op.equalIn, run_und he]
  rw [Op.equalIn]
  simp only [Sem.run_bind, run_und hu, Result.andThen_ok, run_size hs, Std.Legacy.Range.forIn_eq_forIn_range', Std.Legacy.Range.size]
  have hr : List.range' 0 ((2 - 0 + 1 - 1) / 1) 1 = [0, 1] := rfl
  simp only [hr, List.forIn_cons, List.forIn_nil, Sem.run_bind, h0, Result.andThen_ok, hk]
  cases ea : (a == a') <;> cases eb : (b == b') <;> simp [h1, hk, eb]

theorem key_equal {P : Program} {w : World} {t : TypeId} {k k' : Value} (h : IsKey P t k) (h' : IsKey P t k') (m : Nat) : (Op.equalIn (m + 2) t k k').run P w = .ok (veq k k') w := by
  cases h with
  | int j n hu =>
    cases h' with
    | int j' n' hu' =>
      rw [hu] at hu'; cases hu'
      by_cases e : n = n' <;> simp [Op.equalIn, run_und hu, veq, e]
    | string s hu' => rw [hu] at hu'; cases hu'
    | bool s hu' => rw [hu] at hu'; cases hu'
    | pair e j a b hu' => rw [hu] at hu'; cases hu'
  | string s hu =>
    cases h' with
    | string s' hu' => simp [Op.equalIn, run_und hu, veq, beq_bytes]
    | int j n hu' => rw [hu] at hu'; cases hu'
    | bool s hu' => rw [hu] at hu'; cases hu'
    | pair e j a b hu' => rw [hu] at hu'; cases hu'
  | bool s hu =>
    cases h' with
    | bool s' hu' => simp [Op.equalIn, run_und hu, veq]
    | int j n hu' => rw [hu] at hu'; cases hu'
    | string s hu' => rw [hu] at hu'; cases hu'
    | pair e j a b hu' => rw [hu] at hu'; cases hu'
  | pair e j a b hu he hs =>
    cases h' with
    | pair e' j' a' b' hu' he' hs' =>
      rw [hu] at hu'; cases hu'
      rw [he] at he'; cases he'
      rw [pair_equal hu he hs]
      by_cases ea : a = a' <;> by_cases eb : b = b' <;> simp [veq, veqA, veqL, ea, eb]
    | int j n hu' => rw [hu] at hu'; cases hu'
    | string s hu' => rw [hu] at hu'; cases hu'
    | bool s hu' => rw [hu] at hu'; cases hu'

theorem run_findAsking {P : Program} {w : World} {t : TypeId} {k : Value} (h : IsKey P t k) (μ : Mu) : ∀ (es : List MapEntry) (i : Nat), (∀ e ∈ es, IsKey P t e.key) →
    (Instr.findAsking t k (es.map (concEntry μ)) i).run P w = .ok ((findEntry k es i).map fun p => (p.1, conc μ p.2)) w
  | [], i, _ => by simp [Instr.findAsking, findEntry]
  | e :: es, i, he => by
    have hk := he e (by simp)
    have hc : conc μ e.key = e.key := conc_noids μ _ hk.noids
    have heq : (Op.equal t k (concEntry μ e).key).run P w = .ok (veq k e.key) w := by
      show (Op.equalIn (9998 + 2) t k (conc μ e.key)).run P w = _
      rw [hc]
      exact key_equal h hk 9998
    have ih := run_findAsking (w := w) h μ es (i + 1) (fun e' he' => he e' (by simp [he']))
    simp only [List.map_cons, Instr.findAsking, Sem.run_bind, heq, Result.andThen_ok, findEntry]
    cases veq k e.key with
    | true => simp [concEntry]
    | false => simpa using ih

theorem findNow_some {P : Program} {t : TypeId} {k : Value} {d : TypeDesc} (hd : P.underlying t = some d) (h : IsKey P t k) (μ : Mu) : ∀ (es : List MapEntry) (i : Nat), (∀ e ∈ es, IsKey P t e.key) →
    Instr.findNow d k (es.map (concEntry μ)) i = some ((findEntry k es i).map fun p => (p.1, conc μ p.2)) ∨ Instr.findNow d k (es.map (concEntry μ)) i = none
  | [], i, _ => .inl (by simp [Instr.findNow, findEntry])
  | e :: es, i, he => by
    have hk := he e (by simp)
    have hc : (concEntry μ e).key = e.key := conc_noids μ _ hk.noids
    rcases key_now h hk with ⟨d', hd', hn⟩ | hn
    · rw [hd] at hd'; cases hd'
      have ih := findNow_some hd h μ es (i + 1) (fun e' he' => he e' (by simp [he']))
      simp only [List.map_cons, Instr.findNow, hc, hn, findEntry]
      cases veq k e.key with
      | true => left; simp [concEntry]
      | false => simpa using ih
    · right
      simp only [List.map_cons, Instr.findNow, hn d hd]

theorem run_findKey {P : Program} {w : World} {t : TypeId} {k : Value} {d : TypeDesc} (hd : P.underlying t = some d) (h : IsKey P t k) (μ : Mu) (es : List MapEntry) (he : ∀ e ∈ es, IsKey P t e.key) :
    (Instr.findKey t k (es.map (concEntry μ))).run P w = .ok ((findEntry k es 0).map fun p => (p.1, conc μ p.2)) w := by
  simp only [Instr.findKey, Sem.run_bind, run_und hd, Result.andThen_ok]
  rcases findNow_some hd h μ es 0 he with h1 | h1
  · rw [h1]; rfl
  · rw [h1]; exact run_findAsking h μ es 0 he

theorem IsKey.desc {P : Program} {t : TypeId} {k : Value} (h : IsKey P t k) : ∃ d, P.underlying t = some d := by
  cases h <;> exact ⟨_, ‹_›⟩

theorem findEntry_some {k : Value} : ∀ {es : List MapEntry} {i j : Nat} {v : Value}, findEntry k es i = some (j, v) → ∃ m e, j = i + m ∧ es[m]? = some e ∧ e.val = v ∧ veq k e.key = true
  | [], i, j, v, h => by cases h
  | e :: es, i, j, v, h => by
    simp only [findEntry] at h
    cases hv : veq k e.key with
    | true =>
      rw [hv] at h
      simp only [cond_true, Option.some.injEq, Prod.mk.injEq] at h
      exact ⟨0, e, by omega, rfl, h.2, hv⟩
    | false =>
      rw [hv] at h
      obtain ⟨m, e', h1, h2, h3, h4⟩ := findEntry_some h
      exact ⟨m + 1, e', by omega, by simpa using h2, h3, h4⟩

theorem run_getMap {P : Program} {w : World} {r : Nat} {es : Array MapEntry} {clock : Nat} (h : w.heap[r]? = some (.map es clock)) : (getObj r).run P w = .ok (.map es clock) w := by
  simp only [getObj, Sem.run, h]

/-- A look-up, once the entries are known. -/
theorem run_lookup {P : Program} {w : World} {μ : Mu} {t kt et : TypeId} {m k z : Value} {ok : Bool} {es : List MapEntry} {d : TypeDesc} (hu : P.underlying t = some (.map kt et)) (hd : P.underlying kt = some d) (hk : IsKey P kt k)
    (hkeys : ∀ e ∈ es, IsKey P kt e.key) (hz : (zeroValue et).run P w = .ok z w)
    (hm : (m = .map none ∧ es = []) ∨ ∃ r clock, m = .map (some r) ∧ w.heap[r]? = some (.map (es.map (concEntry μ)).toArray clock)) :
    (Instr.lookup t m k ok).run P w = .ok (match findEntry k es 0 with
      | some (_, v) => if ok then .tuple #[conc μ v, .bool true] else conc μ v
      | none => if ok then .tuple #[z, .bool false] else z) w := by
  have hck : ∀ b, (Instr.checkKey b 10000 kt k).run P w = .ok () w := fun b => run_checkKey hk b 9998
  have hfk := run_findKey (w := w) hd hk μ es hkeys
  rcases hm with ⟨rfl, rfl⟩ | ⟨r, clock, rfl, hr⟩
  · simp only [List.map_nil] at hfk
    simp only [Instr.lookup, Sem.run_bind, run_und hu, Result.andThen_ok, Sem.run_pure, hck, hfk, findEntry, Option.map_none, hz]
  · have hg := run_getMap (P := P) hr
    simp only [Instr.lookup, Sem.run_bind, run_und hu, Result.andThen_ok, Sem.run_pure, hg, hck, hfk]
    cases findEntry k es 0 with
    | none => simp only [Option.map_none, Sem.run_bind, hz, Result.andThen_ok, Sem.run_pure]
    | some p => simp only [Option.map_some]; cases ok <;> rfl

theorem aLookup_sim {P : Program} {B : Nat} {w0 w : World} {μ : Mu} {σ σ' : AS} (hr : Rel B w0 μ σ w) {t : TypeId} {m k : Value} {ok : Bool} {v : Value}
    (h : aLookup P t m k ok σ = some (v, σ')) : Sim P B w0 μ σ w (Instr.lookup t (conc μ m) (conc μ k) ok) v σ' := by
  unfold aLookup at h
  generalize hu : P.underlying t = d? at h
  cases d? with
  | none => exact (M.fail_some h).elim
  | some d0 =>
  cases d0 with
  | map kt et =>
    have hb0 := bif_some h
    clear h
    obtain ⟨hk0, h⟩ := hb0
    have hk := keyKind_is hk0
    obtain ⟨d, hd⟩ := hk.desc
    generalize hz : zero' P et = z? at h
    cases z? with
    | none => exact (M.fail_some h).elim
    | some z =>
      obtain ⟨z1, z2⟩ := run_zero (w := w) hz
      obtain ⟨es, σ₁, h1, h2⟩ := M.bind_some h
      clear h
      have hes : σ = σ₁ ∧ (∀ e ∈ es, IsKey P kt e.key) ∧ (∀ e ∈ es, Vin σ.dom e.val) ∧
          ((conc μ m = .map none ∧ es = []) ∨ ∃ r clock, conc μ m = .map (some r) ∧ w.heap[r]? = some (.map (es.map (concEntry μ)).toArray clock)) := by
        cases m with
        | map r? =>
          cases r? with
          | none =>
            obtain ⟨rfl, rfl⟩ := M.pure_some h1
            exact ⟨rfl, by simp, by simp, .inl ⟨by simp [conc], rfl⟩⟩
          | some r =>
            obtain ⟨o, σ₂, h3, h4⟩ := M.bind_some h1
            obtain ⟨g3, rfl⟩ := M.get_some h3
            cases o with
            | map es' clock =>
              obtain ⟨hb, h5⟩ := bif_some h4
              obtain ⟨rfl, rfl⟩ := M.pure_some h5
              exact ⟨rfl, fun e he => keyKind_is (List.all_eq_true.1 hb e he), fun e he => (hr.vin _ _ g3 e he).2, .inr ⟨_, clock, by simp [conc], hr.fits _ _ g3⟩⟩
            | _ => exact (M.fail_some h4).elim
        | _ => exact (M.fail_some h1).elim
      obtain ⟨rfl, hkeys, hvals, hm⟩ := hes
      have hrun := run_lookup (ok := ok) hu hd hk hkeys z1 hm
      rw [conc_noids μ k hk.noids]
      cases hfe : findEntry k es 0 with
      | none =>
        rw [hfe] at h2 hrun
        obtain ⟨rfl, rfl⟩ := M.pure_some h2
        refine Sim.same hr ?_ (by cases ok <;> simp [Vin, VinA, VinL, Vin_noids _ _ z2])
        rw [hrun]
        cases ok <;> simp [conc, concA, concL, conc_noids μ z z2]
      | some p =>
        obtain ⟨j, u⟩ := p
        rw [hfe] at h2 hrun
        obtain ⟨rfl, rfl⟩ := M.pure_some h2
        obtain ⟨i, e, _, hie, rfl, _⟩ := findEntry_some hfe
        have hvu := hvals e (List.mem_of_getElem? hie)
        refine Sim.same hr ?_ (by cases ok <;> simp [Vin, VinA, VinL, hvu])
        rw [hrun]
        cases ok <;> simp [conc, concA, concL]
  | _ => exact (M.fail_some h).elim

theorem modify_conc (μ : Mu) (es : List MapEntry) (i : Nat) (k x : Value) (hk : conc μ k = k) :
    ((es.map (concEntry μ)).toArray.modify i fun e => { e with key := k, val := conc μ x }) = ((es.modify i fun e => { e with key := k, val := x }).map (concEntry μ)).toArray := by
  apply Array.ext'
  rw [Array.toList_modify]
  simp only
  apply List.ext_getElem?
  intro j
  simp only [List.getElem?_modify, List.getElem?_map]
  cases es[j]? with
  | none => rfl
  | some e => by_cases h : i = j <;> simp [h, concEntry, hk]

theorem aMapUpdate_sim {P : Program} {B : Nat} {w0 w : World} {μ : Mu} {σ σ' : AS} (hr : Rel B w0 μ σ w) {t : TypeId} {m k x : Value} {v : Value} (hx : Vin σ.dom x)
    (h : aMapUpdate P t m k x σ = some (v, σ')) : v = undef ∧ ∃ w', (Instr.mapUpdate t (conc μ m) (conc μ k) (conc μ x)).run P w = .ok () w' ∧ Rel B w0 μ σ' w' ∧ (∀ i, σ.dom i → σ'.dom i) := by
  unfold aMapUpdate at h
  generalize hu : P.underlying t = d? at h
  cases d? with
  | none => exact (M.fail_some h).elim
  | some d0 =>
  cases d0 with
  | map kt et =>
    cases m with
    | map r? =>
      cases r? with
      | none => exact (M.fail_some h).elim
      | some r =>
        have hb0 := bif_some h
        clear h
        obtain ⟨hk0, h⟩ := hb0
        have hk := keyKind_is hk0
        obtain ⟨d, hd⟩ := hk.desc
        obtain ⟨o, σ₁, h1, h2⟩ := M.bind_some h
        obtain ⟨g1, rfl⟩ := M.get_some h1
        clear h
        cases o with
        | map es clock =>
          obtain ⟨hb, h3⟩ := bif_some h2
          have hkeys : ∀ e ∈ es, IsKey P kt e.key := fun e he => keyKind_is (List.all_eq_true.1 hb e he)
          have hf : w.heap[μ.blk r]? = some (.map (es.map (concEntry μ)).toArray clock) := hr.fits _ _ g1
          have hg := run_getMap (P := P) hf
          have hck : ∀ b, (Instr.checkKey b 10000 kt k).run P w = .ok () w := fun b => run_checkKey hk b 9998
          have hfk := run_findKey (w := w) hd hk μ es hkeys
          have hkn := conc_noids μ k hk.noids
          have hvin : ∀ e ∈ es, Vin σ.dom e.key ∧ Vin σ.dom e.val := hr.vin _ _ g1
          have hset : ∀ o, (setObj (μ.blk r) o).run P w = .ok () { w with heap := w.heap.setIfInBounds (μ.blk r) o } := fun o => by
            simp only [setObj, Sem.run, hf]
          cases hfe : findEntry k es 0 with
          | none =>
            rw [hfe] at h3 hfk
            obtain ⟨_, σ₂, h4, h5⟩ := M.bind_some h3
            obtain ⟨_, rfl⟩ := M.set_some h4
            obtain ⟨rfl, rfl⟩ := M.pure_some h5
            refine ⟨rfl, _, ?_, hr.setObj g1 trivial (.map ((es.map (concEntry μ)).toArray.push { key := k, val := conc μ x, born := clock }) (clock + 1)) ?_ ?_, fun i hi => dom_set _ _ _ i hi⟩
            · rw [hkn]
              simp only [Instr.mapUpdate, Sem.run_bind, run_und hu, conc, Result.andThen_ok, hg, hck, hfk, Option.map_none, hset]
            · show _ = _
              rw [heap_setObj hr g1 trivial]
              simp [concEntry, hkn]
            · intro e he
              rcases List.mem_append.1 he with he | he
              · exact hvin e he
              · simp only [List.mem_singleton] at he
                subst he
                exact ⟨Vin_noids _ _ hk.noids, hx⟩
          | some p =>
            obtain ⟨i, u⟩ := p
            rw [hfe] at h3 hfk
            obtain ⟨_, σ₂, h4, h5⟩ := M.bind_some h3
            obtain ⟨_, rfl⟩ := M.set_some h4
            obtain ⟨rfl, rfl⟩ := M.pure_some h5
            obtain ⟨j, e, hij, hie, _, hve⟩ := findEntry_some hfe
            simp only [Nat.zero_add] at hij
            subst hij
            have hke : k = e.key := veq_eq _ _ hve
            have hstay : ((((es.map (concEntry μ)).toArray[i]?).map (·.key)).getD k) = k := by
              simp [hie, concEntry, ← hke, hkn]
            have hks : (Instr.keyThatStays k k).run P w = .ok k w := by
              unfold Instr.keyThatStays
              rw [if_pos (sameBits_key hk 9998)]
              rfl
            refine ⟨rfl, _, ?_, hr.setObj g1 trivial (.map ((es.map (concEntry μ)).toArray.modify i fun e => { e with key := k, val := conc μ x }) clock) ?_ ?_, fun i hi => dom_set _ _ _ i hi⟩
            · rw [hkn]
              simp only [Instr.mapUpdate, Sem.run_bind, run_und hu, conc, Result.andThen_ok, hg, hck, hfk, Option.map_some, hstay, hks, hset]
            · show _ = _
              rw [heap_setObj hr g1 trivial, modify_conc μ es i k x hkn]
            · intro e' he'
              rw [List.mem_iff_getElem?] at he'
              obtain ⟨q, hq⟩ := he'
              rw [List.getElem?_modify] at hq
              cases hqq : es[q]? with
              | none => rw [hqq] at hq; simp at hq
              | some e₀ =>
                rw [hqq] at hq
                have h0 := hvin e₀ (List.mem_of_getElem? hqq)
                by_cases hiq : i = q
                · simp only [hiq, if_true, Option.map_eq_map, Option.map_some, Option.some.injEq] at hq
                  subst hq
                  exact ⟨Vin_noids _ _ hk.noids, hx⟩
                · simp only [hiq, if_false, Option.map_eq_map, Option.map_some, Option.some.injEq] at hq
                  subst hq
                  exact h0
        | _ => exact (M.fail_some h2).elim
    | _ => exact (M.fail_some h).elim
  | _ => exact (M.fail_some h).elim

theorem aLen_sim {P : Program} {B : Nat} {w0 w : World} {μ : Mu} {σ σ' : AS} (hr : Rel B w0 μ σ w) {t ty : TypeId} {x : Value} {v : Value}
    (h : aLen P t x σ = some (v, σ')) : Sim P B w0 μ σ w (Builtin.len_ #[t] ty #[conc μ x]) v σ' := by
  unfold aLen at h
  generalize hu : P.underlying t = d? at h
  split at h
  · obtain ⟨rfl, rfl⟩ := M.pure_some h
    exact Sim.same hr (by simp [Builtin.len_, run_und hu, conc, goInt]) (by simp [Vin, goInt])
  · obtain ⟨rfl, rfl⟩ := M.pure_some h
    refine Sim.same hr ?_ (by simp [Vin, goInt])
    simp only [Builtin.len_]
    simp [run_und hu, conc, goInt]
  · rename_i a l c
    obtain ⟨rfl, rfl⟩ := M.pure_some h
    refine Sim.same hr ?_ (by simp [Vin, goInt])
    cases a <;> simp [Builtin.len_, run_und hu, conc, goInt]
  · obtain ⟨rfl, rfl⟩ := M.pure_some h
    exact Sim.same hr (by simp [Builtin.len_, run_und hu, conc, goInt]) (by simp [Vin, goInt])
  · obtain ⟨rfl, rfl⟩ := M.pure_some h
    exact Sim.same hr (by simp [Builtin.len_, run_und hu, conc, goInt]) (by simp [Vin, goInt])
  · rename_i r
    obtain ⟨o, σ₁, h1, h2⟩ := M.bind_some h
    obtain ⟨g1, rfl⟩ := M.get_some h1
    cases o with
    | map es clock =>
      obtain ⟨rfl, rfl⟩ := M.pure_some h2
      refine Sim.same hr ?_ (by simp [Vin, goInt])
      have hf : w.heap[μ.blk _]? = some (.map (es.map (concEntry μ)).toArray clock) := hr.fits _ _ g1
      have hg := run_getMap (P := P) hf
      simp [Builtin.len_, run_und hu, conc, goInt, hg]
    | _ => exact (M.fail_some h2).elim
  · exact (M.fail_some h).elim

theorem aCap_sim {P : Program} {B : Nat} {w0 w : World} {μ : Mu} {σ σ' : AS} (hr : Rel B w0 μ σ w) {t ty : TypeId} {x : Value} {v : Value}
    (h : aCap P t x σ = some (v, σ')) : Sim P B w0 μ σ w (Builtin.cap_ #[t] ty #[conc μ x]) v σ' := by
  unfold aCap at h
  generalize hu : P.underlying t = d? at h
  split at h
  · obtain ⟨rfl, rfl⟩ := M.pure_some h
    refine Sim.same hr ?_ (by simp [Vin, goInt])
    simp only [Builtin.cap_]
    simp [run_und hu, conc, goInt]
  · obtain ⟨rfl, rfl⟩ := M.pure_some h
    exact Sim.same hr (by simp [Builtin.cap_, run_und hu, conc, goInt]) (by simp [Vin, goInt])
  · rename_i a l n
    obtain ⟨o, σ₁, h1, h2⟩ := M.bind_some h
    obtain ⟨g1, rfl⟩ := M.get_some h1
    split at h2
    · obtain ⟨rfl, rfl⟩ := M.pure_some h2
      have hex : μ.extra _ = 0 := (hr.fits _ _ g1).2.2 rfl
      refine Sim.same hr ?_ (by simp [Vin, goInt])
      simp [Builtin.cap_, run_und hu, conc, goInt, hex]
    · exact (M.fail_some h2).elim
  · exact (M.fail_some h).elim

end Go.Abs
