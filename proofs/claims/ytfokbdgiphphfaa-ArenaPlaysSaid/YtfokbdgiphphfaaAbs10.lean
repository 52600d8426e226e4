/- The abstract evaluator: each operation does in the model what it does on the abstract state (all operations, calls left to what is known of the callee). No condition. -/
import Derived.Test.YtfokbdgiphphfaaAbs9
namespace Go.Abs
open Go.RowKit

theorem run_nilCmp {P : Program} {w : World} {μ : Mu} {t : TypeId} {x y : Value} {b : Bool} (h : nilCmp P t x y = some b) (n : Nat) : (Op.equalIn (n + 1) t (conc μ x) (conc μ y)).run P w = .ok b w := by
  unfold nilCmp at h
  generalize hu : P.underlying t = d? at h
  split at h
  · rename_i e a c
    cases a <;> cases c <;> simp at h <;> subst h <;> simp [Op.equalIn, run_und hu, conc]
  · rename_i e a l c b' l' c'
    cases a <;> cases b' <;> simp at h <;> subst h <;> simp [Op.equalIn, run_und hu, conc]
  · rename_i k e a c
    cases a <;> cases c <;> simp at h <;> subst h <;> simp [Op.equalIn, run_und hu, conc]
  · cases h; simp [Op.equalIn, run_und hu, conc]
  · cases h; simp [Op.equalIn, run_und hu, conc]
  · cases h; simp [Op.equalIn, run_und hu, conc]
  · cases h; simp [Op.equalIn, run_und hu, conc]
  · cases h

theorem nilCmp_shape {P : Program} {t : TypeId} {x y : Value} {b : Bool} (h : nilCmp P t x y = some b) :
    (∃ p q, x = .pointer p ∧ y = .pointer q) ∨ (∃ a l c a' l' c', x = .slice a l c ∧ y = .slice a' l' c') ∨ (∃ a c, x = .map a ∧ y = .map c) ∨
    (∃ f u v, x = .func f u v ∧ y = .nilFunc) ∨ (∃ f u v, y = .func f u v ∧ x = .nilFunc) ∨ (∃ u v, x = .iface u v ∧ y = .nilIface) ∨ (∃ u v, y = .iface u v ∧ x = .nilIface) := by
  unfold nilCmp at h
  split at h
  · exact .inl ⟨_, _, rfl, rfl⟩
  · exact .inr (.inl ⟨_, _, _, _, _, _, rfl, rfl⟩)
  · exact .inr (.inr (.inl ⟨_, _, rfl, rfl⟩))
  · exact .inr (.inr (.inr (.inl ⟨_, _, _, rfl, rfl⟩)))
  · exact .inr (.inr (.inr (.inr (.inl ⟨_, _, _, rfl, rfl⟩))))
  · exact .inr (.inr (.inr (.inr (.inr (.inl ⟨_, _, rfl, rfl⟩)))))
  · exact .inr (.inr (.inr (.inr (.inr (.inr ⟨_, _, rfl, rfl⟩)))))
  · cases h

theorem aBinOp_sim {P : Program} {B : Nat} {w0 w : World} {μ : Mu} {σ σ' : AS} (hr : Rel B w0 μ σ w) {op : BinOp} {t : TypeId} {x y : Operand} {a b : Value} {v : Value}
    (h : aBinOp P op t x y a b σ = some (v, σ')) : Sim P B w0 μ σ w (do eqGuard op t x y (conc μ a) (conc μ b); binOp op t (conc μ a) (conc μ b)) v σ' := by
  unfold aBinOp at h
  cases hn : noids a && noids b with
  | true =>
    rw [hn] at h
    simp only [Bool.and_eq_true] at hn
    rw [conc_noids μ a hn.1, conc_noids μ b hn.2]
    exact Sim.via hr h
  | false =>
    rw [hn, cond_false] at h
    have key : ∀ r, nilCmp P t a b = some r → (Op.equal t (conc μ a) (conc μ b)).run P w = .ok r w := fun r hr => run_nilCmp hr 9999
    split at h
    · obtain ⟨hc, rfl⟩ := M.ofOption_some h
      obtain ⟨r, hr', rfl⟩ := Option.map_eq_some_iff.1 hc
      refine Sim.same hr ?_ (by simp [Vin])
      have hk := key r hr'
      rcases nilCmp_shape hr' with ⟨p, q, rfl, rfl⟩ | ⟨p, l, c, p', l', c', rfl, rfl⟩ | ⟨p, c, rfl, rfl⟩ | ⟨f, u, z, rfl, rfl⟩ | ⟨f, u, z, rfl, rfl⟩ | ⟨u, z, rfl, rfl⟩ | ⟨u, z, rfl, rfl⟩
      · cases p <;> cases q <;> simp [eqGuard, binOp, conc] at hk ⊢ <;> rw [hk] <;> rfl
      · cases p <;> cases p' <;> simp [eqGuard, binOp, conc] at hk ⊢ <;> rw [hk] <;> rfl
      · cases p <;> cases c <;> simp [eqGuard, binOp, conc] at hk ⊢ <;> rw [hk] <;> rfl
      · simp [eqGuard, binOp, conc] at hk ⊢; rw [hk]; rfl
      · simp [eqGuard, binOp, conc] at hk ⊢; rw [hk]; rfl
      · simp [eqGuard, binOp, conc] at hk ⊢; rw [hk]; rfl
      · simp [eqGuard, binOp, conc] at hk ⊢; rw [hk]; rfl
    · obtain ⟨hc, rfl⟩ := M.ofOption_some h
      obtain ⟨r, hr', rfl⟩ := Option.map_eq_some_iff.1 hc
      refine Sim.same hr ?_ (by simp [Vin])
      have hk := key r hr'
      rcases nilCmp_shape hr' with ⟨p, q, rfl, rfl⟩ | ⟨p, l, c, p', l', c', rfl, rfl⟩ | ⟨p, c, rfl, rfl⟩ | ⟨f, u, z, rfl, rfl⟩ | ⟨f, u, z, rfl, rfl⟩ | ⟨u, z, rfl, rfl⟩ | ⟨u, z, rfl, rfl⟩
      · cases p <;> cases q <;> simp [eqGuard, binOp, conc] at hk ⊢ <;> rw [hk] <;> rfl
      · cases p <;> cases p' <;> simp [eqGuard, binOp, conc] at hk ⊢ <;> rw [hk] <;> rfl
      · cases p <;> cases c <;> simp [eqGuard, binOp, conc] at hk ⊢ <;> rw [hk] <;> rfl
      · simp [eqGuard, binOp, conc] at hk ⊢; rw [hk]; rfl
      · simp [eqGuard, binOp, conc] at hk ⊢; rw [hk]; rfl
      · simp [eqGuard, binOp, conc] at hk ⊢; rw [hk]; rfl
      · simp [eqGuard, binOp, conc] at hk ⊢; rw [hk]; rfl
    · exact (M.fail_some h).elim

/-! ### Bytes -/

theorem mapM_bytes : ∀ (l : List Value) (bs : List UInt8), l.mapM (fun v => match v with | .int .u8 n => some (UInt8.ofNat n.toNat) | _ => none) = some bs →
    ∃ ns : List Int, l = ns.map (Value.int .u8) ∧ bs = ns.map fun n => UInt8.ofNat n.toNat
  | [], bs, h => by simp at h; exact ⟨[], rfl, by simp [h]⟩
  | v :: l, bs, h => by
    simp only [List.mapM_cons] at h
    split at h
    · rename_i n
      cases hl : l.mapM (fun v => match v with | .int .u8 n => some (UInt8.ofNat n.toNat) | _ => none) with
      | none => rw [hl] at h; cases h
      | some bs' =>
        rw [hl] at h
        cases h
        obtain ⟨ns, rfl, rfl⟩ := mapM_bytes l bs' hl
        exact ⟨n :: ns, rfl, rfl⟩
    · cases h

theorem foldl_push (ns : List Int) : ∀ (acc : ByteArray), ns.foldl (fun r n => r.push (UInt8.ofNat n.toNat)) acc = ⟨(acc.data.toList ++ ns.map fun n => UInt8.ofNat n.toNat).toArray⟩ := by
  induction ns with
  | nil => intro acc; simp
  | cons n ns ih => intro acc; simp only [List.foldl_cons]; rw [ih]; simp [ByteArray.push]

theorem aBytes_sim {P : Program} {B : Nat} {w0 w : World} {μ : Mu} {σ σ' : AS} (hr : Rel B w0 μ σ w) {src dst : TypeId} {x : Value} {id : Nat} {v : Value}
    (h : aBytes P src dst x id σ = some (v, σ')) : Sim P B w0 μ σ w (convert src dst (conc μ x)) v σ' := by
  unfold aBytes at h
  generalize hs : P.underlying src = d1 at h
  generalize hd : P.underlying dst = d2 at h
  split at h
  · rename_i e s
    generalize he : P.underlying e = d3 at h
    split at h
    · obtain ⟨_, σ₁, h1, h2⟩ := M.bind_some h
      obtain ⟨a1, a2, rfl⟩ := M.alloc_some h1
      obtain ⟨rfl, rfl⟩ := M.pure_some h2
      have hrun := run_bytes_of_string w src dst e s hs hd he
      have hge := grownCap_ge w s.size 0 e
      have hd' := hr.drew
      have hsz : s.data.toList.length = s.size := by rw [Array.length_toList]; rfl
      refine ⟨_, _, ?_, hd'.push (id := id) (o := .cells (s.data.toList.map fun b => .int .u8 b.toNat) 1 false) (.cells (bytesRow s (grownCap w s.size 0 e)) e ((bytesRow s (grownCap w s.size 0 e)).size, (bytesRow s (grownCap w s.size 0 e)).size + 1)) (grownCap w s.size 0 e - s.size) a1 a2 ⟨fun i u hi => ?_, fun _ i hi => ?_, fun hz => by cases hz⟩ ?_, Mu.upd_agree a1, dom_set_same _ _ _, fun i hi => dom_set _ _ _ i hi⟩
      · simp only [conc]
        rw [hrun]
        simp only [Mu.at, Mu.upd, if_true, Nat.add_zero, World.size_drew]
        congr 2
        omega
      · have hb : (μ.upd id w.drew.heap.size 0 (grownCap w s.size 0 e - s.size)).blk id = w.drew.heap.size := by simp [Mu.upd]
        have hb' : (μ.upd id w.drew.heap.size 0 (grownCap w s.size 0 e - s.size)).base id = 0 := by simp [Mu.upd]
        rw [hb, hb', Nat.zero_add, cell?_alloc_self]
        have hlt : i < s.data.toList.length := by
          rcases Nat.lt_or_ge i (s.data.toList.map fun b => Value.int .u8 b.toNat).length with h | h
          · rw [List.length_map] at h; exact h
          · rw [List.getElem?_eq_none h] at hi; cases hi
        rw [bytesRow, Array.getElem?_append_left (by rw [Array.size_map, ← Array.length_toList]; exact hlt)]
        simp only [List.getElem?_map, Array.getElem?_map, Array.getElem?_toList] at hi ⊢
        rw [hi]
        cases hq : s.data[i]? with
        | none => rw [hq] at hi; cases hi
        | some q =>
          rw [hq] at hi
          simp only [Option.map_some, Option.some.injEq] at hi
          subst hi
          simp [conc]
      · have hb : (μ.upd id w.drew.heap.size 0 (grownCap w s.size 0 e - s.size)).blk id = w.drew.heap.size := by simp [Mu.upd]
        have hb' : (μ.upd id w.drew.heap.size 0 (grownCap w s.size 0 e - s.size)).base id = 0 := by simp [Mu.upd]
        have he' : (μ.upd id w.drew.heap.size 0 (grownCap w s.size 0 e - s.size)).extra id = grownCap w s.size 0 e - s.size := by simp [Mu.upd]
        rw [he'] at hi
        have hlt : i < (bytesRow s (grownCap w s.size 0 e)).size := by
          simp only [bytesRow, Array.size_append, Array.size_map, Array.size_replicate]
          simp only [List.length_map, hsz] at hi
          have : s.data.size = s.size := rfl
          omega
        rw [hb, hb', Nat.zero_add, cell?_alloc_self]
        refine ⟨by rw [Array.getElem?_eq_getElem hlt]; rfl, ?_⟩
        show (match (w.drew.heap.push _)[w.drew.heap.size]? with | some (.cells _ _ (lo, hi)) => decide (lo ≤ i) && decide (i < hi) | _ => false) = _
        rw [Array.getElem?_push_size]
        simp only [Bool.and_eq_false_iff, decide_eq_false_iff_not]
        left
        omega
      · exact VinL_iff.2 fun u hu => by
          obtain ⟨b, _, rfl⟩ := List.mem_map.1 hu
          simp [Vin]
    · exact (M.fail_some h).elim
  · rename_i e a len cap
    generalize he : P.underlying e = d3 at h
    split at h
    · obtain ⟨o, σ₁, h1, h2⟩ := M.bind_some h
      obtain ⟨g1, rfl⟩ := M.get_some h1
      cases o with
      | cells c room ro =>
        obtain ⟨hb, h3⟩ := bif_some h2
        have hle := Nat.le_of_ble_eq_true hb
        generalize hm : ((c.drop a.off).take len).mapM (fun v => match v with | .int .u8 n => some (UInt8.ofNat n.toNat) | _ => none) = bs? at h3
        cases bs? with
        | none => exact (M.fail_some h3).elim
        | some bs =>
          obtain ⟨rfl, rfl⟩ := M.pure_some h3
          obtain ⟨ns, hl, rfl⟩ := mapM_bytes _ _ hm
          refine Sim.same hr ?_ (by simp [Vin])
          have hcl : concL μ ((c.drop a.off).take len) = ns.map (Value.int .u8) := by
            rw [hl, concL_eq, List.map_map]
            apply List.map_congr_left
            intro n _
            simp [conc]
          have hlen : (ns.map (Value.int .u8)).length = len := by rw [← hl]; simp; omega
          have hrun := run_loadCells_list (P := P) (w := w) (μ.at a) (ns.map (Value.int .u8)) (fun j u hj => by
            rw [← hcl, concL_getElem?] at hj
            obtain ⟨u', hu', rfl⟩ := Option.map_eq_some_iff.1 hj
            rw [List.getElem?_take] at hu'
            split at hu'
            · rw [List.getElem?_drop] at hu'
              rw [at_add]
              exact hr.cell g1 hu'
            · cases hu')
          rw [hlen] at hrun
          have hbs := run_bytesToString (P := P) w (μ.at a) len (cap + μ.extra a.block) ns hrun
          simp only [conc, convert, Sem.run_bind, run_und hs, Result.andThen_ok, run_und hd, run_und he, hbs]
          rw [foldl_push]
          simp
      | _ => exact (M.fail_some h2).elim
    · exact (M.fail_some h).elim
  · exact (M.fail_some h).elim

end Go.Abs
