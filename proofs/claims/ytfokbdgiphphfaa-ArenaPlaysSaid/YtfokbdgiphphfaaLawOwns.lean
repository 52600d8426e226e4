/- The law ArenaOwns, as a run: true for every list. No condition beyond the hypotheses. -/
import Derived.Test.YtfokbdgiphphfaaLives
namespace Go.Proofs.Ytfokbdgiphphfaa
open Go Go.Abs Go.RowKit

/-- make([]uint64, 0, cap). -/
theorem make_ok {σ : AS} {id : Nat} {cap : Nat} (hc : cap ≤ 1000) (hf : FreshAt σ id) :
    aMakeSlice Try.prog id 22 (.int .i64 0) (.int .i64 (cap : Nat)) σ = some (.slice (some ⟨id, 0, none⟩) 0 cap, σ.put id (.cells (List.replicate cap (.int .u64 0)) 0 false)) := by
  obtain ⟨inf, hi, hib⟩ := u64_elem.info
  have hsz : inf.size = 1 := by
    have : (Try.prog.info? 29).map (·.size) = some 1 := by kernel_rfl
    rw [hi] at this
    simpa using this
  have hz : zero' Try.prog 29 = some (.int .u64 0) := by kernel_rfl
  have he := u64_elem.size
  have h1 : (decide (0 ≤ (0 : Int)) && decide ((0 : Int) ≤ ((cap : Nat) : Int)) && decide (((cap : Nat) : Int) ≤ 2 ^ 40) && decide ((inf.bytes : Int) * ((cap : Nat) : Int) ≤ 2 ^ 47) && Nat.beq inf.size 1 && Nat.ble (((cap : Nat) : Int).toNat * 1) 16777216) = true := by
    rw [hib, hsz]
    simp only [Bool.and_eq_true, decide_eq_true_eq]
    refine ⟨⟨⟨⟨⟨by omega, by omega⟩, by omega⟩, by omega⟩, rfl⟩, Nat.ble_eq_true_of_le (by omega)⟩
  unfold aMakeSlice
  rw [he]
  dsimp only
  rw [hz, hi]
  dsimp only
  rw [h1, cond_true]
  have h2 : (zeros (bif Nat.beq (((cap : Nat) : Int).toNat * 1) 0 then #[] else Value.cells (.int .u64 0)) (((cap : Nat) : Int).toNat * 1)).toList = List.replicate cap (.int .u64 0) := by
    rw [Int.toNat_natCast, Nat.mul_one]
    unfold zeros
    apply List.ext_getElem
    · simp
    · intro i h3 h4
      simp only [Array.toList_map, Array.toList_range, List.getElem_map, List.getElem_range, List.getElem_replicate]
      cases hb : Nat.beq cap 0 with
      | true =>
        have := Nat.eq_of_beq_eq_true hb
        simp at h4
        omega
      | false =>
        rw [cond_false]
        show (#[Value.int .u64 0] : Array Value)[i % 1]! = _
        rw [Nat.mod_one]
        rfl
  rw [h2]
  simp only [M.bind, newCells_of hf.1 hf.2, M.pure, Int.toNat_natCast]
  rfl

/-- append within the capacity. -/
theorem append_room {σ : AS} {id b len cap : Nat} {c : List Value} {x : Value} {xs : List Int} (hg : σ.heap.get b = some (.cells c 0 false)) (hc : c.length = cap) (hx : Rd 1 σ x (u64s xs)) (hl : len + xs.length ≤ cap) :
    aBuiltin Try.prog id .append #[22, 22] #[.slice (some ⟨b, 0, none⟩) len cap, x] σ = some (.slice (some ⟨b, 0, none⟩) (len + xs.length) cap, σ.put b (.cells (c.take len ++ u64s xs ++ c.drop (len + xs.length)) 0 false)) := by
  have l2 : slLen x = xs.length := by have := hx.length; rw [u64s_length] at this; omega
  have hlx := hx.lenOf
  have hsrc := hx.src
  rw [l2] at hlx hsrc
  show aAppend Try.prog id 22 22 _ _ σ = _
  simp only [aAppend, u64_elem.size, hlx, u64_elem.app, cond_false, Nat.ble_eq_true_of_le hl, cond_true, M.bind, hsrc, M.get, hg, Nat.zero_add, Nat.mul_one]
  have : (Nat.ble (len + (u64s xs).length) c.length && (u64s xs).all flat) = true := by
    rw [u64s_flat, u64s_length, Nat.ble_eq_true_of_le (by omega)]
    rfl
  rw [this, cond_true]
  simp only [M.bind, M.set, hg, M.pure]
  rw [putCells_eq _ _ _ (by rw [u64s_length]; omega), u64s_length]
  rfl


theorem set_step (ws : List Int) (k : Int) (i : Nat) (hi : i < ws.length) : (List.replicate i k ++ ws.drop i).set i k = List.replicate (i + 1) k ++ ws.drop (i + 1) := by
  rw [List.set_append, if_neg (by simp), List.length_replicate, Nat.sub_self, List.drop_eq_getElem_cons hi, List.set_cons_zero, List.replicate_succ', List.append_assoc]
  rfl

/-- A slice whose cells are written one by one. -/
theorem fill_loop {n id : Nat} {slots : List Nat} (mk : Int → List Value) (k : Int) (σ : AS) (hw : Wf σ) (base : Option Addr) (cap : Nat) (ws : List Int) (hs : Sl 1 σ (.slice base ws.length cap) (u64s ws)) (hl : ws.length < 100000) (hn : 100000 ≤ n)
    (yes : ∀ (τ τ' : AS) (i : Nat) (a : Addr), base = some a → i < ws.length → aStore Try.prog 29 (.int .u64 k) (.pointer (some (addOff' a i))) (τ.up 7) = some (undef, τ') → RoundOk Try.prog n 3 id slots (mk i) τ .normal (mk ((i + 1 : Nat) : Int)) (τ'.up 2))
    (no : ∀ τ : AS, RoundOk Try.prog n 3 id slots (mk (ws.length : Nat)) τ (.exit id) (mk (ws.length : Nat)) (τ.up 1)) :
    ∃ τ, BlockOk Try.prog (acall Try.prog n) n 3 id (ntOf Try.prog 3) slots (mk 0) σ .normal (mk (ws.length : Nat)) τ ∧ Sl 1 τ (.slice base ws.length cap) (u64s (List.replicate ws.length k)) ∧ Fr (fun i => slBase (.slice base ws.length cap) = some i) σ τ := by
  obtain ⟨e, vals, τ, h1, h2, h3, h4, h5⟩ := loop_block (P := Try.prog) (n := n) (f := 3) (id := id) (slots := slots)
    (fun j vals τ => ∃ i : Nat, i + j = ws.length ∧ vals = mk i ∧ Sl 1 τ (.slice base ws.length cap) (u64s (List.replicate i k ++ ws.drop i)) ∧ Fr (fun i => slBase (.slice base ws.length cap) = some i) σ τ)
    (fun e vals τ => e = .normal ∧ vals = mk (ws.length : Nat) ∧ Sl 1 τ (.slice base ws.length cap) (u64s (List.replicate ws.length k)) ∧ Fr (fun i => slBase (.slice base ws.length cap) = some i) σ τ)
    (by
      rintro j vals τ ⟨i, hij, rfl, hsl, hf⟩
      by_cases hi : i < ws.length
      · have hlen : (List.replicate i k ++ ws.drop i).length = ws.length := by simp; omega
        obtain ⟨a, rfl⟩ := rd_some hsl.rd (i := i) (by rw [u64s_length, hlen]; exact hi)
        have hsl' : Sl 1 (τ.up 7) (.slice (some a) ws.length cap) (u64s (List.replicate i k ++ ws.drop i)) := hsl.of_get fun _ _ => rfl
        obtain ⟨o, t1, t2⟩ := sl_store hsl' (i := i) (by rw [hlen]; exact hi) k
        rw [set_step ws k i hi] at t2
        refine ⟨.normal, _, _, yes τ _ i a rfl hi t1, Or.inl ⟨rfl, j - 1, by omega, i + 1, by omega, rfl, t2.of_get fun _ _ => rfl, ?_⟩⟩
        exact ((hf.up 7).put _ (by rw [AS.next_up]; have := hsl.base_lt hf.wf (b := a.block) rfl; omega) (Or.inl rfl) hw).up 2
      · have hie : i = ws.length := by omega
        subst hie
        refine ⟨.exit id, _, _, no τ, Or.inr ⟨by simp, by simp [leave], rfl, ?_, hf.up 1⟩⟩
        rw [List.drop_length, List.append_nil] at hsl
        exact hsl.of_get fun _ _ => rfl)
    (j := ws.length) (vals := mk 0) (σ := σ) ⟨0, by omega, rfl, by simpa using hs, Fr.refl hw⟩ (by omega)
  subst h2
  subst h3
  exact ⟨τ, h1, h4, h5⟩

/-- A slice of which all words are the same is looked through. -/
theorem look_loop {n id : Nat} {slots : List Nat} (mk : Int → List Value) (k : Int) (σ : AS) (hw : Wf σ) (base : Option Addr) (m cap : Nat) (hs : Rd 1 σ (.slice base m cap) (u64s (List.replicate m k))) (hl : m < 100000) (hn : 100000 ≤ n)
    (yes : ∀ (τ : AS) (i : Nat) (a : Addr), base = some a → i < m → aLoad Try.prog 29 (.pointer (some (addOff' a i))) (τ.up 4) = some (.int .u64 k, τ.up 4) → RoundOk Try.prog n 3 id slots (mk i) τ .normal (mk ((i + 1 : Nat) : Int)) (τ.up 8))
    (no : ∀ τ : AS, RoundOk Try.prog n 3 id slots (mk (m : Nat)) τ (.exit id) (mk (m : Nat)) (τ.up 1)) :
    ∃ τ, BlockOk Try.prog (acall Try.prog n) n 3 id (ntOf Try.prog 3) slots (mk 0) σ .normal (mk (m : Nat)) τ ∧ Fr Nil σ τ := by
  obtain ⟨e, vals, τ, h1, h2, h3, h5⟩ := loop_block (P := Try.prog) (n := n) (f := 3) (id := id) (slots := slots)
    (fun j vals τ => ∃ i : Nat, i + j = m ∧ vals = mk i ∧ Fr Nil σ τ)
    (fun e vals τ => e = .normal ∧ vals = mk (m : Nat) ∧ Fr Nil σ τ)
    (by
      rintro j vals τ ⟨i, hij, rfl, hf⟩
      by_cases hi : i < m
      · obtain ⟨a, rfl⟩ := rd_some hs (i := i) (by rw [u64s_length, List.length_replicate]; exact hi)
        have t1 : aLoad Try.prog 29 (.pointer (some (addOff' a i))) (τ.up 4) = some (.int .u64 k, τ.up 4) := rd_load (by kernel_rfl) (hs.fr (hf.up 4) fun _ _ h => h) (u64s_at (by simp [hi]))
        exact ⟨.normal, _, _, yes τ i a rfl hi t1, Or.inl ⟨rfl, j - 1, by omega, i + 1, by omega, rfl, hf.up 8⟩⟩
      · have hie : i = m := by omega
        subst hie
        exact ⟨.exit id, _, _, no τ, Or.inr ⟨by simp, by simp [leave], rfl, hf.up 1⟩⟩)
    (j := m) (vals := mk 0) (σ := σ) ⟨0, by omega, rfl, Fr.refl hw⟩ (by omega)
  subst h2
  subst h3
  exact ⟨τ, h1, h5⟩

theorem grow_one {σ : AS} {id1 id2 : Nat} {s : Value} {ws : List Int} {k : Int} (hw : Wf σ) (hs : Sl 1 σ s (u64s ws)) (hl : ws.length ≤ 100000) (h1 : FreshAt σ id1) (h2 : FreshAt σ id2) (hne : id1 ≠ id2) :
    ∃ v' σ', aBuiltin Try.prog id2 .append #[22, 22] #[s, .slice (some ⟨id1, 0, none⟩) 1 1] (σ.put id1 (.cells [.int .u64 k] 0 false)) = some (v', σ') ∧ Sl 1 σ' v' (u64s (ws ++ [k])) ∧ Fr (fun i => slBase s = some i) σ σ' ∧ (slBase v' = slBase s ∨ slBase v' = some id2) := by
  have hfr0 : Fr Nil σ (σ.put id1 (.cells [.int .u64 k] 0 false)) := (Fr.refl hw).put _ h1.2 (Or.inr (Or.inr h1.1)) hw
  have hx : Rd 1 (σ.put id1 (.cells [.int .u64 k] 0 false)) (.slice (some ⟨id1, 0, none⟩) 1 1) (u64s [k]) :=
    Or.inr (Or.inr ⟨⟨_, 0, none⟩, 1, 1, _, 0, false, rfl, rfl, AS.get_put_same _ _ _, rfl, by simp, rfl⟩)
  have hfresh : FreshAt (σ.put id1 (.cells [.int .u64 k] 0 false)) id2 := ⟨by rw [AS.get_put_ne _ _ (Ne.symm hne)]; exact h2.1, h2.2⟩
  obtain ⟨v', σ', t1, t2, t3, t4⟩ := append_ok (hs.fr hfr0 fun _ _ h => h) hx (by simp; omega) hfresh hfr0.wf
  refine ⟨v', σ', t1, t2, ⟨t3.wf, Nat.le_trans hfr0.le t3.le, fun i o hi hn => t3.same i o (hfr0.same i o hi id) fun hh => ?_⟩, t4⟩
  rcases hh with hh | hh
  · exact hn hh
  · subst hh; rw [h2.1] at hi; cases hi

theorem slice_to {P : Program} {t e : TypeId} {n id : Nat} (he : elemSize P t = some (e, n)) (σ : AS) (b len cap x : Nat) (hx : x ≤ cap) (hc : 0 < cap) {j : IntKind} :
    aSlice P id t (.slice (some ⟨b, 0, none⟩) len cap) none (some (.int j (x : Int))) none σ = some (.slice (some ⟨b, 0, none⟩) x cap, σ) := by
  have hb : bounds' len cap none (some (.int j (x : Int))) none = some (0, x, cap) := by
    have hb' : bound' (.int j (x : Int)) cap = some x := by
      unfold bound'
      dsimp only
      rw [decide_eq_true (by omega : (0 : Int) ≤ (x : Int)), decide_eq_true (by omega : (x : Int) ≤ (cap : Int))]
      rfl
    delta bounds'
    dsimp only
    rw [hb']
  simp only [aSlice, he, hb]
  rw [nbeq_false (by omega : cap ≠ 0), show ((none : Option Value).isNone && !false) = true from rfl, cond_true]
  simp only [M.pure, addOff, Nat.zero_mul, Nat.add_zero, Nat.sub_zero]

theorem owns_run (n : Nat) (σ : AS) (hw : Wf σ) (v : Value) (ws : List Int) (hr : Rd 1 σ v (u64s ws)) (hu : ∀ w ∈ ws, U64 w) (hvb : ∀ b, slBase v = some b → b < σ.next) (hn : 100000 ≤ n) :
    ∃ σ', acall Try.prog (n + 9) (.func 3) #[v] σ = some (.bool true, σ') := by
  obtain ⟨base, cap, rfl⟩ := rd_shape hr
  obtain ⟨τ1, t1, f1⟩ := lives_ok (n + 3) (σ.up 3) (hw.up 3) (by omega)
  have f1' : Fr Nil σ τ1 := f1.start
  obtain ⟨A, τ2, t2, a2, f2, hA⟩ := new_ok (n + 6) (τ1.up 6) (f1.wf.up 6) 700 (by omega) (by omega)
  have f2' : Fr Nil σ τ2 := f1'.then f2.start
  by_cases h0 : (600 : Int) < ((ws.length : Nat) : Int)
  · exact ⟨τ2.up 10, run (.up t1 <| .up t2 <| .yes h0 .nil) (by kernel_rfl)⟩
  have hl : ws.length ≤ 600 := by omega
  have hA2 := f2.wf.lt a2.obj
  -- the list that is handed in
  have q1 : IntKind.wrap .i64 (((ws.length : Nat) : Int) + 2) = ((ws.length + 2 : Nat) : Int) := by rw [wrap_i64 (by unfold I64; omega)]; omega
  have g1 : FreshAt (τ2.up 21) (τ2.next + 12) := f2.wf.fresh (by omega) (by omega)
  have t3 := make_ok (cap := ws.length + 2) (by omega) g1
  have f3 : Fr Nil τ2 ((τ2.up 21).put (τ2.next + 12) (.cells (List.replicate (ws.length + 2) (.int .u64 0)) 0 false)) := ((Fr.refl f2.wf).up 21).put _ g1.2 (Or.inr (Or.inr g1.1)) f2.wf
  have t4 := append_room (id := τ2.next + 14) (len := 0) (AS.get_put_same (τ2.up 21) (τ2.next + 12) (.cells (List.replicate (ws.length + 2) (.int .u64 0)) 0 false)) (List.length_replicate ..) (hr.fr (f2'.then f3) fun _ _ h => h) (by omega)
  rw [Nat.zero_add, List.take_zero, List.nil_append, List.drop_replicate, show ws.length + 2 - ws.length = 2 by omega] at t4
  have f4 := f3.put (.cells (u64s ws ++ List.replicate 2 (.int .u64 0)) 0 false) (i := τ2.next + 12) (by simp only [AS.next_put, AS.next_up]; omega) (Or.inr (Or.inl (by omega))) f2.wf
  generalize hτ3 : (τ2.up 21).put (τ2.next + 12) (.cells (List.replicate (ws.length + 2) (.int .u64 0)) 0 false) = τ3 at t3 f3 t4 f4
  have gm : (τ3.put (τ2.next + 12) (.cells (u64s ws ++ List.replicate 2 (.int .u64 0)) 0 false)).heap.get (τ2.next + 12) = some (.cells (u64s ws ++ List.replicate 2 (.int .u64 0)) 0 false) := AS.get_put_same _ _ _
  have hn4 : (τ3.put (τ2.next + 12) (.cells (u64s ws ++ List.replicate 2 (.int .u64 0)) 0 false)).next = τ2.next + 21 := by rw [AS.next_put, ← hτ3]; rfl
  have hnone : ∀ i, i ≠ τ2.next + 12 → τ2.next ≤ i → (τ3.put (τ2.next + 12) (.cells (u64s ws ++ List.replicate 2 (.int .u64 0)) 0 false)).heap.get i = none := fun i hi hj => by
    rw [AS.get_put_ne _ _ hi, ← hτ3, AS.get_put_ne _ _ hi]
    exact f2.wf.none hj
  generalize hτ4 : τ3.put (τ2.next + 12) (.cells (u64s ws ++ List.replicate 2 (.int .u64 0)) 0 false) = τ4 at t4 f4 gm hn4 hnone
  have g5 : FreshAt τ4 (τ2.next + 15) := ⟨hnone _ (by omega) (by omega), by omega⟩
  have f5 := f4.put (.cells (u64s [77, 78]) 0 false) (i := τ2.next + 15) g5.2 (Or.inr (Or.inl (by omega))) f2.wf
  have hx5 : Rd 1 (τ4.put (τ2.next + 15) (.cells (u64s [77, 78]) 0 false)) (.slice (some ⟨τ2.next + 15, 0, none⟩) 2 2) (u64s [77, 78]) :=
    Or.inr (Or.inr ⟨⟨_, 0, none⟩, 2, 2, _, 0, false, rfl, rfl, AS.get_put_same _ _ _, rfl, by simp [u64s], rfl⟩)
  have gm5 : (τ4.put (τ2.next + 15) (.cells (u64s [77, 78]) 0 false)).heap.get (τ2.next + 12) = some (.cells (u64s ws ++ List.replicate 2 (.int .u64 0)) 0 false) := by rw [AS.get_put_ne _ _ (by omega)]; exact gm
  have t5 := append_room (id := τ2.next + 16) (len := ws.length) (cap := ws.length + 2) gm5 (by simp [u64s]) hx5 (by simp)
  have hcells : (u64s ws ++ List.replicate 2 (Value.int .u64 0)).take ws.length ++ u64s [77, 78] ++ (u64s ws ++ List.replicate 2 (Value.int .u64 0)).drop (ws.length + ([77, 78] : List Int).length) = u64s (ws ++ [77, 78]) := by
    rw [List.take_left' (u64s_length ws), List.drop_of_length_le (by simp [u64s]), List.append_nil, u64s_append]
  rw [hcells] at t5
  have f6 := f5.put (.cells (u64s (ws ++ [77, 78])) 0 false) (i := τ2.next + 12) (by rw [AS.next_put]; omega) (Or.inr (Or.inl (by omega))) f2.wf
  have gm6 : ((τ4.put (τ2.next + 15) (.cells (u64s [77, 78]) 0 false)).put (τ2.next + 12) (.cells (u64s (ws ++ [77, 78])) 0 false)).heap.get (τ2.next + 12) = some (.cells (u64s (ws ++ [77, 78])) 0 false) := AS.get_put_same _ _ _
  have hn6 : ((τ4.put (τ2.next + 15) (.cells (u64s [77, 78]) 0 false)).put (τ2.next + 12) (.cells (u64s (ws ++ [77, 78])) 0 false)).next = τ2.next + 21 := hn4
  generalize hτ5 : (τ4.put (τ2.next + 15) (.cells (u64s [77, 78]) 0 false)).put (τ2.next + 12) (.cells (u64s (ws ++ [77, 78])) 0 false) = τ5 at t5 f6 gm6 hn6
  have t6 := slice_to (P := Try.prog) (t := 22) (e := 29) (n := 1) (id := τ2.next + 19) (j := .i64) (by kernel_rfl) τ5 (τ2.next + 12) (ws.length + 2) (ws.length + 2) ws.length (by omega) (by omega)
  have mine : ∀ τ, Fr Nil τ5 τ → Sl 1 τ (.slice (some ⟨τ2.next + 12, 0, none⟩) ws.length (ws.length + 2)) (u64s ws) := fun τ hf =>
    Or.inr ⟨τ2.next + 12, ws.length, ws.length + 2, u64s (ws ++ [77, 78]), 0, rfl, hf.same _ _ gm6 id, Or.inl rfl, by omega, by simp [u64s], by simp [u64s], by rw [Nat.mul_one, u64s_append]; exact List.take_left' (u64s_length ws)⟩
  have a5 := (a2.nil f6).up 4
  have f6' : Fr Nil σ τ5 := f2'.then f6
  obtain ⟨e, vA, τ6, t7, e7, a7, f7, m7⟩ := fill_ok (n + 1) (τ5.up 4) (f6.wf.up 4) a5 _ ws (mine (τ5.up 4) ((Fr.refl f6.wf).up 4)).rd hu (by omega)
  have hF : fillF 700 ws = bads ws := by rw [fillF, if_neg (by omega)]
  rw [hF] at e7
  cases hb : bads ws with
  | some ca =>
    obtain ⟨c, a⟩ := ca
    rw [hb] at e7
    obtain ⟨bb, rfl, _⟩ := e7
    exact ⟨τ6.up 1, run (.up t1 <| .up t2 <| .no h0 <| .num q1 <| .up t3 <| .up t4 <| .new g5 <| .up t5 <| .up t6 <| .up t7 .nil) (by kernel_rfl)⟩
  | none =>
  rw [hb] at e7
  cases e7
  have hW : fillW 700 [] ws = ws := by rw [fillW, hF, hb, if_pos rfl]
  rw [hW] at a7
  have baseA : ∀ b, slBase vA = some b → τ5.next ≤ b := by
    rcases m7 with m7 | m7
    · intro b hb'; rw [m7] at hb'; cases hb'
    · intro b hb'; have := m7 b hb'; rw [AS.next_up] at this; omega
  -- all but the arena is as it was
  have f7' : Fr (foot A (.slice none 0 0)) τ5 τ6 := f7.start
  have offA : ∀ i, foot A (.slice none 0 0) i → i = A := fun i hi => by
    rcases hi with hi | hi
    · exact hi
    · cases hi
  have mine6 : Sl 1 τ6 (.slice (some ⟨τ2.next + 12, 0, none⟩) ws.length (ws.length + 2)) (u64s ws) := (mine τ5 (Fr.refl f6.wf)).fr f7' fun b hb' hh => by
    simp only [slBase, Option.some.injEq] at hb'
    have := offA b hh
    omega
  have gm7 : τ6.heap.get (τ2.next + 12) = some (.cells (u64s (ws ++ [77, 78])) 0 false) := f7'.same _ _ gm6 fun hh => by have := offA _ hh; omega
  have hleA : σ.next ≤ A := by have := f1'.le; rw [AS.next_up] at hA; omega
  have w6 : Rd 1 τ6 (.slice base ws.length cap) (u64s ws) := (hr.fr f6' fun _ _ h => h).fr f7' fun b hb' hh => by
    have h1 := hvb b hb'
    have h2 := offA b hh
    omega
  obtain ⟨τ7, t8, f8⟩ := same_ok (n + 6) (τ6.up 16) _ _ ws (f7.wf.up 16) (mine6.rd.of_get fun _ _ => rfl) (w6.of_get fun _ _ => rfl) (by omega) (by omega)
  have t9 := slice_to (P := Try.prog) (t := 22) (e := 29) (n := 1) (id := τ6.next + 9) (j := .i64) (by kernel_rfl) τ7 (τ2.next + 12) ws.length (ws.length + 2) (ws.length + 2) (by omega) (by omega)
  have q2 : ((ws.length : Nat) : Int) = (ws.length : Int) ∧ ws.length < ws.length + 2 := ⟨rfl, by omega⟩
  have t10 : aLoad Try.prog 29 (.pointer (some ⟨τ2.next + 12, ws.length, none⟩)) τ7 = some (.int .u64 77, τ7) :=
    aLoad_cell (by kernel_rfl) (f8.start.same _ _ gm7 id) (by simp [u64s])
  have a8 := (a7.up 16).nil f8
  have w8 := w6.fr f8.start fun _ _ h => h
  have mine8 := mine6.fr f8.start fun _ _ h => h
  obtain ⟨τ8, t11, s11, f11⟩ := fill_loop (n := n + 8) (id := 0) (slots := [0, 3, 5, 65, 66]) (fun i => [.slice base ws.length cap, ptrTo A, .slice (some ⟨τ2.next + 12, 0, none⟩) ws.length (ws.length + 2), .int .i64 (ws.length : Nat), .int .i64 i]) 7 (τ7.up 3) (f8.wf.up 3) (some ⟨τ2.next + 12, 0, none⟩) (ws.length + 2) ws (mine8.of_get fun _ _ => rfl) (by omega) (by omega)
    (fun τ τ' i a ha hi hst => by
      cases ha
      have p1 : ((i : Nat) : Int) < ((ws.length : Nat) : Int) := by omega
      have p2 : ((i : Nat) : Int) = (i : Int) ∧ i < ws.length := ⟨rfl, hi⟩
      have p3 : IntKind.wrap .i64 ((i : Int) + 1) = ((i + 1 : Nat) : Int) := by rw [wrap_i64 (by unfold I64; omega)]; omega
      exact round (.yes p1 <| .ix p2 <| .up hst <| .num p3 .nil) (by kernel_rfl))
    (fun τ => by
      have p1 : ¬ ((ws.length : Nat) : Int) < ((ws.length : Nat) : Int) := by omega
      exact round (.no p1 .nil) (by kernel_rfl))
  have hn7 : τ2.next + 12 < τ5.next := by omega
  have offm : ∀ i, slBase (.slice (some ⟨τ2.next + 12, 0, none⟩) ws.length (ws.length + 2)) = some i → i = τ2.next + 12 := fun i hi => by
    simp only [slBase, Option.some.injEq] at hi; omega
  have a9 : Arn true τ8 A vA ws 700 := (a8.up 3).fr f11 fun i hi hh => by
    have := offm i hh
    rcases hi with hi | hi
    · omega
    · have := baseA i hi; omega
  have w9 : Rd 1 τ8 (.slice base ws.length cap) (u64s ws) := w8.fr f11.start fun b hb' hh => by
    have h1 := hvb b hb'
    have h2 := offm b hh
    have := f2'.le
    omega
  -- two copies
  obtain ⟨x, τ9, t12, s12, f12, k12⟩ := words_ok (n + 6) (τ8.up 6) (f11.wf.up 6) (a9.up 6)
  have a10 := (a9.up 6).nil f12
  obtain ⟨y, τ10, t13, s13, f13, k13⟩ := words_ok (n + 6) τ9 f12.wf a10
  have a11 := a10.nil f13
  have w10 := (w9.fr (f12.start) fun _ _ h => h).fr f13 fun _ _ h => h
  have s12' := s12.fr f13 fun _ _ h => h
  obtain ⟨bx, cx, rfl⟩ := rd_shape s12.rd
  obtain ⟨by', cy, rfl⟩ := rd_shape s13.rd
  obtain ⟨τ11, t14, f14⟩ := same_ok (n + 6) (τ10.up 10) _ _ ws (f13.wf.up 10) (s12'.rd.of_get fun _ _ => rfl) (w10.of_get fun _ _ => rfl) (by omega) (by omega)
  have f14' : Fr Nil τ10 τ11 := f14.start
  obtain ⟨τ12, t15, f15⟩ := same_ok (n + 6) τ11 _ _ ws f14.wf (s13.fr f14' fun _ _ h => h).rd (w10.fr f14' fun _ _ h => h) (by omega) (by omega)
  have f15' := f14'.then f15
  have a12 := a11.nil f15'
  have w12 := w10.fr f15' fun _ _ h => h
  have sx := s12'.fr f15' fun _ _ h => h
  have sy := s13.fr f15' fun _ _ h => h
  -- all numbers of what the copies stand in are N or more
  have hN : τ8.next ≤ τ9.next := by have := f12.le; rw [AS.next_up] at this; omega
  have bxN : ∀ b, slBase (.slice bx ws.length cx) = some b → τ8.next ≤ b ∧ b < τ9.next := fun b hb' => ⟨by have := k12 b hb'; rw [AS.next_up] at this; omega, s12.base_lt f12.wf hb'⟩
  have byN : ∀ b, slBase (.slice by' ws.length cy) = some b → τ9.next ≤ b := fun b hb' => k13 b hb'
  have aN : ∀ i, foot A vA i → i < τ8.next := fun i hi => by
    rcases hi with rfl | hi
    · exact f11.wf.lt a9.obj
    · exact a9.sl.base_lt f11.wf hi
  have wN : ∀ b, slBase (.slice base ws.length cap) = some b → b < τ8.next := fun b hb' => by
    have h1 := hvb b hb'
    have h2 := f2'.le
    have h3 := f6.le
    have h4 := f7'.le
    have h5 := f8.start.le
    have h6 := f11.start.le
    omega
  obtain ⟨τ13, t16, s16, f16⟩ := fill_loop (n := n + 8) (id := 2) (slots := [0, 3, 7, 8, 88, 89]) (fun i => [.slice base ws.length cap, ptrTo A, .slice bx ws.length cx, .slice by' ws.length cy, .int .i64 (ws.length : Nat), .int .i64 i]) 15 (τ12.up 3) (f15.wf.up 3) bx cx ws (sx.of_get fun _ _ => rfl) (by omega) (by omega)
    (fun τ τ' i a ha hi hst => by
      subst ha
      have p1 : ((i : Nat) : Int) < ((ws.length : Nat) : Int) := by omega
      have p2 : ((i : Nat) : Int) = (i : Int) ∧ i < ws.length := ⟨rfl, hi⟩
      have p3 : IntKind.wrap .i64 ((i : Int) + 1) = ((i + 1 : Nat) : Int) := by rw [wrap_i64 (by unfold I64; omega)]; omega
      exact round (.yes p1 <| .ix p2 <| .up hst <| .num p3 .nil) (by kernel_rfl))
    (fun τ => by
      have p1 : ¬ ((ws.length : Nat) : Int) < ((ws.length : Nat) : Int) := by omega
      exact round (.no p1 .nil) (by kernel_rfl))
  have a13 := (a12.up 3).fr f16 fun i hi hh => by have := (bxN i hh).1; have := aN i hi; omega
  have w13 := w12.fr f16.start fun b hb' hh => by have := (bxN b hh).1; have := wN b hb'; omega
  have sy13 := sy.fr f16.start fun b hb' hh => by have := (bxN b hh).2; have := byN b hb'; omega
  obtain ⟨τ14, t17, s17, f17⟩ := fill_loop (n := n + 8) (id := 4) (slots := [0, 3, 7, 8, 97, 98]) (fun i => [.slice base ws.length cap, ptrTo A, .slice bx ws.length cx, .slice by' ws.length cy, .int .i64 (ws.length : Nat), .int .i64 i]) 23 (τ13.up 3) (f16.wf.up 3) by' cy ws (sy13.of_get fun _ _ => rfl) (by omega) (by omega)
    (fun τ τ' i a ha hi hst => by
      subst ha
      have p1 : ((i : Nat) : Int) < ((ws.length : Nat) : Int) := by omega
      have p2 : ((i : Nat) : Int) = (i : Int) ∧ i < ws.length := ⟨rfl, hi⟩
      have p3 : IntKind.wrap .i64 ((i : Int) + 1) = ((i + 1 : Nat) : Int) := by rw [wrap_i64 (by unfold I64; omega)]; omega
      exact round (.yes p1 <| .ix p2 <| .up hst <| .num p3 .nil) (by kernel_rfl))
    (fun τ => by
      have p1 : ¬ ((ws.length : Nat) : Int) < ((ws.length : Nat) : Int) := by omega
      exact round (.no p1 .nil) (by kernel_rfl))
  have a14 := (a13.up 3).fr f17 fun i hi hh => by have := byN i hh; have := aN i hi; omega
  have w14 := w13.fr f17.start fun b hb' hh => by have := byN b hh; have := wN b hb'; omega
  have sx14 := s16.fr f17.start fun b hb' hh => by have := (bxN b hb').2; have := byN b hh; omega
  -- twenty words more behind each
  have hloop := loop_block (P := Try.prog) (n := n + 8) (f := 3) (id := 6) (slots := [0, 3, 11, 12, 13])
    (fun j vals τ => ∃ (i : Nat) (g h : Value), i + j = 20 ∧ vals = [.slice base ws.length cap, ptrTo A, g, h, .int .i64 i] ∧ Sl 1 τ g (u64s (List.replicate (ws.length + i) 15)) ∧ Sl 1 τ h (u64s (List.replicate (ws.length + i) 23)) ∧ Fr (fun b => τ8.next ≤ b) τ14 τ ∧
      (∀ b, slBase g = some b → τ8.next ≤ b) ∧ (∀ b, slBase h = some b → τ8.next ≤ b) ∧ (∀ b, slBase g = some b → slBase h ≠ some b))
    (fun e vals τ => e = .normal ∧ ∃ g h, vals = [.slice base ws.length cap, ptrTo A, g, h, .int .i64 20] ∧ Sl 1 τ g (u64s (List.replicate (ws.length + 20) 15)) ∧ Sl 1 τ h (u64s (List.replicate (ws.length + 20) 23)) ∧ Fr (fun b => τ8.next ≤ b) τ14 τ)
    (by
      rintro j vals τ ⟨i, g, h, hij, rfl, sg, sh, hf, ng, nh, hne⟩
      by_cases hi : i < 20
      · have p1 : ((i : Nat) : Int) < 20 := by omega
        have p2 : FreshAt (τ.up 6) (τ.next + 3) := hf.wf.fresh (by omega) (by omega)
        have p2' : FreshAt (τ.up 6) (τ.next + 4) := hf.wf.fresh (by omega) (by omega)
        obtain ⟨g', τa, p3, p4, p5, p6⟩ := grow_one (k := 15) (hf.wf.up 6) (sg.of_get (σ' := τ.up 6) fun _ _ => rfl) (by simp; omega) p2 p2' (by omega)
        have sh' := sh.fr p5.start fun b hb' hh => hne b hh hb'
        have p7 : FreshAt (τa.up 4) (τa.next + 1) := p5.wf.fresh (by omega) (by omega)
        have p7' : FreshAt (τa.up 4) (τa.next + 2) := p5.wf.fresh (by omega) (by omega)
        obtain ⟨h', τb, p8, p9, p10, p11⟩ := grow_one (k := 23) (p5.wf.up 4) (sh'.of_get (σ' := τa.up 4) fun _ _ => rfl) (by simp; omega) p7 p7' (by omega)
        have hle5 := p5.start.le
        have hg' : ∀ b, slBase g' = some b → b < τa.next := fun b hb' => p4.base_lt p5.wf hb'
        have hneg : ∀ b, slBase g' = some b → slBase h ≠ some b := fun b hb' hh => by
          rcases p6 with p6 | p6
          · rw [p6] at hb'; exact hne b hb' hh
          · rw [p6] at hb'
            simp only [Option.some.injEq] at hb'
            have := sh.base_lt hf.wf hh
            omega
        have sg' := p4.fr p10.start fun b hb' hh => hneg b hb' hh
        have p12 : IntKind.wrap .i64 ((i : Int) + 1) = ((i + 1 : Nat) : Int) := by rw [wrap_i64 (by unfold I64; omega)]; omega
        have hle : τ8.next ≤ τ.next := by
          have := f12.start.le; have := f13.le; have := f15'.le; have := f16.start.le; have := f17.start.le; have := hf.le
          omega
        obtain ⟨bg, cg, rfl⟩ := rd_shape sg.rd
        obtain ⟨bh, ch, rfl⟩ := rd_shape sh.rd
        refine ⟨.normal, _, τb.up 3, round (.yes p1 <| .new p2 <| .up p3 <| .new p7 <| .up p8 <| .num p12 .nil) (by kernel_rfl), Or.inl ⟨rfl, j - 1, by omega, i + 1, g', h', by omega, rfl, ?_, ?_, ?_, fun b hb' => ?_, fun b hb' => ?_, fun b hb' hh => ?_⟩⟩
        · rw [← Nat.add_assoc, List.replicate_succ']
          exact sg'.of_get fun _ _ => rfl
        · rw [← Nat.add_assoc, List.replicate_succ']
          exact p9.of_get fun _ _ => rfl
        · exact ((hf.then (p5.start.mono fun b hb' => ng b hb')).then (p10.start.mono fun b hb' => nh b hb')).up 3
        · rcases p6 with p6 | p6
          · rw [p6] at hb'; exact ng b hb'
          · rw [p6] at hb'; simp only [Option.some.injEq] at hb'; omega
        · rcases p11 with p11 | p11
          · rw [p11] at hb'; exact nh b hb'
          · rw [p11] at hb'; simp only [Option.some.injEq] at hb'; omega
        · rcases p11 with p11 | p11
          · rw [p11] at hh; exact hneg b hb' hh
          · rw [p11] at hh; simp only [Option.some.injEq] at hh; have := hg' b hb'; omega
      · have hie : i = 20 := by omega
        subst hie
        have p1 : ¬ (((20 : Nat) : Int) < 20) := by omega
        exact ⟨.exit 6, _, τ.up 2, round (.auto .nil) (by kernel_rfl), Or.inr ⟨by simp, rfl, g, h, rfl, sg.of_get fun _ _ => rfl, sh.of_get fun _ _ => rfl, hf.up 2⟩⟩)
    (j := 20) (vals := [.slice base ws.length cap, ptrTo A, .slice bx ws.length cx, .slice by' ws.length cy, .int .i64 0]) (σ := τ14.up 5)
    ⟨0, _, _, by omega, rfl, sx14.of_get fun _ _ => rfl, s17.of_get fun _ _ => rfl, (Fr.refl f17.wf).up 5, fun b hb' => (bxN b hb').1, fun b hb' => (by have := byN b hb'; omega), fun b hb' hh => by have := (bxN b hb').2; have := byN b hh; omega⟩ (by omega)
  obtain ⟨e, vals', τ15, t18, rfl, g, h, rfl, sg, sh, f18⟩ := hloop
  obtain ⟨bg, cg, rfl⟩ := rd_shape sg.rd
  obtain ⟨bh, ch, rfl⟩ := rd_shape sh.rd
  simp only [List.length_replicate] at sg sh t18
  have a15 := a14.fr f18 fun i hi hh => by have := aN i hi; omega
  have w15 := w14.fr f18 fun b hb' hh => by have := wN b hb'; omega
  obtain ⟨τ16, t19, f19⟩ := look_loop (n := n + 8) (id := 8) (slots := [0, 3, 12, 117, 118, 119]) (fun i => [.slice base ws.length cap, ptrTo A, .slice bh (ws.length + 20) ch, .slice bg (ws.length + 20) cg, .int .i64 (ws.length + 20 : Nat), .int .i64 i]) 15 (τ15.up 3) (f18.wf.up 3) bg (ws.length + 20) cg (sg.rd.of_get fun _ _ => rfl) (by omega) (by omega)
    (fun τ i a ha hi hst => by
      subst ha
      have p1 : ((i : Nat) : Int) < ((ws.length + 20 : Nat) : Int) := by omega
      have p2 : ((i : Nat) : Int) = (i : Int) ∧ i < ws.length + 20 := ⟨rfl, hi⟩
      have p3 : IntKind.wrap .i64 ((i : Int) + 1) = ((i + 1 : Nat) : Int) := by rw [wrap_i64 (by unfold I64; omega)]; omega
      exact round (.yes p1 <| .ix p2 <| .val hst <| .num p3 .nil) (by kernel_rfl))
    (fun τ => by
      have p1 : ¬ ((ws.length + 20 : Nat) : Int) < ((ws.length + 20 : Nat) : Int) := by omega
      exact round (.no p1 .nil) (by kernel_rfl))
  obtain ⟨τ17, t20, f20⟩ := look_loop (n := n + 8) (id := 10) (slots := [0, 3, 126, 127, 128]) (fun i => [.slice base ws.length cap, ptrTo A, .slice bh (ws.length + 20) ch, .int .i64 (ws.length + 20 : Nat), .int .i64 i]) 23 (τ16.up 3) (f19.wf.up 3) bh (ws.length + 20) ch (((sh.fr f19.start fun _ _ h => h)).rd.of_get fun _ _ => rfl) (by omega) (by omega)
    (fun τ i a ha hi hst => by
      subst ha
      have p1 : ((i : Nat) : Int) < ((ws.length + 20 : Nat) : Int) := by omega
      have p2 : ((i : Nat) : Int) = (i : Int) ∧ i < ws.length + 20 := ⟨rfl, hi⟩
      have p3 : IntKind.wrap .i64 ((i : Int) + 1) = ((i + 1 : Nat) : Int) := by rw [wrap_i64 (by unfold I64; omega)]; omega
      exact round (.yes p1 <| .ix p2 <| .val hst <| .num p3 .nil) (by kernel_rfl))
    (fun τ => by
      have p1 : ¬ ((ws.length + 20 : Nat) : Int) < ((ws.length + 20 : Nat) : Int) := by omega
      exact round (.no p1 .nil) (by kernel_rfl))
  have f20' := f19.start.then f20.start
  have a17 := (a15.nil f20').up 5
  have w17 := w15.fr (f20'.up 5) fun _ _ h => h
  obtain ⟨z, τ18, t21, s21, f21, _⟩ := words_ok (n + 6) (τ17.up 5) (f20.wf.up 5) a17
  obtain ⟨τ19, t22, f22⟩ := same_ok (n + 6) τ18 _ _ ws f21.wf s21.rd (w17.fr f21 fun _ _ h => h) (by omega) (by omega)
  have q3 : IntKind.wrap .i64 (((ws.length : Nat) : Int) + 2) = ((ws.length + 2 : Nat) : Int) := q1
  subst hτ5
  subst hτ4
  subst hτ3
  exact ⟨τ19, run (.up t1 <| .up t2 <| .no h0 <| .num q1 <| .up t3 <| .up t4 <| .new g5 <| .up t5 <| .up t6 <| .up t7 <| .up t8 <| .num q3 <| .up t9 <| .ix q2 <| .val t10 <| .block t11 <| .up t12 <| .up t13 <| .up t14 <| .up t15 <| .block t16 <| .block t17 <| .block t18 <| .block t19 <| .block t20 <| .up t21 <| .up t22 .nil) (by kernel_rfl)⟩

end Go.Proofs.Ytfokbdgiphphfaa
