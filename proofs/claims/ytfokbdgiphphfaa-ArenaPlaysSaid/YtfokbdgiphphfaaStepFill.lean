/- Fill on both arenas: they answer the same, and go on side by side. No condition beyond the hypotheses. -/
import Derived.Test.YtfokbdgiphphfaaStep
namespace Go.Proofs.Ytfokbdgiphphfaa
open Go Go.Abs Go.RowKit

/-- A slice whose cells are written one by one. -/
theorem fill_loopF {n id f : Nat} {slots : List Nat} (mk : Int → List Value) (k : Int) (σ : AS) (hw : Wf σ) (base : Option Addr) (cap : Nat) (ws : List Int) (hs : Sl 1 σ (.slice base ws.length cap) (u64s ws)) (hl : ws.length < 100000) (hn : 100000 ≤ n)
    (yes : ∀ (τ τ' : AS) (i : Nat) (a : Addr), base = some a → i < ws.length → aStore Try.prog 29 (.int .u64 k) (.pointer (some (addOff' a i))) (τ.up 7) = some (undef, τ') → RoundOk Try.prog n f id slots (mk i) τ .normal (mk ((i + 1 : Nat) : Int)) (τ'.up 2))
    (no : ∀ τ : AS, RoundOk Try.prog n f id slots (mk (ws.length : Nat)) τ (.exit id) (mk (ws.length : Nat)) (τ.up 1)) :
    ∃ τ, BlockOk Try.prog (acall Try.prog n) n f id (ntOf Try.prog f) slots (mk 0) σ .normal (mk (ws.length : Nat)) τ ∧ Sl 1 τ (.slice base ws.length cap) (u64s (List.replicate ws.length k)) ∧ Fr (fun i => slBase (.slice base ws.length cap) = some i) σ τ := by
  obtain ⟨e, vals, τ, h1, h2, h3, h4, h5⟩ := loop_block (P := Try.prog) (n := n) (f := f) (id := id) (slots := slots)
    (fun j vals τ => ∃ i : Nat, i + j = ws.length ∧ vals = mk i ∧ Sl 1 τ (.slice base ws.length cap) (u64s (List.replicate i k ++ ws.drop i)) ∧ Fr (fun i => slBase (.slice base ws.length cap) = some i) σ τ)
    (fun e vals τ => e = .normal ∧ vals = mk (ws.length : Nat) ∧ Sl 1 τ (.slice base ws.length cap) (u64s (List.replicate ws.length k)) ∧ Fr (fun i => slBase (.slice base ws.length cap) = some i) σ τ)
    (by
      rintro j vals τ ⟨i, hij, rfl, hsl, hf⟩
      by_cases hi : i < ws.length
      · have hlen : (List.replicate i k ++ ws.drop i).length = ws.length := by simp; omega
        obtain ⟨a, rfl⟩ := rd_some hsl.rd (i := i) (by rw [u64s_length, hlen]; exact hi)
        have hsl' : Sl 1 (τ.up 7) (.slice (some a) ws.length cap) (u64s (List.replicate i k ++ ws.drop i)) := hsl.of_get fun _ _ => rfl
        obtain ⟨o, t1, t2⟩ := sl_store hsl' (i := i) (by rw [hlen]; exact hi) k
        rw [set_step ws k i hi] at t2
        refine ⟨.normal, _, _, yes τ _ i a rfl hi t1, Or.inl ⟨rfl, j - 1, by omega, i + 1, by omega, rfl, t2.of_get fun _ _ => rfl, ?_⟩⟩
        exact ((hf.up 7).put _ (by rw [AS.next_up]; have := hsl.base_lt hf.wf (b := a.block) rfl; omega) (Or.inl rfl) hw).up 2
      · have hie : i = ws.length := by omega
        subst hie
        refine ⟨.exit id, _, _, no τ, Or.inr ⟨by simp, by simp [leave], rfl, ?_, hf.up 1⟩⟩
        rw [List.drop_length, List.append_nil] at hsl
        exact hsl.of_get fun _ _ => rfl)
    (j := ws.length) (vals := mk 0) (σ := σ) ⟨0, by omega, rfl, by simpa using hs, Fr.refl hw⟩ (by omega)
  subst h2
  subst h3
  exact ⟨τ, h1, h4, h5⟩


/-- A fault is no list of words. -/
theorem err_apart {τ : AS} {e z : Value} {o : Option (Int × Int)} {xs : List Int} {b : Nat} (he : ErrOf τ e o) (hb : e = .iface 69 (.pointer (some ⟨b, 0, none⟩))) (hz : Sl 1 τ z (u64s xs)) (hx : 0 < xs.length) : slBase z ≠ some b := by
  intro hh
  cases o with
  | none => cases he.symm.trans hb
  | some ca =>
    obtain ⟨b', h1, h2⟩ := he
    rw [hb] at h1
    cases h1
    rcases hz with ⟨rfl, _⟩ | ⟨q, len, cap, c, room, rfl, h3, _, _, _, h6, h7⟩
    · cases hh
    · cases hh
      rw [h2] at h3
      cases h3
      rw [u64s_length, Nat.mul_one] at h6
      subst h6
      match xs, hx with
      | w :: xs, _ => simp [u64s] at h7

theorem fill_none {max : Int} (h : 0 ≤ max) : fillF max [] = none := by
  unfold fillF
  rw [if_neg (by simp; omega)]
  rfl

section
variable {n B : Nat} {σ : AS} {A D : Nat} {va vd : Value} {ws : List Int} {max : Int}

theorem step_fill (hw : Wf σ) (hB : B ≤ σ.next) (h : Two B σ A va D vd ws max) (x y : Int) (u : Value) (xs : List Int) (hu : WordsOf B σ u xs) (hxu : ∀ w ∈ xs, U64 w) (hl : xs.length ≤ 4000) (hn : 100000 ≤ n) : Stepped n B σ A D max 5 x y u := by
  obtain ⟨g0, f0, hO⟩ := op_fr hw (opCells 5 x y u)
  have h0 := h.nil f0
  have hltA := h.pa.foot_lt hw
  have hltD := h.pd.foot_lt hw
  have hs2 : ((σ.up 2).put σ.next (.cells (opCells 5 x y u) 0 false)).next = σ.next + 2 := rfl
  generalize hs : (σ.up 2).put σ.next (.cells (opCells 5 x y u) 0 false) = s at f0 hO hs2 h0
  have l0 := (op_loads (s := s.up 2) hO).1
  have g1 : FreshAt (s.up 19) (σ.next + 16) := f0.wf.fresh (by omega) (by omega)
  have g1' : FreshAt (s.up 19) (σ.next + 19) := f0.wf.fresh (by omega) (by omega)
  have hput : Fr Nil (s.up 19) ((s.up 19).put (σ.next + 16) (.cells [] 0 false)) := (Fr.refl (f0.wf.up 19)).put _ g1.2 (Or.inr (Or.inr g1.1)) (f0.wf.up 19)
  have l1 := (op_loads (s := (s.up 19).put (σ.next + 16) (.cells [] 0 false)) (hput.same _ _ (show (s.up 19).heap.get σ.next = _ from hO) id)).2.2.2
  have toB : ∀ {τ τ' : AS}, Fr Nil τ τ' → Fr (From B) τ τ' := fun hf => hf.mono nil_from
  obtain ⟨z, τ1, t1, s1, f1, z1⟩ := copyW_ok (f0.wf.up 19) (hu.fr (toB (f0.up 19))) (by omega) g1 g1' (by omega)
  have hle1 := f1.le
  rw [AS.next_up] at hle1
  have hz : ∀ b, slBase z = some b → σ.next + 16 ≤ b ∧ b < τ1.next := fun b hb => by
    rcases z1 with z1 | z1 <;> rw [z1] at hb <;> simp only [Option.some.injEq] at hb <;> omega
  have h1 := (h0.up 19).nil f1
  have hO1 := f1.same _ _ (show (s.up 19).heap.get σ.next = _ from hO) id
  obtain ⟨e, va1, τ2, t2, e2, a2, f2, m2⟩ := fill_ok (n + 1) (τ1.up 4) (f1.wf.up 4) (h1.pa.up 4) z xs (s1.rd.of_get (σ' := τ1.up 4) fun _ _ => rfl) hxu (by omega)
  obtain ⟨d2, fin⟩ := two_calls (f1.wf.up 4) (by rw [AS.next_up]; omega) (h1.up 4) a2 f2 m2
  have hO2 := f2.same _ _ (show (τ1.up 4).heap.get σ.next = _ from hO1) (fun hh => by have := hltA _ hh; omega)
  have sz2 : Sl 1 τ2 z (u64s xs) := (s1.of_get (σ' := τ1.up 4) fun _ _ => rfl).fr f2 fun b hb hh => by have := hz b hb; have := hltA b hh; omega
  have l2 := (op_loads (s := τ2.up 6) hO2).2.2.2
  have F2 : Fr (From B) σ τ2 := (toB (f0.then f1.start)).then (f2.mono (foot_from h.hA h.bA)).start
  obtain ⟨vd3, τ3, t3, d3, f3, m3⟩ := ref_fill_ok n B (τ2.up 6) (f2.wf.up 6) (d2.up 6) u xs (hu.fr (F2.up 6)) hxu (by omega)
  obtain ⟨h3, F3⟩ := fin d3 (If.all f3).start m3.start
  have hle2 := f2.le
  rw [AS.next_up] at hle2
  have hle3 := f3.le
  rw [AS.next_up] at hle3
  have g3 : FreshAt τ3 (τ2.next + 4) := ⟨call_low t3 (by rw [AS.next_up]; omega) (f2.wf.none (by omega)), by omega⟩
  have sz3 : Sl 1 τ3 z (u64s xs) := (sz2.of_get (σ' := τ2.up 6) fun _ _ => rfl).fr f3 fun b hb hh => by have := hz b hb; have := hltD b hh.2; omega
  have e3 : ErrOf τ3 e (fillF max xs) := If.err f3 (show ErrOf (τ2.up 6) e _ from e2.nil ((Fr.refl f2.wf).up 6))
  obtain ⟨c, a, hc⟩ := fvOf_shape (fillF max xs)
  rw [hc] at t3
  have f4 : Fr Nil τ3 ((τ3.put (τ2.next + 4) (fvObj 0 0)).put (τ2.next + 4) (fvObj c a)) := ((Fr.refl f3.wf).put _ g3.2 (Or.inr (Or.inr g3.1)) f3.wf).put _ g3.2 (Or.inr (Or.inr g3.1)) f3.wf
  have p1 : aStore Try.prog 52 (fv c a) (ptrTo (τ2.next + 4)) (τ3.put (τ2.next + 4) (fvObj 0 0)) = some (undef, (τ3.put (τ2.next + 4) (fvObj 0 0)).put (τ2.next + 4) (fvObj c a)) := store_fv (AS.get_put_same _ _ _)
  have hR4 : ((τ3.put (τ2.next + 4) (fvObj 0 0)).put (τ2.next + 4) (fvObj c a)).heap.get (τ2.next + 4) = some (fvObj c a) := AS.get_put_same _ _ _
  generalize hs4 : (τ3.put (τ2.next + 4) (fvObj 0 0)).put (τ2.next + 4) (fvObj c a) = τ4 at f4 p1 hR4
  have h4 := h3.nil f4
  have e4 := e3.nil f4
  have sz4 : Sl 1 τ4 z (u64s xs) := sz3.fr f4 fun _ _ h => h
  obtain ⟨bz, cz, rfl⟩ := rd_shape sz4.rd
  obtain ⟨τ5, p2, _, f5⟩ := fill_loopF (n := n + 8) (id := 1) (f := 23) (slots := [20, 21, 22, 137, 138]) (fun i => [.slice bz xs.length cz, e, ptrTo (τ2.next + 4), .int .i64 (xs.length : Nat), .int .i64 i]) 7 (τ4.up 3) (f4.wf.up 3) bz cz xs (sz4.of_get fun _ _ => rfl) (by omega) (by omega)
    (by
      rintro τ τ' i q rfl hi ht
      have q1 : ((i : Nat) : Int) < ((xs.length : Nat) : Int) := by omega
      have q2 : ((i : Nat) : Int) = (i : Int) ∧ i < xs.length := ⟨rfl, hi⟩
      have q3 : IntKind.wrap .i64 ((i : Int) + 1) = ((i + 1 : Nat) : Int) := by rw [wrap_i64 (by unfold I64; omega)]; omega
      exact round (.yes q1 <| .ix q2 <| .up ht <| .num q3 .nil) (by kernel_rfl))
    (by
      intro τ
      have q1 : ¬ ((xs.length : Nat) : Int) < ((xs.length : Nat) : Int) := by omega
      exact round (.no q1 .nil) (by kernel_rfl))
  have f5' : Fr (fun i => slBase (.slice bz xs.length cz) = some i) τ4 τ5 := f5.start
  have nA : ∀ i, foot A va1 i → ¬ slBase (.slice bz xs.length cz) = some i := fun i hi hh => by
    have := hz i hh
    rcases moved_foot m2 i hi with h1 | h1
    · have := hltA i h1; omega
    · rw [AS.next_up] at h1; omega
  have nD : ∀ i, foot D vd3 i → ¬ slBase (.slice bz xs.length cz) = some i := fun i hi hh => by
    have := hz i hh
    rcases moved_foot m3 i hi with h1 | h1
    · have := hltD i h1; omega
    · rw [AS.next_up] at h1; omega
  have h5 : Two B τ5 A va1 D vd3 (fillW max ws xs) max := ⟨h4.pa.fr f5' nA, h4.pd.fr f5' nD, h4.hA, h4.hD, h4.bA, h4.bD, h4.apart⟩
  have hR5 : τ5.heap.get (τ2.next + 4) = some (fvObj c a) := f5'.same _ _ hR4 fun hh => by have := hz _ hh; omega
  have e5 : ErrOf τ5 e (fillF max xs) := e4.fr f5' fun b hb => by
    by_cases hx0 : 0 < xs.length
    · exact err_apart e4 hb sz4 hx0
    · have : xs = [] := List.length_eq_zero_iff.1 (by omega)
      subst this
      have hm : 0 ≤ max := by have := h.pa.le; omega
      rw [fill_none hm] at e4
      cases e4.symm.trans hb
  have p3 := load_fv (show (τ5.up 4).heap.get (τ2.next + 4) = some (fvObj c a) from hR5)
  obtain ⟨τ6, p4, f6⟩ := is_same (n + 5) (τ5.up 4) e (fillF max xs) (f5.wf.up 4) (e5.nil ((Fr.refl f5.wf).up 4)) (fun c a hh => fill_code hh)
  rw [hc] at p4
  refine ⟨va1, vd3, _, τ6, ?_, h5.nil f6.start, ?_⟩
  · subst hs
    rcases hu.2 with hr | ⟨r, rfl, _⟩
    · obtain ⟨bu, cu, rfl⟩ := rd_shape hr
      exact run (.new g0 <| .val l0 <| .new g1 <| .val l1 <| .up t1 <| .up t2 <| .val l2 <| .up t3 <| .new g3 <| .up p1 <| .block p2 <| .val p3 <| .up p4 .nil) (by kernel_rfl)
    · exact run (.new g0 <| .val l0 <| .new g1 <| .val l1 <| .up t1 <| .up t2 <| .val l2 <| .up t3 <| .new g3 <| .up p1 <| .block p2 <| .val p3 <| .up p4 .nil) (by kernel_rfl)
  · have g5 : Fr (From B) τ4 τ5 := f5'.mono fun i hi => by have := hz i hi; show B ≤ i; omega
    exact (((toB (f0.then f1.start)).then F3.start).then (toB f4)).then (g5.then (toB f6.start))

end

end Go.Proofs.Ytfokbdgiphphfaa
