/- One call on both arenas: they answer the same, and go on side by side. No condition beyond the hypotheses. -/
import Derived.Test.YtfokbdgiphphfaaTwo
namespace Go.Proofs.Ytfokbdgiphphfaa
open Go Go.Abs Go.RowKit

/-- Where a step leads. -/
def Stepped (n B : Nat) (σ : AS) (A D : Nat) (max : Int) (k x y : Int) (u : Value) : Prop :=
  ∃ va vd ws τ, acall Try.prog (n + 9) (.func 23) #[ptrTo A, ptrTo D, .agg #[.int .i64 k, .int .i64 x, .int .u64 y, u]] σ = some (.bool true, τ) ∧ Two B τ A va D vd ws max ∧ Fr (From B) σ τ

section
variable {n B : Nat} {σ : AS} {A D : Nat} {va vd : Value} {ws : List Int} {max : Int}

theorem op_fr (hw : Wf σ) (cs : List Value) : FreshAt (σ.up 2) σ.next ∧ Fr Nil σ ((σ.up 2).put σ.next (.cells cs 0 false)) ∧ ((σ.up 2).put σ.next (.cells cs 0 false)).heap.get σ.next = some (.cells cs 0 false) := by
  have g0 : FreshAt (σ.up 2) σ.next := hw.fresh (by omega) (by omega)
  exact ⟨g0, ((Fr.refl hw).up 2).put _ g0.2 (Or.inr (Or.inr g0.1)) hw, AS.get_put_same _ _ _⟩

/-- Of an operation's object: its cells. -/
theorem op_loads {s : AS} {O : Nat} {k x y : Int} {u : Value} (h : s.heap.get O = some (.cells (opCells k x y u) 0 false)) :
    aLoad Try.prog 3 (ptrTo O) s = some (.int .i64 k, s) ∧ aLoad Try.prog 3 (.pointer (some ⟨O, 1, none⟩)) s = some (.int .i64 x, s) ∧ aLoad Try.prog 29 (.pointer (some ⟨O, 2, none⟩)) s = some (.int .u64 y, s) ∧ aLoad Try.prog 22 (.pointer (some ⟨O, 3, none⟩)) s = some (u, s) :=
  ⟨aLoad_cell (by kernel_rfl) h rfl, aLoad_cell (by kernel_rfl) h rfl, aLoad_cell (by kernel_rfl) h rfl, aLoad_cell (by kernel_rfl) h rfl⟩

theorem step_load (hw : Wf σ) (hB : B ≤ σ.next) (h : Two B σ A va D vd ws max) (x y : Int) (u : Value) (hu : flat u = true ∧ u.cells = #[u]) (hul : (∃ b l c, u = .slice b l c) ∨ ∃ r, u = .chan (some r)) : Stepped n B σ A D max 1 x y u := by
  obtain ⟨g0, f0, hO⟩ := op_fr hw (opCells 1 x y u)
  have hs2 : ((σ.up 2).put σ.next (.cells (opCells 1 x y u) 0 false)).next = σ.next + 2 := rfl
  have h0 := h.nil f0
  generalize hs : (σ.up 2).put σ.next (.cells (opCells 1 x y u) 0 false) = s at f0 hO hs2 h0
  have l0 := (op_loads (s := s.up 2) hO).1
  have l1 := (op_loads (s := s.up 15) hO).2.1
  obtain ⟨e, τ1, t1, e1, f1⟩ := load_ok (n + 6) (s.up 15) (f0.wf.up 15) (h0.pa.up 15) x
  have h1 := (h0.up 15).nil f1
  have hO1 := f1.same _ _ (show (s.up 15).heap.get σ.next = _ from hO) id
  have l2 := (op_loads (s := τ1.up 10) hO1).2.1
  obtain ⟨τ2, t2, f2⟩ := ref_load_ok (n + 5) (τ1.up 10) (f1.wf.up 10) (h1.pd.up 10) x
  have h2 := (h1.up 10).nil f2
  have hle2 := f2.le
  rw [AS.next_up] at hle2
  have g2 : FreshAt τ2 (τ1.next + 7) := ⟨call_low t2 (by rw [AS.next_up]; omega) (f1.wf.none (by omega)), by omega⟩
  obtain ⟨c, a, τ3, τ4, hc, p1, p2, p3, f3⟩ := compare (n + 5) 9 f2.wf g2 ((e1.nil (f2.start)).nil (Fr.refl f2.wf)) (fun c a hh => load_code hh)
  rw [hc] at t2
  have q : loadW ws x = loadW ws x := rfl
  refine ⟨va, vd, ws, τ4, ?_, h2.nil f3, ((f0.then f1.start).then (f2.start.then f3)).mono fun _ h => h.elim⟩
  subst hs
  rcases hul with ⟨b, l, cc, rfl⟩ | ⟨r, rfl⟩
  · exact run (.new g0 <| .val l0 <| .val l1 <| .up t1 <| .val l2 <| .up t2 <| .new g2 <| .up p1 <| .yes q <| .val p2 <| .up p3 .nil) (by kernel_rfl)
  · exact run (.new g0 <| .val l0 <| .val l1 <| .up t1 <| .val l2 <| .up t2 <| .new g2 <| .up p1 <| .yes q <| .val p2 <| .up p3 .nil) (by kernel_rfl)

theorem step_store (hw : Wf σ) (hB : B ≤ σ.next) (h : Two B σ A va D vd ws max) (x y : Int) (u : Value) (hy : U64 y) (hul : (∃ b l c, u = .slice b l c) ∨ ∃ r, u = .chan (some r)) : Stepped n B σ A D max 2 x y u := by
  obtain ⟨g0, f0, hO⟩ := op_fr hw (opCells 2 x y u)
  have h0 := h.nil f0
  have hnA : ¬ foot A va σ.next := fun hh => by have := h.pa.foot_lt hw _ hh; omega
  have hnD : ¬ foot D vd σ.next := fun hh => by have := h.pd.foot_lt hw _ hh; omega
  have hs2 : ((σ.up 2).put σ.next (.cells (opCells 2 x y u) 0 false)).next = σ.next + 2 := rfl
  generalize hs : (σ.up 2).put σ.next (.cells (opCells 2 x y u) 0 false) = s at f0 hO hs2 h0
  have l0 := (op_loads (s := s.up 2) hO).1
  obtain ⟨_, l1, l1', _⟩ := op_loads (s := s.up 15) hO
  obtain ⟨e, τ1, t1, e1, a1, f1⟩ := store_ok (n + 3) (s.up 15) (f0.wf.up 15) (h0.pa.up 15) x y hy
  obtain ⟨d1, fin⟩ := two_calls (f0.wf.up 15) (by rw [AS.next_up]; omega) (h0.up 15) a1 f1 (Or.inl rfl)
  have hO1 := f1.same _ _ (show (s.up 15).heap.get σ.next = _ from hO) hnA
  obtain ⟨_, l2, l2', _⟩ := op_loads (s := τ1.up 8) hO1
  obtain ⟨τ2, t2, d2, f2⟩ := ref_store_ok (n + 2) (τ1.up 8) (f1.wf.up 8) (d1.up 8) x y hy
  obtain ⟨h2, F2⟩ := fin d2 (If.all f2).start (Or.inl rfl)
  have hle2 := f2.le
  rw [AS.next_up] at hle2
  have g2 : FreshAt τ2 (τ1.next + 6) := ⟨call_low t2 (by rw [AS.next_up]; omega) (f1.wf.none (by omega)), by omega⟩
  obtain ⟨c, a, τ3, τ4, hc, p1, p2, p3, f3⟩ := compare (n + 5) 4 f2.wf g2 (If.err f2 (show ErrOf (τ1.up 8) e _ from e1.nil ((Fr.refl f1.wf).up 8))) (fun c a hh => store_code hh)
  rw [hc] at t2
  refine ⟨va, vd, _, τ4, ?_, h2.nil f3, (f0.mono nil_from).then (F2.start.then (f3.mono nil_from))⟩
  subst hs
  rcases hul with ⟨b, l, cc, rfl⟩ | ⟨r, rfl⟩
  · exact run (.new g0 <| .val l0 <| .val l1 <| .val l1' <| .up t1 <| .val l2 <| .val l2' <| .up t2 <| .new g2 <| .up p1 <| .val p2 <| .up p3 .nil) (by kernel_rfl)
  · exact run (.new g0 <| .val l0 <| .val l1 <| .val l1' <| .up t1 <| .val l2 <| .val l2' <| .up t2 <| .new g2 <| .up p1 <| .val p2 <| .up p3 .nil) (by kernel_rfl)

theorem step_cut (hw : Wf σ) (hB : B ≤ σ.next) (h : Two B σ A va D vd ws max) (x y : Int) (u : Value) (hul : (∃ b l c, u = .slice b l c) ∨ ∃ r, u = .chan (some r)) : Stepped n B σ A D max 3 x y u := by
  obtain ⟨g0, f0, hO⟩ := op_fr hw (opCells 3 x y u)
  have h0 := h.nil f0
  have hnA : ¬ foot A va σ.next := fun hh => by have := h.pa.foot_lt hw _ hh; omega
  have hs2 : ((σ.up 2).put σ.next (.cells (opCells 3 x y u) 0 false)).next = σ.next + 2 := rfl
  generalize hs : (σ.up 2).put σ.next (.cells (opCells 3 x y u) 0 false) = s at f0 hO hs2 h0
  have l0 := (op_loads (s := s.up 2) hO).1
  obtain ⟨_, l1, _, _⟩ := op_loads (s := s.up 15) hO
  obtain ⟨e, va1, τ1, t1, e1, a1, f1, m1⟩ := cut_ok (n + 6) (s.up 15) (f0.wf.up 15) (h0.pa.up 15) x
  obtain ⟨d1, fin⟩ := two_calls (f0.wf.up 15) (by rw [AS.next_up]; omega) (h0.up 15) a1 f1 m1
  have hO1 := f1.same _ _ (show (s.up 15).heap.get σ.next = _ from hO) hnA
  obtain ⟨_, l2, _, _⟩ := op_loads (s := τ1.up 6) hO1
  obtain ⟨vd2, τ2, t2, d2, f2, m2⟩ := ref_cut_ok (n + 6) (τ1.up 6) (f1.wf.up 6) (d1.up 6) x
  obtain ⟨h2, F2⟩ := fin d2 (If.all f2).start m2.start
  have hle2 := f2.le
  rw [AS.next_up] at hle2
  have g2 : FreshAt τ2 (τ1.next + 4) := ⟨call_low t2 (by rw [AS.next_up]; omega) (f1.wf.none (by omega)), by omega⟩
  obtain ⟨c, a, τ3, τ4, hc, p1, p2, p3, f3⟩ := compare (n + 5) 4 f2.wf g2 (If.err f2 (show ErrOf (τ1.up 6) e _ from e1.nil ((Fr.refl f1.wf).up 6))) (fun c a hh => cut_code hh)
  rw [hc] at t2
  refine ⟨va1, vd2, _, τ4, ?_, h2.nil f3, (f0.mono nil_from).then (F2.start.then (f3.mono nil_from))⟩
  subst hs
  rcases hul with ⟨b, l, cc, rfl⟩ | ⟨r, rfl⟩
  · exact run (.new g0 <| .val l0 <| .val l1 <| .up t1 <| .val l2 <| .up t2 <| .new g2 <| .up p1 <| .val p2 <| .up p3 .nil) (by kernel_rfl)
  · exact run (.new g0 <| .val l0 <| .val l1 <| .up t1 <| .val l2 <| .up t2 <| .new g2 <| .up p1 <| .val p2 <| .up p3 .nil) (by kernel_rfl)

theorem step_words (hw : Wf σ) (h : Two B σ A va D vd ws max) (x y : Int) (u : Value) (hul : (∃ b l c, u = .slice b l c) ∨ ∃ r, u = .chan (some r)) (hn : 65536 < n) : Stepped n B σ A D max 4 x y u := by
  obtain ⟨g0, f0, hO⟩ := op_fr hw (opCells 4 x y u)
  have h0 := h.nil f0
  generalize hs : (σ.up 2).put σ.next (.cells (opCells 4 x y u) 0 false) = s at f0 hO h0
  have l0 := (op_loads (s := s.up 2) hO).1
  obtain ⟨w1, τ1, t1, s1, f1, _⟩ := words_ok (n + 6) (s.up 20) (f0.wf.up 20) (h0.pa.up 20)
  have h1 := (h0.up 20).nil f1
  have l1 := h1.pd.ref_words
  have l2 := (h0.up 20).pd.ref_words
  have hle := h.pa.le
  have hmx := h.pa.mx
  obtain ⟨τ2, t2, f2⟩ := same_ok (n + 6) τ1 w1 vd ws f1.wf s1.rd h1.pd.sl.rd (by omega) (by omega)
  obtain ⟨b2, c2, rfl⟩ := h.pd.shape
  refine ⟨va, _, ws, τ2, ?_, h1.nil f2, (f0.then (f1.start.then f2)).mono nil_from⟩
  subst hs
  rcases hul with ⟨b, l, cc, rfl⟩ | ⟨r, rfl⟩
  · exact run (.new g0 <| .val l0 <| .up t1 <| .val l1 <| .up t2 <| .also l2 .nil) (by kernel_rfl)
  · exact run (.new g0 <| .val l0 <| .up t1 <| .val l1 <| .up t2 <| .also l2 .nil) (by kernel_rfl)

theorem step_check (hw : Wf σ) (h : Two B σ A va D vd ws max) (x y : Int) (u : Value) (hul : (∃ b l c, u = .slice b l c) ∨ ∃ r, u = .chan (some r)) (hn : 65536 < n) : Stepped n B σ A D max 6 x y u := by
  obtain ⟨g0, f0, hO⟩ := op_fr hw (opCells 6 x y u)
  have h0 := h.nil f0
  generalize hs : (σ.up 2).put σ.next (.cells (opCells 6 x y u) 0 false) = s at f0 hO h0
  have l0 := (op_loads (s := s.up 2) hO).1
  obtain ⟨e, τ1, t1, e1, f1⟩ := arn_check_ok (n + 1) (s.up 25) (f0.wf.up 25) (h0.pa.up 25) (by omega)
  have h1 := (h0.up 25).nil f1
  have l1 := h1.pd.ref_words
  have l2 := (h0.up 25).pd.ref_words
  have hle := h.pa.le
  have hmx := h.pa.mx
  obtain ⟨τ2, t2, f2⟩ := check_ref (n + 1) τ1 vd ws f1.wf h1.pd.sl.rd h.pd.words (by omega) (by omega)
  obtain ⟨c, a, hc⟩ := fvOf_shape (bads ws)
  obtain ⟨τ3, t3, f3⟩ := is_same (n + 5) τ2 e (bads ws) f2.wf (e1.nil f2) (fun c a hh => bads_code' hh)
  rw [hc] at t2 t3
  obtain ⟨b2, c2, rfl⟩ := h.pd.shape
  refine ⟨va, _, ws, τ3, ?_, (h1.nil f2).nil f3, (f0.then (f1.start.then (f2.then f3))).mono nil_from⟩
  subst hs
  rcases hul with ⟨b, l, cc, rfl⟩ | ⟨r, rfl⟩
  · exact run (.new g0 <| .val l0 <| .up t1 <| .val l1 <| .up t2 <| .up t3 <| .also l2 .nil) (by kernel_rfl)
  · exact run (.new g0 <| .val l0 <| .up t1 <| .val l1 <| .up t2 <| .up t3 <| .also l2 .nil) (by kernel_rfl)

theorem step_other (hw : Wf σ) (h : Two B σ A va D vd ws max) (k x y : Int) (u : Value) (hul : (∃ b l c, u = .slice b l c) ∨ ∃ r, u = .chan (some r)) (k0 : ¬ k = 0) (k1 : ¬ k = 1) (k2 : ¬ k = 2) (k3 : ¬ k = 3) (k4 : ¬ k = 4) (k5 : ¬ k = 5) (k6 : ¬ k = 6) : Stepped n B σ A D max k x y u := by
  obtain ⟨g0, f0, hO⟩ := op_fr hw (opCells k x y u)
  have h0 := h.nil f0
  generalize hs : (σ.up 2).put σ.next (.cells (opCells k x y u) 0 false) = s at f0 hO h0
  have l0 := (op_loads (s := s.up 2) hO).1
  refine ⟨va, vd, ws, s.up 17, ?_, h0.up 17, (f0.up 17).mono nil_from⟩
  subst hs
  rcases hul with ⟨b, l, cc, rfl⟩ | ⟨r, rfl⟩
  · exact run (.new g0 <| .val l0 <| .no k0 <| .no k1 <| .no k2 <| .no k3 <| .no k4 <| .no k5 <| .no k6 .nil) (by kernel_rfl)
  · exact run (.new g0 <| .val l0 <| .no k0 <| .no k1 <| .no k2 <| .no k3 <| .no k4 <| .no k5 <| .no k6 .nil) (by kernel_rfl)

theorem step_alloc (hw : Wf σ) (hB : B ≤ σ.next) (h : Two B σ A va D vd ws max) (x y : Int) (u : Value) (hul : (∃ b l c, u = .slice b l c) ∨ ∃ r, u = .chan (some r)) (hn : 65536 < n) : Stepped n B σ A D max 0 x y u := by
  obtain ⟨g0, f0, hO⟩ := op_fr hw (opCells 0 x y u)
  have h0 := h.nil f0
  have hs2 : ((σ.up 2).put σ.next (.cells (opCells 0 x y u) 0 false)).next = σ.next + 2 := rfl
  generalize hs : (σ.up 2).put σ.next (.cells (opCells 0 x y u) 0 false) = s at f0 hO hs2 h0
  have l0 := (op_loads (s := s.up 2) hO).1
  have l1 := (op_loads (s := s.up 7) hO).2.1
  have l2 := (h0.up 17).pd.ref_max
  have core : ∀ (j : Nat) (z : Int), ∃ e va1 τ1 c a τ2 τ3 τ4 vd2, acall Try.prog (n + 8) (.func 15) #[ptrTo A, .int .i64 z] (s.up j) = some (.tuple #[.int .i64 (allocV max ws.length z), e], τ1) ∧
      acall Try.prog (n + 8) (.func 32) #[ptrTo D, .int .i64 z] (τ1.up 9) = some (.tuple #[.int .i64 (allocV max ws.length z), fv c a], τ2) ∧ FreshAt τ2 (τ1.next + 6) ∧
      aStore Try.prog 52 (fv c a) (ptrTo (τ1.next + 6)) (τ2.put (τ1.next + 6) (fvObj 0 0)) = some (undef, τ3) ∧ aLoad Try.prog 52 (ptrTo (τ1.next + 6)) (τ3.up 9) = some (fv c a, τ3.up 9) ∧
      acall Try.prog (n + 8) (.func 21) #[e, fv c a] (τ3.up 9) = some (.bool true, τ4) ∧ Two B τ4 A va1 D vd2 (allocW max ws z) max ∧ Fr (From B) σ τ4 := by
    intro j z
    obtain ⟨e, va1, τ1, t1, e1, a1, f1, m1⟩ := alloc_ok (n + 4) (s.up j) (f0.wf.up j) (h0.pa.up j) z (by omega)
    obtain ⟨d1, fin⟩ := two_calls (f0.wf.up j) (by rw [AS.next_up]; omega) (h0.up j) a1 f1 m1
    obtain ⟨vd2, τ2, t2, d2, f2, m2⟩ := ref_alloc_ok (n + 5) (τ1.up 9) (f1.wf.up 9) (d1.up 9) z (by omega)
    obtain ⟨h2, F2⟩ := fin d2 (If.all f2).start m2.start
    have hle2 := f2.le
    rw [AS.next_up] at hle2
    have g2 : FreshAt τ2 (τ1.next + 6) := ⟨call_low t2 (by rw [AS.next_up]; omega) (f1.wf.none (by omega)), by omega⟩
    obtain ⟨c, a, τ3, τ4, hc, p1, p2, p3, f3⟩ := compare (n + 5) 9 f2.wf g2 (If.err f2 (show ErrOf (τ1.up 9) e _ from e1.nil ((Fr.refl f1.wf).up 9))) (fun c a hh => alloc_code hh)
    rw [hc] at t2
    exact ⟨e, va1, τ1, c, a, τ2, τ3, τ4, vd2, t1, t2, g2, p1, p2, p3, h2.nil f3, (f0.mono nil_from).then (F2.start.then (f3.mono nil_from))⟩
  by_cases h1 : (3000 : Int) < x
  · by_cases h2 : x ≤ max
    · obtain ⟨e, va1, τ1, c, a, τ2, τ3, τ4, vd2, t1, t2, g2, p1, p2, p3, H, F⟩ := core 26 3000
      have q : allocV max ws.length 3000 = allocV max ws.length 3000 := rfl
      refine ⟨va1, vd2, _, τ4, ?_, H, F⟩
      subst hs
      rcases hul with ⟨b, l, cc, rfl⟩ | ⟨r, rfl⟩
      · exact run (.new g0 <| .val l0 <| .val l1 <| .yes h1 <| .val l2 <| .yes h2 <| .up t1 <| .up t2 <| .new g2 <| .up p1 <| .yes q <| .val p2 <| .up p3 .nil) (by kernel_rfl)
      · exact run (.new g0 <| .val l0 <| .val l1 <| .yes h1 <| .val l2 <| .yes h2 <| .up t1 <| .up t2 <| .new g2 <| .up p1 <| .yes q <| .val p2 <| .up p3 .nil) (by kernel_rfl)
    · obtain ⟨e, va1, τ1, c, a, τ2, τ3, τ4, vd2, t1, t2, g2, p1, p2, p3, H, F⟩ := core 25 x
      have q : allocV max ws.length x = allocV max ws.length x := rfl
      refine ⟨va1, vd2, _, τ4, ?_, H, F⟩
      subst hs
      rcases hul with ⟨b, l, cc, rfl⟩ | ⟨r, rfl⟩
      · exact run (.new g0 <| .val l0 <| .val l1 <| .yes h1 <| .val l2 <| .no h2 <| .up t1 <| .up t2 <| .new g2 <| .up p1 <| .yes q <| .val p2 <| .up p3 .nil) (by kernel_rfl)
      · exact run (.new g0 <| .val l0 <| .val l1 <| .yes h1 <| .val l2 <| .no h2 <| .up t1 <| .up t2 <| .new g2 <| .up p1 <| .yes q <| .val p2 <| .up p3 .nil) (by kernel_rfl)
  · obtain ⟨e, va1, τ1, c, a, τ2, τ3, τ4, vd2, t1, t2, g2, p1, p2, p3, H, F⟩ := core 25 x
    have q : allocV max ws.length x = allocV max ws.length x := rfl
    refine ⟨va1, vd2, _, τ4, ?_, H, F⟩
    subst hs
    rcases hul with ⟨b, l, cc, rfl⟩ | ⟨r, rfl⟩
    · exact run (.new g0 <| .val l0 <| .val l1 <| .no h1 <| .up t1 <| .up t2 <| .new g2 <| .up p1 <| .yes q <| .val p2 <| .up p3 .nil) (by kernel_rfl)
    · exact run (.new g0 <| .val l0 <| .val l1 <| .no h1 <| .up t1 <| .up t2 <| .new g2 <| .up p1 <| .yes q <| .val p2 <| .up p3 .nil) (by kernel_rfl)
end

end Go.Proofs.Ytfokbdgiphphfaa
