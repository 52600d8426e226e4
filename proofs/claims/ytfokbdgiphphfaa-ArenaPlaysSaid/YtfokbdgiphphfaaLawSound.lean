/- The law ArenaSound, as a run: true for every list of calls. No condition beyond the hypotheses. -/
import Derived.Test.YtfokbdgiphphfaaCopy2
import Derived.Test.YtfokbdgiphphfaaAbs30
namespace Go.Proofs.Ytfokbdgiphphfaa
open Go Go.Abs Go.RowKit

/-- What the loop keeps: an arena of our own whose words may all stand. -/
structure Held (B : Nat) (σ : AS) (A : Nat) (max : Int) : Prop where
  from' : B ≤ A
  ex : ∃ v ws, Arn true σ A v ws max ∧ bads ws = none ∧ ∀ b, slBase v = some b → B ≤ b

theorem foot_from {B A : Nat} {v : Value} (hA : B ≤ A) (hv : ∀ b, slBase v = some b → B ≤ b) : ∀ i, foot A v i → From B i := fun i hi => by
  rcases hi with rfl | hi
  · exact hA
  · exact hv i hi

theorem nil_from {B : Nat} : ∀ i, Nil i → From B i := fun _ h => h.elim

theorem moved_from {B : Nat} {σ : AS} {v v' : Value} (h : Moved σ v v') (hv : ∀ b, slBase v = some b → B ≤ b) (hn : B ≤ σ.next) : ∀ b, slBase v' = some b → B ≤ b := fun b hb => by
  rcases h with h | h
  · exact hv b (by rw [← h]; exact hb)
  · exact Nat.le_trans hn (h b hb)

theorem sound_switch (n B : Nat) (σ : AS) (hw : Wf σ) (hB : B ≤ σ.next) {O A l i : Nat} {s u : Value} {k x y : Int} {xs : List Int} (hO : σ.heap.get O = some (.cells (opCells k x y u) 0 false)) (ha : Held B σ A 500) (hu : WordsOf B σ u xs) (hy : U64 y) (hxu : ∀ w ∈ xs, U64 w) (hl : xs.length ≤ 600) (hn : 65536 < n) :
    ∃ τ, BlockOk Try.prog (acall Try.prog (n + 8)) (n + 8) 5 2 (ntOf Try.prog 5) [2, 3, 6, 20, 21, 22, 36] [.bool false, ptrTo A, ptrTo O, s, .int .i64 l, .int .i64 i, .int .i64 k] σ .normal [.bool false, ptrTo A, ptrTo O, s, .int .i64 l, .int .i64 i, .int .i64 k] τ ∧
      Held B τ A 500 ∧ Fr (From B) σ τ := by
  have lx : ∀ j, aLoad Try.prog 3 (.pointer (some ⟨O, 1, none⟩)) (σ.up j) = some (.int .i64 x, σ.up j) := fun j => aLoad_cell (by kernel_rfl) (show (σ.up j).heap.get O = _ from hO) rfl
  have ly : ∀ j, aLoad Try.prog 29 (.pointer (some ⟨O, 2, none⟩)) (σ.up j) = some (.int .u64 y, σ.up j) := fun j => aLoad_cell (by kernel_rfl) (show (σ.up j).heap.get O = _ from hO) rfl
  obtain ⟨hA, vA, ws, ha, hb, hv⟩ := ha
  have hf := foot_from hA hv
  by_cases k0 : k = 0
  · obtain ⟨e, vB, τ, t1, t2, t3, t4, t5⟩ := alloc_ok (n + 4) (σ.up 10) (hw.up 10) (ha.up 10) x (by omega)
    exact ⟨τ, block_run (.yes k0 <| .val (lx 10) <| .up t1 .nil) (by kernel_rfl), ⟨hA, vB, _, t3, bads_alloc hb (by decide), moved_from t5 hv (by rw [AS.next_up]; omega)⟩, (t4.mono hf).start⟩
  by_cases k2 : k = 2
  · obtain ⟨e, τ, t1, t2, t3, t4⟩ := store_ok (n + 3) (σ.up 11) (hw.up 11) (ha.up 11) x y hy
    exact ⟨τ, block_run (.no k0 <| .yes k2 <| .val (lx 11) <| .val (ly 11) <| .up t1 .nil) (by kernel_rfl), ⟨hA, vA, _, t3, bads_store hb, hv⟩, (t4.mono hf).start⟩
  by_cases k5 : k = 5
  · have hOlt := hw.lt hO
    have g1 : FreshAt (σ.up 13) (σ.next + 7) := hw.fresh (by omega) (by omega)
    have g2 : FreshAt (σ.up 13) (σ.next + 10) := hw.fresh (by omega) (by omega)
    have l1 : aLoad Try.prog 22 (.pointer (some ⟨O, 3, none⟩)) ((σ.up 13).put (σ.next + 7) (.cells [] 0 false)) = some (u, (σ.up 13).put (σ.next + 7) (.cells [] 0 false)) :=
      aLoad_cell (by kernel_rfl) (by rw [AS.get_put_ne _ _ (by omega)]; exact hO) rfl
    have hu' : WordsOf B (σ.up 13) u xs := hu.fr ((Fr.refl hw).up 13)
    obtain ⟨z, τ1, t1, t2, t3, t4⟩ := copyW_ok (hw.up 13) hu' (by omega) g1 g2 (by omega)
    obtain ⟨e, vB, τ, t5, t6, t7, t8, t9⟩ := fill_ok (n + 1) τ1 t3.wf ((ha.up 13).nil t3) z xs t2.rd hxu (by omega)
    have hle := t3.le
    rw [AS.next_up] at hle
    refine ⟨τ, ?_, ⟨hA, vB, _, t7, bads_fill hb, moved_from t9 hv (by omega)⟩, (t3.start.mono nil_from).then (t8.mono hf)⟩
    rcases hu.2 with hr | ⟨r, rfl, _⟩
    · obtain ⟨bu, cu, rfl⟩ := rd_shape hr
      exact block_run (.no k0 <| .no k2 <| .yes k5 <| .new g1 <| .val l1 <| .up t1 <| .up t5 .nil) (by kernel_rfl)
    · exact block_run (.no k0 <| .no k2 <| .yes k5 <| .new g1 <| .val l1 <| .up t1 <| .up t5 .nil) (by kernel_rfl)
  · exact ⟨σ.up 6, block_run (.no k0 <| .no k2 <| .no k5 .nil) (by kernel_rfl), ⟨hA, vA, ws, ha.up 6, hb, hv⟩, (Fr.refl hw).up 6⟩

/-- A copy of a call, as an object of its own. -/
theorem op_put {σ : AS} (hw : Wf σ) {B O : Nat} {k x y : Int} {u : Value} {xs : List Int} (hu : WordsOf B σ u xs) (hO : FreshAt σ O) :
    ∃ τ, aStore Try.prog 43 (.agg #[.int .i64 k, .int .i64 x, .int .u64 y, u]) (ptrTo O) (σ.put O (.cells [.int .i64 0, .int .i64 0, .int .u64 0, .slice none 0 0] 0 false)) = some (undef, τ) ∧ τ.heap.get O = some (.cells (opCells k x y u) 0 false) ∧ Fr Nil σ τ := by
  have hx : (Value.agg #[.int .i64 k, .int .i64 x, .int .u64 y, u]).cells = #[.int .i64 k, .int .i64 x, .int .u64 y, u] := rfl
  refine ⟨_, aStore_cells (P := Try.prog) (t := 43) (b := O) (off := 0) (c := [.int .i64 0, .int .i64 0, .int .u64 0, .slice none 0 0]) (by rw [hx]; kernel_rfl) (by rw [hx]; show (true && (true && (true && (flat u && true)))) = true; rw [hu.flat.1]; rfl) (AS.get_put_same _ _ _) (Nat.le_refl 4), AS.get_put_same _ _ _, ?_⟩
  exact ((Fr.refl hw).put _ hO.2 (Or.inr (Or.inr hO.1)) hw).put _ hO.2 (Or.inr (Or.inr hO.1)) hw

theorem sound_round (n B : Nat) (τ : AS) (hw : Wf τ) (hB : B ≤ τ.next) {A i cap : Nat} {base : Option Addr} {os : List OpD} {o : OpD} (hs : Script B τ (.slice base os.length cap) os) (ho : os[i]? = some o) (ha : Held B τ A 500) (hi : i ≤ 300) (hn : 65536 < n) :
    ∃ e r z τ', RoundOk Try.prog (n + 8) 5 0 [2, 3, 20, 21, 22] [.bool false, ptrTo A, .slice base os.length cap, .int .i64 (os.length : Nat), .int .i64 i] τ e [.bool r, ptrTo A, .slice base os.length cap, .int .i64 (os.length : Nat), .int .i64 z] τ' ∧
      ((e = .ret ∧ r = true) ∨ (e = .normal ∧ i < 300 ∧ r = false ∧ z = ((i + 1 : Nat) : Int) ∧ Held B τ' A 500 ∧ Fr (From B) τ τ')) := by
  have hlt : i < os.length := (List.getElem?_eq_some_iff.1 ho).1
  obtain ⟨a, rfl⟩ := hs.place hlt
  have hin := hs.ops o (List.mem_of_getElem? ho)
  have s1 : ((i : Nat) : Int) < ((os.length : Nat) : Int) := by omega
  have s2 : ((i : Nat) : Int) = (i : Int) ∧ i < os.length := ⟨rfl, hlt⟩
  have s3 := (hs.fr ((Fr.refl hw).up 7)).load ho
  have s4 : FreshAt (τ.up 7) (τ.next + 4) := hw.fresh (by omega) (by omega)
  obtain ⟨k, x, y, u, xs⟩ := o
  have hy : U64 y := hin.y
  have hxu : ∀ w ∈ xs, U64 w := hin.w
  have hu : WordsOf B τ u xs := hin.u
  have s3' : aLoad Try.prog 43 (.pointer (some (addOff' a (timesOne i 4)))) (τ.up 7) = some (.agg #[.int .i64 k, .int .i64 x, .int .u64 y, u], τ.up 7) := s3
  have hu7 : WordsOf B (τ.up 7) u xs := hu.fr ((Fr.refl hw).up 7)
  clear s3 hin
  obtain ⟨τ1, s5, hO, f1⟩ := op_put (k := k) (x := x) (y := y) (hw.up 7) hu7 s4
  have f1' : Fr (From B) τ τ1 := f1.start.mono nil_from
  have hle1 := f1'.le
  have s6 : aLoad Try.prog 22 (.pointer (some ⟨τ.next + 4, 3, none⟩)) (τ1.up 8) = some (u, τ1.up 8) := aLoad_cell (by kernel_rfl) (show (τ1.up 8).heap.get (τ.next + 4) = _ from hO) rfl
  have s7 : aLoad Try.prog 3 (.pointer (some ⟨τ.next + 4, 0, none⟩)) (τ1.up 10) = some (.int .i64 k, τ1.up 10) := aLoad_cell (by kernel_rfl) (show (τ1.up 10).heap.get (τ.next + 4) = _ from hO) rfl
  by_cases h300 : (300 : Int) ≤ (i : Int)
  · refine ⟨.ret, true, i, τ1.up 9, ?_, Or.inl ⟨rfl, rfl⟩⟩
    exact round (.yes s1 <| .ix s2 <| .val s3' <| .new s4 <| .up s5 <| .yes h300 .nil) (by kernel_rfl)
  by_cases h600 : (600 : Int) < ((xs.length : Nat) : Int)
  · refine ⟨.ret, true, i, τ1.up 9, ?_, Or.inl ⟨rfl, rfl⟩⟩
    rcases hu.2 with hr | ⟨r, _, hr⟩
    · obtain ⟨bu, cu, rfl⟩ := rd_shape hr
      exact round (.yes s1 <| .ix s2 <| .val s3' <| .new s4 <| .up s5 <| .no h300 <| .val s6 <| .yes h600 .nil) (by kernel_rfl)
    · subst hr; simp at h600
  have ha1 : Held B (τ1.up 10) A 500 := by
    obtain ⟨hA, v, ws, h1, h2, h3⟩ := ha
    exact ⟨hA, v, ws, (h1.nil f1.start).up 10, h2, h3⟩
  obtain ⟨τ2, s8, ha2, f2⟩ := sound_switch n B (τ1.up 10) (f1.wf.up 10) (by rw [AS.next_up]; omega) (s := .slice (some a) os.length cap) (l := os.length) (i := i) hO ha1 (hu.fr (f1'.up 10)) hy hxu (by omega) hn
  obtain ⟨hA, v, ws, a2, b2, v2⟩ := ha2
  obtain ⟨e, τ3, s9, e9, f3⟩ := arn_check_ok (n + 1) (τ2.up 8) (f2.wf.up 8) (a2.up 8) (by omega)
  rw [b2] at e9
  cases e9
  have a3 := (a2.up 8).nil f3
  have s10 := top_ok (n + 7) τ3 a3
  have s11 : ¬ (500 : Int) < ((ws.length : Nat) : Int) := by have := a3.le; omega
  have s12 : IntKind.wrap .i64 ((i : Int) + 1) = ((i + 1 : Nat) : Int) := by rw [wrap_i64 (by unfold I64; omega)]; omega
  refine ⟨.normal, false, _, (τ3.up 9).up 2, ?_, Or.inr ⟨rfl, by omega, rfl, rfl, ⟨hA, v, ws, (a3.up 9).up 2, b2, v2⟩, ((f1'.then f2.start).then ((f3.start.mono nil_from))).up 11⟩⟩
  rcases hu.2 with hr | ⟨r, hr, _⟩
  · obtain ⟨bu, cu, rfl⟩ := rd_shape hr
    exact round (.yes s1 <| .ix s2 <| .val s3' <| .new s4 <| .up s5 <| .no h300 <| .val s6 <| .no h600 <| .val s7 <| .block s8 <| .up s9 <| .up s10 <| .no s11 <| .num s12 .nil) (by kernel_rfl)
  · subst hr
    exact round (.yes s1 <| .ix s2 <| .val s3' <| .new s4 <| .up s5 <| .no h300 <| .val s6 <| .val s7 <| .block s8 <| .up s9 <| .up s10 <| .no s11 <| .num s12 .nil) (by kernel_rfl)

theorem sound_run (n : Nat) (σ : AS) (hw : Wf σ) (v : Value) (os : List OpD) (hs : Script σ.next σ v os) (hn : 65536 < n) :
    ∃ σ', acall Try.prog (n + 9) (.func 5) #[v] σ = some (.bool true, σ') := by
  obtain ⟨base, cap, rfl⟩ := hs.shape
  obtain ⟨τ1, t1, f1⟩ := lives_ok (n + 3) (σ.up 3) (hw.up 3) (by omega)
  obtain ⟨A, τ2, t2, a2, f2, hA⟩ := new_ok (n + 6) (τ1.up 6) (f1.wf.up 6) 500 (by omega) (by omega)
  have F2 : Fr (From σ.next) σ τ2 := (f1.start.mono nil_from).then (f2.start.mono nil_from)
  have hle1 := f1.start.le
  rw [AS.next_up] at hA
  have hloop := loop_block (P := Try.prog) (n := n + 8) (f := 5) (id := 0) (slots := [2, 3, 20, 21, 22])
    (fun j vals τ => ∃ i : Nat, i + j = 300 ∧ i ≤ os.length ∧ vals = [.bool false, ptrTo A, .slice base os.length cap, .int .i64 (os.length : Nat), .int .i64 i] ∧ Held σ.next τ A 500 ∧ Fr (From σ.next) σ τ)
    (fun e vals τ => ∃ z, (e = .ret ∧ vals = [.bool true, ptrTo A, .slice base os.length cap, .int .i64 (os.length : Nat), .int .i64 z]) ∨
      (e = .normal ∧ vals = [.bool false, ptrTo A, .slice base os.length cap, .int .i64 (os.length : Nat), .int .i64 z] ∧ Held σ.next τ A 500 ∧ Fr (From σ.next) σ τ))
    (by
      rintro j vals τ ⟨i, hij, hil, rfl, ha, hf⟩
      by_cases hi : i < os.length
      · obtain ⟨o, ho⟩ : ∃ o, os[i]? = some o := ⟨os[i], List.getElem?_eq_getElem hi⟩
        obtain ⟨e, r, z, τ', h1, h2⟩ := sound_round n σ.next τ hf.wf hf.le (hs.fr hf) ho ha (by omega) hn
        refine ⟨e, _, τ', h1, ?_⟩
        rcases h2 with ⟨rfl, rfl⟩ | ⟨rfl, h3, rfl, rfl, h4, h5⟩
        · exact Or.inr ⟨by simp, z, Or.inl ⟨rfl, rfl⟩⟩
        · exact Or.inl ⟨rfl, j - 1, by omega, i + 1, by omega, by omega, rfl, h4, hf.then h5⟩
      · have s1 : ¬ ((i : Nat) : Int) < ((os.length : Nat) : Int) := by omega
        obtain ⟨hA, v, ws, h1, h2, h3⟩ := ha
        exact ⟨.exit 0, _, τ.up 1, round (.no s1 .nil) (by kernel_rfl), Or.inr ⟨by simp, i, Or.inr ⟨rfl, rfl, ⟨hA, v, ws, h1.up 1, h2, h3⟩, hf.up 1⟩⟩⟩)
    (j := 300) (vals := [.bool false, ptrTo A, .slice base os.length cap, .int .i64 (os.length : Nat), .int .i64 0]) (σ := τ2.up 9)
    ⟨0, by omega, by omega, rfl, ⟨by omega, _, _, a2.up 9, by decide, fun b hb => by cases hb⟩, F2.up 9⟩ (by omega)
  obtain ⟨e, vals, τ3, t3, z, ⟨rfl, rfl⟩ | ⟨rfl, rfl, ⟨hA', w, ws, a3, b3, v3⟩, f3⟩⟩ := hloop
  · exact ⟨τ3, run (.up t1 <| .up t2 <| .block t3 .nil) (by kernel_rfl)⟩
  · obtain ⟨w1, τ4, t4, s4, f4, _⟩ := words_ok (n + 6) (τ3.up 3) (f3.wf.up 3) (a3.up 3)
    have a4 := (a3.up 3).nil f4
    obtain ⟨w2, τ5, t5, s5, f5, _⟩ := words_ok (n + 6) (τ4.up 12) (f4.wf.up 12) (a4.up 12)
    have hl := a3.le
    have s4' : Rd 1 τ5 w1 (u64s ws) := (s4.rd.of_get (σ' := τ4.up 12) fun _ _ => rfl).fr f5 fun _ _ h => h
    obtain ⟨τ6, t6, f6⟩ := same_ok (n + 6) τ5 _ _ ws f5.wf s4' s5.rd (by omega) (by omega)
    have t7 := top_ok (n + 7) τ6 (((a4.up 12).nil f5).nil f6)
    obtain ⟨b1, c1, rfl⟩ := rd_shape s4.rd
    obtain ⟨b2, c2, rfl⟩ := rd_shape s5.rd
    have q : ((ws.length : Nat) : Int) = (ws.length : Int) := rfl
    exact ⟨τ6.up 9, run (.up t1 <| .up t2 <| .block t3 <| .up t4 <| .up t5 <| .up t6 <| .up t7 <| .yes q .nil) (by kernel_rfl)⟩

end Go.Proofs.Ytfokbdgiphphfaa
