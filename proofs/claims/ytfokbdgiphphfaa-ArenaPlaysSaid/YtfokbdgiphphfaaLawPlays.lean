/- The law ArenaPlays, as a run: true for every size and every list of calls. No condition beyond the hypotheses. -/
import Derived.Test.YtfokbdgiphphfaaStepFill
namespace Go.Proofs.Ytfokbdgiphphfaa
open Go Go.Abs Go.RowKit

theorem WordsOf.kind {B : Nat} {σ : AS} {u : Value} {xs : List Int} (h : WordsOf B σ u xs) : (∃ b l c, u = .slice b l c) ∨ ∃ r, u = .chan (some r) := by
  rcases h.2 with h | ⟨r, h, _⟩
  · obtain ⟨b, c, h⟩ := rd_shape h
    exact Or.inl ⟨b, _, c, h⟩
  · exact Or.inr ⟨r, h⟩

theorem step_ok {n B : Nat} {σ : AS} {A D : Nat} {va vd : Value} {ws : List Int} {max : Int} (hw : Wf σ) (hB : B ≤ σ.next) (h : Two B σ A va D vd ws max) (k x y : Int) (u : Value) (xs : List Int) (hy : U64 y) (hu : WordsOf B σ u xs) (hxu : ∀ w ∈ xs, U64 w) (hl : xs.length ≤ 4000) (hn : 100000 ≤ n) : Stepped n B σ A D max k x y u := by
  by_cases k0 : k = 0
  · subst k0; exact step_alloc hw hB h x y u hu.kind (by omega)
  by_cases k1 : k = 1
  · subst k1; exact step_load hw hB h x y u hu.flat hu.kind
  by_cases k2 : k = 2
  · subst k2; exact step_store hw hB h x y u hy hu.kind
  by_cases k3 : k = 3
  · subst k3; exact step_cut hw hB h x y u hu.kind
  by_cases k4 : k = 4
  · subst k4; exact step_words hw h x y u hu.kind (by omega)
  by_cases k5 : k = 5
  · subst k5; exact step_fill hw hB h x y u xs hu hxu hl hn
  by_cases k6 : k = 6
  · subst k6; exact step_check hw h x y u hu.kind (by omega)
  exact step_other hw h k x y u hu.kind k0 k1 k2 k3 k4 k5 k6

theorem plays_round (n B : Nat) (τ : AS) (hw : Wf τ) (hB : B ≤ τ.next) {A D i cap : Nat} {base : Option Addr} {va vd : Value} {ws : List Int} {max : Int} {os : List OpD} {o : OpD} (hs : Script B τ (.slice base os.length cap) os) (ho : os[i]? = some o) (h : Two B τ A va D vd ws max) (hi : i < 400) (hn : 100000 ≤ n) :
    ∃ e r z τ', RoundOk Try.prog (n + 9) 7 0 [4, 5, 7, 41, 42, 43] [.bool false, ptrTo A, ptrTo D, .slice base os.length cap, .int .i64 (os.length : Nat), .int .i64 i] τ e [.bool r, ptrTo A, ptrTo D, .slice base os.length cap, .int .i64 (os.length : Nat), .int .i64 z] τ' ∧
      ((e = .ret ∧ r = true) ∨ (e = .normal ∧ r = false ∧ z = ((i + 1 : Nat) : Int) ∧ (∃ va vd ws, Two B τ' A va D vd ws max) ∧ Fr (From B) τ τ')) := by
  have hlt : i < os.length := (List.getElem?_eq_some_iff.1 ho).1
  obtain ⟨a, rfl⟩ := hs.place hlt
  have hin := hs.ops o (List.mem_of_getElem? ho)
  have s1 : ((i : Nat) : Int) < ((os.length : Nat) : Int) := by omega
  have s2 : ((i : Nat) : Int) = (i : Int) ∧ i < os.length := ⟨rfl, hlt⟩
  have s3 := (hs.fr ((Fr.refl hw).up 5)).load ho
  have s4 : FreshAt (τ.up 5) (τ.next + 3) := hw.fresh (by omega) (by omega)
  obtain ⟨k, x, y, u, xs⟩ := o
  have hy : U64 y := hin.y
  have hxu : ∀ w ∈ xs, U64 w := hin.w
  have hu : WordsOf B τ u xs := hin.u
  have s3' : aLoad Try.prog 43 (.pointer (some (addOff' a (timesOne i 4)))) (τ.up 5) = some (.agg #[.int .i64 k, .int .i64 x, .int .u64 y, u], τ.up 5) := s3
  have hu7 : WordsOf B (τ.up 5) u xs := hu.fr ((Fr.refl hw).up 5)
  clear s3 hin
  obtain ⟨τ1, s5, hO, f1⟩ := op_put (k := k) (x := x) (y := y) (hw.up 5) hu7 s4
  have f1' : Fr (From B) τ τ1 := f1.start.mono nil_from
  have hle1 := f1'.le
  have s6 : aLoad Try.prog 22 (.pointer (some ⟨τ.next + 3, 3, none⟩)) (τ1.up 4) = some (u, τ1.up 4) := aLoad_cell (by kernel_rfl) (show (τ1.up 4).heap.get (τ.next + 3) = _ from hO) rfl
  by_cases h4000 : (4000 : Int) < ((xs.length : Nat) : Int)
  · refine ⟨.ret, true, i, τ1.up 5, ?_, Or.inl ⟨rfl, rfl⟩⟩
    rcases hu.2 with hr | ⟨r, _, hr⟩
    · obtain ⟨bu, cu, rfl⟩ := rd_shape hr
      exact round (.yes s1 <| .ix s2 <| .val s3' <| .new s4 <| .up s5 <| .val s6 <| .yes h4000 .nil) (by kernel_rfl)
    · subst hr; simp at h4000
  have s7 : aLoad Try.prog 43 (ptrTo (τ.next + 3)) (τ1.up 23) = some (.agg #[.int .i64 k, .int .i64 x, .int .u64 y, u], τ1.up 23) :=
    aLoad_agg (n := 4) (c := opCells k x y u) (by kernel_rfl) (by kernel_rfl) (show (τ1.up 23).heap.get (τ.next + 3) = _ from hO) (Nat.le_refl 4)
  have h1 := h.nil f1.start
  obtain ⟨va2, vd2, ws2, τ2, s8, h2, f2⟩ := step_ok (n := n) (f1.wf.up 23) (by rw [AS.next_up]; omega) (h1.up 23) k x y u xs hy (hu.fr (f1'.up 23)) hxu (by omega) hn
  have s9 := top_ok (n + 8) τ2 h2.pa
  have h3 := h2.up 9
  have s10 := h3.pd.ref_words
  have s11 := max_ok (n + 8) (τ2.up 9) h3.pa
  have h4 := h3.up 8
  have s12 := h4.pd.ref_max
  have s13 := h2.pd.ref_words
  have s14 := h3.pd.ref_max
  have q1 : ((ws2.length : Nat) : Int) = (ws2.length : Int) := rfl
  have q2 : max = max := rfl
  have q3 : IntKind.wrap .i64 ((i : Int) + 1) = ((i + 1 : Nat) : Int) := by rw [wrap_i64 (by unfold I64; omega)]; omega
  refine ⟨.normal, false, _, ((τ2.up 9).up 8).up 2, ?_, Or.inr ⟨rfl, rfl, rfl, ⟨va2, vd2, ws2, h4.up 2⟩, (((f1'.then f2.start).up 9).up 8).up 2⟩⟩
  obtain ⟨bd, cd, rfl⟩ := h2.pd.shape
  rcases hu.2 with hr | ⟨r, hr, _⟩
  · obtain ⟨bu, cu, rfl⟩ := rd_shape hr
    exact round (.yes s1 <| .ix s2 <| .val s3' <| .new s4 <| .up s5 <| .val s6 <| .no h4000 <| .val s7 <| .up s8 <| .up s9 <| .val s10 <| .yes q1 <| .up s11 <| .val s12 <| .yes q2 <| .also s13 <| .also s14 <| .num q3 .nil) (by kernel_rfl)
  · subst hr
    exact round (.yes s1 <| .ix s2 <| .val s3' <| .new s4 <| .up s5 <| .val s6 <| .val s7 <| .up s8 <| .up s9 <| .val s10 <| .yes q1 <| .up s11 <| .val s12 <| .yes q2 <| .also s13 <| .also s14 <| .num q3 .nil) (by kernel_rfl)

theorem plays_run (n : Nat) (σ : AS) (hw : Wf σ) (v : Value) (os : List OpD) (m : Int) (hs : Script σ.next σ v os) (hn : 100000 ≤ n) :
    ∃ σ', acall Try.prog (n + 10) (.func 7) #[.int .i64 m, v] σ = some (.bool true, σ') := by
  obtain ⟨base, cap, rfl⟩ := hs.shape
  obtain ⟨τ1, t1, f1⟩ := lives_ok (n + 4) (σ.up 3) (hw.up 3) (by omega)
  have f1' : Fr Nil σ τ1 := f1.start
  -- behind the two arenas' making
  have core : ∀ (p e : Value) (τ2 : AS), acall Try.prog (n + 9) (.func 10) #[.int .i64 m] (τ1.up 7) = some (.tuple #[p, e], τ2) → ErrOf τ2 e (newF m) → Fr Nil (τ1.up 7) τ2 →
      ∃ c a τ3 τ4 τ5 τ6 τ7 τ8, fvOf (newF m) = fv c a ∧ acall Try.prog (n + 9) (.func 20) #[.int .i64 m] (τ2.up 9) = some (.tuple #[arV (if newF m = none then m else 0), fv c a], τ3) ∧ FreshAt τ3 (τ2.next + 5) ∧ FreshAt (τ3.put (τ2.next + 5) (arObj 0)) (τ2.next + 6) ∧
        aStore Try.prog 49 (arV (if newF m = none then m else 0)) (ptrTo (τ2.next + 5)) ((τ3.put (τ2.next + 5) (arObj 0)).put (τ2.next + 6) (fvObj 0 0)) = some (undef, τ4) ∧ aStore Try.prog 52 (fv c a) (ptrTo (τ2.next + 6)) τ4 = some (undef, τ5) ∧
        aLoad Try.prog 52 (ptrTo (τ2.next + 6)) (τ5.up 11) = some (fv c a, τ5.up 11) ∧ acall Try.prog (n + 9) (.func 21) #[e, fv c a] (τ5.up 11) = some (.bool true, τ6) ∧ aLoad Try.prog 52 (ptrTo (τ2.next + 6)) τ6 = some (fv c a, τ6) ∧ acall Try.prog (n + 9) (.func 22) #[fv c a] τ6 = some (.bool (decide (c ≠ 0)), τ7) ∧
        aLoad Try.prog 52 (ptrTo (τ2.next + 6)) (τ7.up 7) = some (fv c a, τ7.up 7) ∧ acall Try.prog (n + 9) (.func 22) #[fv c a] (τ7.up 7) = some (.bool (decide (c ≠ 0)), τ8) ∧ τ8.heap.get (τ2.next + 5) = some (arObj (if newF m = none then m else 0)) ∧ Fr Nil τ2 τ8 := by
    intro p e τ2 t2 e2 f2
    obtain ⟨τ3, t3, f3⟩ := ref_new_ok (n + 7) (τ2.up 9) (f2.wf.up 9) m
    obtain ⟨c, a, hc⟩ := fvOf_shape (newF m)
    rw [hc] at t3
    have hle3 := f3.le
    rw [AS.next_up] at hle3
    have g1 : FreshAt τ3 (τ2.next + 5) := ⟨call_low t3 (by rw [AS.next_up]; omega) (f2.wf.none (by omega)), by omega⟩
    have g2 : FreshAt (τ3.put (τ2.next + 5) (arObj 0)) (τ2.next + 6) := ⟨by rw [AS.get_put_ne _ _ (by omega)]; exact call_low t3 (by rw [AS.next_up]; omega) (f2.wf.none (by omega)), by rw [AS.next_put]; omega⟩
    have k1 : ((τ3.put (τ2.next + 5) (arObj 0)).put (τ2.next + 6) (fvObj 0 0)).heap.get (τ2.next + 5) = some (arObj 0) := by rw [AS.get_put_ne _ _ (by omega)]; exact AS.get_put_same _ _ _
    have k2 : ((τ3.put (τ2.next + 5) (arObj 0)).put (τ2.next + 6) (fvObj 0 0)).heap.get (τ2.next + 6) = some (fvObj 0 0) := AS.get_put_same _ _ _
    have p1 := store_ar (m' := if newF m = none then m else 0) k1
    have F4 : Fr Nil τ2 (((τ3.put (τ2.next + 5) (arObj 0)).put (τ2.next + 6) (fvObj 0 0)).put (τ2.next + 5) (arObj (if newF m = none then m else 0))) := ((f3.start.put _ g1.2 (Or.inr (Or.inl (by omega))) f2.wf).put _ g2.2 (Or.inr (Or.inl (by omega))) f2.wf).put _ g1.2 (Or.inr (Or.inl (by omega))) f2.wf
    have k3 : (((τ3.put (τ2.next + 5) (arObj 0)).put (τ2.next + 6) (fvObj 0 0)).put (τ2.next + 5) (arObj (if newF m = none then m else 0))).heap.get (τ2.next + 6) = some (fvObj 0 0) := by rw [AS.get_put_ne _ _ (by omega)]; exact k2
    have k4 : (((τ3.put (τ2.next + 5) (arObj 0)).put (τ2.next + 6) (fvObj 0 0)).put (τ2.next + 5) (arObj (if newF m = none then m else 0))).heap.get (τ2.next + 5) = some (arObj (if newF m = none then m else 0)) := AS.get_put_same _ _ _
    generalize hs4 : ((τ3.put (τ2.next + 5) (arObj 0)).put (τ2.next + 6) (fvObj 0 0)).put (τ2.next + 5) (arObj (if newF m = none then m else 0)) = τ4 at p1 F4 k3 k4
    have p2 := store_fv (c' := c) (a' := a) k3
    have F5 : Fr Nil τ2 (τ4.put (τ2.next + 6) (fvObj c a)) := F4.put _ (F4.wf.lt k3) (Or.inr (Or.inl (by omega))) f2.wf
    have k5 : (τ4.put (τ2.next + 6) (fvObj c a)).heap.get (τ2.next + 6) = some (fvObj c a) := AS.get_put_same _ _ _
    have k6 : (τ4.put (τ2.next + 6) (fvObj c a)).heap.get (τ2.next + 5) = some (arObj (if newF m = none then m else 0)) := by rw [AS.get_put_ne _ _ (by omega)]; exact k4
    generalize hs5 : τ4.put (τ2.next + 6) (fvObj c a) = τ5 at p2 F5 k5 k6
    have l1 := load_fv (show (τ5.up 11).heap.get (τ2.next + 6) = some (fvObj c a) from k5)
    obtain ⟨τ6, p3, f6⟩ := is_same (n + 6) (τ5.up 11) e (newF m) (F5.wf.up 11) (e2.nil (F5.up 11)) (fun c a hh => by
      unfold newF at hh
      split at hh
      · cases hh; decide
      · cases hh)
    rw [hc] at p3
    have k7 := f6.same _ _ (show (τ5.up 11).heap.get (τ2.next + 6) = _ from k5) id
    have l2 := load_fv k7
    obtain ⟨τ7, p4, f7⟩ := bad_ok (n + 8) τ6 f6.wf c a
    have k8 := f7.same _ _ k7 id
    have l3 := load_fv (show (τ7.up 7).heap.get (τ2.next + 6) = some (fvObj c a) from k8)
    obtain ⟨τ8, p5, f8⟩ := bad_ok (n + 8) (τ7.up 7) (f7.wf.up 7) c a
    exact ⟨c, a, τ3, τ4, τ5, τ6, τ7, τ8, hc, t3, g1, g2, p1, p2, l1, p3, l2, p4, l3, p5, f8.same _ _ (show (τ7.up 7).heap.get (τ2.next + 5) = _ from f7.same _ _ (f6.same _ _ (show (τ5.up 11).heap.get (τ2.next + 5) = _ from k6) id) id) id, F5.then (f6.start.then (f7.then f8.start))⟩
  by_cases hm : m < 1 ∨ 65536 < m
  · obtain ⟨e, τ2, t2, e2, f2⟩ := new_no (n + 7) (τ1.up 7) (f1.wf.up 7) m hm
    have hF : newF m = some (20, m) := by rw [newF, if_pos hm]
    obtain ⟨c, a, τ3, τ4, τ5, τ6, τ7, τ8, hc, t3, g1, g2, p1, p2, l1, p3, l2, p4, l3, p5, k8, F8⟩ := core _ e τ2 t2 (by rw [hF]; exact e2) f2
    rw [hF] at hc t3 p1
    cases hc
    exact ⟨τ8.up 1, run (.up t1 <| .up t2 <| .up t3 <| .new g1 <| .new g2 <| .up p1 <| .up p2 <| .val l1 <| .up p3 <| .val l2 <| .up p4 <| .val l3 <| .up p5 .nil) (by kernel_rfl)⟩
  · obtain ⟨A, τ2, t2, a2, f2, hA⟩ := new_ok (n + 7) (τ1.up 7) (f1.wf.up 7) m (by omega) (by omega)
    rw [AS.next_up] at hA
    have hF : newF m = none := by rw [newF, if_neg hm]
    obtain ⟨c, a, τ3, τ4, τ5, τ6, τ7, τ8, hc, t3, g1, g2, p1, p2, l1, p3, l2, p4, l3, p5, k8, F8⟩ := core _ .nilIface τ2 t2 (by rw [hF]; rfl) f2
    rw [hF] at hc t3 p1 k8
    rw [if_pos rfl] at t3 p1 k8
    cases hc
    by_cases h400 : (400 : Int) < ((os.length : Nat) : Int)
    · exact ⟨τ8.up 1, run (.up t1 <| .up t2 <| .up t3 <| .new g1 <| .new g2 <| .up p1 <| .up p2 <| .val l1 <| .up p3 <| .val l2 <| .up p4 <| .val l3 <| .up p5 <| .yes h400 .nil) (by kernel_rfl)⟩
    have hle1 := f1'.le
    have hle2 := f2.start.le
    have hAlt := f2.wf.lt a2.obj
    have F : Fr (From σ.next) σ τ8 := (f1'.then (f2.start.then F8)).mono nil_from
    have h8 : Two σ.next τ8 A (.slice none 0 0) (τ2.next + 5) (.slice none 0 0) [] m := by
      refine ⟨a2.nil F8, ⟨k8, Or.inl ⟨rfl, rfl⟩, (fun w hw' => by cases hw'), by simp; omega, by omega, by simp [slBase]⟩, by omega, by omega, (fun b hb => by cases hb), (fun b hb => by cases hb), fun i hi hh => ?_⟩
      rcases hi with rfl | hi
      · rcases hh with hh | hh
        · omega
        · cases hh
      · cases hi
    have hloop := loop_block (P := Try.prog) (n := n + 9) (f := 7) (id := 0) (slots := [4, 5, 7, 41, 42, 43])
      (fun j vals τ => ∃ i : Nat, i + j = os.length ∧ vals = [.bool false, ptrTo A, ptrTo (τ2.next + 5), .slice base os.length cap, .int .i64 (os.length : Nat), .int .i64 i] ∧ (∃ va vd ws, Two σ.next τ A va (τ2.next + 5) vd ws m) ∧ Fr (From σ.next) σ τ)
      (fun e vals τ => ∃ z, (e = .ret ∧ vals = [.bool true, ptrTo A, ptrTo (τ2.next + 5), .slice base os.length cap, .int .i64 (os.length : Nat), .int .i64 z]) ∨
        (e = .normal ∧ vals = [.bool false, ptrTo A, ptrTo (τ2.next + 5), .slice base os.length cap, .int .i64 (os.length : Nat), .int .i64 z] ∧ (∃ va vd ws, Two σ.next τ A va (τ2.next + 5) vd ws m) ∧ Wf τ))
      (by
        rintro j vals τ ⟨i, hij, rfl, ⟨va, vd, ws, h⟩, hf⟩
        by_cases hi : i < os.length
        · obtain ⟨o, ho⟩ : ∃ o, os[i]? = some o := ⟨os[i], List.getElem?_eq_getElem hi⟩
          obtain ⟨e, r, z, τ', h1, h2⟩ := plays_round n σ.next τ hf.wf hf.le (hs.fr hf) ho h (by omega) hn
          refine ⟨e, _, τ', h1, ?_⟩
          rcases h2 with ⟨rfl, rfl⟩ | ⟨rfl, rfl, rfl, h4, h5⟩
          · exact Or.inr ⟨by simp, z, Or.inl ⟨rfl, rfl⟩⟩
          · exact Or.inl ⟨rfl, j - 1, by omega, i + 1, by omega, rfl, h4, hf.then h5⟩
        · have s1 : ¬ ((i : Nat) : Int) < ((os.length : Nat) : Int) := by omega
          exact ⟨.exit 0, _, τ.up 1, round (.no s1 .nil) (by kernel_rfl), Or.inr ⟨by simp, i, Or.inr ⟨rfl, rfl, ⟨va, vd, ws, h.up 1⟩, hf.wf.up 1⟩⟩⟩)
      (j := os.length) (vals := [.bool false, ptrTo A, ptrTo (τ2.next + 5), .slice base os.length cap, .int .i64 (os.length : Nat), .int .i64 0]) (σ := τ8.up 3)
      ⟨0, by omega, rfl, ⟨_, _, _, h8.up 3⟩, F.up 3⟩ (by omega)
    obtain ⟨e, vals, τ9, t9, z, ⟨rfl, rfl⟩ | ⟨rfl, rfl, ⟨va, vd, ws, h9⟩, w9⟩⟩ := hloop
    · exact ⟨τ9, run (.up t1 <| .up t2 <| .up t3 <| .new g1 <| .new g2 <| .up p1 <| .up p2 <| .val l1 <| .up p3 <| .val l2 <| .up p4 <| .val l3 <| .up p5 <| .no h400 <| .block t9 .nil) (by kernel_rfl)⟩
    · obtain ⟨w1, τ10, t10, s10, f10, _⟩ := words_ok (n + 7) (τ9.up 6) (w9.up 6) (h9.pa.up 6)
      have h10 := (h9.up 6).nil f10
      have q1 := h10.pd.ref_words
      have q2 := (h9.up 6).pd.ref_words
      have hle := h9.pa.le
      obtain ⟨τ11, t11, f11⟩ := same_ok (n + 7) τ10 w1 vd ws f10.wf s10.rd h10.pd.sl.rd (by omega) (by omega)
      obtain ⟨b1, c1, rfl⟩ := rd_shape s10.rd
      obtain ⟨b2, c2, rfl⟩ := h9.pd.shape
      exact ⟨τ11, run (.up t1 <| .up t2 <| .up t3 <| .new g1 <| .new g2 <| .up p1 <| .up p2 <| .val l1 <| .up p3 <| .val l2 <| .up p4 <| .val l3 <| .up p5 <| .no h400 <| .block t9 <| .up t10 <| .val q1 <| .up t11 <| .also q2 .nil) (by kernel_rfl)⟩

end Go.Proofs.Ytfokbdgiphphfaa
