/- The law ArenaStays, as a run: true for every list and call. No condition beyond the hypotheses. -/
import Derived.Test.YtfokbdgiphphfaaLives
import Derived.Test.YtfokbdgiphphfaaAbs30
namespace Go.Proofs.Ytfokbdgiphphfaa
open Go Go.Abs Go.RowKit

/-- One call, as the laws have it: kind, number, word, words. -/
def opCells (k x y : Int) (u : Value) : List Value := [.int .i64 k, .int .i64 x, .int .u64 y, u]

theorem storeW_of {ws : List Int} {x w : Int} {ca : Int × Int} (h : storeF ws x w = some ca) : storeW ws x w = ws := by
  unfold storeF at h
  unfold storeW
  split at h
  · rename_i h1
    split at h
    · cases h
    · rename_i h2
      rw [if_neg (fun hh => h2 hh.2.2)]
  · rename_i h1
    rw [if_neg (fun hh => h1 ⟨hh.1, hh.2.1⟩)]
theorem cutW_of {ws : List Int} {x : Int} {ca : Int × Int} (h : cutF ws x = some ca) : cutW ws x = ws := by
  unfold cutF at h
  unfold cutW
  split at h
  · cases h
  · rename_i h1; rw [if_neg h1]
theorem fillW_of {max : Int} {ws xs : List Int} {ca : Int × Int} (h : fillF max xs = some ca) : fillW max ws xs = ws := by
  unfold fillW
  rw [h, if_neg (by simp)]
theorem allocW_of {max : Int} {ws : List Int} {x : Int} {ca : Int × Int} (h : allocF max ws.length x = some ca) : allocW max ws x = ws := by
  unfold allocW
  rw [h, if_neg (by simp)]

theorem stays_switch (n : Nat) (σ : AS) (hw : Wf σ) {O A : Nat} {v u vA : Value} {k x y : Int} {ws xs : List Int} (hO : σ.heap.get O = some (.cells (opCells k x y u) 0 false)) (ha : Arn true σ A vA ws 600) (hu : Rd 1 σ u (u64s xs)) (hy : U64 y) (hxu : ∀ w ∈ xs, U64 w) (hl : xs.length ≤ 2000) (hn : 65536 < n) :
    ∃ e τ, BlockOk Try.prog (acall Try.prog (n + 8)) (n + 8) 6 0 (ntOf Try.prog 6) [0, 3, 5, 6, 37] [v, ptrTo O, ptrTo A, .nilIface, .int .i64 k] σ .normal [v, ptrTo O, ptrTo A, e, .int .i64 k] τ ∧
      (e = .nilIface ∨ ∃ b, e = .iface 69 (.pointer (some ⟨b, 0, none⟩)) ∧ (∃ vB, Arn true τ A vB ws 600) ∧ Fr (foot A vA) σ τ) := by
  have lx : ∀ j, aLoad Try.prog 3 (.pointer (some ⟨O, 1, none⟩)) (σ.up j) = some (.int .i64 x, σ.up j) := fun j => aLoad_cell (by kernel_rfl) (show (σ.up j).heap.get O = _ from hO) rfl
  have ly : ∀ j, aLoad Try.prog 29 (.pointer (some ⟨O, 2, none⟩)) (σ.up j) = some (.int .u64 y, σ.up j) := fun j => aLoad_cell (by kernel_rfl) (show (σ.up j).heap.get O = _ from hO) rfl
  have fin : ∀ {τ : AS} {e : Value} {o : Option (Int × Int)}, ErrOf τ e o → (o = none → e = .nilIface) := fun h ho => by subst ho; exact h
  by_cases k0 : k = 0
  · obtain ⟨e, vB, τ, t1, t2, t3, t4, _⟩ := alloc_ok (n + 4) (σ.up 10) (hw.up 10) (ha.up 10) x (by omega)
    refine ⟨e, τ, block_run (.yes k0 <| .val (lx 10) <| .up t1 .nil) (by kernel_rfl), ?_⟩
    cases ho : allocF 600 ws.length x with
    | none => left; rw [ho] at t2; exact t2
    | some ca => right; rw [ho] at t2; rw [allocW_of ho] at t3; obtain ⟨b, hb, _⟩ := t2; exact ⟨b, hb, ⟨vB, t3⟩, t4.start⟩
  by_cases k1 : k = 1
  · obtain ⟨e, τ, t1, t2, t4⟩ := load_ok (n + 6) (σ.up 12) (hw.up 12) (ha.up 12) x
    refine ⟨e, τ, block_run (.no k0 <| .yes k1 <| .val (lx 12) <| .up t1 .nil) (by kernel_rfl), ?_⟩
    cases ho : loadF ws x with
    | none => left; rw [ho] at t2; exact t2
    | some ca => right; rw [ho] at t2; obtain ⟨b, hb, _⟩ := t2; exact ⟨b, hb, ⟨vA, (ha.up 12).nil t4⟩, t4.start.mono fun _ h => h.elim⟩
  by_cases k2 : k = 2
  · obtain ⟨e, τ, t1, t2, t3, t4⟩ := store_ok (n + 3) (σ.up 13) (hw.up 13) (ha.up 13) x y hy
    refine ⟨e, τ, block_run (.no k0 <| .no k1 <| .yes k2 <| .val (lx 13) <| .val (ly 13) <| .up t1 .nil) (by kernel_rfl), ?_⟩
    cases ho : storeF ws x y with
    | none => left; rw [ho] at t2; exact t2
    | some ca => right; rw [ho] at t2; rw [storeW_of ho] at t3; obtain ⟨b, hb, _⟩ := t2; exact ⟨b, hb, ⟨vA, t3⟩, t4.start⟩
  by_cases k3 : k = 3
  · obtain ⟨e, vB, τ, t1, t2, t3, t4, _⟩ := cut_ok (n + 6) (σ.up 13) (hw.up 13) (ha.up 13) x
    refine ⟨e, τ, block_run (.no k0 <| .no k1 <| .no k2 <| .yes k3 <| .val (lx 13) <| .up t1 .nil) (by kernel_rfl), ?_⟩
    cases ho : cutF ws x with
    | none => left; rw [ho] at t2; exact t2
    | some ca => right; rw [ho] at t2; rw [cutW_of ho] at t3; obtain ⟨b, hb, _⟩ := t2; exact ⟨b, hb, ⟨vB, t3⟩, t4.start⟩
  by_cases k5 : k = 5
  · obtain ⟨bu, cu, rfl⟩ := rd_shape hu
    have hOlt := hw.lt hO
    have g1 : FreshAt (σ.up 17) (σ.next + 11) := hw.fresh (by omega) (by omega)
    have g2 : FreshAt (σ.up 17) (σ.next + 14) := hw.fresh (by omega) (by omega)
    have l1 : aLoad Try.prog 22 (.pointer (some ⟨O, 3, none⟩)) ((σ.up 17).put (σ.next + 11) (.cells [] 0 false)) = some (.slice bu xs.length cu, (σ.up 17).put (σ.next + 11) (.cells [] 0 false)) :=
      aLoad_cell (by kernel_rfl) (by rw [AS.get_put_ne _ _ (by omega)]; exact hO) rfl
    obtain ⟨z, τ1, t1, t2, t3, t4⟩ := copy_ok (hw.up 17) (hu.of_get (σ' := σ.up 17) fun _ _ => rfl) (by omega) g1 g2 (by omega)
    obtain ⟨e, vB, τ, t5, t6, t7, t8, _⟩ := fill_ok (n + 1) τ1 t3.wf ((ha.up 17).nil t3) z xs t2.rd hxu (by omega)
    refine ⟨e, τ, block_run (.no k0 <| .no k1 <| .no k2 <| .no k3 <| .yes k5 <| .new g1 <| .val l1 <| .up t1 <| .up t5 .nil) (by kernel_rfl), ?_⟩
    cases ho : fillF 600 xs with
    | none => left; rw [ho] at t6; exact t6
    | some ca => right; rw [ho] at t6; rw [fillW_of ho] at t7; obtain ⟨b, hb, _⟩ := t6; exact ⟨b, hb, ⟨vB, t7⟩, (t3.start.mono fun _ h => h.elim).then t8⟩
  · exact ⟨.nilIface, σ.up 10, block_run (.no k0 <| .no k1 <| .no k2 <| .no k3 <| .no k5 .nil) (by kernel_rfl), Or.inl rfl⟩

theorem stays_run (n : Nat) (σ : AS) (hw : Wf σ) (v u : Value) (ws xs : List Int) (k x y : Int) (hr : Rd 1 σ v (u64s ws)) (hu : Rd 1 σ u (u64s xs)) (hwu : ∀ w ∈ ws, U64 w) (hxu : ∀ w ∈ xs, U64 w) (hy : U64 y) (hvb : ∀ b, slBase v = some b → b < σ.next) (hn : 65536 < n) :
    ∃ σ', acall Try.prog (n + 9) (.func 6) #[v, .agg #[.int .i64 k, .int .i64 x, .int .u64 y, u]] σ = some (.bool true, σ') := by
  obtain ⟨base, cap, rfl⟩ := rd_shape hr
  obtain ⟨bu, cu, rfl⟩ := rd_shape hu
  have g0 : FreshAt (σ.up 2) σ.next := hw.fresh (by omega) (by omega)
  have f0 : Fr Nil σ ((σ.up 2).put σ.next (.cells (opCells k x y (.slice bu xs.length cu)) 0 false)) := ((Fr.refl hw).up 2).put _ g0.2 (Or.inr (Or.inr g0.1)) hw
  have hO : ((σ.up 2).put σ.next (.cells (opCells k x y (.slice bu xs.length cu)) 0 false)).heap.get σ.next = some (.cells (opCells k x y (.slice bu xs.length cu)) 0 false) := AS.get_put_same _ _ _
  have hn0 : ((σ.up 2).put σ.next (.cells (opCells k x y (.slice bu xs.length cu)) 0 false)).next = σ.next + 2 := rfl
  generalize hτ0 : (σ.up 2).put σ.next (.cells (opCells k x y (.slice bu xs.length cu)) 0 false) = τ0 at f0 hO hn0
  obtain ⟨τ1, t1, f1⟩ := lives_ok (n + 3) (τ0.up 2) (f0.wf.up 2) (by omega)
  obtain ⟨A, τ2, t2, a2, f2, hA⟩ := new_ok (n + 6) (τ1.up 6) (f1.wf.up 6) 600 (by omega) (by omega)
  have F2 : Fr Nil τ0 τ2 := f1.start.then f2.start
  have hle1 := f1.start.le
  rw [AS.next_up] at hA
  by_cases h0 : (600 : Int) < ((ws.length : Nat) : Int)
  · subst hτ0
    exact ⟨τ2.up 24, run (.new g0 <| .up t1 <| .up t2 <| .yes h0 .nil) (by kernel_rfl)⟩
  have l1 : aLoad Try.prog 22 (.pointer (some ⟨σ.next, 3, none⟩)) (τ2.up 23) = some (.slice bu xs.length cu, τ2.up 23) := aLoad_cell (by kernel_rfl) (show (τ2.up 23).heap.get σ.next = _ from F2.same _ _ hO id) rfl
  by_cases h1 : (2000 : Int) < ((xs.length : Nat) : Int)
  · subst hτ0
    exact ⟨τ2.up 24, run (.new g0 <| .up t1 <| .up t2 <| .no h0 <| .val l1 <| .yes h1 .nil) (by kernel_rfl)⟩
  have g1 : FreshAt (τ2.up 23) (τ2.next + 17) := f2.wf.fresh (by omega) (by omega)
  have g2 : FreshAt (τ2.up 23) (τ2.next + 19) := f2.wf.fresh (by omega) (by omega)
  obtain ⟨z, τ3, t3, s3, f3, _⟩ := copy_ok (f2.wf.up 23) (hr.fr ((f0.then F2).up 23) fun _ _ h => h) (by omega) g1 g2 (by omega)
  obtain ⟨e, vA, τ4, t4, e4, a4, f4, m4⟩ := fill_ok (n + 1) τ3 f3.wf ((a2.up 23).nil f3) z ws s3.rd hwu (by omega)
  have hF : fillF 600 ws = bads ws := by rw [fillF, if_neg (by omega)]
  rw [hF] at e4
  cases hb : bads ws with
  | some ca =>
    obtain ⟨c, a⟩ := ca
    rw [hb] at e4
    obtain ⟨bb, rfl, _⟩ := e4
    subst hτ0
    exact ⟨τ4.up 1, run (.new g0 <| .up t1 <| .up t2 <| .no h0 <| .val l1 <| .no h1 <| .new g1 <| .up t3 <| .up t4 .nil) (by kernel_rfl)⟩
  | none =>
  rw [hb] at e4
  cases e4
  have hW : fillW 600 [] ws = ws := by rw [fillW, hF, hb, if_pos rfl]
  rw [hW] at a4
  have F3 : Fr Nil τ0 τ3 := F2.then f3.start
  have offA : ∀ i, foot A (.slice none 0 0) i → i = A := fun i hi => by
    rcases hi with hi | hi
    · exact hi
    · cases hi
  have hO4 : τ4.heap.get σ.next = some (.cells (opCells k x y (.slice bu xs.length cu)) 0 false) := f4.same _ _ (F3.same _ _ hO id) fun hh => by have := offA _ hh; omega
  have hr0 := hr.fr f0 fun _ _ h => h
  have hu0 := hu.fr f0 fun _ _ h => h
  have hr4 : Rd 1 τ4 (.slice base ws.length cap) (u64s ws) := (hr0.fr F3 fun _ _ h => h).fr f4 fun b hb' hh => by
    have h1 := hvb b hb'
    have h2 := offA b hh
    omega
  have hu4 : Rd 1 τ4 (.slice bu xs.length cu) (u64s xs) := by
    rcases hu with h | h | ⟨a, len, cap', c, room, ro, h1, h2, h3, h4⟩
    · exact Or.inl h
    · exact Or.inr (Or.inl h)
    · refine Or.inr (Or.inr ⟨a, len, cap', c, room, ro, h1, h2, ?_, h4⟩)
      exact f4.same _ _ (F3.same _ _ (f0.same _ _ h3 id) id) fun hh => by
        have := offA _ hh
        have := hw _ _ h3
        omega
  have l2 : aLoad Try.prog 3 (ptrTo σ.next) (τ4.up 2) = some (.int .i64 k, τ4.up 2) := aLoad_cell (by kernel_rfl) (show (τ4.up 2).heap.get σ.next = _ from hO4) rfl
  have baseA : ∀ b, slBase vA = some b → τ3.next ≤ b := by
    rcases m4 with m4 | m4
    · intro b hb'; rw [m4] at hb'; cases hb'
    · exact m4
  obtain ⟨e5, τ5, t5, h5⟩ := stays_switch n (τ4.up 2) (f4.wf.up 2) (v := .slice base ws.length cap) hO4 (a4.up 2) (hu4.of_get fun _ _ => rfl) hy hxu (by omega) hn
  rcases h5 with rfl | ⟨b, rfl, ⟨vB, a5⟩, f5⟩
  · subst hτ0
    exact ⟨τ5.up 16, run (.new g0 <| .up t1 <| .up t2 <| .no h0 <| .val l1 <| .no h1 <| .new g1 <| .up t3 <| .up t4 <| .val l2 <| .block t5 .nil) (by kernel_rfl)⟩
  · have hr5 : Rd 1 τ5 (.slice base ws.length cap) (u64s ws) := hr4.fr f5.start fun b hb' hh => by
      have h1 := hvb b hb'
      rcases hh with hh | hh
      · omega
      · have h2 := baseA b hh
        have h3 := F3.le
        omega
    obtain ⟨w1, τ6, t6, s6, f6, _⟩ := words_ok (n + 6) (τ5.up 16) (f5.wf.up 16) (a5.up 16)
    obtain ⟨τ7, t7, f7⟩ := same_ok (n + 6) τ6 _ _ ws f6.wf s6.rd ((hr5.of_get (σ' := τ5.up 16) fun _ _ => rfl).fr f6 fun _ _ h => h) (by omega) (by omega)
    have t8 := top_ok (n + 7) τ7 (((a5.up 16).nil f6).nil f7)
    have q : ((ws.length : Nat) : Int) = (ws.length : Int) := rfl
    subst hτ0
    exact ⟨τ7.up 9, run (.new g0 <| .up t1 <| .up t2 <| .no h0 <| .val l1 <| .no h1 <| .new g1 <| .up t3 <| .up t4 <| .val l2 <| .block t5 <| .up t6 <| .up t7 <| .up t8 <| .yes q .nil) (by kernel_rfl)⟩

end Go.Proofs.Ytfokbdgiphphfaa
