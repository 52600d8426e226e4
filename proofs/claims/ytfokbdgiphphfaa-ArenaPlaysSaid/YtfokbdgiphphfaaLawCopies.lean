/- The law ArenaCopies, as a run: true for every list, cut and number. No condition beyond the hypotheses. -/
import Derived.Test.YtfokbdgiphphfaaLives
namespace Go.Proofs.Ytfokbdgiphphfaa
open Go Go.Abs Go.RowKit

theorem copies_run (n : Nat) (σ : AS) (hw : Wf σ) (v : Value) (ws : List Int) (hr : Rd 1 σ v (u64s ws)) (hu : ∀ w ∈ ws, U64 w) (x y : Int) (hx : I64 x) (hy : I64 y) (hn : 65536 < n) :
    ∃ σ', acall Try.prog (n + 9) (.func 4) #[v, .int .i64 x, .int .i64 y] σ = some (.bool true, σ') := by
  obtain ⟨base, cap, rfl⟩ := rd_shape hr
  obtain ⟨τ1, t1, f1⟩ := lives_ok (n + 3) (σ.up 3) (hw.up 3) (by omega)
  have f1' : Fr Nil σ τ1 := f1.start
  obtain ⟨A, τ2, t2, a2, f2, hA⟩ := new_ok (n + 6) (τ1.up 6) (f1.wf.up 6) 1000 (by omega) (by omega)
  have f2' : Fr Nil σ τ2 := f1'.then f2.start
  obtain ⟨B, τ3, t3, b3, f3, hB⟩ := new_ok (n + 6) (τ2.up 6) (f2.wf.up 6) 1000 (by omega) (by omega)
  have a3 := (a2.up 6).nil f3
  have f3' : Fr Nil σ τ3 := f2'.then f3.start
  have hA2 := f2.wf.lt a2.obj
  rw [AS.next_up] at hB
  by_cases h0 : (600 : Int) < ((ws.length : Nat) : Int)
  · exact ⟨τ3.up 26, run (.up t1 <| .up t2 <| .up t3 <| .yes h0 .nil) (by kernel_rfl)⟩
  · have hl : ws.length ≤ 600 := by omega
    have g1 : FreshAt (τ3.up 25) (τ3.next + 19) := f3.wf.fresh (by omega) (by omega)
    have g2 : FreshAt (τ3.up 25) (τ3.next + 21) := f3.wf.fresh (by omega) (by omega)
    obtain ⟨z, τ4, t4, s4, f4, k4⟩ := copy_ok (f3.wf.up 25) (hr.fr (f3'.up 25) fun _ _ h => h) (by omega) g1 g2 (by omega)
    have f4' : Fr Nil τ3 τ4 := f4.start
    have a4 := (a3.up 25).nil f4
    have b4 := (b3.up 25).nil f4
    obtain ⟨e, vA, τ5, t5, e5, a5, f5, m5⟩ := fill_ok (n + 1) τ4 f4.wf a4 z ws s4.rd hu (by omega)
    have hF : fillF 1000 ws = bads ws := by rw [fillF, if_neg (by omega)]
    rw [hF] at e5
    cases hb : bads ws with
    | some ca =>
      obtain ⟨c, a⟩ := ca
      rw [hb] at e5
      obtain ⟨bb, rfl, _⟩ := e5
      exact ⟨τ5.up 1, run (.up t1 <| .up t2 <| .up t3 <| .no h0 <| .new g1 <| .up t4 <| .up t5 .nil) (by kernel_rfl)⟩
    | none =>
      rw [hb] at e5
      cases e5
      have hW : fillW 1000 [] ws = ws := by rw [fillW, hF, hb, if_pos rfl]
      rw [hW] at a5
      have hA4 := f4.wf.lt a4.obj
      have hB4 := f4.wf.lt b4.obj
      have baseA : ∀ b, slBase vA = some b → τ4.next ≤ b := by
        rcases m5 with m5 | m5
        · intro b hb'; rw [m5] at hb'; cases hb'
        · exact m5
      have b5 : Arn true τ5 B (.slice none 0 0) [] 1000 := b4.fr f5 (fun i hi hh => by
        rcases hi with rfl | hi
        · rcases hh with hh | hh
          · omega
          · cases hh
        · cases hi)
      obtain ⟨w1, τ6, t6, s6, f6, k6⟩ := words_ok (n + 6) (τ5.up 13) (f5.wf.up 13) (a5.up 13)
      obtain ⟨e7, vB, τ7, t7, e7', b7, f7, m7⟩ := fill_ok (n + 1) τ6 f6.wf ((b5.up 13).nil f6) w1 ws s6.rd hu (by omega)
      rw [hF, hb] at e7'
      cases e7'
      rw [hW] at b7
      have a6 := (a5.up 13).nil f6
      have a7 : Arn true τ7 A vA ws 1000 := a6.fr f7 (fun i hi hh => by
        rcases hh with rfl | hh
        · rcases hi with hi | hi
          · omega
          · have := baseA _ hi; omega
        · cases hh)
      obtain ⟨w2, τ8, t8, s8, f8, _⟩ := words_ok (n + 6) τ7 f7.wf a7
      obtain ⟨w3, τ9, t9, s9, f9, _⟩ := words_ok (n + 6) τ8 f8.wf (b7.nil f8)
      obtain ⟨τ10, t10, f10⟩ := same_ok (n + 6) τ9 w2 w3 ws f9.wf (s8.fr f9 fun _ _ h => h).rd s9.rd (by omega) (by omega)
      have a10 := ((a7.nil f8).nil f9).nil f10
      obtain ⟨e11, vC, τ11, t11, e11', a11, f11, m11⟩ := cut_ok (n + 6) (τ10.up 4) (f10.wf.up 4) (a10.up 4) x
      by_cases hc : 0 ≤ x ∧ x ≤ ws.length
      · rw [cutF, if_pos hc] at e11'
        rw [cutW, if_pos hc] at a11
        cases e11'
        obtain ⟨cut, rfl⟩ : ∃ cut : Nat, x = (cut : Int) := ⟨x.toNat, by omega⟩
        rw [Int.toNat_natCast] at a11
        have hlen : (ws.take cut).length = cut := by rw [List.length_take]; omega
        obtain ⟨e12, vD, τ12, t12, e12', a12, f12, m12⟩ := alloc_ok (n + 4) (τ11.up 8) (f11.wf.up 8) (a11.up 8) y (by omega)
        rw [allocV, hlen] at t12
        rw [hlen] at e12'
        rw [allocW, hlen] at a12
        cases hal : allocF 1000 cut y with
        | some ca =>
          obtain ⟨c, a⟩ := ca
          rw [hal] at e12' t12
          obtain ⟨bb, rfl, _⟩ := e12'
          rw [if_neg (by simp)] at t12
          unfold allocF at hal
          by_cases q1 : y < 1
          · exact ⟨τ12.up 11, run (.up t1 <| .up t2 <| .up t3 <| .no h0 <| .new g1 <| .up t4 <| .up t5 <| .up t6 <| .up t7 <| .up t8 <| .up t9 <| .up t10 <| .up t11 <| .up t12 <| .yes q1 .nil) (by kernel_rfl)⟩
          · rw [if_neg q1] at hal
            have q2 : (1000 : Int) - (cut : Int) < y := by
              by_cases q : (1000 : Int) - (cut : Int) < y
              · exact q
              · rw [if_neg q] at hal; cases hal
            have q3 : IntKind.wrap .i64 (1000 - ((cut : Nat) : Int)) = 1000 - ((cut : Nat) : Int) := wrap_i64 (by unfold I64; omega)
            exact ⟨τ12.up 11, run (.up t1 <| .up t2 <| .up t3 <| .no h0 <| .new g1 <| .up t4 <| .up t5 <| .up t6 <| .up t7 <| .up t8 <| .up t9 <| .up t10 <| .up t11 <| .up t12 <| .no q1 <| .num q3 <| .yes q2 .nil) (by kernel_rfl)⟩
        | none =>
          rw [hal] at e12' t12 a12
          cases e12'
          rw [if_pos rfl] at t12 a12
          have q1 : ¬ y < 1 := by
            intro q
            unfold allocF at hal
            rw [if_pos q] at hal
            cases hal
          have q2 : y ≤ 1000 - (cut : Int) := by
            unfold allocF at hal
            rw [if_neg q1] at hal
            by_cases q : (1000 : Int) - (cut : Int) < y
            · rw [if_pos q] at hal; cases hal
            · omega
          obtain ⟨m, rfl⟩ : ∃ m : Nat, y = (m : Int) := ⟨y.toNat, by omega⟩
          rw [Int.toNat_natCast] at a12
          have hlen2 : (ws.take cut ++ fresh cut m).length = cut + m := by rw [List.length_append, hlen, fresh_length]
          have t13 := top_ok (n + 7) (τ12.up 13) (a12.up 13)
          rw [hlen2] at t13
          have c1 : ((cut : Nat) : Int) = (cut : Int) := rfl
          have c2 : IntKind.wrap .i64 (((cut + m : Nat) : Int) - (m : Int)) = (cut : Int) := by rw [wrap_i64 (by unfold I64; omega)]; omega
          have hloop := loop_block (P := Try.prog) (n := n + 8) (f := 4) (id := 0) (slots := [6, 7, 12])
            (fun j vals τ => ∃ i : Nat, cut ≤ i ∧ i + j = cut + m ∧ vals = [.bool false, ptrTo A, .int .i64 i] ∧ Arn true τ A vD (ws.take cut ++ fresh cut m) 1000 ∧ Wf τ)
            (fun e vals τ => e = .normal ∧ vals = [.bool false, ptrTo A, .int .i64 ((cut + m : Nat) : Int)])
            (by
              rintro j vals τ ⟨i, hci, hij, rfl, ha, hwτ⟩
              have p1 := top_ok (n + 7) (τ.up 4) (ha.up 4)
              rw [hlen2] at p1
              by_cases hi : i < cut + m
              · have p2 : ((i : Nat) : Int) < ((cut + m : Nat) : Int) := by omega
                obtain ⟨e, τ', p3, p4, p5⟩ := load_ok (n + 6) (((τ.up 4).up 9).up 8) (((hwτ.up 4).up 9).up 8) (((ha.up 4).up 9).up 8) (i : Int)
                have p6 : loadF (ws.take cut ++ fresh cut m) (i : Int) = none := by rw [loadF, hlen2, if_pos (by omega)]
                have p7 : loadW (ws.take cut ++ fresh cut m) (i : Int) = 8 * (i : Int) := by
                  rw [loadW, if_pos (by omega), Int.toNat_natCast, List.getElem?_append_right (by omega), hlen, fresh]
                  rw [List.getElem?_map, List.getElem?_range (by omega)]
                  simp only [Option.map_some, Option.getD_some]
                  omega
                rw [p6] at p4
                rw [p7] at p3
                cases p4
                have p8 : IntKind.wrap .u64 ((i : Nat) : Int) = (i : Int) := wrap_u64 (by unfold U64; omega)
                have p9 : IntKind.wrap .u64 (8 * ((i : Nat) : Int)) = 8 * (i : Int) := wrap_u64 (by unfold U64; omega)
                have p10 : 8 * ((i : Nat) : Int) = 8 * (i : Int) := rfl
                have p11 : IntKind.wrap .i64 ((i : Int) + 1) = ((i + 1 : Nat) : Int) := by rw [wrap_i64 (by unfold I64; omega)]; omega
                exact ⟨.normal, _, τ'.up 12, round (.up p1 <| .yes p2 <| .up p3 <| .num p8 <| .num p9 <| .yes p10 <| .num p11 .nil) (by kernel_rfl), Or.inl ⟨rfl, j - 1, by omega, i + 1, by omega, by omega, rfl, ((((ha.up 4).up 9).up 8).nil p5).up 12, p5.wf.up 12⟩⟩
              · have hie : i = cut + m := by omega
                subst hie
                have p2 : ¬ ((cut + m : Nat) : Int) < ((cut + m : Nat) : Int) := by omega
                exact ⟨.exit 0, _, (τ.up 4).up 9, round (.up p1 <| .no p2 .nil) (by kernel_rfl), Or.inr ⟨by simp, rfl, rfl⟩⟩)
            (j := m) (vals := [.bool false, ptrTo A, .int .i64 (cut : Nat)]) (σ := ((τ12.up 13).up 9).up 2)
            ⟨cut, by omega, by omega, rfl, ((a12.up 13).up 9).up 2, ((f12.wf.up 13).up 9).up 2⟩ (by omega)
          obtain ⟨e, vals', τ14, hblock, rfl, rfl⟩ := hloop
          exact ⟨τ14.up 1, run (.up t1 <| .up t2 <| .up t3 <| .no h0 <| .new g1 <| .up t4 <| .up t5 <| .up t6 <| .up t7 <| .up t8 <| .up t9 <| .up t10 <| .up t11 <| .up t12 <| .yes c1 <| .up t13 <| .num c2 <| .yes c1 <| .block hblock .nil) (by kernel_rfl)⟩
      · rw [cutF, if_neg hc] at e11'
        obtain ⟨bb, rfl, _⟩ := e11'
        by_cases q1 : x < 0
        · exact ⟨τ11.up 9, run (.up t1 <| .up t2 <| .up t3 <| .no h0 <| .new g1 <| .up t4 <| .up t5 <| .up t6 <| .up t7 <| .up t8 <| .up t9 <| .up t10 <| .up t11 <| .yes q1 .nil) (by kernel_rfl)⟩
        · have q2 : ((ws.length : Nat) : Int) < x := by omega
          exact ⟨τ11.up 9, run (.up t1 <| .up t2 <| .up t3 <| .no h0 <| .new g1 <| .up t4 <| .up t5 <| .up t6 <| .up t7 <| .up t8 <| .up t9 <| .up t10 <| .up t11 <| .no q1 <| .yes q2 .nil) (by kernel_rfl)⟩

end Go.Proofs.Ytfokbdgiphphfaa
