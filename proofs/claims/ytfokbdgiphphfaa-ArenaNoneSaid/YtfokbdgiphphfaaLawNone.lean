/- The law ArenaNone, as a run: true for every number, word and list. No condition beyond the hypotheses. -/
import Derived.Test.YtfokbdgiphphfaaLives
namespace Go.Proofs.Ytfokbdgiphphfaa
open Go Go.Abs Go.RowKit

theorem none_run (n : Nat) (σ : AS) (hw : Wf σ) (v : Value) (ws : List Int) (hr : Rd 1 σ v (u64s ws)) (hl : ws.length ≤ 17592186043904) (x u : Int) (hn : 65536 < n) :
    ∃ σ', acall Try.prog (n + 9) (.func 8) #[.int .i64 x, .int .u64 u, v] σ = some (.bool true, σ') := by
  obtain ⟨base, cap, rfl⟩ := rd_shape hr
  obtain ⟨τ1, t1, f1⟩ := lives_ok (n + 3) (σ.up 3) (hw.up 3) (by omega)
  have g1 : FreshAt (τ1.up 4) (τ1.next + 2) := f1.wf.fresh (by omega) (by omega)
  have t2 := store_fv (c' := 1) (a' := -1) (AS.get_put_same (τ1.up 4) (τ1.next + 2) (fvObj 0 0))
  have f2 : Fr Nil τ1 (((τ1.up 4).put (τ1.next + 2) (fvObj 0 0)).put (τ1.next + 2) (fvObj 1 (-1))) := (((Fr.refl f1.wf).up 4).put _ g1.2 (Or.inr (Or.inr g1.1)) f1.wf).put _ (by rw [AS.next_put]; exact g1.2) (Or.inr (Or.inr g1.1)) f1.wf
  have hR : (((τ1.up 4).put (τ1.next + 2) (fvObj 0 0)).put (τ1.next + 2) (fvObj 1 (-1))).heap.get (τ1.next + 2) = some (fvObj 1 (-1)) := AS.get_put_same _ _ _
  have hr2 := hr.fr (f1.start.then f2) fun _ _ h => h
  generalize hτ2 : ((τ1.up 4).put (τ1.next + 2) (fvObj 0 0)).put (τ1.next + 2) (fvObj 1 (-1)) = τ2 at t2 f2 hR hr2
  generalize hRR : τ1.next + 2 = R at g1 t2 hR hτ2
  have hfv : ∀ τ, Fr Nil τ2 τ → aLoad Try.prog 52 (ptrTo R) τ = some (fv 1 (-1), τ) := fun τ hf => load_fv (hf.same _ _ hR id)
  have two : ∀ c a : Int, c ≠ 0 → ∀ c' a', some (c, a) = some (c', a') → c' ≠ 0 := fun c a h c' a' hh => by cases hh; exact h
  -- Alloc
  obtain ⟨e3, τ3, s3, k3, f3, _⟩ := fault_prog (n + 6) ((τ2.up 8).up 8) 1 (-1) ((f2.wf.up 8).up 8)
  have t3 : acall Try.prog (n + 8) (.func 15) #[.pointer none, .int .i64 x] (τ2.up 8) = some (.tuple #[.int .i64 0, e3], τ3) := run (.up s3 .nil) (by kernel_rfl)
  have F3 : Fr Nil τ2 τ3 := f3.start.start
  -- Load
  have hload : ∃ e4 τ4, acall Try.prog (n + 8) (.func 17) #[.pointer none, .int .i64 x] (τ3.up 8) = some (.tuple #[.int .u64 0, e4], τ4) ∧ ErrOf τ4 e4 (some (23, x)) ∧ Fr Nil τ3 τ4 := by
    by_cases h0 : x < 0
    · obtain ⟨e4, τ4, s4, k4, f4, _⟩ := fault_prog (n + 6) ((τ3.up 8).up 14) 23 x ((f3.wf.up 8).up 14)
      exact ⟨e4, τ4, run (.yes h0 <| .up s4 .nil) (by kernel_rfl), k4, f4.start.start⟩
    · obtain ⟨e4, τ4, s4, k4, f4, _⟩ := fault_prog (n + 6) ((τ3.up 8).up 18) 23 x ((f3.wf.up 8).up 18)
      have h1 : 0 ≤ x := by omega
      have hplan : ran Try.prog (n + 8) 17 #[.pointer none, .int .i64 x] [.no, .enter, .yes, .upto e4 τ4] (τ3.up 8) = some (.tuple #[.int .u64 0, e4], [¬ x < 0, 0 ≤ x, acall Try.prog (n + 7) (.func 26) #[.int .i64 23, .int .i64 x] ((τ3.up 8).up 18) = some (e4, τ4)], τ4) := by kernel_rfl
      exact ⟨e4, τ4, run_ok _ _ hplan ⟨h0, h1, s4, trivial⟩, k4, f4.start.start⟩
  obtain ⟨e4, τ4, t4, k4, F4⟩ := hload
  have l4 := hfv (τ4.up 28) ((F3.then F4).up 28)
  obtain ⟨τ5, t5, f5⟩ := is_same (n + 5) (τ4.up 28) e3 (some (1, -1)) (F4.wf.up 28) ((k3.nil F4).fr ((Fr.refl F4.wf).up 28) fun _ _ h => h) (two 1 (-1) (by decide))
  obtain ⟨τ6, t6, f6⟩ := at_ref (n + 7) τ5 23 x f5.wf
  obtain ⟨τ7, t7, f7⟩ := is_same (n + 5) τ6 e4 (some (23, x)) f6.wf ((k4.nil f5.start).nil f6) (two 23 x (by decide))
  have F7 : Fr Nil τ2 τ7 := (((F3.then F4).then f5.start).then f6).then f7
  -- Store
  obtain ⟨e8, τ8, s8, k8, f8, _⟩ := fault_prog (n + 6) (τ7.up 6) 1 (-1) (f7.wf.up 6)
  have t8 : acall Try.prog (n + 8) (.func 18) #[.pointer none, .int .i64 x, .int .u64 u] τ7 = some (e8, τ8) := run (.up s8 .nil) (by kernel_rfl)
  have l8 := hfv τ8 (F7.then f8.start)
  obtain ⟨τ9, t9, f9⟩ := is_same (n + 5) τ8 e8 (some (1, -1)) f8.wf k8 (two 1 (-1) (by decide))
  -- Cut
  obtain ⟨e10, τ10, s10, k10, f10, _⟩ := fault_prog (n + 6) (τ9.up 6) 1 (-1) (f9.wf.up 6)
  have t10 : acall Try.prog (n + 8) (.func 14) #[.pointer none, .int .i64 x] τ9 = some (e10, τ10) := run (.up s10 .nil) (by kernel_rfl)
  have F9 : Fr Nil τ2 τ9 := (F7.then f8.start).then f9
  have F10 : Fr Nil τ2 τ10 := F9.then f10.start
  have l10 := hfv τ10 F10
  obtain ⟨τ11, t11, f11⟩ := is_same (n + 5) τ10 e10 (some (1, -1)) f10.wf k10 (two 1 (-1) (by decide))
  have F11 := F10.then f11
  have a1 := hfv τ7 F7
  have a2 := hfv τ9 F9
  -- Fill
  have g2 : FreshAt (τ11.up 29) (τ11.next + 1) := f11.wf.fresh (by omega) (by omega)
  have g3 : FreshAt (τ11.up 29) (τ11.next + 3) := f11.wf.fresh (by omega) (by omega)
  obtain ⟨z, τ12, t12, s12, f12, _⟩ := copy_ok (f11.wf.up 29) ((hr2.fr F11 fun _ _ h => h).of_get fun _ _ => rfl) hl g2 g3 (by omega)
  obtain ⟨e13, τ13, s13, k13, f13, _⟩ := fault_prog (n + 6) (τ12.up 5) 1 (-1) (f12.wf.up 5)
  have t13 : acall Try.prog (n + 8) (.func 11) #[.pointer none, z] τ12 = some (e13, τ13) := run (.up s13 .nil) (by kernel_rfl)
  have F12 : Fr Nil τ2 τ12 := F11.then f12.start
  have F13 : Fr Nil τ2 τ13 := F12.then f13.start
  have l13 := hfv τ13 F13
  obtain ⟨τ14, t14, f14⟩ := is_same (n + 5) τ13 e13 (some (1, -1)) f13.wf k13 (two 1 (-1) (by decide))
  have t15 : acall Try.prog (n + 8) (.func 19) #[.pointer none] τ14 = some (.nilIface, τ14.up 4) := run .nil (by kernel_rfl)
  have t16 : acall Try.prog (n + 8) (.func 13) #[.pointer none] (τ14.up 4) = some (.slice none 0 0, (τ14.up 4).up 4) := run .nil (by kernel_rfl)
  have t17 : acall Try.prog (n + 8) (.func 16) #[.pointer none] ((τ14.up 4).up 4) = some (.int .i64 0, ((τ14.up 4).up 4).up 4) := run .nil (by kernel_rfl)
  have t18 : acall Try.prog (n + 8) (.func 24) #[.pointer none] (((τ14.up 4).up 4).up 4) = some (.int .i64 65536, (((τ14.up 4).up 4).up 4).up 4) := run .nil (by kernel_rfl)
  have b1 := hfv (τ11.up 29) (F11.up 29)
  have b2 := hfv ((τ11.up 29).put (τ11.next + 1) (.cells [] 0 false)) ((F11.up 29).put _ g2.2 (Or.inr (Or.inl (by have := F11.le; omega))) f2.wf)
  have b3 := hfv τ12 F12
  subst hRR
  subst hτ2
  exact ⟨_, run (σ' := (((τ14.up 4).up 4).up 4).up 4) (.up t1 <| .new g1 <| .up t2 <| .up t3 <| .up t4 <| .val l4 <| .up t5 <| .up t6 <| .up t7 <| .up t8 <| .val l8 <| .up t9 <| .up t10 <| .val l10 <| .up t11 <| .also a1 <| .also a2 <| .new g2 <| .up t12 <| .up t13 <| .val l13 <| .up t14 <| .up t15 <| .up t16 <| .up t17 <| .up t18 <| .also b1 <| .also b2 <| .also b3 .nil) (by kernel_rfl)⟩

end Go.Proofs.Ytfokbdgiphphfaa
