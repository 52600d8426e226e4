/- The Go function tendrillaw02.ArenaStays returns true for every list of words and every call, and leaves its arguments as they were. No condition. -/
import Derived.Test.YtfokbdgiphphfaaOpen2
namespace Go.Proofs.Ytfokbdgiphphfaa.arenaStays
open Go Go.Abs Go.ChangeShapes Go.WideShapes Go.ChangeAt Go.RowKit Go.Proofs.Ytfokbdgiphphfaa
set_option linter.unusedVariables false

theorem walk (a0 : Option Addr) (len0 cap0 : Nat) (z0 : List Int) (k x y : Int) (a1 : Option Addr) (len1 cap1 : Nat) (z1 : List Int) (w : World) (w0 : IsRow .u64 w a0 len0 cap0 z0) (w1 : IsRow .u64 w a1 len1 cap1 z1) (hy : U64 y) :
    Calls Try.prog 6 #[.slice a0 len0 cap0, .agg #[.int .i64 k, .int .i64 x, .int .u64 y, .slice a1 len1 cap1]] w fun e w' => e = .returned (.bool true) ∧ Below w.heap.size w w' := by
  have hw0 : Wf ⟨.leaf, 2⟩ := fun i o hi => by cases hi
  obtain ⟨μ, σ, v, ws, hr, hw, hn, _, _, hsame, hv, hin, hrd, hu, _, hb⟩ := words_add (Rel.empty w ⟨id, id, id⟩ 2) (id := 0) rfl (by decide) hw0 w0
  have hn' : σ.next = 2 := hn
  have hg1 : σ.heap.get 1 = none := by rw [hsame 1 (by decide)]; rfl
  obtain ⟨μ', σ', u, xs, hr', hw', hn2, hag, hdom, hsame', hv', hin', hrd', hu', _, hb'⟩ := words_add hr (id := 1) hg1 (by omega) hw w1
  have hvv : conc μ' v = .slice a0 len0 cap0 := by rw [conc_agree hag v hin]; exact hv
  have hrd2 : Rd 1 σ' v (u64s ws) := hrd.of_get fun b hb2 => hsame' b (by have := hb b hb2; omega)
  obtain ⟨τ, hs⟩ := stays_run 100000 σ' hw' v u ws xs k x y hrd2 hrd' hu hu' hy (fun b hb2 => by have := hb b hb2; omega) (by decide)
  have hop : Vin σ'.dom (.agg #[.int .i64 k, .int .i64 x, .int .u64 y, u]) := by
    show VinL σ'.dom [.int .i64 k, .int .i64 x, .int .u64 y, u]
    exact VinL_iff.2 fun z hz => by
      simp only [List.mem_cons, List.not_mem_nil, or_false] at hz
      rcases hz with rfl | rfl | rfl | rfl
      · trivial
      · trivial
      · trivial
      · exact hin'
  have := calls_plain hs hr' (VinA_iff.2 fun z hz => by
    simp only [List.mem_toArray, List.mem_cons, List.not_mem_nil, or_false] at hz
    rcases hz with rfl | rfl
    · exact Vin_mono hdom _ hin
    · exact hop) rfl
  have hc : concA μ' #[v, .agg #[.int .i64 k, .int .i64 x, .int .u64 y, u]] = #[.slice a0 len0 cap0, .agg #[.int .i64 k, .int .i64 x, .int .u64 y, .slice a1 len1 cap1]] := by
    simp [concA_eq, hvv, hv', conc]
  rwa [hc] at this

set_option maxRecDepth 100000 in
theorem lifted (os : Os) (started : os.Started) (H : Type) (enc : TypeId × Value → H) :
    ReturnsInHanded {} Try.checked os 6 .any (Rows.arenaStaysSpec.pre6 enc Try.prog Try.f6 Rows.arenaStaysRow.domain false) (Rows.arenaStaysSpec.post enc Try.prog Try.f6 false true false false) := by
  refine returnsInHanded_of_change (C := Try.checked) own started (by kernel_rfl) Try.func6
    (ChangeSpec.witness6 (enc := enc) (C := Try.checked) false ⟨#[], #[.slice none 0 0, .agg #[.int .i64 0, .int .i64 0, .int .u64 0, .slice none 0 0]], []⟩ 8 (by kernel_rfl) (by kernel_rfl) (by kernel_rfl) (by kernel_rfl)) ?_
  intro W base args ds gs before hval0 hW hcnd _
  have hval : ∀ (j : Nat) t v, Try.f6.params[j]? = some t → args[j]? = some v → Value.okWide Try.prog W .any base t v := hval0
  have hW' := hW
  obtain ⟨p, q, hA0, hV, rfl, hfz, hnd⟩ := hW
  have hA : DataW.TrodAll enc Try.prog W 0 (fun _ => true) true Try.f6.params.toList args.toList ds p := hA0
  rw [Try.params6] at hA hval
  obtain ⟨v0, vs0, d0, ds0, p0, q0, hargs, rfl, rfl, h0, r0⟩ := trodAll_cons hA
  obtain ⟨v1, vs1, d1, ds1, p1, q1, rfl, rfl, rfl, h1, r1⟩ := trodAll_cons r0
  obtain ⟨rfl, rfl, rfl⟩ := trodAll_nil r1
  obtain rfl : args = #[v0, v1] := by cases args; simp_all
  obtain ⟨rfl, rfl⟩ := trodVars_none hV
  obtain ⟨a0, len0, cap0, rfl⟩ := okWide_slice Try.underlying22 (hval 0 22 v0 rfl rfl)
  have k0 := h0
  have lt0 : ∀ x ∈ p0, x.block < W.heap.size := by obtain ⟨m, hm⟩ := k0; exact DataW.trod_lt m _ _ _ hm
  obtain ⟨z0, w0⟩ := row_of Try.underlying22 Try.underlying29 (by kernel_rfl) (hval 0 22 _ rfl rfl) h0
  have k1 := h1
  have lt1 : ∀ x ∈ p1, x.block < W.heap.size := by obtain ⟨m, hm⟩ := k1; exact DataW.trod_lt m _ _ _ hm
  obtain ⟨k, x, y, a1, len1, cap1, z1, rfl, hy, w1⟩ := op_of (hval 1 43 v1 rfl rfl) h1
  clear hA0 hval0
  refine (walk a0 len0 cap0 z0 k x y a1 len1 cap1 z1 W w0 w1 hy).mono fun e W' ⟨he, bel⟩ => ?_
  subst he
  exact ⟨_, rfl, _, _, _, [], _, [], hW', trodAll_mk1 (shut_bool Try.underlying4 _), (trodAll_cons_mk (Below.trod laidOut (by kernel_rfl) (of_decide_eq_true (by kernel_rfl)) k0 bel lt0) (trodAll_cons_mk (Below.trod laidOut (by kernel_rfl) (of_decide_eq_true (by kernel_rfl)) k1 bel lt1) trodAll_mk0)), rfl, bel.frame _, fun h => by cases h⟩

theorem over : Rows.arenaStaysRow.holds Try.pinned (OpenSpec.ofChange Rows.arenaStaysSpec) :=
  OpenClaim.holds_of_wide 6 Try.f6 rfl rfl rfl rfl rfl rfl rfl ⟨rfl, rfl, rfl, rfl, rfl⟩ rfl rfl rfl rfl rfl (by kernel_rfl) Try.func6 (by kernel_rfl)
    (of_decide_eq_true (by kernel_rfl)) (by unfold Func.isWrapper; first | (rw [if_pos (by decide +kernel)]; kernel_rfl) | (rw [if_neg (by decide +kernel)]; exact ⟨rfl, rfl⟩))
    (fun os started H enc _ => lifted os started H enc)

theorem proved : Rows.ArenaStaysSaid := over
#print axioms proved
end Go.Proofs.Ytfokbdgiphphfaa.arenaStays
