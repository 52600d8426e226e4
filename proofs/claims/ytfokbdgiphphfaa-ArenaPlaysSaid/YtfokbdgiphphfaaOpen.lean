/- A list of words that comes in: what is known of it in memory, and as an object of an abstract state. No condition beyond the hypotheses. -/
import Derived.Test.YtfokbdgiphphfaaLawCopies
import Derived.WalkKit
import Derived.ProofKit
import Derived.OpenShut
import Derived.ShutString
import Derived.ChangeOld
import Derived.Below
import Derived.SizedLaws
namespace Go.Proofs.Ytfokbdgiphphfaa
open Go Go.Abs Go.RowKit Go.ChangeShapes Go.WideShapes Go.ChangeAt

theorem own : ownKnob Try.prog.godebug = none := by kernel_rfl
theorem laidOut : laidOutB Try.prog = true := by kernel_rfl

/-- A slice of integers in memory: nil, or a row of cells that lies there. -/
def IsRow (k : IntKind) (w : World) (a : Option Addr) (len cap : Nat) (zs : List Int) : Prop :=
  (a = none ∧ len = 0 ∧ cap = 0 ∧ zs = []) ∨
  ∃ b off, a = some ⟨b, off, none⟩ ∧ b < w.heap.size ∧ len ≤ cap ∧ zs.length = cap ∧ (∀ i, i < zs.length → w.cell? ⟨b, off + i, none⟩ = some (.int k (zs.getD i 0))) ∧ ∀ n ∈ zs, (Lit.int k n).wf = true

theorem slice_there {P : Program} {w : World} {base : Nat} {t e : TypeId} {a : Addr} {len cap : Nat} (hu : P.underlying t = some (.slice e)) (h : Value.okWide P w .any base t (.slice (some a) len cap)) : a.spot = none ∧ a.block < w.heap.size := by
  simp only [Value.okWide, hu, Cell.okWide, Cell.ok] at h
  obtain ⟨_, _, _, h1, row, cells, h2, _⟩ := h
  refine ⟨h1, ?_⟩
  unfold World.shape? at h2
  split at h2
  · rename_i hg; exact (Array.getElem?_eq_some_iff.1 hg).1
  · cases h2

theorem row_of {H : Type} {enc : TypeId × Value → H} {P : Program} {w : World} {base : Nat} {t e : TypeId} {k : IntKind} {a : Option Addr} {len cap : Nat} {d : DataW H} {p : List MemPlace} (ht : P.underlying t = some (.slice e)) (he : P.underlying e = some (.int k)) (hc : P.cellsOf e = 1)
    (hok : Value.okWide P w .any base t (.slice a len cap)) (h : DataW.Trod enc P w 0 (fun _ => true) true t (.slice a len cap) d p) : ∃ zs, IsRow k w a len cap zs := by
  obtain ⟨fuel, hf⟩ := h
  rcases open_ints ht he hc hf with ⟨hcs, _⟩ | ⟨x, l, c, zs, hcs, _, hl, hm, hz, _, hcell, hwz⟩
  · simp [Value.cells] at hcs
    obtain ⟨rfl, rfl, rfl⟩ := hcs
    exact ⟨[], .inl ⟨rfl, rfl, rfl, rfl⟩⟩
  · simp [Value.cells] at hcs
    obtain ⟨rfl, rfl, rfl⟩ := hcs
    obtain ⟨hs, hb⟩ := slice_there ht hok
    obtain ⟨b, off, spot⟩ := x
    simp only at hs hb
    subst hs
    exact ⟨zs, .inr ⟨b, off, rfl, hb, hl, by simpa using hz, fun i hi => by rw [← Go.WideShapes.add_plain]; exact hcell i hi, hwz⟩⟩

/-- The same, with the form's reach: so many words at the most. -/
theorem row_of_reach {H : Type} {enc : TypeId × Value → H} {P : Program} {w : World} {base : Nat} {t e : TypeId} {k : IntKind} {a : Option Addr} {len cap : Nat} {d : DataW H} {p : List MemPlace} {ts : List TypeId} {ds : List (DataW H)} {j : Nat} (ht : P.underlying t = some (.slice e)) (he : P.underlying e = some (.int k)) (hc : P.cellsOf e = 1) (hby : P.bytesOf e = 8)
    (hok : Value.okWide P w .any base t (.slice a len cap)) (h : DataW.Trod enc P w 0 (fun _ => true) true t (.slice a len cap) d p)
    (hsz : (DataW.weightsEach P ts ds).all (· ≤ reachBytes) = true) (hts : ts[j]? = some t) (hds : ds[j]? = some d) : len ≤ 17592186043904 := by
  obtain ⟨fuel, hf⟩ := h
  rcases open_ints ht he hc hf with ⟨hcs, _⟩ | ⟨x, l, c, zs, hcs, _, hl, hm, hz, hx, hcell, hwz⟩
  · simp [Value.cells] at hcs
    obtain ⟨rfl, rfl, rfl⟩ := hcs
    omega
  · simp [Value.cells] at hcs
    obtain ⟨rfl, rfl, rfl⟩ := hcs
    simp only [Prod.mk.injEq] at hx
    rw [hx.1] at hds
    have hh := sized_slice hsz hts hds ht
    rw [hby] at hh
    have hz' : zs.length = cap := by simpa using hz
    have h1 : (lits k (zs.take len) : List (DataW H)).length + (lits k (zs.drop len) : List (DataW H)).length = cap := by
      simp [lits]
      omega
    rw [h1] at hh
    have : reachBytes = 140737488351232 := by decide
    omega

theorem noids_ints (k : IntKind) (zs : List Int) : noidsL (zs.map (.int k)) = true := by
  induction zs with
  | nil => rfl
  | cons z zs ih => simp only [List.map_cons, noidsL, noids, ih, Bool.and_self]

theorem u64_wf {n : Int} (h : (Lit.int .u64 n).wf = true) : U64 n := by
  simp only [Lit.wf, Bool.and_eq_true, decide_eq_true_eq] at h
  have h1 : IntKind.u64.min = 0 := by decide
  have h2 : IntKind.u64.max = 18446744073709551615 := by decide
  rw [h1, h2] at h
  unfold U64
  omega

theorem i64_wf {n : Int} (h : (Lit.int .i64 n).wf = true) : I64 n := by
  simp only [Lit.wf, Bool.and_eq_true, decide_eq_true_eq] at h
  have h1 : IntKind.i64.min = -9223372036854775808 := by decide
  have h2 : IntKind.i64.max = 9223372036854775807 := by decide
  rw [h1, h2] at h
  unfold I64
  omega

/-- The list as an object of an abstract state. -/
theorem words_in {w : World} {a : Option Addr} {len cap : Nat} {zs : List Int} (h : IsRow .u64 w a len cap zs) :
    ∃ μ σ v ws, Rel w.heap.size w μ σ w ∧ Wf σ ∧ conc μ v = .slice a len cap ∧ Vin σ.dom v ∧ Rd 1 σ v (u64s ws) ∧ (∀ x ∈ ws, U64 x) ∧ ws.length = len ∧ (∀ b, slBase v = some b → b < σ.next) := by
  rcases h with ⟨rfl, rfl, rfl, rfl⟩ | ⟨b, off, rfl, hb, hl, hz, hcell, hwz⟩
  · exact ⟨⟨id, id, id⟩, ⟨.leaf, 1⟩, .slice none 0 0, [], Rel.empty w _ 1, fun i o hi => (by cases hi), rfl, trivial, Or.inl ⟨rfl, rfl⟩, fun x hx => (by cases hx), rfl, fun b hb => (by cases hb)⟩
  · have hr := Rel.readOnly (Rel.empty w ⟨id, id, id⟩ 1) (id := 0) rfl (by decide) (zs.map (.int .u64)) (noids_ints _ _) b off (fun i v hv => by
      rw [List.getElem?_map] at hv
      cases hg : zs[i]? with
      | none => rw [hg] at hv; cases hv
      | some z =>
        rw [hg] at hv
        cases hv
        obtain ⟨hi, hzi⟩ := List.getElem?_eq_some_iff.1 hg
        rw [hcell i hi, List.getD_eq_getElem?_getD, hg]
        rfl) hb
    refine ⟨_, _, .slice (some ⟨0, 0, none⟩) len cap, zs.take len, hr, fun i o hi => ?_, ?_, (fun hh => by
      have h0 : (Tr.set Tr.leaf 0 (AObj.cells (zs.map (.int .u64)) 0 true)).get 0 = none := hh
      rw [Tr.get_set_same] at h0
      cases h0), Or.inr (Or.inr ⟨⟨0, 0, none⟩, len, cap, zs.map (.int .u64), 0, true, rfl, rfl, (by show (Tr.set Tr.leaf 0 _).get 0 = _; exact Tr.get_set_same _ _ _), ?_, ?_, ?_⟩), fun x hx => u64_wf (hwz x (List.mem_of_mem_take hx)), ?_, fun b hb => (by cases hb; exact Nat.zero_lt_one)⟩
    · rw [Tr.get_set] at hi
      split at hi
      · subst_vars; exact Nat.zero_lt_one
      · cases hi
    · simp [conc, Mu.at, Mu.upd]
    · rw [u64s_length, List.length_take, Nat.mul_one]; omega
    · rw [List.length_map, Nat.mul_one]; dsimp only; omega
    · simp [u64s]
    · rw [List.length_take]; omega

end Go.Proofs.Ytfokbdgiphphfaa
