/- Plain facts on numbers: words, tags, values; no program in sight. No condition beyond the hypotheses. -/
import Derived.Test.YtfokbdgiphphfaaAbs29
import Derived.IntWalk
namespace Go.Abs
open Go.RowKit

/-- May a tag have a value? -/
def fitsB (tag v : Int) : Bool :=
  if tag = 0 ∨ tag = 3 ∨ tag = 5 then decide (0 ≤ v) && decide (v < 65536)
  else if tag = 1 then decide (0 ≤ v) && decide (v < 1024)
  else if tag = 2 then decide (-1125899906842624 ≤ v) && decide (v ≤ 1125899906842624)
  else if tag = 4 then decide (0 ≤ v) && decide (v / 16 < 1024) && decide (1 ≤ v % 16) && decide (v % 16 ≤ 8)
  else false

def U64 (w : Int) : Prop := 0 ≤ w ∧ w < 18446744073709551616
def I64 (n : Int) : Prop := -9223372036854775808 ≤ n ∧ n < 9223372036854775808

def wTag (w : Int) : Int := w % 8
def wVal (w : Int) : Int := (if w < 9223372036854775808 then w else w - 18446744073709551616) / 8

/-- Is a word good? -/
def goodB (w : Int) : Bool := fitsB (wTag w) (wVal w)
/-- Does a word tell a place? -/
def isPl (w : Int) : Bool := goodB w && (decide (wTag w = 0) || decide (wTag w = 3) || decide (wTag w = 5))
/-- May a word stand where so many are allocated? -/
def mayB (w : Int) (top : Int) : Bool := goodB w && (!isPl w || decide (wVal w < top))

theorem wrap_i64 {n : Int} (h : I64 n) : IntKind.wrap .i64 n = n := IntWalk.i64_in n (by unfold I64 at h; omega)
theorem wrap_u64 {n : Int} (h : U64 n) : IntKind.wrap .u64 n = n := IntWalk.u64_in n (by unfold U64 at h; omega)

theorem wrap_word {w : Int} (h : U64 w) : IntKind.wrap .i64 w = if w < 9223372036854775808 then w else w - 18446744073709551616 := by
  unfold U64 at h
  rw [IntWalk.i64_left]
  unfold wrap64
  split <;> omega

theorem and_nat (x k : Nat) : x &&& (2 ^ k - 1) = x % 2 ^ k := Nat.and_two_pow_sub_one_eq_mod x k

theorem and_u64 {w : Int} (h : U64 w) : andI .u64 w 7 = w % 8 := by
  unfold U64 at h
  unfold andI
  have e : (BitVec.ofInt 64 w &&& BitVec.ofInt 64 7).toNat = w.toNat % 8 := by
    rw [BitVec.toNat_and, BitVec.toNat_ofInt]
    have : (BitVec.ofInt 64 7).toNat = 2 ^ 3 - 1 := by decide
    rw [this, and_nat]
    have : (w % ((2 ^ 64 : Nat) : Int)).toNat = w.toNat := by
      rw [Int.emod_eq_of_lt h.1 (by simpa using h.2)]
    rw [this]
  show IntKind.wrap .u64 ((BitVec.ofInt 64 w &&& BitVec.ofInt 64 7).toNat : Int) = _
  rw [e, wrap_u64 (by unfold U64; omega)]
  omega

theorem and_i64 {v : Int} (h : I64 v) (h0 : 0 ≤ v) : andI .i64 v 15 = v % 16 := by
  unfold I64 at h
  unfold andI
  have e : (BitVec.ofInt 64 v &&& BitVec.ofInt 64 15).toNat = v.toNat % 16 := by
    rw [BitVec.toNat_and, BitVec.toNat_ofInt]
    have : (BitVec.ofInt 64 15).toNat = 2 ^ 4 - 1 := by decide
    rw [this, and_nat]
    have : (v % ((2 ^ 64 : Nat) : Int)).toNat = v.toNat := by
      rw [Int.emod_eq_of_lt h0 (by have := h.2; simp; omega)]
    rw [this]
  show IntKind.wrap .i64 ((BitVec.ofInt 64 v &&& BitVec.ofInt 64 15).toNat : Int) = _
  rw [e, wrap_i64 (by unfold I64; omega)]
  omega

theorem shr_i64 (v : Int) : shrI .i64 v 4 = v / 16 := by
  show v.fdiv (2 ^ 4) = v / 16
  rw [Int.fdiv_eq_ediv_of_nonneg _ (by decide)]
  rfl
theorem shr3_i64 (v : Int) : shrI .i64 v 3 = v / 8 := by
  show v.fdiv (2 ^ 3) = v / 8
  rw [Int.fdiv_eq_ediv_of_nonneg _ (by decide)]
  rfl

theorem tag_range {w : Int} : 0 ≤ wTag w ∧ wTag w < 8 := by unfold wTag; omega
theorem val_range {w : Int} (h : U64 w) : -1152921504606846976 ≤ wVal w ∧ wVal w < 1152921504606846976 := by
  unfold U64 at h
  unfold wVal
  split <;> omega

theorem tag_ref {w : Int} (h : U64 w) : IntKind.wrap .i64 (w.tmod 8) = wTag w := by
  unfold U64 at h
  rw [Int.tmod_eq_emod_of_nonneg h.1, wrap_i64 (by unfold I64; omega)]
  rfl
theorem tag_prog {w : Int} (h : U64 w) : IntKind.wrap .i64 (andI .u64 w 7) = wTag w := by
  rw [and_u64 h, wrap_i64 (by unfold I64; omega)]
  rfl
theorem val_prog {w : Int} (h : U64 w) : shrI .i64 (IntKind.wrap .i64 w) 3 = wVal w := by
  rw [shr3_i64, wrap_word h]
  rfl
theorem val_ref {w : Int} (h : U64 w) : (if (IntKind.wrap .i64 w).tmod 8 < 0 then IntKind.wrap .i64 (IntKind.wrap .i64 ((IntKind.wrap .i64 w).tdiv 8) - 1) else IntKind.wrap .i64 ((IntKind.wrap .i64 w).tdiv 8)) = wVal w := by
  rw [wrap_word h]
  unfold wVal
  unfold U64 at h
  generalize hn : (if w < 9223372036854775808 then w else w - 18446744073709551616) = n
  have hb : -9223372036854775808 ≤ n ∧ n < 9223372036854775808 := by split at hn <;> omega
  have h1 : I64 (n.tdiv 8) := by
    unfold I64
    by_cases h0 : 0 ≤ n
    · rw [Int.tdiv_eq_ediv_of_nonneg h0]; omega
    · have : n.tdiv 8 = -((-n).tdiv 8) := by rw [Int.neg_tdiv]; omega
      rw [this, Int.tdiv_eq_ediv_of_nonneg (by omega)]; omega
  rw [wrap_i64 h1]
  by_cases h0 : 0 ≤ n
  · rw [Int.tmod_eq_emod_of_nonneg h0, if_neg (by omega), Int.tdiv_eq_ediv_of_nonneg h0]
  · have e1 : n.tdiv 8 = -((-n).tdiv 8) := by rw [Int.neg_tdiv]; omega
    have e2 : n.tmod 8 = -((-n).tmod 8) := by rw [Int.neg_tmod]; omega
    rw [e1, e2, Int.tdiv_eq_ediv_of_nonneg (by omega), Int.tmod_eq_emod_of_nonneg (by omega)]
    split
    · rw [wrap_i64 (by unfold I64; omega)]; omega
    · omega

end Go.Abs
