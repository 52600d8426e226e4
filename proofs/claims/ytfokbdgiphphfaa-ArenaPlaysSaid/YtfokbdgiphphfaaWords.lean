/- The functions on words: what each answers. No condition beyond the hypotheses. -/
import Derived.Test.YtfokbdgiphphfaaRows
import Derived.Test.YtfokbdgiphphfaaNum
import Derived.KernelRfl
namespace Go.Proofs.Ytfokbdgiphphfaa
open Go Go.Abs Go.RowKit

theorem fits_prog (n : Nat) (σ : AS) (tag v : Int) (hv : I64 v) : ∃ k, acall Try.prog (n + 1) (.func 39) #[.int .i64 tag, .int .i64 v] σ = some (.bool (fitsB tag v), σ.up k) := by
  have key : ∃ b τ, acall Try.prog (n + 1) (.func 39) #[.int .i64 tag, .int .i64 v] σ = some (b, τ) ∧ b = .bool (fitsB tag v) ∧ ∃ k, τ = σ.up k := by
    by_cases h0 : tag = 0
    · by_cases h1 : 0 ≤ v
      · exact ⟨Value.bool (decide (v < 65536)), AS.up σ 11, run_ok [.yes, .yes] [tag = 0, 0 ≤ v] (by kernel_rfl) ⟨h0, h1, trivial⟩, (by first | (simp [fitsB, *]; done) | (simp only [shr_i64] at *; simp [fitsB, *]; omega) | (simp only [and_i64 hv h6, shr_i64] at *; simp [fitsB, *]; done) | (simp only [and_i64 hv h6, shr_i64] at *; simp [fitsB, *]; omega)), ⟨_, rfl⟩⟩
      · exact ⟨Value.bool false, AS.up σ 11, run_ok [.yes, .no] [tag = 0, ¬0 ≤ v] (by kernel_rfl) ⟨h0, h1, trivial⟩, (by first | (simp [fitsB, *]; done) | (simp only [shr_i64] at *; simp [fitsB, *]; omega) | (simp only [and_i64 hv h6, shr_i64] at *; simp [fitsB, *]; done) | (simp only [and_i64 hv h6, shr_i64] at *; simp [fitsB, *]; omega)), ⟨_, rfl⟩⟩
    · by_cases h1 : tag = 3
      · by_cases h2 : 0 ≤ v
        · exact ⟨Value.bool (decide (v < 65536)), AS.up σ 13, run_ok [.no, .yes, .yes] [¬tag = 0, tag = 3, 0 ≤ v] (by kernel_rfl) ⟨h0, h1, h2, trivial⟩, (by first | (simp [fitsB, *]; done) | (simp only [shr_i64] at *; simp [fitsB, *]; omega) | (simp only [and_i64 hv h6, shr_i64] at *; simp [fitsB, *]; done) | (simp only [and_i64 hv h6, shr_i64] at *; simp [fitsB, *]; omega)), ⟨_, rfl⟩⟩
        · exact ⟨Value.bool false, AS.up σ 13, run_ok [.no, .yes, .no] [¬tag = 0, tag = 3, ¬0 ≤ v] (by kernel_rfl) ⟨h0, h1, h2, trivial⟩, (by first | (simp [fitsB, *]; done) | (simp only [shr_i64] at *; simp [fitsB, *]; omega) | (simp only [and_i64 hv h6, shr_i64] at *; simp [fitsB, *]; done) | (simp only [and_i64 hv h6, shr_i64] at *; simp [fitsB, *]; omega)), ⟨_, rfl⟩⟩
      · by_cases h2 : tag = 5
        · by_cases h3 : 0 ≤ v
          · exact ⟨Value.bool (decide (v < 65536)), AS.up σ 15, run_ok [.no, .no, .yes, .yes] [¬tag = 0, ¬tag = 3, tag = 5, 0 ≤ v] (by kernel_rfl) ⟨h0, h1, h2, h3, trivial⟩, (by first | (simp [fitsB, *]; done) | (simp only [shr_i64] at *; simp [fitsB, *]; omega) | (simp only [and_i64 hv h6, shr_i64] at *; simp [fitsB, *]; done) | (simp only [and_i64 hv h6, shr_i64] at *; simp [fitsB, *]; omega)), ⟨_, rfl⟩⟩
          · exact ⟨Value.bool false, AS.up σ 15, run_ok [.no, .no, .yes, .no] [¬tag = 0, ¬tag = 3, tag = 5, ¬0 ≤ v] (by kernel_rfl) ⟨h0, h1, h2, h3, trivial⟩, (by first | (simp [fitsB, *]; done) | (simp only [shr_i64] at *; simp [fitsB, *]; omega) | (simp only [and_i64 hv h6, shr_i64] at *; simp [fitsB, *]; done) | (simp only [and_i64 hv h6, shr_i64] at *; simp [fitsB, *]; omega)), ⟨_, rfl⟩⟩
        · by_cases h3 : tag = 1
          · by_cases h4 : 0 ≤ v
            · exact ⟨Value.bool (decide (v < 1024)), AS.up σ 17, run_ok [.no, .no, .no, .yes, .yes] [¬tag = 0, ¬tag = 3, ¬tag = 5, tag = 1, 0 ≤ v] (by kernel_rfl) ⟨h0, h1, h2, h3, h4, trivial⟩, (by first | (simp [fitsB, *]; done) | (simp only [shr_i64] at *; simp [fitsB, *]; omega) | (simp only [and_i64 hv h6, shr_i64] at *; simp [fitsB, *]; done) | (simp only [and_i64 hv h6, shr_i64] at *; simp [fitsB, *]; omega)), ⟨_, rfl⟩⟩
            · exact ⟨Value.bool false, AS.up σ 17, run_ok [.no, .no, .no, .yes, .no] [¬tag = 0, ¬tag = 3, ¬tag = 5, tag = 1, ¬0 ≤ v] (by kernel_rfl) ⟨h0, h1, h2, h3, h4, trivial⟩, (by first | (simp [fitsB, *]; done) | (simp only [shr_i64] at *; simp [fitsB, *]; omega) | (simp only [and_i64 hv h6, shr_i64] at *; simp [fitsB, *]; done) | (simp only [and_i64 hv h6, shr_i64] at *; simp [fitsB, *]; omega)), ⟨_, rfl⟩⟩
          · by_cases h4 : tag = 2
            · by_cases h5 : -1125899906842624 ≤ v
              · exact ⟨Value.bool (decide (v ≤ 1125899906842624)), AS.up σ 19, run_ok [.no, .no, .no, .no, .yes, .yes] [¬tag = 0, ¬tag = 3, ¬tag = 5, ¬tag = 1, tag = 2, -1125899906842624 ≤ v] (by kernel_rfl) ⟨h0, h1, h2, h3, h4, h5, trivial⟩, (by first | (simp [fitsB, *]; done) | (simp only [shr_i64] at *; simp [fitsB, *]; omega) | (simp only [and_i64 hv h6, shr_i64] at *; simp [fitsB, *]; done) | (simp only [and_i64 hv h6, shr_i64] at *; simp [fitsB, *]; omega)), ⟨_, rfl⟩⟩
              · exact ⟨Value.bool false, AS.up σ 19, run_ok [.no, .no, .no, .no, .yes, .no] [¬tag = 0, ¬tag = 3, ¬tag = 5, ¬tag = 1, tag = 2, ¬-1125899906842624 ≤ v] (by kernel_rfl) ⟨h0, h1, h2, h3, h4, h5, trivial⟩, (by first | (simp [fitsB, *]; done) | (simp only [shr_i64] at *; simp [fitsB, *]; omega) | (simp only [and_i64 hv h6, shr_i64] at *; simp [fitsB, *]; done) | (simp only [and_i64 hv h6, shr_i64] at *; simp [fitsB, *]; omega)), ⟨_, rfl⟩⟩
            · by_cases h5 : tag = 4
              · by_cases h6 : 0 ≤ v
                · by_cases h7 : shrI IntKind.i64 v 4 < 1024
                  · by_cases h8 : 1 ≤ andI IntKind.i64 v 15
                    · exact ⟨Value.bool (decide (andI IntKind.i64 v 15 ≤ 8)), AS.up σ 33, run_ok [.no, .no, .no, .no, .no, .yes, .yes, .yes, .yes] [¬tag = 0, ¬tag = 3, ¬tag = 5, ¬tag = 1, ¬tag = 2, tag = 4, 0 ≤ v, shrI IntKind.i64 v 4 < 1024, 1 ≤ andI IntKind.i64 v 15] (by kernel_rfl) ⟨h0, h1, h2, h3, h4, h5, h6, h7, h8, trivial⟩, (by first | (simp [fitsB, *]; done) | (simp only [shr_i64] at *; simp [fitsB, *]; omega) | (simp only [and_i64 hv h6, shr_i64] at *; simp [fitsB, *]; done) | (simp only [and_i64 hv h6, shr_i64] at *; simp [fitsB, *]; omega)), ⟨_, rfl⟩⟩
                    · exact ⟨Value.bool false, AS.up σ 33, run_ok [.no, .no, .no, .no, .no, .yes, .yes, .yes, .no] [¬tag = 0, ¬tag = 3, ¬tag = 5, ¬tag = 1, ¬tag = 2, tag = 4, 0 ≤ v, shrI IntKind.i64 v 4 < 1024, ¬1 ≤ andI IntKind.i64 v 15] (by kernel_rfl) ⟨h0, h1, h2, h3, h4, h5, h6, h7, h8, trivial⟩, (by first | (simp [fitsB, *]; done) | (simp only [shr_i64] at *; simp [fitsB, *]; omega) | (simp only [and_i64 hv h6, shr_i64] at *; simp [fitsB, *]; done) | (simp only [and_i64 hv h6, shr_i64] at *; simp [fitsB, *]; omega)), ⟨_, rfl⟩⟩
                  · exact ⟨Value.bool false, AS.up σ 33, run_ok [.no, .no, .no, .no, .no, .yes, .yes, .no] [¬tag = 0, ¬tag = 3, ¬tag = 5, ¬tag = 1, ¬tag = 2, tag = 4, 0 ≤ v, ¬shrI IntKind.i64 v 4 < 1024] (by kernel_rfl) ⟨h0, h1, h2, h3, h4, h5, h6, h7, trivial⟩, (by first | (simp [fitsB, *]; done) | (simp only [shr_i64] at *; simp [fitsB, *]; omega) | (simp only [and_i64 hv h6, shr_i64] at *; simp [fitsB, *]; done) | (simp only [and_i64 hv h6, shr_i64] at *; simp [fitsB, *]; omega)), ⟨_, rfl⟩⟩
                · exact ⟨Value.bool false, AS.up σ 33, run_ok [.no, .no, .no, .no, .no, .yes, .no] [¬tag = 0, ¬tag = 3, ¬tag = 5, ¬tag = 1, ¬tag = 2, tag = 4, ¬0 ≤ v] (by kernel_rfl) ⟨h0, h1, h2, h3, h4, h5, h6, trivial⟩, (by first | (simp [fitsB, *]; done) | (simp only [shr_i64] at *; simp [fitsB, *]; omega) | (simp only [and_i64 hv h6, shr_i64] at *; simp [fitsB, *]; done) | (simp only [and_i64 hv h6, shr_i64] at *; simp [fitsB, *]; omega)), ⟨_, rfl⟩⟩
              · exact ⟨Value.bool false, AS.up σ 15, run_ok [.no, .no, .no, .no, .no, .no] [¬tag = 0, ¬tag = 3, ¬tag = 5, ¬tag = 1, ¬tag = 2, ¬tag = 4] (by kernel_rfl) ⟨h0, h1, h2, h3, h4, h5, trivial⟩, (by first | (simp [fitsB, *]; done) | (simp only [shr_i64] at *; simp [fitsB, *]; omega) | (simp only [and_i64 hv h6, shr_i64] at *; simp [fitsB, *]; done) | (simp only [and_i64 hv h6, shr_i64] at *; simp [fitsB, *]; omega)), ⟨_, rfl⟩⟩
  obtain ⟨b, τ, h, rfl, k, rfl⟩ := key
  exact ⟨k, h⟩

theorem fits_ref (n : Nat) (σ : AS) (tag v : Int) (hv : I64 v) : ∃ k, acall Try.prog (n + 2) (.func 51) #[.int .i64 tag, .int .i64 v] σ = some (.bool (fitsB tag v), σ.up k) := by
  have key : ∃ b τ, acall Try.prog (n + 2) (.func 51) #[.int .i64 tag, .int .i64 v] σ = some (b, τ) ∧ b = .bool (fitsB tag v) ∧ ∃ k, τ = σ.up k := by
    by_cases h0 : tag = 0
    · by_cases h1 : 0 ≤ v
      · exact ⟨Value.bool (decide (v < 65536)), AS.up σ 15, run_ok [.yes, .yes] [tag = 0, 0 ≤ v] (by kernel_rfl) ⟨h0, h1, trivial⟩, (by first | (simp [fitsB, *]; done) | (simp only [IntWalk.i64_quo v 16 (by unfold I64 at hv; omega)] at *; simp [fitsB, *]; omega) | (simp only [Int.tmod_eq_emod_of_nonneg h6, IntWalk.i64_quo v 16 (by unfold I64 at hv; omega)] at *; simp [fitsB, *]; done) | (simp only [Int.tmod_eq_emod_of_nonneg h6, IntWalk.i64_quo v 16 (by unfold I64 at hv; omega)] at *; simp [fitsB, *]; omega)), ⟨_, rfl⟩⟩
      · exact ⟨Value.bool false, AS.up σ 15, run_ok [.yes, .no] [tag = 0, ¬0 ≤ v] (by kernel_rfl) ⟨h0, h1, trivial⟩, (by first | (simp [fitsB, *]; done) | (simp only [IntWalk.i64_quo v 16 (by unfold I64 at hv; omega)] at *; simp [fitsB, *]; omega) | (simp only [Int.tmod_eq_emod_of_nonneg h6, IntWalk.i64_quo v 16 (by unfold I64 at hv; omega)] at *; simp [fitsB, *]; done) | (simp only [Int.tmod_eq_emod_of_nonneg h6, IntWalk.i64_quo v 16 (by unfold I64 at hv; omega)] at *; simp [fitsB, *]; omega)), ⟨_, rfl⟩⟩
    · by_cases h1 : tag = 3
      · by_cases h2 : 0 ≤ v
        · exact ⟨Value.bool (decide (v < 65536)), AS.up σ 17, run_ok [.no, .yes, .yes] [¬tag = 0, tag = 3, 0 ≤ v] (by kernel_rfl) ⟨h0, h1, h2, trivial⟩, (by first | (simp [fitsB, *]; done) | (simp only [IntWalk.i64_quo v 16 (by unfold I64 at hv; omega)] at *; simp [fitsB, *]; omega) | (simp only [Int.tmod_eq_emod_of_nonneg h6, IntWalk.i64_quo v 16 (by unfold I64 at hv; omega)] at *; simp [fitsB, *]; done) | (simp only [Int.tmod_eq_emod_of_nonneg h6, IntWalk.i64_quo v 16 (by unfold I64 at hv; omega)] at *; simp [fitsB, *]; omega)), ⟨_, rfl⟩⟩
        · exact ⟨Value.bool false, AS.up σ 17, run_ok [.no, .yes, .no] [¬tag = 0, tag = 3, ¬0 ≤ v] (by kernel_rfl) ⟨h0, h1, h2, trivial⟩, (by first | (simp [fitsB, *]; done) | (simp only [IntWalk.i64_quo v 16 (by unfold I64 at hv; omega)] at *; simp [fitsB, *]; omega) | (simp only [Int.tmod_eq_emod_of_nonneg h6, IntWalk.i64_quo v 16 (by unfold I64 at hv; omega)] at *; simp [fitsB, *]; done) | (simp only [Int.tmod_eq_emod_of_nonneg h6, IntWalk.i64_quo v 16 (by unfold I64 at hv; omega)] at *; simp [fitsB, *]; omega)), ⟨_, rfl⟩⟩
      · by_cases h2 : tag = 5
        · by_cases h3 : 0 ≤ v
          · exact ⟨Value.bool (decide (v < 65536)), AS.up σ 19, run_ok [.no, .no, .yes, .yes] [¬tag = 0, ¬tag = 3, tag = 5, 0 ≤ v] (by kernel_rfl) ⟨h0, h1, h2, h3, trivial⟩, (by first | (simp [fitsB, *]; done) | (simp only [IntWalk.i64_quo v 16 (by unfold I64 at hv; omega)] at *; simp [fitsB, *]; omega) | (simp only [Int.tmod_eq_emod_of_nonneg h6, IntWalk.i64_quo v 16 (by unfold I64 at hv; omega)] at *; simp [fitsB, *]; done) | (simp only [Int.tmod_eq_emod_of_nonneg h6, IntWalk.i64_quo v 16 (by unfold I64 at hv; omega)] at *; simp [fitsB, *]; omega)), ⟨_, rfl⟩⟩
          · exact ⟨Value.bool false, AS.up σ 19, run_ok [.no, .no, .yes, .no] [¬tag = 0, ¬tag = 3, tag = 5, ¬0 ≤ v] (by kernel_rfl) ⟨h0, h1, h2, h3, trivial⟩, (by first | (simp [fitsB, *]; done) | (simp only [IntWalk.i64_quo v 16 (by unfold I64 at hv; omega)] at *; simp [fitsB, *]; omega) | (simp only [Int.tmod_eq_emod_of_nonneg h6, IntWalk.i64_quo v 16 (by unfold I64 at hv; omega)] at *; simp [fitsB, *]; done) | (simp only [Int.tmod_eq_emod_of_nonneg h6, IntWalk.i64_quo v 16 (by unfold I64 at hv; omega)] at *; simp [fitsB, *]; omega)), ⟨_, rfl⟩⟩
        · by_cases h3 : tag = 1
          · by_cases h4 : 0 ≤ v
            · exact ⟨Value.bool (decide (v < 1024)), AS.up σ 17, run_ok [.no, .no, .no, .yes, .yes] [¬tag = 0, ¬tag = 3, ¬tag = 5, tag = 1, 0 ≤ v] (by kernel_rfl) ⟨h0, h1, h2, h3, h4, trivial⟩, (by first | (simp [fitsB, *]; done) | (simp only [IntWalk.i64_quo v 16 (by unfold I64 at hv; omega)] at *; simp [fitsB, *]; omega) | (simp only [Int.tmod_eq_emod_of_nonneg h6, IntWalk.i64_quo v 16 (by unfold I64 at hv; omega)] at *; simp [fitsB, *]; done) | (simp only [Int.tmod_eq_emod_of_nonneg h6, IntWalk.i64_quo v 16 (by unfold I64 at hv; omega)] at *; simp [fitsB, *]; omega)), ⟨_, rfl⟩⟩
            · exact ⟨Value.bool false, AS.up σ 17, run_ok [.no, .no, .no, .yes, .no] [¬tag = 0, ¬tag = 3, ¬tag = 5, tag = 1, ¬0 ≤ v] (by kernel_rfl) ⟨h0, h1, h2, h3, h4, trivial⟩, (by first | (simp [fitsB, *]; done) | (simp only [IntWalk.i64_quo v 16 (by unfold I64 at hv; omega)] at *; simp [fitsB, *]; omega) | (simp only [Int.tmod_eq_emod_of_nonneg h6, IntWalk.i64_quo v 16 (by unfold I64 at hv; omega)] at *; simp [fitsB, *]; done) | (simp only [Int.tmod_eq_emod_of_nonneg h6, IntWalk.i64_quo v 16 (by unfold I64 at hv; omega)] at *; simp [fitsB, *]; omega)), ⟨_, rfl⟩⟩
          · by_cases h4 : tag = 2
            · by_cases h5 : -1125899906842624 ≤ v
              · exact ⟨Value.bool (decide (v ≤ 1125899906842624)), AS.up σ 19, run_ok [.no, .no, .no, .no, .yes, .yes] [¬tag = 0, ¬tag = 3, ¬tag = 5, ¬tag = 1, tag = 2, -1125899906842624 ≤ v] (by kernel_rfl) ⟨h0, h1, h2, h3, h4, h5, trivial⟩, (by first | (simp [fitsB, *]; done) | (simp only [IntWalk.i64_quo v 16 (by unfold I64 at hv; omega)] at *; simp [fitsB, *]; omega) | (simp only [Int.tmod_eq_emod_of_nonneg h6, IntWalk.i64_quo v 16 (by unfold I64 at hv; omega)] at *; simp [fitsB, *]; done) | (simp only [Int.tmod_eq_emod_of_nonneg h6, IntWalk.i64_quo v 16 (by unfold I64 at hv; omega)] at *; simp [fitsB, *]; omega)), ⟨_, rfl⟩⟩
              · exact ⟨Value.bool false, AS.up σ 19, run_ok [.no, .no, .no, .no, .yes, .no] [¬tag = 0, ¬tag = 3, ¬tag = 5, ¬tag = 1, tag = 2, ¬-1125899906842624 ≤ v] (by kernel_rfl) ⟨h0, h1, h2, h3, h4, h5, trivial⟩, (by first | (simp [fitsB, *]; done) | (simp only [IntWalk.i64_quo v 16 (by unfold I64 at hv; omega)] at *; simp [fitsB, *]; omega) | (simp only [Int.tmod_eq_emod_of_nonneg h6, IntWalk.i64_quo v 16 (by unfold I64 at hv; omega)] at *; simp [fitsB, *]; done) | (simp only [Int.tmod_eq_emod_of_nonneg h6, IntWalk.i64_quo v 16 (by unfold I64 at hv; omega)] at *; simp [fitsB, *]; omega)), ⟨_, rfl⟩⟩
            · by_cases h5 : tag = 4
              · by_cases h6 : 0 ≤ v
                · by_cases h7 : IntKind.wrap IntKind.i64 (Int.tdiv v 16) < 1024
                  · by_cases h8 : 1 ≤ Int.tmod v 16
                    · exact ⟨Value.bool (decide (Int.tmod v 16 ≤ 8)), AS.up σ 32, run_ok [.no, .no, .no, .no, .no, .yes, .yes, .yes, .yes] [¬tag = 0, ¬tag = 3, ¬tag = 5, ¬tag = 1, ¬tag = 2, tag = 4, 0 ≤ v, IntKind.wrap IntKind.i64 (Int.tdiv v 16) < 1024, 1 ≤ Int.tmod v 16] (by kernel_rfl) ⟨h0, h1, h2, h3, h4, h5, h6, h7, h8, trivial⟩, (by first | (simp [fitsB, *]; done) | (simp only [IntWalk.i64_quo v 16 (by unfold I64 at hv; omega)] at *; simp [fitsB, *]; omega) | (simp only [Int.tmod_eq_emod_of_nonneg h6, IntWalk.i64_quo v 16 (by unfold I64 at hv; omega)] at *; simp [fitsB, *]; done) | (simp only [Int.tmod_eq_emod_of_nonneg h6, IntWalk.i64_quo v 16 (by unfold I64 at hv; omega)] at *; simp [fitsB, *]; omega)), ⟨_, rfl⟩⟩
                    · exact ⟨Value.bool false, AS.up σ 32, run_ok [.no, .no, .no, .no, .no, .yes, .yes, .yes, .no] [¬tag = 0, ¬tag = 3, ¬tag = 5, ¬tag = 1, ¬tag = 2, tag = 4, 0 ≤ v, IntKind.wrap IntKind.i64 (Int.tdiv v 16) < 1024, ¬1 ≤ Int.tmod v 16] (by kernel_rfl) ⟨h0, h1, h2, h3, h4, h5, h6, h7, h8, trivial⟩, (by first | (simp [fitsB, *]; done) | (simp only [IntWalk.i64_quo v 16 (by unfold I64 at hv; omega)] at *; simp [fitsB, *]; omega) | (simp only [Int.tmod_eq_emod_of_nonneg h6, IntWalk.i64_quo v 16 (by unfold I64 at hv; omega)] at *; simp [fitsB, *]; done) | (simp only [Int.tmod_eq_emod_of_nonneg h6, IntWalk.i64_quo v 16 (by unfold I64 at hv; omega)] at *; simp [fitsB, *]; omega)), ⟨_, rfl⟩⟩
                  · exact ⟨Value.bool false, AS.up σ 32, run_ok [.no, .no, .no, .no, .no, .yes, .yes, .no] [¬tag = 0, ¬tag = 3, ¬tag = 5, ¬tag = 1, ¬tag = 2, tag = 4, 0 ≤ v, ¬IntKind.wrap IntKind.i64 (Int.tdiv v 16) < 1024] (by kernel_rfl) ⟨h0, h1, h2, h3, h4, h5, h6, h7, trivial⟩, (by first | (simp [fitsB, *]; done) | (simp only [IntWalk.i64_quo v 16 (by unfold I64 at hv; omega)] at *; simp [fitsB, *]; omega) | (simp only [Int.tmod_eq_emod_of_nonneg h6, IntWalk.i64_quo v 16 (by unfold I64 at hv; omega)] at *; simp [fitsB, *]; done) | (simp only [Int.tmod_eq_emod_of_nonneg h6, IntWalk.i64_quo v 16 (by unfold I64 at hv; omega)] at *; simp [fitsB, *]; omega)), ⟨_, rfl⟩⟩
                · exact ⟨Value.bool false, AS.up σ 32, run_ok [.no, .no, .no, .no, .no, .yes, .no] [¬tag = 0, ¬tag = 3, ¬tag = 5, ¬tag = 1, ¬tag = 2, tag = 4, ¬0 ≤ v] (by kernel_rfl) ⟨h0, h1, h2, h3, h4, h5, h6, trivial⟩, (by first | (simp [fitsB, *]; done) | (simp only [IntWalk.i64_quo v 16 (by unfold I64 at hv; omega)] at *; simp [fitsB, *]; omega) | (simp only [Int.tmod_eq_emod_of_nonneg h6, IntWalk.i64_quo v 16 (by unfold I64 at hv; omega)] at *; simp [fitsB, *]; done) | (simp only [Int.tmod_eq_emod_of_nonneg h6, IntWalk.i64_quo v 16 (by unfold I64 at hv; omega)] at *; simp [fitsB, *]; omega)), ⟨_, rfl⟩⟩
              · exact ⟨Value.bool false, AS.up σ 15, run_ok [.no, .no, .no, .no, .no, .no] [¬tag = 0, ¬tag = 3, ¬tag = 5, ¬tag = 1, ¬tag = 2, ¬tag = 4] (by kernel_rfl) ⟨h0, h1, h2, h3, h4, h5, trivial⟩, (by first | (simp [fitsB, *]; done) | (simp only [IntWalk.i64_quo v 16 (by unfold I64 at hv; omega)] at *; simp [fitsB, *]; omega) | (simp only [Int.tmod_eq_emod_of_nonneg h6, IntWalk.i64_quo v 16 (by unfold I64 at hv; omega)] at *; simp [fitsB, *]; done) | (simp only [Int.tmod_eq_emod_of_nonneg h6, IntWalk.i64_quo v 16 (by unfold I64 at hv; omega)] at *; simp [fitsB, *]; omega)), ⟨_, rfl⟩⟩
  obtain ⟨b, τ, h, rfl, k, rfl⟩ := key
  exact ⟨k, h⟩

theorem tag_of (n : Nat) (σ : AS) (w : Int) (h : U64 w) : acall Try.prog (n + 1) (.func 45) #[.int .u64 w] σ = some (.int .i64 (wTag w), σ.up 5) := by
  rw [← tag_prog h]
  exact run .nil (by kernel_rfl)
theorem val_of (n : Nat) (σ : AS) (w : Int) (h : U64 w) : acall Try.prog (n + 1) (.func 46) #[.int .u64 w] σ = some (.int .i64 (wVal w), σ.up 5) := by
  rw [← val_prog h]
  exact run .nil (by kernel_rfl)
theorem tag_of_ref (n : Nat) (σ : AS) (w : Int) (h : U64 w) : acall Try.prog (n + 1) (.func 49) #[.int .u64 w] σ = some (.int .i64 (wTag w), σ.up 5) := by
  rw [← tag_ref h]
  exact run .nil (by kernel_rfl)
theorem val_of_ref (n : Nat) (σ : AS) (w : Int) (h : U64 w) : ∃ k, acall Try.prog (n + 1) (.func 50) #[.int .u64 w] σ = some (.int .i64 (wVal w), σ.up k) := by
  have e := val_ref h
  split at e
  · rename_i h0
    exact ⟨15, by rw [← e]; exact run (.yes h0 .nil) (by kernel_rfl)⟩
  · rename_i h0
    exact ⟨12, by rw [← e]; exact run (.no h0 .nil) (by kernel_rfl)⟩

theorem val_i64 {w : Int} (h : U64 w) : I64 (wVal w) := by
  have := val_range h
  unfold I64
  omega

theorem good_prog (n : Nat) (σ : AS) (w : Int) (h : U64 w) : ∃ k, acall Try.prog (n + 2) (.func 41) #[.int .u64 w] σ = some (.bool (goodB w), σ.up k) := by
  have h1 := tag_of n (σ.up 7) w h
  have h2 := val_of n ((σ.up 7).up 5) w h
  obtain ⟨k, h3⟩ := fits_prog n (((σ.up 7).up 5).up 5) (wTag w) (wVal w) (val_i64 h)
  exact ⟨7 + 5 + 5 + k, by simp only [← up_up]; exact run (.up h1 <| .up h2 <| .up h3 .nil) (by kernel_rfl)⟩

theorem good_ref (n : Nat) (σ : AS) (w : Int) (h : U64 w) : ∃ k, acall Try.prog (n + 3) (.func 48) #[.int .u64 w] σ = some (.bool (goodB w), σ.up k) := by
  have h1 := tag_of_ref (n + 1) (σ.up 7) w h
  obtain ⟨k2, h2⟩ := val_of_ref (n + 1) ((σ.up 7).up 5) w h
  obtain ⟨k, h3⟩ := fits_ref n (((σ.up 7).up 5).up k2) (wTag w) (wVal w) (val_i64 h)
  exact ⟨7 + 5 + k2 + k, by simp only [← up_up]; exact run (.up h1 <| .up h2 <| .up h3 .nil) (by kernel_rfl)⟩

theorem place_prog (n : Nat) (σ : AS) (w : Int) (h : U64 w) : ∃ k, acall Try.prog (n + 3) (.func 42) #[.int .u64 w] σ = some (.tuple #[.int .i64 (if isPl w then wVal w else 0), .bool (isPl w)], σ.up k) := by
  obtain ⟨k1, h1⟩ := good_prog n (σ.up 5) w h
  cases hg : goodB w with
  | false =>
    rw [hg] at h1
    have e : isPl w = false := by simp [isPl, hg]
    rw [e]
    exact ⟨5 + k1 + 2, by simp only [← up_up]; exact run (.up h1 .nil) (by kernel_rfl)⟩
  | true =>
    rw [hg] at h1
    have h2 := tag_of (n + 1) (((σ.up 5).up k1).up 2) w h
    by_cases t0 : wTag w = 0
    · have h3 := val_of (n + 1) (((((σ.up 5).up k1).up 2).up 5).up 6) w h
      have e : isPl w = true := by simp [isPl, hg, t0]
      rw [e, if_pos rfl]
      exact ⟨5 + k1 + 2 + 5 + 6 + 5, by simp only [← up_up]; exact run (.up h1 <| .up h2 <| .yes t0 <| .up h3 .nil) (by kernel_rfl)⟩
    · by_cases t3 : wTag w = 3
      · have h3 := val_of (n + 1) (((((σ.up 5).up k1).up 2).up 5).up 8) w h
        have e : isPl w = true := by simp [isPl, hg, t3]
        rw [e, if_pos rfl]
        exact ⟨5 + k1 + 2 + 5 + 8 + 5, by simp only [← up_up]; exact run (.up h1 <| .up h2 <| .no t0 <| .yes t3 <| .up h3 .nil) (by kernel_rfl)⟩
      · by_cases t5 : wTag w = 5
        · have h3 := val_of (n + 1) (((((σ.up 5).up k1).up 2).up 5).up 10) w h
          have e : isPl w = true := by simp [isPl, hg, t5]
          rw [e, if_pos rfl]
          exact ⟨5 + k1 + 2 + 5 + 10 + 5, by simp only [← up_up]; exact run (.up h1 <| .up h2 <| .no t0 <| .no t3 <| .yes t5 <| .up h3 .nil) (by kernel_rfl)⟩
        · have e : isPl w = false := by simp [isPl, t0, t3, t5]
          rw [e]
          exact ⟨5 + k1 + 2 + 5 + 8, by simp only [← up_up]; exact run (.up h1 <| .up h2 <| .no t0 <| .no t3 <| .no t5 .nil) (by kernel_rfl)⟩

theorem place_ref (n : Nat) (σ : AS) (w : Int) (h : U64 w) : ∃ k, acall Try.prog (n + 4) (.func 47) #[.int .u64 w] σ = some (.tuple #[.int .i64 (if isPl w then wVal w else 0), .bool (isPl w)], σ.up k) := by
  have h1 := tag_of_ref (n + 2) (σ.up 5) w h
  obtain ⟨k2, h2⟩ := good_ref n (((σ.up 5).up 5).up 15) w h
  cases hg : goodB w with
  | false =>
    rw [hg] at h2
    have e : isPl w = false := by simp [isPl, hg]
    rw [e]
    exact ⟨5 + 5 + 15 + k2 + 2, by simp only [← up_up]; exact run (.up h1 <| .up h2 .nil) (by kernel_rfl)⟩
  | true =>
    rw [hg] at h2
    obtain ⟨k3, h3⟩ := val_of_ref (n + 2) (((((σ.up 5).up 5).up 15).up k2).up 4) w h
    by_cases t0 : wTag w = 0
    · have e : isPl w = true := by simp [isPl, hg, t0]
      rw [e, if_pos rfl]
      exact ⟨5 + 5 + 15 + k2 + 4 + k3, by simp only [← up_up]; exact run (.up h1 <| .up h2 <| .yes t0 <| .up h3 .nil) (by kernel_rfl)⟩
    · by_cases t3 : wTag w = 3
      · have e : isPl w = true := by simp [isPl, hg, t3]
        rw [e, if_pos rfl]
        exact ⟨5 + 5 + 15 + k2 + 4 + k3, by simp only [← up_up]; exact run (.up h1 <| .up h2 <| .no t0 <| .yes t3 <| .up h3 .nil) (by kernel_rfl)⟩
      · by_cases t5 : wTag w = 5
        · have e : isPl w = true := by simp [isPl, hg, t5]
          rw [e, if_pos rfl]
          exact ⟨5 + 5 + 15 + k2 + 4 + k3, by simp only [← up_up]; exact run (.up h1 <| .up h2 <| .no t0 <| .no t3 <| .yes t5 <| .up h3 .nil) (by kernel_rfl)⟩
        · have e : isPl w = false := by simp [isPl, t0, t3, t5]
          rw [e]
          exact ⟨5 + 5 + 15 + k2 + 2, by simp only [← up_up]; exact run (.up h1 <| .up h2 <| .no t0 <| .no t3 <| .no t5 .nil) (by kernel_rfl)⟩

theorem may_prog (n : Nat) (σ : AS) (w top : Int) (h : U64 w) : ∃ k, acall Try.prog (n + 4) (.func 30) #[.int .u64 w, .int .i64 top] σ = some (.bool (mayB w top), σ.up k) := by
  obtain ⟨k1, h1⟩ := good_prog (n + 1) (σ.up 4) w h
  cases hg : goodB w with
  | false =>
    rw [hg] at h1
    have e : mayB w top = false := by simp [mayB, hg]
    rw [e]
    exact ⟨4 + k1 + 1, by simp only [← up_up]; exact run (.up h1 .nil) (by kernel_rfl)⟩
  | true =>
    rw [hg] at h1
    obtain ⟨k2, h2⟩ := place_prog n (((σ.up 4).up k1).up 7) w h
    cases hp : isPl w with
    | false =>
      rw [hp] at h2
      have e : mayB w top = true := by simp [mayB, hg, hp]
      rw [e]
      exact ⟨4 + k1 + 7 + k2 + 8, by simp only [← up_up]; exact run (.up h1 <| .up h2 .nil) (by kernel_rfl)⟩
    | true =>
      rw [hp, if_pos rfl] at h2
      have e : mayB w top = decide (wVal w < top) := by simp [mayB, hg, hp]
      rw [e]
      exact ⟨4 + k1 + 7 + k2 + 8, by simp only [← up_up]; exact run (.up h1 <| .up h2 .nil) (by kernel_rfl)⟩

theorem may_ref (n : Nat) (σ : AS) (w top : Int) (h : U64 w) : ∃ k, acall Try.prog (n + 5) (.func 44) #[.int .u64 w, .int .i64 top] σ = some (.bool (mayB w top), σ.up k) := by
  obtain ⟨k1, h1⟩ := place_ref n (σ.up 8) w h
  obtain ⟨k2, h2⟩ := good_ref (n + 1) (((σ.up 8).up k1).up 12) w h
  cases hg : goodB w with
  | false =>
    rw [hg] at h2
    have hp : isPl w = false := by simp [isPl, hg]
    rw [hp] at h1
    have e : mayB w top = false := by simp [mayB, hg]
    rw [e]
    exact ⟨8 + k1 + 12 + k2, by simp only [← up_up]; exact run (.up h1 <| .up h2 .nil) (by kernel_rfl)⟩
  | true =>
    rw [hg] at h2
    cases hp : isPl w with
    | false =>
      rw [hp] at h1
      have e : mayB w top = true := by simp [mayB, hg, hp]
      rw [e]
      exact ⟨8 + k1 + 12 + k2, by simp only [← up_up]; exact run (.up h1 <| .up h2 .nil) (by kernel_rfl)⟩
    | true =>
      rw [hp, if_pos rfl] at h1
      have e : mayB w top = decide (wVal w < top) := by simp [mayB, hg, hp]
      rw [e]
      exact ⟨8 + k1 + 12 + k2, by simp only [← up_up]; exact run (.up h1 <| .up h2 .nil) (by kernel_rfl)⟩

end Go.Proofs.Ytfokbdgiphphfaa
