/- The field's tables in the memory; what is read from them. -/
import Derived.Test.YtldekkniammllaaBchG
import Derived.Test.YtldekkniammllaaBchP
import Derived.Laws.BitsLemmas
namespace Go.Proofs.Ytldekkniammllaa
set_option linter.unusedVariables false
set_option linter.unusedSimpArgs false

/-- The tables lie there: of the powers twice round, and of their logarithms. -/
structure Tab (w : World) (b off be bl : Nat) : Prop where
  exp : w.cell? ⟨b, off + 3, none⟩ = some (.slice (some ⟨be, 0, none⟩) 16382 16382)
  log : w.cell? ⟨b, off + 4, none⟩ = some (.slice (some ⟨bl, 0, none⟩) 8192 8192)
  exps : ∀ j, j < 16382 → w.cell? ⟨be, j, none⟩ = some (.int .i64 (expN j : Nat))
  logs : ∀ y, 0 < y → y < 8192 → w.cell? ⟨bl, y, none⟩ = some (.int .i64 (logN y : Nat))

theorem and_low (a : Nat) (ha : a < 8192) : bits BinOp.and IntKind.i64 (a : Int) 8191 = (a : Int) := by
  have two63 : (2 : Int) ^ 63 = 9223372036854775808 := by decide
  have h := bits_mask .i64 63 (by decide) (fun n h0 h1 => by rw [two63] at h1; rw [IntKind.wrap_i64]; omega) 13 (by decide) (a : Int) (by omega) (by rw [two63]; omega)
  have e : ((2 : Int) ^ 13 - 1) = 8191 := by decide
  rw [e] at h
  rw [h]
  omega
theorem low_any (a : Nat) (ha : a < 8192) (w : World) : Calls Try.prog 56 #[.int .i64 (a : Int)] w fun e w' => e = .returned (.int .i64 (a : Int)) ∧ w' = w := by
  go_enter Try.func56, Try.ntmps56
  go_wp2
  go_ret
  refine ⟨congrArg (fun z => Ending.returned (.int .i64 z)) ?_, rfl⟩
  exact and_low a ha
theorem around_any (a : Nat) (ha : a < 2 ^ 60) (w : World) : Calls Try.prog 53 #[.int .i64 (a : Int)] w fun e w' => e = .returned (.int .i64 ((a % 8191 : Nat) : Int)) ∧ w' = w := by
  go_enter Try.func53, Try.ntmps53
  go_wp2
  go_ret
  refine ⟨congrArg (fun z => Ending.returned (.int .i64 z)) ?_, rfl⟩
  exact Int.ofNat_tmod a 8191
end Go.Proofs.Ytldekkniammllaa
