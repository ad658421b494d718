/- The field's tables in memory; the product. -/
import Derived.Test.YtgfjeaegigjnaaaGreatDoorPgD
import Derived.Test.YtgfjeaegigjnaaaGreatDoorPgE
import Derived.Laws.BitsLemmas
import Derived.RegionTactic
import Derived.RegionCalls
namespace Go.Proofs.YtgfjeaegigjnaaaGreatDoor
set_option linter.unusedVariables false
set_option linter.unusedSimpArgs false

/-- The tables lie there: of the powers twice round, and of their logarithms. -/
structure Tab (w : World) (b off be bl : Nat) : Prop where
  exp : w.cell? ⟨b, off + 3, none⟩ = some (.slice (some ⟨be, 0, none⟩) 16382 16382)
  log : w.cell? ⟨b, off + 4, none⟩ = some (.slice (some ⟨bl, 0, none⟩) 8192 8192)
  exps : ∀ j, j < 16382 → w.cell? ⟨be, j, none⟩ = some (.int .i64 (expN j : Nat))
  logs : ∀ y, 0 < y → y < 8192 → w.cell? ⟨bl, y, none⟩ = some (.int .i64 (logN y : Nat))
theorem and_low (a : Nat) (ha : a < 8192) : bits BinOp.and IntKind.i64 (a : Int) 8191 = (a : Int) := by
  have two63 : (2 : Int) ^ 63 = 9223372036854775808 := by decide
  have h := bits_mask .i64 63 (by decide) (fun n h0 h1 => by rw [two63] at h1; rw [IntKind.wrap_i64]; omega) 13 (by decide) (a : Int) (by omega) (by rw [two63]; omega)
  have e : ((2 : Int) ^ 13 - 1) = 8191 := by decide
  rw [e] at h
  rw [h]
  omega
set_option maxRecDepth 100000 in
theorem low_any (a : Nat) (ha : a < 8192) (w : World) : Calls Tryz.prog 104 #[.int .i64 (a : Int)] w fun e w' => e = .returned (.int .i64 (a : Int)) ∧ w' = w := by
  go_enter Tryz.func104, Tryz.ntmps104
  go_wp2
  go_ret
  refine ⟨congrArg (fun z => Ending.returned (.int .i64 z)) ?_, rfl⟩
  exact and_low a ha
set_option maxRecDepth 100000 in
theorem around_any (a : Nat) (ha : a < 2 ^ 60) (w : World) : Calls Tryz.prog 101 #[.int .i64 (a : Int)] w fun e w' => e = .returned (.int .i64 ((a % 8191 : Nat) : Int)) ∧ w' = w := by
  go_enter Tryz.func101, Tryz.ntmps101
  go_wp2
  go_ret
  refine ⟨congrArg (fun z => Ending.returned (.int .i64 z)) ?_, rfl⟩
  exact Int.ofNat_tmod a 8191
end Go.Proofs.YtgfjeaegigjnaaaGreatDoor

namespace Go.Proofs.YtgfjeaegigjnaaaGreatDoor
set_option linter.unusedVariables false
set_option linter.unusedSimpArgs false

set_option maxRecDepth 100000 in
set_option maxHeartbeats 1600000 in
/-- The product, uncounted. -/
theorem times_any (b off be bl x y : Nat) (w : World) (ht : Tab w b off be bl) (hx : x < 8192) (hy : y < 8192) :
    Calls Tryz.prog 103 #[.pointer (some ⟨b, off, none⟩), .int .i64 (x : Int), .int .i64 (y : Int)] w fun e w' => e = .returned (.int .i64 ((mulP x y : Nat) : Int)) ∧ (w' = w ∨ w' = w.drew) := by
  have hex := ht.exp
  have hlo := ht.log
  have hm : 0 < x → 0 < y → w.cell? ⟨be, logN x + logN y, none⟩ = some (.int .i64 ((mulP x y : Nat) : Int)) := by
    intro h1 h2
    have h3 := logN_lt x
    have h4 := logN_lt y
    rw [ht.exps _ (by omega), mul_logs h1 hx h2 hy]
  have hlx := ht.logs x
  have hly := ht.logs y
  go_enter Tryz.func103, Tryz.ntmps103
  go_wp2_with (first | (go_at_call 104; (with_reducible refine (low_any x hx _).mono ?_); rintro e w' ⟨rfl, rfl⟩) | (go_at_call 104; (with_reducible refine (low_any y hy _).mono ?_); rintro e w' ⟨rfl, rfl⟩))
  · go_ret
    refine ⟨congrArg (fun z => Ending.returned (.int .i64 z)) ?_, .inl rfl⟩
    rename_i h _
    rw [h, mulP_zero_left]; rfl
  · go_ret
    refine ⟨congrArg (fun z => Ending.returned (.int .i64 z)) ?_, .inl rfl⟩
    rename_i h0 h
    have h1 : y = 0 := by
      rcases h with h | h
      · simp at h; omega
      · simpa using h
    rw [h1, mulP_zero_right]; rfl
  · have h := (by assumption : ((x : Int) == 0) = false ∧ ((y : Int) == 0) = false)
    have hy0 : 0 < y := by
      have := h.2
      simp at this
      omega
    have hm := hm (by omega) hy0
    have hlx := hlx (by omega) hx
    have hly := hly hy0 hy
    have h3 := logN_lt x
    have h4 := logN_lt y
    have hs : ((logN x : Nat) : Int) + ((logN y : Nat) : Int) = ((logN x + logN y : Nat) : Int) := by omega
    have hxi : (x : Int) < 8192 := by omega
    have hyi : (y : Int) < 8192 := by omega
    have hw : IntKind.i64.wrap (((logN x : Nat) : Int) + ((logN y : Nat) : Int)) = ((logN x + logN y : Nat) : Int) := by rw [IntKind.wrap_i64]; omega
    have hsi : ((logN x + logN y : Nat) : Int) < 16382 := by omega
    have hb0 : 0 ≤ ((logN x : Nat) : Int) + ((logN y : Nat) : Int) := by omega
    have hb1 : ((logN x : Nat) : Int) + ((logN y : Nat) : Int) < 16382 := by omega
    have hb2 : (((logN x : Nat) : Int) + ((logN y : Nat) : Int)).toNat = logN x + logN y := by omega
    clear hs
    go_region
    all_goals (go_wp2; go_ret; exact ⟨rfl, .inr rfl⟩)
end Go.Proofs.YtgfjeaegigjnaaaGreatDoor

