/- The product from the tables: its drawn region is not walked yet. -/
import Derived.Test.YtldekkniammllaaBchQ
import Derived.RegionTactic
import Derived.RegionCalls
namespace Go.Proofs.Ytldekkniammllaa
set_option linter.unusedVariables false
set_option linter.unusedSimpArgs false

set_option maxHeartbeats 1600000 in
/-- The product, uncounted. -/
theorem times_any (b off be bl x y : Nat) (w : World) (ht : Tab w b off be bl) (hx : x < 8192) (hy : y < 8192) :
    Calls Try.prog 55 #[.pointer (some ⟨b, off, none⟩), .int .i64 (x : Int), .int .i64 (y : Int)] w fun e w' => e = .returned (.int .i64 ((mulP x y : Nat) : Int)) ∧ (w' = w ∨ w' = w.drew) := by
  have hex := ht.exp
  have hlo := ht.log
  have hm : 0 < x → 0 < y → w.cell? ⟨be, logN x + logN y, none⟩ = some (.int .i64 ((mulP x y : Nat) : Int)) := by
    intro h1 h2
    have h3 := logN_lt x
    have h4 := logN_lt y
    rw [ht.exps _ (by omega), mul_logs h1 hx h2 hy]
  have hlx := ht.logs x
  have hly := ht.logs y
  go_enter Try.func55, Try.ntmps55
  go_wp2_with (first | (go_at_call 56; (with_reducible refine (low_any x hx _).mono ?_); rintro e w' ⟨rfl, rfl⟩) | (go_at_call 56; (with_reducible refine (low_any y hy _).mono ?_); rintro e w' ⟨rfl, rfl⟩))
  · go_ret
    refine ⟨congrArg (fun z => Ending.returned (.int .i64 z)) ?_, .inl rfl⟩
    rename_i h _
    rw [h, mulP_zero_left]; rfl
  · go_ret
    refine ⟨congrArg (fun z => Ending.returned (.int .i64 z)) ?_, .inl rfl⟩
    rename_i h0 h
    have h1 : y = 0 := by
      rcases h with h | h
      · simp at h; omega
      · simpa using h
    rw [h1, mulP_zero_right]; rfl
  · have h := (by assumption : ((x : Int) == 0) = false ∧ ((y : Int) == 0) = false)
    have hy0 : 0 < y := by
      have := h.2
      simp at this
      omega
    have hm := hm (by omega) hy0
    have hlx := hlx (by omega) hx
    have hly := hly hy0 hy
    have h3 := logN_lt x
    have h4 := logN_lt y
    have hs : ((logN x : Nat) : Int) + ((logN y : Nat) : Int) = ((logN x + logN y : Nat) : Int) := by omega
    have hxi : (x : Int) < 8192 := by omega
    have hyi : (y : Int) < 8192 := by omega
    have hw : IntKind.i64.wrap (((logN x : Nat) : Int) + ((logN y : Nat) : Int)) = ((logN x + logN y : Nat) : Int) := by rw [IntKind.wrap_i64]; omega
    have hsi : ((logN x + logN y : Nat) : Int) < 16382 := by omega
    have hb0 : 0 ≤ ((logN x : Nat) : Int) + ((logN y : Nat) : Int) := by omega
    have hb1 : ((logN x : Nat) : Int) + ((logN y : Nat) : Int) < 16382 := by omega
    have hb2 : (((logN x : Nat) : Int) + ((logN y : Nat) : Int)).toNat = logN x + logN y := by omega
    clear hs
    go_region
    all_goals (go_wp2; go_ret; exact ⟨rfl, .inr rfl⟩)
end Go.Proofs.Ytldekkniammllaa
