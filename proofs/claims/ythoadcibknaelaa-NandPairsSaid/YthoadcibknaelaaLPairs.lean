/- The walk of the law NandPairs. -/
import Derived.Test.YthoadcibknaelaaSpeaks
namespace Go.Proofs.Ythoadcibknaelaa
open Go.RowKit
set_option linter.unusedVariables false
set_option linter.unusedSimpArgs false

set_option maxHeartbeats 1600000 in
theorem NandPairs_walk (a0 : Int) (w0 : (Lit.int .i64 a0).wf = true) (w : World) :
    Calls Try.prog 3 #[.int .i64 a0] w fun e w' => e = .returned (.bool true) ∧ Below w.heap.size w w' := by
  have hwf : a0 ≤ 9223372036854775807 := by simp [Lit.wf, IntKind.min, IntKind.max, IntKind.signed, IntKind.bits] at w0; omega
  clear w0
  by_cases h0 : a0 < 0
  · have hq : pairC a0 = (0, false) := if_pos h0
    have hp := fun W => pair_any a0 W (by omega)
    rw [hq] at hp
    have HP := Lib.hid hp
    clear hp hq
    go_enter Try.func3, Try.ntmps3
    go_wp2_with fail
    refine (speaks_ok _).mono ?_; rintro e w1 ⟨rfl, hb⟩
    go_wp2_with fail
    refine (HP.out _).mono ?_; rintro e w2 ⟨rfl, rfl⟩
    go_wp2_with fail
    go_ret
    exact ⟨rfl, hb⟩
  by_cases hbig : 1152921504606846976 < a0
  · have HP := Lib.hid (fun W => pair_any a0 W hwf)
    go_enter Try.func3, Try.ntmps3
    go_wp2_with fail
    refine (speaks_ok _).mono ?_; rintro e w1 ⟨rfl, hb⟩
    go_wp2_with fail
    refine (HP.out _).mono ?_; rintro e w2 ⟨rfl, rfl⟩
    go_wp2_with fail
    go_ret
    exact ⟨rfl, hb⟩
  have hp1 : a0 ≤ 1152921504606846976 := by omega
  by_cases h2 : 2 ≤ a0 % 4
  · have hq : pairC a0 = (a0 - 2, true) := by rw [pairC, if_neg h0, if_pos h2]
    have hq2 : pairC (a0 - 2) = (a0, false) := by
      rw [pairC, if_neg (by omega), if_neg (by omega), IntWalk.wrap64_in _ ⟨by omega, by omega⟩, show a0 - 2 + 2 = a0 by omega]
    have hp := fun W => pair_any a0 W (by omega)
    rw [hq] at hp
    have hpp := fun W => pair_any (a0 - 2) W (by omega)
    rw [hq2] at hpp
    have HP := Lib.hid hp
    have HPP := Lib.hid hpp
    clear hp hpp hq hq2
    have e1 : (a0 - 2) / 4 = a0 / 4 := by omega
    have e2 : decide (a0 - 2 < a0) = true := by simp; omega
    have e3 : a0 - (a0 - 2) = 2 := by omega
    have e4 : (a0 - 2 - a0 == 2) = false := by simp; omega
    go_enter Try.func3, Try.ntmps3
    go_wp2_with fail
    refine (speaks_ok _).mono ?_; rintro e w1 ⟨rfl, hb⟩
    go_wp2_with fail
    refine (HP.out _).mono ?_; rintro e w2 ⟨rfl, rfl⟩
    go_wp2_with fail
    refine (HPP.out _).mono ?_; rintro e w2 ⟨rfl, rfl⟩
    go_wp2_with fail
    go_ret
    exact ⟨rfl, hb⟩
  · have hq : pairC a0 = (a0 + 2, false) := by rw [pairC, if_neg h0, if_neg h2, IntWalk.wrap64_in _ ⟨by omega, by omega⟩]
    have hq2 : pairC (a0 + 2) = (a0, true) := by
      rw [pairC, if_neg (by omega), if_pos (by omega), show a0 + 2 - 2 = a0 by omega]
    have hp := fun W => pair_any a0 W (by omega)
    rw [hq] at hp
    have hpp := fun W => pair_any (a0 + 2) W (by omega)
    rw [hq2] at hpp
    have HP := Lib.hid hp
    have HPP := Lib.hid hpp
    clear hp hpp hq hq2
    have e1 : (a0 + 2) / 4 = a0 / 4 := by omega
    have e2 : decide (a0 + 2 < a0) = false := by simp; omega
    have e3 : a0 + 2 - a0 = 2 := by omega
    go_enter Try.func3, Try.ntmps3
    go_wp2_with fail
    refine (speaks_ok _).mono ?_; rintro e w1 ⟨rfl, hb⟩
    go_wp2_with fail
    refine (HP.out _).mono ?_; rintro e w2 ⟨rfl, rfl⟩
    go_wp2_with fail
    refine (HPP.out _).mono ?_; rintro e w2 ⟨rfl, rfl⟩
    go_wp2_with fail
    go_ret
    exact ⟨rfl, hb⟩

end Go.Proofs.Ythoadcibknaelaa
