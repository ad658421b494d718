/- What the small calls on a chip come to: Pair, has, hasPage, may, torn, Is, Off, On, Cut, Noise, Counts, Changes, Wear, Spoil. -/
import Derived.Test.YthoadcibknaelaaRep
import Derived.Lib.Hide
namespace Go.Proofs.Ythoadcibknaelaa
open Go.RowKit
set_option linter.unusedVariables false
set_option linter.unusedSimpArgs false

/-! ### Pair -/
def upperB (p : Int) : Bool := decide (2 ≤ p.tmod 4)

set_option maxHeartbeats 400000 in
theorem upper_any (p : Int) (w : World) : Calls Try.prog 31 #[.int .i64 p] w fun e w' => e = .returned (.bool (upperB p)) ∧ w = w' := by
  go_enter Try.func31, Try.ntmps31
  go_wp2
  go_ret
  exact ⟨rfl, rfl⟩

def pairC (p : Int) : Int × Bool := if p < 0 then (0, false) else if 2 ≤ p % 4 then (p - 2, true) else (wrap64 (p + 2), false)

set_option maxHeartbeats 800000 in
theorem pair_any (p : Int) (w : World) (hmax : p ≤ 9223372036854775807) : Calls Try.prog 11 #[.int .i64 p] w fun e w' => e = .returned (.tuple #[.int .i64 (pairC p).1, .bool (pairC p).2]) ∧ w = w' := by
  by_cases h : p < 0
  · have hv : pairC p = (0, false) := if_pos h
    have HV := Lib.hid hv
    clear hv
    go_enter Try.func11, Try.ntmps11
    go_wp2
    go_ret2
    exact ⟨by rw [HV.out]; rfl, rfl⟩
  · have hu : upperB p = decide (2 ≤ p % 4) := by unfold upperB; rw [Int.tmod_eq_emod_of_nonneg (by omega)]
    by_cases h2 : 2 ≤ p % 4
    · have hu' : upperB p = true := by simp [hu, h2]
      have hv : pairC p = (p - 2, true) := by rw [pairC, if_neg h, if_pos h2]
      have HV := Lib.hid hv
      clear hu hv
      go_enter Try.func11, Try.ntmps11
      go_wp2_with (go_at_call 31; refine (upper_any _ _).mono ?_; rintro e w' ⟨rfl, rfl⟩)
      go_ret2
      exact ⟨by rw [HV.out]; rfl, rfl⟩
    · have hu' : upperB p = false := by simp [hu, h2]
      have hv : pairC p = (wrap64 (p + 2), false) := by rw [pairC, if_neg h, if_neg h2]
      have HV := Lib.hid hv
      clear hu hv
      by_cases hb : p ≤ 9223372036854775805
      · have hw := IntWalk.wrap64_in (p + 2) ⟨by omega, by omega⟩
        have HW := Lib.hid hw
        clear hw
        go_enter Try.func11, Try.ntmps11
        go_wp2_with (go_at_call 31; refine (upper_any _ _).mono ?_; rintro e w' ⟨rfl, rfl⟩)
        go_ret2
        exact ⟨by rw [HV.out, HW.out]; rfl, rfl⟩
      · exfalso; omega

/-! ### has, hasPage -/
def hasB (c : Chp) (b : Int) : Bool := decide (0 ≤ b) && decide (b < (c.nb : Int))
def hasPB (c : Chp) (b p : Int) : Bool := hasB c b && decide (0 ≤ p) && decide (p < (c.np : Int))

variable {L : Lay} {c : Chp} {w : World}

set_option maxHeartbeats 400000 in
theorem has_nil (b : Int) (w : World) : Calls Try.prog 37 #[.pointer none, .int .i64 b] w fun e w' => e = .returned (.bool false) ∧ w = w' := by
  go_enter Try.func37, Try.ntmps37
  go_wp2
  go_ret
  exact ⟨rfl, rfl⟩

set_option maxHeartbeats 400000 in
theorem has_any (h : ChipAt w L c) (b : Int) : Calls Try.prog 37 #[.pointer (some ⟨L.a, 0, none⟩), .int .i64 b] w fun e w' => e = .returned (.bool (hasB c b)) ∧ w = w' := by
  have hc0 := h.c0
  by_cases h0 : 0 ≤ b
  · have e1 : decide (0 ≤ b) = true := by simpa using h0
    go_enter Try.func37, Try.ntmps37
    go_wp2
    go_ret
    exact ⟨by simp [hasB, h0], rfl⟩
  · have e1 : decide (0 ≤ b) = false := by simpa using h0
    go_enter Try.func37, Try.ntmps37
    go_wp2
    go_ret
    exact ⟨by simp [hasB]; omega, rfl⟩

set_option maxHeartbeats 400000 in
theorem hasPage_nil (b p : Int) (w : World) : Calls Try.prog 32 #[.pointer none, .int .i64 b, .int .i64 p] w fun e w' => e = .returned (.bool false) ∧ w = w' := by
  go_enter Try.func32, Try.ntmps32
  go_wp2_with (go_at_call 37; refine (has_nil _ _).mono ?_; rintro e w' ⟨rfl, rfl⟩)
  go_ret
  exact ⟨rfl, rfl⟩

set_option maxHeartbeats 400000 in
theorem hasPage_any (h : ChipAt w L c) (b p : Int) : Calls Try.prog 32 #[.pointer (some ⟨L.a, 0, none⟩), .int .i64 b, .int .i64 p] w fun e w' => e = .returned (.bool (hasPB c b p)) ∧ w = w' := by
  have hc0 := h.c0
  by_cases hb : hasB c b = true
  · obtain ⟨n, rfl, hn⟩ : ∃ n : Nat, b = n ∧ n < c.nb := ⟨b.toNat, by simp [hasB] at hb; omega, by simp [hasB] at hb; omega⟩
    have hb0 := h.b0 n hn
    by_cases h0 : 0 ≤ p
    · have e1 : decide (0 ≤ p) = true := by simpa using h0
      go_enter Try.func32, Try.ntmps32
      go_wp2_with (go_at_call 37; refine (has_any h _).mono ?_; rintro e w' ⟨rfl, rfl⟩)
      go_ret
      exact ⟨by simp [hasPB, hb, h0], rfl⟩
    · have e1 : decide (0 ≤ p) = false := by simpa using h0
      go_enter Try.func32, Try.ntmps32
      go_wp2_with (go_at_call 37; refine (has_any h _).mono ?_; rintro e w' ⟨rfl, rfl⟩)
      go_ret
      exact ⟨by simp [hasPB, hb]; omega, rfl⟩
  · have hb' : hasB c b = false := by simpa using hb
    go_enter Try.func32, Try.ntmps32
    go_wp2_with (go_at_call 37; refine (has_any h _).mono ?_; rintro e w' ⟨rfl, rfl⟩)
    go_ret
    exact ⟨by simp [hasPB, hb'], rfl⟩

/-! ### may -/
def mayC (c : Chp) (b : Nat) : Int := if c.off then 20 else if c.worn b then 22 else 0

set_option maxHeartbeats 400000 in
theorem may_any (h : ChipAt w L c) (b : Nat) (hb : b < c.nb) : Calls Try.prog 33 #[.pointer (some ⟨L.a, 0, none⟩), .int .i64 b] w fun e w' => e = .returned (.int .i64 (mayC c b)) ∧ w = w' := by
  have hc0 := h.c0
  have hc7 := h.c7
  have hb3 := h.b3 b hb
  have hnb := h.nbn
  cases ho : c.off with
  | true =>
    rw [ho] at hc7
    go_enter Try.func33, Try.ntmps33
    go_wp2
    go_ret
    exact ⟨by simp [mayC, ho], rfl⟩
  | false =>
    rw [ho] at hc7
    cases hw : c.worn b with
    | true =>
      rw [hw] at hb3
      go_enter Try.func33, Try.ntmps33
      go_wp2
      go_ret
      exact ⟨by simp [mayC, ho, hw], rfl⟩
    | false =>
      rw [hw] at hb3
      go_enter Try.func33, Try.ntmps33
      go_wp2
      go_ret
      exact ⟨by simp [mayC, ho, hw], rfl⟩

end Go.Proofs.Ythoadcibknaelaa
