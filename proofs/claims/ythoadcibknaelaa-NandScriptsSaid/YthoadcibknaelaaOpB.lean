/- What the calls on a chip come to that write its own fields: torn, Is, Off, On, Cut, Noise, Counts, Changes, Wear, Spoil. -/
import Derived.Test.YthoadcibknaelaaOpA
import Derived.Lib.Hide
namespace Go.Proofs.Ythoadcibknaelaa
open Go.RowKit
set_option linter.unusedVariables false
set_option linter.unusedSimpArgs false
variable {L : Lay} {c : Chp} {w : World}

def modeC (m : Int) : Int := (if m < 0 then -(m + 1) else m) % 8
theorem modeC_neg (m : Int) (h : m < 0) : -((m + 1).tmod 8) = modeC m := by
  rw [modeC, if_pos h, ← Int.neg_tmod, Int.tmod_eq_emod_of_nonneg (by omega)]
def tornC (c : Chp) : (Int × Bool) × Chp :=
  if c.left = 0 then ((0, false), { c with changes := wrap64 (c.changes + 1) })
  else if 1 < c.left then ((0, false), { c with changes := wrap64 (c.changes + 1), left := c.left - 1 })
  else ((modeC c.mode, true), { c with changes := wrap64 (c.changes + 1), left := c.left - 1, off := true })

set_option maxHeartbeats 400000 in
theorem torn_any (h : ChipAt w L c) : Calls Try.prog 34 #[.pointer (some ⟨L.a, 0, none⟩)] w fun e w' =>
    e = .returned (.tuple #[.int .i64 (tornC c).1.1, .bool (tornC c).1.2]) ∧ ChipAt w' L (tornC c).2 ∧ Stays (· = L.a) w w' := by
  have hc5 := h.c5
  have hc6 := h.c6
  have hc7 := h.c7
  have hc8 := h.c8
  have hf := h.fa
  have l0 := h.l0
  have l1 := h.l1
  have m0 := h.m0
  have m1 := h.m1
  by_cases e0 : c.left = 0
  · have e0b : (c.left == 0) = true := by simpa using e0
    have HH := Lib.hid e0
    clear e0
    go_enter Try.func34, Try.ntmps34
    go_wp2
    go_ret2
    exact ⟨by rw [tornC, if_pos HH.out]; rfl, by rw [tornC, if_pos HH.out]; exact h.s8 _, (Stays.refl _ _).inA _⟩
  · have e0b : (c.left == 0) = false := by simpa using e0
    by_cases e1 : 1 < c.left
    · have e1b : decide (0 < c.left - 1) = true := by simp; omega
      go_enter Try.func34, Try.ntmps34
      go_wp2
      go_ret2
      exact ⟨by rw [tornC, if_neg (by omega), if_pos (by omega)]; rfl, by rw [tornC, if_neg (by omega), if_pos (by omega)]; exact (h.s8 _).s5 _ (by omega) (by omega), ((Stays.refl _ _).inA _).inA _⟩
    · have e1b : decide (0 < c.left - 1) = false := by simp; omega
      by_cases e2 : c.mode < 0
      · go_enter Try.func34, Try.ntmps34
        go_wp2
        go_ret2
        exact ⟨by rw [tornC, if_neg (by omega), if_neg (by omega), ← modeC_neg _ e2]; rfl, by rw [tornC, if_neg (by omega), if_neg (by omega)]; exact ((h.s8 _).s5 _ (by omega) (by omega)).s7 _, (((Stays.refl _ _).inA _).inA _).inA _⟩
      · go_enter Try.func34, Try.ntmps34
        go_wp2
        go_ret2
        exact ⟨by rw [tornC, if_neg (by omega), if_neg (by omega), modeC, if_neg (by omega)]; rfl, by rw [tornC, if_neg (by omega), if_neg (by omega)]; exact ((h.s8 _).s5 _ (by omega) (by omega)).s7 _, (((Stays.refl _ _).inA _).inA _).inA _⟩

/-! ### Off, On, Cut, Noise, Changes -/
set_option maxHeartbeats 400000 in
theorem off_any (h : ChipAt w L c) : Calls Try.prog 15 #[.pointer (some ⟨L.a, 0, none⟩)] w fun e w' => e = .returned (.bool c.off) ∧ w = w' := by
  have hc7 := h.c7
  go_enter Try.func15, Try.ntmps15
  go_wp2
  go_ret
  exact ⟨rfl, rfl⟩
set_option maxHeartbeats 400000 in
theorem off_nil (w : World) : Calls Try.prog 15 #[.pointer none] w fun e w' => e = .returned (.bool false) ∧ w = w' := by
  go_enter Try.func15, Try.ntmps15
  go_wp2
  go_ret
  exact ⟨rfl, rfl⟩
set_option maxHeartbeats 400000 in
theorem changes_any (h : ChipAt w L c) : Calls Try.prog 21 #[.pointer (some ⟨L.a, 0, none⟩)] w fun e w' => e = .returned (.int .i64 c.changes) ∧ w = w' := by
  have hc8 := h.c8
  go_enter Try.func21, Try.ntmps21
  go_wp2
  go_ret
  exact ⟨rfl, rfl⟩
set_option maxHeartbeats 400000 in
theorem changes_nil (w : World) : Calls Try.prog 21 #[.pointer none] w fun e w' => e = .returned (.int .i64 0) ∧ w = w' := by
  go_enter Try.func21, Try.ntmps21
  go_wp2
  go_ret
  exact ⟨rfl, rfl⟩

set_option maxHeartbeats 400000 in
theorem on_any (h : ChipAt w L c) : Calls Try.prog 16 #[.pointer (some ⟨L.a, 0, none⟩)] w fun e w' =>
    e = .returned (.tuple #[]) ∧ ChipAt w' L { c with off := false, left := 0, mode := 0 } ∧ Stays (· = L.a) w w' := by
  have hc5 := h.c5
  have hc6 := h.c6
  have hc7 := h.c7
  have hf := h.fa
  go_enter Try.func16, Try.ntmps16
  go_wp2
  go_end0
  exact ⟨rfl, (((h.s7 _).s5 _ (by omega) (by omega)).s6 _ (by omega) (by omega)), (((Stays.refl _ _).inA _).inA _).inA _⟩
set_option maxHeartbeats 400000 in
theorem on_nil (w : World) : Calls Try.prog 16 #[.pointer none] w fun e w' => e = .returned (.tuple #[]) ∧ w = w' := by
  go_enter Try.func16, Try.ntmps16
  go_wp2
  go_end0
  exact ⟨rfl, rfl⟩

set_option maxHeartbeats 400000 in
theorem cut_any (h : ChipAt w L c) (n m : Int) (n0 : n ≤ 9223372036854775807) (m0 : -9223372036854775808 ≤ m) (m1 : m ≤ 9223372036854775807) : Calls Try.prog 14 #[.pointer (some ⟨L.a, 0, none⟩), .int .i64 n, .int .i64 m] w fun e w' =>
    e = .returned (.tuple #[]) ∧ ChipAt w' L { c with left := max n 1, mode := m } ∧ Stays (· = L.a) w w' := by
  have hc5 := h.c5
  have hc6 := h.c6
  have hf := h.fa
  have H := Lib.hid h
  clear h
  by_cases hn : 1 ≤ n
  · go_enter Try.func14, Try.ntmps14
    go_wp2
    go_end0
    exact ⟨rfl, by rw [show max n 1 = n from by omega]; exact ((H.out.s5 _ (by omega) (by omega)).s6 _ (by omega) (by omega)), ((Stays.refl _ _).inA _).inA _⟩
  · go_enter Try.func14, Try.ntmps14
    go_wp2
    go_end0
    exact ⟨rfl, by rw [show max n 1 = 1 from by omega]; exact ((H.out.s5 _ (by omega) (by omega)).s6 _ (by omega) (by omega)), ((Stays.refl _ _).inA _).inA _⟩
set_option maxHeartbeats 400000 in
theorem cut_nil (n m : Int) (w : World) : Calls Try.prog 14 #[.pointer none, .int .i64 n, .int .i64 m] w fun e w' => e = .returned (.tuple #[]) ∧ w = w' := by
  go_enter Try.func14, Try.ntmps14
  go_wp2
  go_end0
  exact ⟨rfl, rfl⟩

set_option maxHeartbeats 400000 in
theorem noise_any (h : ChipAt w L c) (s m p : Int) : Calls Try.prog 18 #[.pointer (some ⟨L.a, 0, none⟩), .int .i64 s, .int .i64 m, .int .i64 p] w fun e w' =>
    e = .returned (.tuple #[]) ∧ ChipAt w' L { c with seed := s, most := m, piece := p } ∧ Stays (· = L.a) w w' := by
  have hc2 := h.c2
  have hc3 := h.c3
  have hc4 := h.c4
  have hf := h.fa
  go_enter Try.func18, Try.ntmps18
  go_wp2
  go_end0
  exact ⟨rfl, ((h.s2 _).s3 _).s4 _, (((Stays.refl _ _).inA _).inA _).inA _⟩
set_option maxHeartbeats 400000 in
theorem noise_nil (s m p : Int) (w : World) : Calls Try.prog 18 #[.pointer none, .int .i64 s, .int .i64 m, .int .i64 p] w fun e w' => e = .returned (.tuple #[]) ∧ w = w' := by
  go_enter Try.func18, Try.ntmps18
  go_wp2
  go_end0
  exact ⟨rfl, rfl⟩

end Go.Proofs.Ythoadcibknaelaa
