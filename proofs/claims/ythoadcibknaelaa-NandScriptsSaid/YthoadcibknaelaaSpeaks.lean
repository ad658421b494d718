/- 'speaks' of chertlaw05: a torn upper page takes the lower one with it. -/
import Derived.Test.YthoadcibknaelaaPure
namespace Go.Proofs.Ythoadcibknaelaa
open Go.RowKit
set_option linter.unusedVariables false
set_option linter.unusedSimpArgs false

def sp0 : Chp := freshC 1 4 2
def sp1 : Chp := (programC sp0 0 0 ⟨#[97, 98]⟩).2
def sp2 : Chp := { sp1 with left := max 1 1, mode := 4 }
def sp3 : Chp := (programC sp2 0 2 ⟨#[99, 100]⟩).2
def sp4 : Chp := { sp3 with off := false, left := 0, mode := 0 }

theorem sp_e1 : (programC sp0 0 0 ⟨#[97, 98]⟩).1 = 0 := by decide +kernel
theorem sp_e3 : (programC sp2 0 2 ⟨#[99, 100]⟩).1 = 20 := by decide +kernel
theorem sp_off : sp3.off = true := by decide +kernel
theorem sp_r : (readC sp4 0 0).2.1 = 0 := by decide +kernel
theorem sp_s : (readC sp4 0 0).1.data.toList = [0, 0] := by decide +kernel

set_option maxHeartbeats 1600000 in
theorem speaks_ok (w : World) : Calls Try.prog 10 #[] w fun e w' => e = .returned (.bool true) ∧ Below w.heap.size w w' := by
  go_enter Try.func10, Try.ntmps10
  go_wp2_with fail
  refine (new_at 1 4 2 w _ (Below.refl _ _) (by unfold newOk; omega)).mono ?_; rintro e w1 ⟨L, rfl, H1⟩
  go_wp2_with fail
  refine (program_h H1 0 0 ⟨#[97, 98]⟩).mono ?_; rintro e w2 ⟨rfl, H2⟩
  rw [show (programC (freshC (1 : Int).toNat (4 : Int).toNat 2) 0 0 ⟨#[97, 98]⟩).1 = 0 from sp_e1]
  have H2' : Holds w w2 L sp1 := H2
  clear H1 H2
  go_wp2_with fail
  refine (cut_h H2' 1 4 (by omega) (by omega) (by omega)).mono ?_; rintro e w3 ⟨rfl, H3⟩
  have H3' : Holds w w3 L sp2 := H3
  clear H2' H3
  go_wp2_with fail
  refine (program_h H3' 0 2 ⟨#[99, 100]⟩).mono ?_; rintro e w4 ⟨rfl, H4⟩
  rw [sp_e3]
  have H4' : Holds w w4 L sp3 := H4
  clear H3' H4
  go_wp2_with fail
  refine (off_h H4').mono ?_; rintro e w5 ⟨rfl, rfl⟩
  rw [sp_off]
  go_wp2_with fail
  refine (on_h H4').mono ?_; rintro e w6 ⟨rfl, H6⟩
  have H6' : Holds w w6 L sp4 := H6
  clear H4' H6
  go_wp2_with fail
  refine (read_h H6' 0 0).mono ?_; rintro e w7 ⟨rfl, H7⟩
  rw [sp_r]
  have hs := sp_s
  generalize (readC sp4 0 0).1 = s at *
  obtain ⟨⟨sl⟩⟩ := s
  obtain rfl : sl = [0, 0] := by simpa using hs
  clear hs H6'
  go_wp2_with fail
  go_ret
  exact ⟨rfl, H7.below⟩

end Go.Proofs.Ythoadcibknaelaa
