/- The closure that fills the tables. -/
import Derived.Test.YtgfjeaegigjnaaaGreatDoorPgG
import Derived.RegionTactic
import Derived.RegionCalls
import Derived.Deep.QuietTactic
import Derived.BigQuiet
import Derived.BigRegion
import Derived.StillTailTactics
import Derived.Deep.OwnRows
namespace Go.Proofs.YtgfjeaegigjnaaaGreatDoor
open Go.RowKit
set_option linter.unusedVariables false
set_option linter.unusedSimpArgs false

/-- The tables so far: the first i powers, twice. -/
structure Filled (w : World) (be bl i : Nat) : Prop where
  exps : ∃ E, Row w be 16382 E ∧ (∀ j, j < i → E j = .int .i64 (expN j : Nat)) ∧ ∀ j, j < i → E (j + 8191) = .int .i64 (expN j : Nat)
  logs : ∃ E, Row w bl 8192 E ∧ ∀ j, j < i → E (expN j) = .int .i64 (j : Nat)
theorem filled_step {w : World} {be bl k x : Nat} (h : Filled w be bl k) (hk : k < 8191) (hx : x = expN k) (hne : be ≠ bl) :
    Filled (((w.setCell ⟨be, k, none⟩ (.int .i64 (x : Int))).setCell ⟨be, k + 8191, none⟩ (.int .i64 (x : Int))).setCell ⟨bl, x, none⟩ (.int .i64 (k : Int))) be bl (k + 1) := by
  obtain ⟨⟨E, hE, hE1, hE2⟩, ⟨F, hF, hF1⟩⟩ := h
  subst hx
  refine ⟨⟨_, ((hE.set _ _).set _ _).other _ _ (Ne.symm hne), fun j hj => ?_, fun j hj => ?_⟩, ⟨_, ((hF.other _ _ hne).other _ _ hne).set _ _, fun j hj => ?_⟩⟩
  · rw [upd_other _ _ (by omega)]
    by_cases e : j = k
    · subst e; rw [upd_same]
    · rw [upd_other _ _ e]; exact hE1 j (by omega)
  · by_cases e : j = k
    · subst e; rw [upd_same]
    · rw [upd_other _ _ (by omega), upd_other _ _ (by omega)]; exact hE2 j (by omega)
  · by_cases e : j = k
    · subst e; rw [upd_same]
    · rw [upd_other]
      · exact hF1 j (by omega)
      · intro he; exact e (exp_inj (by omega) hk he)
theorem Filled.tab {w : World} {b off be bl : Nat} (h : Filled w be bl 8191) (h3 : w.cell? ⟨b, off + 3, none⟩ = some (.slice (some ⟨be, 0, none⟩) 16382 16382)) (h4 : w.cell? ⟨b, off + 4, none⟩ = some (.slice (some ⟨bl, 0, none⟩) 8192 8192)) : Tab w b off be bl := by
  obtain ⟨⟨E, hE, hE1, hE2⟩, ⟨F, hF, hF1⟩⟩ := h
  refine ⟨h3, h4, fun j hj => ?_, fun y h0 h1 => ?_⟩
  · rw [hE.cell j hj]
    rcases Nat.lt_or_ge j 8191 with h | h
    · rw [hE1 j h]
    · obtain ⟨i, rfl⟩ : ∃ i, j = i + 8191 := ⟨j - 8191, by omega⟩
      rw [hE2 i (by omega), ← exp_mod (i + 8191), Nat.add_mod_right, exp_mod]
  · rw [hF.cell y h1]
    have := hF1 (logN y) (logN_lt y)
    rw [exp_log h0 h1] at this
    rw [this]
set_option maxRecDepth 100000 in
set_option maxHeartbeats 1600000 in
theorem fill_any (b off pb : Nat) (v3 v4 : Value) (w : World) (hp : w.cell? ⟨pb, 0, none⟩ = some (.pointer (some ⟨b, off, none⟩)))
    (h3 : w.cell? ⟨b, off + 3, none⟩ = some v3) (h4 : w.cell? ⟨b, off + 4, none⟩ = some v4) (z3 : w.frozen? ⟨b, off + 3, none⟩ = false) (z4 : w.frozen? ⟨b, off + 4, none⟩ = false) (hne : pb ≠ b) :
    Calls Tryz.prog 118 #[.pointer (some ⟨pb, 0, none⟩)] w fun e w' => e = .returned (.tuple #[]) ∧ ∃ be bl, Tab w' b off be bl ∧ be ≠ b ∧ bl ≠ b ∧ Only b (off + 3) (off + 5) w w' := by
  obtain ⟨N, hN⟩ : ∃ N : Nat, N = 16382 := ⟨16382, rfl⟩
  obtain ⟨M, hM⟩ : ∃ M : Nat, M = 8192 := ⟨8192, rfl⟩
  have hmk1 : ∀ W : World, (Instr.makeSlice 55 (.int .i64 16382) (.int .i64 16382)).run Tryz.prog W = .ok (.slice (some ⟨W.heap.size, 0, none⟩) N N) (W.alloc (.cells (madeCells #[.int .i64 0] N) 3)) := by
    intro W
    have h := run_make_row' (P := Tryz.prog) 55 3 (.int .i64 0) 8 (by kernel_rfl) (by kernel_rfl) rfl .i64 .i64 N (by omega) (by omega) W
    have hc : ((N : Nat) : Int) = 16382 := by omega
    rw [hc] at h
    exact h
  have hmk2 : ∀ W : World, (Instr.makeSlice 55 (.int .i64 8192) (.int .i64 8192)).run Tryz.prog W = .ok (.slice (some ⟨W.heap.size, 0, none⟩) M M) (W.alloc (.cells (madeCells #[.int .i64 0] M) 3)) := by
    intro W
    have h := run_make_row' (P := Tryz.prog) 55 3 (.int .i64 0) 8 (by kernel_rfl) (by kernel_rfl) rfl .i64 .i64 M (by omega) (by omega) W
    have hc : ((M : Nat) : Int) = 8192 := by omega
    rw [hc] at h
    exact h
  have HN := Lib.hid hN
  have HM := Lib.hid hM
  clear hN hM
  have lp : pb < w.heap.size := World.block_lt_of_cell? _ _ hp
  have lb : b < w.heap.size := World.block_lt_of_cell? _ _ h3
  go_enter Tryz.func118, Tryz.ntmps118
  go_wp2_with fail
  go_region
  go_wp2_with fail
  go_region
  go_wp2_with fail
  obtain ⟨be, hbe⟩ : ∃ be, be = w.heap.size := ⟨_, rfl⟩
  obtain ⟨bl, hbl⟩ : ∃ bl, bl = be + 1 := ⟨_, rfl⟩
  rw [← hbe, ← hbl]
  have g1 : be ≠ b := by omega
  have g2 : bl ≠ b := by omega
  have g3 : be ≠ bl := by omega
  have g4 : pb ≠ be := by omega
  have g5 : pb ≠ bl := by omega
  obtain ⟨W0, hW0⟩ : ∃ W0 : World, W0 = ((((w.setCell ⟨b, off + 3, none⟩ (.slice (some ⟨be, 0, none⟩) N N)).setCell ⟨b, off + 4, none⟩ (.slice (some ⟨bl, 0, none⟩) M M)).alloc (.cells (madeCells #[.int .i64 0] N) 3)).alloc (.cells (madeCells #[.int .i64 0] M) 3)).drew.drew := ⟨_, rfl⟩
  rw [← hW0]
  have q0 : (Only b (off + 3) (off + 5) w W0) := by
    rw [hW0]
    exact (((((Only.refl b (off + 3) (off + 5) w).setCell (by omega) (by omega) _).setCell (by omega) (by omega) _).alloc lb _).alloc lb _).drew.drew
  have q1 : W0.cell? ⟨pb, 0, none⟩ = some (.pointer (some ⟨b, off, none⟩)) := q0.cell hp (fun e => absurd e hne)
  have q2 : W0.cell? ⟨b, off + 3, none⟩ = some (.slice (some ⟨be, 0, none⟩) N N) := by
    rw [hW0]
    have e1 : (w.setCell ⟨b, off + 3, none⟩ (.slice (some ⟨be, 0, none⟩) N N)).cell? ⟨b, off + 3, none⟩ = some (.slice (some ⟨be, 0, none⟩) N N) := World.cell?_setCell_same _ _ _ h3
    rw [World.cell?_drew, World.cell?_drew, World.cell?_alloc_lt _ _ _ (by simp; omega), World.cell?_alloc_lt _ _ _ (by simp; omega), World.cell?_setCell_other _ _ _ _ (addr_ne_off (by omega))]
    exact e1
  have q3 : W0.cell? ⟨b, off + 4, none⟩ = some (.slice (some ⟨bl, 0, none⟩) M M) := by
    rw [hW0]
    rw [World.cell?_drew, World.cell?_drew, World.cell?_alloc_lt _ _ _ (by simp; omega), World.cell?_alloc_lt _ _ _ (by simp; omega)]
    exact World.cell?_setCell_same _ _ _ ((World.cell?_setCell_other _ _ _ _ (addr_ne_off (by omega))).trans h4)
  have q4 : Filled W0 be bl 0 := by
    have hs1 : ((w.setCell ⟨b, off + 3, none⟩ (.slice (some ⟨be, 0, none⟩) N N)).setCell ⟨b, off + 4, none⟩ (.slice (some ⟨bl, 0, none⟩) M M)).heap.size = be := by simp [hbe]
    have hs2 : (((w.setCell ⟨b, off + 3, none⟩ (.slice (some ⟨be, 0, none⟩) N N)).setCell ⟨b, off + 4, none⟩ (.slice (some ⟨bl, 0, none⟩) M M)).alloc (.cells (madeCells #[.int .i64 0] N) 3)).heap.size = bl := by simp [hbe, hbl]
    have r1 := Row.made ((w.setCell ⟨b, off + 3, none⟩ (.slice (some ⟨be, 0, none⟩) N N)).setCell ⟨b, off + 4, none⟩ (.slice (some ⟨bl, 0, none⟩) M M)) (madeCells #[.int .i64 0] N) 3 N (fun _ => .int .i64 0) (fun j hj => madeCells_getN _ _ _ hj)
    have r2 := Row.made (((w.setCell ⟨b, off + 3, none⟩ (.slice (some ⟨be, 0, none⟩) N N)).setCell ⟨b, off + 4, none⟩ (.slice (some ⟨bl, 0, none⟩) M M)).alloc (.cells (madeCells #[.int .i64 0] N) 3)) (madeCells #[.int .i64 0] M) 3 M (fun _ => .int .i64 0) (fun j hj => madeCells_getN _ _ _ hj)
    rw [hs1] at r1
    rw [hs2] at r2
    rw [hW0]
    refine ⟨⟨_, (((r1.mono (by rw [HN.out]; exact Nat.le_refl _)).alloc ?_ _).drew).drew, fun j hj => by omega, fun j hj => by omega⟩, ⟨_, ((r2.mono (by rw [HM.out]; exact Nat.le_refl _)).drew).drew, fun j hj => by omega⟩⟩
    rw [hs2]; omega
  clear hW0
  have HBE := Lib.hid hbe
  have HBL := Lib.hid hbl
  clear hbe hbl hmk1 hmk2 h3 h4 z3 z4 hp
  go_loopw [1, 11] (fun x i wr => ∃ k : Nat, k ≤ 8191 ∧ i = .int .i64 k ∧ x = .int .i64 (expN k : Nat) ∧ Filled wr be bl k ∧ wr.cell? ⟨pb, 0, none⟩ = some (.pointer (some ⟨b, off, none⟩)) ∧ wr.cell? ⟨b, off + 3, none⟩ = some (.slice (some ⟨be, 0, none⟩) N N) ∧ wr.cell? ⟨b, off + 4, none⟩ = some (.slice (some ⟨bl, 0, none⟩) M M) ∧ Only b (off + 3) (off + 5) w wr) (fun _ i _ => 8191 - (intOf i).toNat)
  case atStart => exact ⟨0, Nat.zero_le _, rfl, rfl, q4, q1, q2, q3, q0⟩
  case round =>
    clear q4 q1 q2 q3 q0
    obtain ⟨k, hk, rfl, rfl, hfl, hp, h3, h4, ho⟩ := hrel
    by_cases hlt : k < 8191
    · obtain ⟨⟨E, hE, hE1, hE2⟩, ⟨F, hF, hF1⟩⟩ := hfl
      have hx := expN_lt k
      obtain ⟨x, hxe⟩ : ∃ x, x = expN k := ⟨_, rfl⟩
      rw [← hxe] at hx ⊢
      have HX := Lib.hid hxe
      clear hxe
      have hcE := hE.cell k (by omega)
      have hcE2 := hE.cell (k + 8191) (by omega)
      have hfE := hE.free k
      have hfE2 := hE.free (k + 8191)
      have hHE := Lib.hid hE
      have hHF := Lib.hid hF
      have hH1 := Lib.hid hE1
      have hH2 := Lib.hid hE2
      have hH3 := Lib.hid hF1
      have hHO := Lib.hid ho
      clear hE hF hE1 hE2 hF1 ho
      have hkn : (k : Int) < (N : Int) := by rw [HN.out]; omega
      have hkn2 : (k : Int) + 8191 < (N : Int) := by rw [HN.out]; omega
      have hwr : IntKind.i64.wrap ((k : Int) + 8191) = (k : Int) + 8191 := by rw [IntKind.wrap_i64]; omega
      have hnn : ((k : Int) + 8191).toNat = k + 8191 := by omega
      go_wp2_with fail
      have hcF := hHF.out.cell x hx
      have hfF := hHF.out.free x
      have hxM : (x : Int) < (M : Int) := by rw [HM.out]; omega
      go_region
      have hst : Filled (((wr.setCell ⟨be, k, none⟩ (.int .i64 (x : Int))).setCell ⟨be, k + 8191, none⟩ (.int .i64 (x : Int))).setCell ⟨bl, x, none⟩ (.int .i64 (k : Int))).drew be bl (k + 1) := by
        obtain ⟨⟨E', a1, a2, a3⟩, F', a4, a5⟩ := filled_step ⟨⟨E, hHE.out, hH1.out, hH2.out⟩, ⟨F, hHF.out, hH3.out⟩⟩ hlt HX.out g3
        exact ⟨⟨E', a1.drew, a2, a3⟩, F', a4.drew, a5⟩
      have hon : Only b (off + 3) (off + 5) w (((wr.setCell ⟨be, k, none⟩ (.int .i64 (x : Int))).setCell ⟨be, k + 8191, none⟩ (.int .i64 (x : Int))).setCell ⟨bl, x, none⟩ (.int .i64 (k : Int))).drew :=
        (((hHO.out.setNew (by rw [HBE.out]; exact Nat.le_refl _) g1 _).setNew (by rw [HBE.out]; exact Nat.le_refl _) g1 _).setNew (by rw [HBL.out, HBE.out]; omega) g2 _).drew
      have hst := Lib.hid hst
      have hon := Lib.hid hon
      have he : expN (k + 1) = step x := by rw [HX.out]; rfl
      have HE := Lib.hid he
      clear he
      by_cases h40 : x < 4096
      · have hd : decide (8192 ≤ (x : Int) * 2) = false := by simp; omega
        go_wp2_with fail
        go_roundw
        case rel =>
          refine ⟨k + 1, by omega, by go_num, congrArg (Value.int .i64) ?_, hst.out, ?_, ?_, ?_, hon.out⟩
          · rw [HE.out, step_low h40]; omega
          · rw [World.cell?_drew, World.cell?_setCell_other _ _ _ _ (addr_ne_block (Ne.symm g5)), World.cell?_setCell_other _ _ _ _ (addr_ne_block (Ne.symm g4)), World.cell?_setCell_other _ _ _ _ (addr_ne_block (Ne.symm g4))]; exact hp
          · rw [World.cell?_drew, World.cell?_setCell_other _ _ _ _ (addr_ne_block g2), World.cell?_setCell_other _ _ _ _ (addr_ne_block g1), World.cell?_setCell_other _ _ _ _ (addr_ne_block g1)]; exact h3
          · rw [World.cell?_drew, World.cell?_setCell_other _ _ _ _ (addr_ne_block g2), World.cell?_setCell_other _ _ _ _ (addr_ne_block g1), World.cell?_setCell_other _ _ _ _ (addr_ne_block g1)]; exact h4
        case measure => simp [intOf]; omega
      · have hd : decide (8192 ≤ (x : Int) * 2) = true := by simp; omega
        go_wp2_with fail
        go_roundw
        case rel =>
          refine ⟨k + 1, by omega, by go_num, congrArg (Value.int .i64) ?_, hst.out, ?_, ?_, ?_, hon.out⟩
          · rw [HE.out, step_high (by omega) hx, ← xor_i64 (2 * x) 0x201B (by omega) (by omega)]
            have e2 : ((2 * x : Nat) : Int) = (x : Int) * 2 := by omega
            rw [e2]; rfl
          · rw [World.cell?_drew, World.cell?_setCell_other _ _ _ _ (addr_ne_block (Ne.symm g5)), World.cell?_setCell_other _ _ _ _ (addr_ne_block (Ne.symm g4)), World.cell?_setCell_other _ _ _ _ (addr_ne_block (Ne.symm g4))]; exact hp
          · rw [World.cell?_drew, World.cell?_setCell_other _ _ _ _ (addr_ne_block g2), World.cell?_setCell_other _ _ _ _ (addr_ne_block g1), World.cell?_setCell_other _ _ _ _ (addr_ne_block g1)]; exact h3
          · rw [World.cell?_drew, World.cell?_setCell_other _ _ _ _ (addr_ne_block g2), World.cell?_setCell_other _ _ _ _ (addr_ne_block g1), World.cell?_setCell_other _ _ _ _ (addr_ne_block g1)]; exact h4
        case measure => simp [intOf]; omega
    · have hk8 : k = 8191 := by omega
      subst hk8
      go_wp2_with fail
      go_end0
      exact ⟨rfl, be, bl, hfl.tab (by rw [h3, HN.out]) (by rw [h4, HM.out]), g1, g2, ho⟩
end Go.Proofs.YtgfjeaegigjnaaaGreatDoor

