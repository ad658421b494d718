/- What the calls on the document's chip come to: block, page, begin, Wear, Spoil. -/
import Derived.Test.YthoadcibknaelaaRRep
import Derived.Test.YthoadcibknaelaaOpC
import Derived.Outline
import Derived.Deep.QuietTactic
import Derived.BigQuiet
import Derived.StillTailTactics
import Derived.Deep.DeepCutAuto
import Derived.Deep.CutBlock
namespace Go.Proofs.Ythoadcibknaelaa
open Go.RowKit
set_option linter.unusedVariables false
set_option linter.unusedSimpArgs false
variable {R : RLay} {c : Chp} {w : World}

set_option maxHeartbeats 400000 in
theorem rblock_any (h : RefAt w R c) (b : Int) : Calls Try.prog 38 #[.pointer (some ⟨R.a, 0, none⟩), .int .i64 b] w fun e w' => e = .returned (.bool (hasB c b)) ∧ w = w' := by
  have k0 : w.cell? ⟨R.a, 0, none⟩ = some (.int .i64 c.nb) := h.ca 0 (by decide)
  unfold hasB
  by_cases h0 : 0 ≤ b
  · have e0 : decide (0 ≤ b) = true := by simpa using h0
    go_enter Try.func38, Try.ntmps38
    go_wp2
    go_ret
    exact ⟨by rw [e0]; rfl, rfl⟩
  · have e0 : decide (0 ≤ b) = false := by simpa using h0
    go_enter Try.func38, Try.ntmps38
    go_wp2
    go_ret
    exact ⟨rfl, rfl⟩

set_option maxHeartbeats 400000 in
theorem rpage_any (h : RefAt w R c) (b p : Int) : Calls Try.prog 40 #[.pointer (some ⟨R.a, 0, none⟩), .int .i64 b, .int .i64 p] w fun e w' => e = .returned (.bool (hasPB c b p)) ∧ w = w' := by
  have k1 : w.cell? ⟨R.a, 1, none⟩ = some (.int .i64 c.np) := h.ca 1 (by decide)
  unfold hasPB
  cases hb : hasB c b with
  | false =>
    go_enter Try.func40, Try.ntmps40
    go_wp2_with fail
    refine (rblock_any h b).mono ?_; rintro e w' ⟨rfl, rfl⟩
    rw [hb]
    go_wp2_with fail
    go_ret
    exact ⟨rfl, rfl⟩
  | true =>
    by_cases h0 : 0 ≤ p
    · have e0 : decide (0 ≤ p) = true := by simpa using h0
      go_enter Try.func40, Try.ntmps40
      go_wp2_with fail
      refine (rblock_any h b).mono ?_; rintro e w' ⟨rfl, rfl⟩
      rw [hb]
      go_wp2_with fail
      go_ret
      exact ⟨by rw [e0]; rfl, rfl⟩
    · have e0 : decide (0 ≤ p) = false := by simpa using h0
      go_enter Try.func40, Try.ntmps40
      go_wp2_with fail
      refine (rblock_any h b).mono ?_; rintro e w' ⟨rfl, rfl⟩
      rw [hb]
      go_wp2_with fail
      go_ret
      exact ⟨by rw [e0]; rfl, rfl⟩

/-- How the document tells a torn change: its kind, or -1. -/
def beginR (c : Chp) : Int := if (tornC c).1.2 then (tornC c).1.1 else -1

theorem torn_a (h : c.left = 0) : tornC c = ((0, false), { c with changes := wrap64 (c.changes + 1) }) := by rw [tornC, if_pos h]
theorem torn_b (h : 1 < c.left) : tornC c = ((0, false), { c with changes := wrap64 (c.changes + 1), left := c.left - 1 }) := by rw [tornC, if_neg (by omega), if_pos h]
theorem torn_c (h : c.left ≠ 0) (h2 : ¬ 1 < c.left) : tornC c = ((modeC c.mode, true), { c with changes := wrap64 (c.changes + 1), left := c.left - 1, off := true }) := by rw [tornC, if_neg h, if_neg h2]

set_option maxHeartbeats 400000 in
theorem begin_any (h : RefAt w R c) : Calls Try.prog 39 #[.pointer (some ⟨R.a, 0, none⟩)] w fun e w' =>
    e = .returned (.int .i64 (beginR c)) ∧ RefAt w' R (tornC c).2 ∧ Stays (· = R.a) w w' := by
  have k10 : w.cell? ⟨R.a, 10, none⟩ = some (.int .i64 c.left) := h.ca 10 (by decide)
  have k11 : w.cell? ⟨R.a, 11, none⟩ = some (.int .i64 R.md) := h.ca 11 (by decide)
  have k12 : w.cell? ⟨R.a, 12, none⟩ = some (.bool c.off) := h.ca 12 (by decide)
  have k13 : w.cell? ⟨R.a, 13, none⟩ = some (.int .i64 c.changes) := h.ca 13 (by decide)
  have hf := h.fz R.a (.inl rfl)
  have l0 := h.l0
  have l1 := h.l1
  have m0 := h.m0
  have m1 := h.m1
  by_cases e0 : c.left = 0
  · have e0b : decide (c.left < 1) = true := by simp; omega
    have HH := Lib.hid e0
    clear e0
    go_enter Try.func39, Try.ntmps39
    go_wp2
    go_ret
    exact ⟨by rw [beginR, torn_a HH.out]; rfl, by rw [torn_a HH.out]; exact h.sChanges _, (Stays.refl _ _).inA _⟩
  · have e0b : decide (c.left < 1) = false := by simp; omega
    have hm : R.md = c.mode := h.hm.resolve_left e0
    by_cases e1 : 1 < c.left
    · have e1b : decide (0 < c.left - 1) = true := by simp; omega
      have HM := Lib.hid hm
      clear hm
      go_enter Try.func39, Try.ntmps39
      go_wp2
      go_ret
      exact ⟨by rw [beginR, torn_b e1]; rfl, by rw [torn_b e1]; exact (h.sChanges (wrap64 (c.changes + 1))).sLeft (c.left - 1) (by omega) (by omega) (.inr HM.out), ((Stays.refl _ _).inA _).inA _⟩
    · have e1b : decide (0 < c.left - 1) = false := by simp; omega
      have HM := Lib.hid hm
      clear hm
      by_cases e2 : R.md < 0
      · go_enter Try.func39, Try.ntmps39
        go_wp2
        go_ret
        exact ⟨by rw [beginR, torn_c e0 (by omega), ← HM.out, ← modeC_neg _ e2]; rfl, by rw [torn_c e0 (by omega)]; exact ((h.sChanges (wrap64 (c.changes + 1))).sLeft (c.left - 1) (by omega) (by omega) (.inr HM.out)).sOff true, (((Stays.refl _ _).inA _).inA _).inA _⟩
      · go_enter Try.func39, Try.ntmps39
        go_wp2
        go_ret
        exact ⟨by rw [beginR, torn_c e0 (by omega), ← HM.out, modeC, if_neg (show ¬ R.md < 0 by omega)]; rfl, by rw [torn_c e0 (by omega)]; exact ((h.sChanges (wrap64 (c.changes + 1))).sLeft (c.left - 1) (by omega) (by omega) (.inr HM.out)).sOff true, (((Stays.refl _ _).inA _).inA _).inA _⟩

theorem rfoot_w (R : RLay) : RFoot R R.ww := .inr (.inr (.inr (.inr rfl)))
theorem rfoot_p (R : RLay) : RFoot R R.pp := .inr (.inl rfl)
theorem rfoot_e (R : RLay) : RFoot R R.ee := .inr (.inr (.inl rfl))
theorem rfoot_r (R : RLay) : RFoot R R.rr := .inr (.inr (.inr (.inl rfl)))
theorem rfoot_a (R : RLay) : RFoot R R.a := .inl rfl

set_option maxHeartbeats 400000 in
theorem rwear_any (h : RefAt w R c) (b : Int) : Calls Try.prog 29 #[.pointer (some ⟨R.a, 0, none⟩), .int .i64 b] w fun e w' =>
    e = .returned (.int .i64 (wearC c b).1) ∧ RefAt w' R (wearC c b).2 ∧ Stays (RFoot R) w w' := by
  have k6 : w.cell? ⟨R.a, 6, none⟩ = some (.slice (some ⟨R.ww, 0, none⟩) c.nb c.nb) := h.ca 6 (by decide)
  have hnb := h.nbn
  have hfw := h.fz R.ww (rfoot_w R)
  by_cases hb : hasB c b = true
  · have hv : wearC c b = (0, { c with worn := upd c.worn b.toNat true }) := if_pos hb
    have HV := Lib.hid hv
    clear hv
    obtain ⟨n, rfl, hn⟩ := hasB_nat hb
    have hb3 := h.cw n hn
    go_enter Try.func29, Try.ntmps29
    go_wp2_with (go_at_call 38; refine (rblock_any h _).mono ?_; rintro e w' ⟨rfl, rfl⟩)
    go_ret
    rw [HV.out]
    exact ⟨rfl, h.sWn hn true, (Stays.refl _ _).setCell (rfoot_w R) _⟩
  · have hb' : hasB c b = false := by simpa using hb
    have hv : wearC c b = (1, c) := if_neg hb
    have HV := Lib.hid hv
    clear hv hb
    go_enter Try.func29, Try.ntmps29
    go_wp2_with (go_at_call 38; refine (rblock_any h _).mono ?_; rintro e w' ⟨rfl, rfl⟩)
    go_ret
    rw [HV.out]
    exact ⟨rfl, h, Stays.refl _ _⟩

theorem flat_small (h : RefAt w R c) {i j : Nat} (hi : i < c.nb) (hj : j < c.np) : i * c.np ≤ 4096 ∧ i * c.np + j < c.nb * c.np ∧ c.nb * c.np ≤ 4096 := by
  have h1 := h.flat hi hj
  have h2 := Nat.mul_le_mul h.nbn h.npn
  omega

theorem flat_facts (fl m T : Nat) (h : T ≤ 4096) (h2 : fl + m < T) : IntKind.i64.wrap (fl : Int) = fl ∧ IntKind.i64.wrap ((fl : Int) + (m : Int)) = (fl : Int) + m ∧ 0 ≤ (fl : Int) + (m : Int) ∧ ((fl : Int) + (m : Int)).toNat = fl + m ∧ (fl : Int) + (m : Int) < (T : Int) := by
  refine ⟨?_, ?_, by omega, by omega, by omega⟩ <;> rw [IntKind.wrap_i64] <;> omega
set_option maxHeartbeats 800000 in
set_option maxRecDepth 100000 in
theorem rspoil_any (h : RefAt w R c) (b p : Int) : Calls Try.prog 28 #[.pointer (some ⟨R.a, 0, none⟩), .int .i64 b, .int .i64 p] w fun e w' =>
    e = .returned (.int .i64 (spoilC c b p).1) ∧ RefAt w' R (spoilC c b p).2 ∧ Stays (RFoot R) w w' := by
  have k1 : w.cell? ⟨R.a, 1, none⟩ = some (.int .i64 c.np) := h.ca 1 (by decide)
  have k3 : w.cell? ⟨R.a, 3, none⟩ = some (.slice (some ⟨R.pp, 0, none⟩) (c.nb * c.np) (c.nb * c.np)) := h.ca 3 (by decide)
  by_cases hb : hasPB c b p = true
  · have hv : spoilC c b p = (0, if (c.pg b.toNat p.toNat).st = 1 then { c with pg := upd2 c.pg b.toNat p.toNat { c.pg b.toNat p.toNat with st := 2 } } else c) := if_pos hb
    have HV := Lib.hid hv
    clear hv
    obtain ⟨n, m, rfl, rfl, hn, hm⟩ := hasPB_nat hb
    have hp0 : w.cell? ⟨R.pp, (n * c.np + m) * 3, none⟩ = some (.int .i64 (c.pg n m).st) := h.page (f := 0) hn hm (by omega)
    obtain ⟨q1, q2, q3⟩ := flat_small h hn hm
    have hfp := h.fz R.pp (rfoot_p R)
    have hs0 : (n : Int) * (c.np : Int) = ((n * c.np : Nat) : Int) := by simp
    obtain ⟨fl, hfl⟩ : ∃ fl, fl = n * c.np := ⟨_, rfl⟩
    rw [← hfl] at hp0 q1 q2 hs0
    generalize c.nb * c.np = T at k3 q2 q3
    have HFL := Lib.hid hfl
    clear hfl
    by_cases e1 : (c.pg n m).st = 1
    · have e1b : ((c.pg n m).st == 1) = true := by simpa using e1
      have E1 := Lib.hid e1
      clear e1
      go_enter Try.func28, Try.ntmps28
      go_wp2_with (go_at_call 40; refine (rpage_any h _ _).mono ?_; rintro e w' ⟨rfl, rfl⟩)
      go_quiet (fail)
      go_upto_region 4 with fail
      obtain ⟨v1, v2, v3, v4, v5⟩ := flat_facts fl m T (by omega) q2
      refine wp_region_still_tail 14 (by kernel_rfl) (by kernel_rfl) ?_
      simp only [List.take_succ_cons, List.take_zero, List.drop_succ_cons, List.drop_zero]
      change wpStill _ _ (World.drew (w.drewN nq)) _ _ _
      repeat still_step
      try refine wpStill_nil ?_
      change wpList _ _ _ _ _ (World.drew (w.drewN nq))
      go_wp2_with fail
      go_ret
      rw [HV.out]
      simp only [Int.toNat_natCast]
      rw [if_pos E1.out]
      exact ⟨rfl, by have h9 := (h.drewN (nq + 1)).sSt hn hm 2; rw [← HFL.out] at h9; exact h9, ((Stays.refl _ w).drewN (nq + 1)).setCell (rfoot_p R) _⟩
    · have e1b : ((c.pg n m).st == 1) = false := by simpa using e1
      go_enter Try.func28, Try.ntmps28
      go_wp2_with (go_at_call 40; refine (rpage_any h _ _).mono ?_; rintro e w' ⟨rfl, rfl⟩)
      go_quiet (fail)
      go_wp2_with fail
      go_ret
      rw [HV.out]
      simp only [Int.toNat_natCast]
      rw [if_neg e1]
      exact ⟨rfl, h.drewN _, (Stays.refl _ _).drewN _⟩
  · have hb' : hasPB c b p = false := by simpa using hb
    have hv : spoilC c b p = (1, c) := if_neg hb
    have HV := Lib.hid hv
    clear hv hb
    go_enter Try.func28, Try.ntmps28
    go_wp2_with (go_at_call 40; refine (rpage_any h _ _).mono ?_; rintro e w' ⟨rfl, rfl⟩)
    go_ret
    rw [HV.out]
    exact ⟨rfl, h, Stays.refl _ _⟩

end Go.Proofs.Ythoadcibknaelaa
