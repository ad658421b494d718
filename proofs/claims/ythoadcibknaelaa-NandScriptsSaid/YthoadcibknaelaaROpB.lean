/- Erase of the document's chip. -/
import Derived.Test.YthoadcibknaelaaROpA
import Derived.Test.YthoadcibknaelaaErase
import Derived.Outline
namespace Go.Proofs.Ythoadcibknaelaa
open Go.RowKit
set_option linter.unusedVariables false
set_option linter.unusedSimpArgs false
variable {R : RLay} {c : Chp} {w : World}

theorem mayC_off {b : Nat} (h : mayC c b = 0) : c.off = false := by
  unfold mayC at h; cases ho : c.off with
  | true => rw [ho] at h; simp at h
  | false => rfl
theorem mayC_worn {b : Nat} (h : mayC c b = 0) : c.worn b = false := by
  unfold mayC at h; rw [mayC_off h] at h; cases ho : c.worn b with
  | true => rw [ho] at h; simp at h
  | false => rfl

set_option maxHeartbeats 1600000 in
set_option maxRecDepth 100000 in
theorem rerase_go (h : RefAt w R c) (b : Nat) (hb : b < c.nb) (hm : mayC c b = 0) (mo : Int) (tn : Bool) (c1 : Chp) (hT : tornC c = ((mo, tn), c1)) : Calls Try.prog 25 #[.pointer (some ⟨R.a, 0, none⟩), .int .i64 b] w fun e w' =>
    e = .returned (.int .i64 (if tn then 20 else 0)) ∧ RefAt w' R (eraseTo c1 mo tn b c1.np) ∧ Stays (RFoot R) w w' := by
  have hhas : hasB c b = true := by simp [hasB]; omega
  have bd := tornC_bd c
  have hb1 : b < (tornC c).2.nb := by rw [tornC_nb]; exact hb
  have hbeg := begin_any h
  have hbv : beginR c = if tn then mo else -1 := by rw [beginR, hT]
  rw [hbv] at hbeg
  rw [hT] at bd hb1 hbeg
  dsimp only at bd hb1 hbeg
  clear hT hbv
  have HTO := Lib.hid hbeg
  clear hbeg
  have k12 : w.cell? ⟨R.a, 12, none⟩ = some (.bool c.off) := h.ca 12 (by decide)
  have k6 : w.cell? ⟨R.a, 6, none⟩ = some (.slice (some ⟨R.ww, 0, none⟩) c.nb c.nb) := h.ca 6 (by decide)
  have kw : w.cell? ⟨R.ww, b, none⟩ = some (.bool (c.worn b)) := h.cw b hb
  rw [mayC_off hm] at k12
  rw [mayC_worn hm] at kw
  have hnb := h.nbn
  go_enter Try.func25, Try.ntmps25
  go_wp2_with fail
  refine (rblock_any h _).mono ?_; rintro e w' ⟨rfl, rfl⟩
  go_wp2_with fail
  refine HTO.out.mono ?_; rintro e w1 ⟨rfl, H1, S1⟩
  clear k12 k6 kw
  have k4 : w1.cell? ⟨R.a, 4, none⟩ = some (.slice (some ⟨R.ee, 0, none⟩) c1.nb c1.nb) := H1.ca 4 (by decide)
  have k5 : w1.cell? ⟨R.a, 5, none⟩ = some (.slice (some ⟨R.rr, 0, none⟩) c1.nb c1.nb) := H1.ca 5 (by decide)
  have k1 : w1.cell? ⟨R.a, 1, none⟩ = some (.int .i64 c1.np) := H1.ca 1 (by decide)
  have ke : w1.cell? ⟨R.ee, b, none⟩ = some (.int .i64 (c1.er b)) := H1.ce b hb1
  have kr : w1.cell? ⟨R.rr, b, none⟩ = some (.int .i64 (c1.rd b)) := H1.cr b hb1
  have hfe := H1.fz R.ee (rfoot_e R)
  have hfr := H1.fz R.rr (rfoot_r R)
  have n1 := H1.n2
  have n2 := H1.n3
  have n3 := H1.n8
  have hnb1 := H1.nbn
  have hnp1 := H1.npn
  have H0 : RefAt ((w1.setCell ⟨R.ee, b, none⟩ (.int .i64 (wrap64 (c1.er b + 1)))).setCell ⟨R.rr, b, none⟩ (.int .i64 0)) R (eraseTo c1 mo tn b 0) := by
    have := (H1.sEr hb1 (wrap64 (c1.er b + 1))).sRd hb1 0
    rw [eraseTo, pgTo_zero]
    exact this
  have S0 := ((S1.mono (fun k (hk : k = R.a) => hk ▸ rfoot_a R)).setCell (p := ⟨R.ee, b, none⟩) (rfoot_e R) (.int .i64 (wrap64 (c1.er b + 1)))).setCell (p := ⟨R.rr, b, none⟩) (rfoot_r R) (.int .i64 0)
  have HH0 := Lib.hid H0
  have HS0 := Lib.hid S0
  obtain ⟨fl, hfl⟩ : ∃ fl, fl = b * c1.np := ⟨_, rfl⟩
  have hs0 : (b : Int) * (c1.np : Int) = (fl : Int) := by rw [hfl]; simp
  have hs1 : ((b : Int) + 1) * (c1.np : Int) = (fl : Int) + (c1.np : Int) := by rw [Int.add_mul, hs0]; simp
  obtain ⟨T, hT⟩ : ∃ T, T = c1.nb * c1.np := ⟨_, rfl⟩
  have q1 : ∀ k, k < c1.np → fl + k < T := by
    intro k hk; rw [hfl, hT]; exact H1.flat hb1 hk
  have q2 : T ≤ 4096 := by rw [hT]; exact Nat.mul_le_mul H1.nbn H1.npn
  have q3 : fl ≤ 4096 := by rw [hfl]; exact Nat.mul_le_mul (show b ≤ 64 by omega) H1.npn
  have HFL := Lib.hid hfl
  have HT := Lib.hid hT
  have HQ := Lib.hid q1
  clear H0 S0 S1 H1 hfl hT q1
  cases tn with
  | false =>
    go_wp2_with fail
    go_loopw [6] (fun i wr => ∃ k : Nat, k ≤ c1.np ∧ i = .int .i64 ((fl + k : Nat) : Int) ∧ RefAt wr R (eraseTo c1 mo false b k) ∧ Stays (RFoot R) w wr) (fun i _ => fl + c1.np - (intOf i).toNat)
    case atStart => exact ⟨0, Nat.zero_le _, rfl, HH0.out, HS0.out⟩
    case round =>
      clear HH0 HS0 k4 k5 k1 ke kr hfe hfr HTO hm hhas
      obtain ⟨k, hk, rfl, H, S⟩ := hrel
      have k1 : wr.cell? ⟨R.a, 1, none⟩ = some (.int .i64 c1.np) := H.ca 1 (by decide)
      have k3 : wr.cell? ⟨R.a, 3, none⟩ = some (.slice (some ⟨R.pp, 0, none⟩) T T) := by rw [HT.out]; exact H.ca 3 (by decide)
      by_cases hlt : k < c1.np
      · have hfp : ∀ o, wr.frozen? ⟨R.pp, o, none⟩ = false := H.fz R.pp (rfoot_p R)
        have hq := HQ.out k hlt
        have kp0 : wr.cell? ⟨R.pp, (fl + k) * 3, none⟩ = some (.int .i64 (c1.pg b k).st) := by have := H.page (f := 0) hb1 hlt (by omega); rw [HFL.out]; rw [eraseTo] at this; dsimp only at this; rwa [pgTo_at] at this
        have kp1 : wr.cell? ⟨R.pp, (fl + k) * 3 + 1, none⟩ = some (.string (c1.pg b k).data) := by have := H.page (f := 1) hb1 hlt (by omega); rw [HFL.out]; rw [eraseTo] at this; dsimp only at this; rwa [pgTo_at] at this
        have kp2 : wr.cell? ⟨R.pp, (fl + k) * 3 + 2, none⟩ = some (.bool (c1.pg b k).touched) := by have := H.page (f := 2) hb1 hlt (by omega); rw [HFL.out]; rw [eraseTo] at this; dsimp only at this; rwa [pgTo_at] at this
        have HR := Lib.hid H
        have SR := Lib.hid S
        clear H S
        have step : ∀ W, RefAt W R { eraseTo c1 mo false b k with pg := upd2 (eraseTo c1 mo false b k).pg b k (erasePg mo false (c1.pg b k)) } → RefAt W R (eraseTo c1 mo false b (k + 1)) := by
          intro W hW
          unfold eraseTo at hW ⊢
          dsimp only at hW
          rwa [pgTo_succ] at hW
        have STEP := Lib.hid step
        clear step
        have skip : ∀ W, erasePg mo false (c1.pg b k) = c1.pg b k → RefAt W R (eraseTo c1 mo false b k) → RefAt W R (eraseTo c1 mo false b (k + 1)) := by
          intro W he hW
          unfold eraseTo at hW ⊢
          rwa [pgTo_skip _ _ _ _ he]
        have SKIP := Lib.hid skip
        clear skip
        go_wp2_with fail
        go_roundw
        case rel => exact ⟨k + 1, by omega, by go_num, STEP.out _ (by
          rw [erasePg, if_pos (.inl rfl)]
          have h9 := HR.out.sPg hb1 hlt ⟨0, ⟨#[]⟩, false⟩
          rw [show b * (eraseTo c1 mo false b k).np = fl from HFL.out.symm] at h9
          exact h9), ((SR.out.setCell (rfoot_p R) _).setCell (rfoot_p R) _).setCell (rfoot_p R) _⟩
        case measure => simp [intOf]; omega
      · have hke : k = c1.np := by omega
        subst hke
        go_wp2_with fail
        go_ret
        exact ⟨rfl, H, S⟩
  | true =>
    go_wp2_with fail
    go_loopw [6] (fun i wr => ∃ k : Nat, k ≤ c1.np ∧ i = .int .i64 ((fl + k : Nat) : Int) ∧ RefAt wr R (eraseTo c1 mo true b k) ∧ Stays (RFoot R) w wr) (fun i _ => fl + c1.np - (intOf i).toNat)
    case atStart => exact ⟨0, Nat.zero_le _, rfl, HH0.out, HS0.out⟩
    case round =>
      clear HH0 HS0 k4 k5 k1 ke kr hfe hfr HTO hm hhas
      obtain ⟨k, hk, rfl, H, S⟩ := hrel
      have k1 : wr.cell? ⟨R.a, 1, none⟩ = some (.int .i64 c1.np) := H.ca 1 (by decide)
      have k3 : wr.cell? ⟨R.a, 3, none⟩ = some (.slice (some ⟨R.pp, 0, none⟩) T T) := by rw [HT.out]; exact H.ca 3 (by decide)
      by_cases hlt : k < c1.np
      · have hfp : ∀ o, wr.frozen? ⟨R.pp, o, none⟩ = false := H.fz R.pp (rfoot_p R)
        have hq := HQ.out k hlt
        have kp0 : wr.cell? ⟨R.pp, (fl + k) * 3, none⟩ = some (.int .i64 (c1.pg b k).st) := by have := H.page (f := 0) hb1 hlt (by omega); rw [HFL.out]; rw [eraseTo] at this; dsimp only at this; rwa [pgTo_at] at this
        have kp1 : wr.cell? ⟨R.pp, (fl + k) * 3 + 1, none⟩ = some (.string (c1.pg b k).data) := by have := H.page (f := 1) hb1 hlt (by omega); rw [HFL.out]; rw [eraseTo] at this; dsimp only at this; rwa [pgTo_at] at this
        have kp2 : wr.cell? ⟨R.pp, (fl + k) * 3 + 2, none⟩ = some (.bool (c1.pg b k).touched) := by have := H.page (f := 2) hb1 hlt (by omega); rw [HFL.out]; rw [eraseTo] at this; dsimp only at this; rwa [pgTo_at] at this
        have HR := Lib.hid H
        have SR := Lib.hid S
        clear H S
        have step : ∀ W, RefAt W R { eraseTo c1 mo true b k with pg := upd2 (eraseTo c1 mo true b k).pg b k (erasePg mo true (c1.pg b k)) } → RefAt W R (eraseTo c1 mo true b (k + 1)) := by
          intro W hW
          unfold eraseTo at hW ⊢
          dsimp only at hW
          rwa [pgTo_succ] at hW
        have STEP := Lib.hid step
        clear step
        have skip : ∀ W, erasePg mo true (c1.pg b k) = c1.pg b k → RefAt W R (eraseTo c1 mo true b k) → RefAt W R (eraseTo c1 mo true b (k + 1)) := by
          intro W he hW
          unfold eraseTo at hW ⊢
          rwa [pgTo_skip _ _ _ _ he]
        have SKIP := Lib.hid skip
        clear skip
        by_cases h6 : 6 ≤ mo
        · have h6b : decide (5 < mo) = true := by simp; omega
          go_wp2_with fail
          go_roundw
          case rel => exact ⟨k + 1, by omega, by go_num, STEP.out _ (by
            rw [erasePg, if_pos (.inr (by omega))]
            have h9 := HR.out.sPg hb1 hlt ⟨0, ⟨#[]⟩, false⟩
            rw [show b * (eraseTo c1 mo true b k).np = fl from HFL.out.symm] at h9
            exact h9), ((SR.out.setCell (rfoot_p R) _).setCell (rfoot_p R) _).setCell (rfoot_p R) _⟩
          case measure => simp [intOf]; omega
        · have h6b : decide (5 < mo) = false := by simp; omega
          by_cases h3 : 3 ≤ mo
          · have h3b : decide (2 < mo) = true := by simp; omega
            by_cases hs : (c1.pg b k).st = 0
            · have hsb : ((c1.pg b k).st != 0) = false := by simpa using hs
              have HS := Lib.hid hs
              clear hs
              go_wp2_with fail
              go_roundw
              case rel => exact ⟨k + 1, by omega, by go_num, SKIP.out _ (by
                rw [erasePg, if_neg (by simp; omega), if_neg (by simp [HS.out])]) HR.out, SR.out⟩
              case measure => simp [intOf]; omega
            · have hsb : ((c1.pg b k).st != 0) = true := by simpa using hs
              go_wp2_with fail
              go_roundw
              case rel => exact ⟨k + 1, by omega, by go_num, STEP.out _ (by
                rw [erasePg, if_neg (by simp; omega), if_pos ⟨by omega, hs⟩]
                have h9 := HR.out.sSt hb1 hlt 2
                rw [show b * (eraseTo c1 mo true b k).np = fl from HFL.out.symm] at h9
                rwa [show (eraseTo c1 mo true b k).pg b k = c1.pg b k from pgTo_at _ _ _ _] at h9), SR.out.setCell (rfoot_p R) _⟩
              case measure => simp [intOf]; omega
          · have h3b : decide (2 < mo) = false := by simp; omega
            go_wp2_with fail
            go_roundw
            case rel => exact ⟨k + 1, by omega, by go_num, SKIP.out _ (by
              rw [erasePg, if_neg (by simp; omega), if_neg (by omega)]) HR.out, SR.out⟩
            case measure => simp [intOf]; omega
      · have hke : k = c1.np := by omega
        subst hke
        go_wp2_with fail
        go_ret
        exact ⟨rfl, H, S⟩

/-- Why a block may not be changed. -/
theorem mayC_cases (c : Chp) (b : Nat) (h : mayC c b ≠ 0) : (c.off = true ∧ mayC c b = 20) ∨ (c.off = false ∧ c.worn b = true ∧ mayC c b = 22) := by
  unfold mayC at h ⊢
  cases ho : c.off <;> cases hw : c.worn b <;> simp [ho, hw] at h ⊢

set_option maxHeartbeats 400000 in
theorem rerase_any (h : RefAt w R c) (b : Int) : Calls Try.prog 25 #[.pointer (some ⟨R.a, 0, none⟩), .int .i64 b] w fun e w' =>
    e = .returned (.int .i64 (eraseC c b).1) ∧ RefAt w' R (eraseC c b).2 ∧ Stays (RFoot R) w w' := by
  by_cases hb : hasB c b = true
  · obtain ⟨n, rfl, hn⟩ := hasB_nat hb
    by_cases hm : mayC c n = 0
    · have hv : eraseC c (n : Int) = (if (tornC c).1.2 then 20 else 0, eraseTo (tornC c).2 (tornC c).1.1 (tornC c).1.2 n c.np) := by
        unfold eraseC; rw [if_pos hb, Int.toNat_natCast, if_pos hm]
      rw [hv]
      have := rerase_go h n hn hm (tornC c).1.1 (tornC c).1.2 (tornC c).2 rfl
      rw [tornC_np] at this
      exact this
    · have hv : eraseC c (n : Int) = (mayC c n, c) := by
        unfold eraseC; rw [if_pos hb, Int.toNat_natCast, if_neg hm]
      have HV := Lib.hid hv
      clear hv
      have k12 : w.cell? ⟨R.a, 12, none⟩ = some (.bool c.off) := h.ca 12 (by decide)
      have k6 : w.cell? ⟨R.a, 6, none⟩ = some (.slice (some ⟨R.ww, 0, none⟩) c.nb c.nb) := h.ca 6 (by decide)
      have kw : w.cell? ⟨R.ww, n, none⟩ = some (.bool (c.worn n)) := h.cw n hn
      have hnb := h.nbn
      rcases mayC_cases c n hm with ⟨h1, h2⟩ | ⟨h1, h2, h3⟩
      · rw [h1] at k12
        have H2 := Lib.hid h2
        clear h2 h1 hm
        go_enter Try.func25, Try.ntmps25
        go_wp2_with fail
        refine (rblock_any h _).mono ?_; rintro e w' ⟨rfl, rfl⟩
        go_wp2_with fail
        go_ret
        rw [HV.out, H2.out]
        exact ⟨rfl, h, Stays.refl _ _⟩
      · rw [h1] at k12
        rw [h2] at kw
        have H3 := Lib.hid h3
        clear h3 h2 h1 hm
        go_enter Try.func25, Try.ntmps25
        go_wp2_with fail
        refine (rblock_any h _).mono ?_; rintro e w' ⟨rfl, rfl⟩
        go_wp2_with fail
        go_ret
        rw [HV.out, H3.out]
        exact ⟨rfl, h, Stays.refl _ _⟩
  · have hb' : hasB c b = false := by simpa using hb
    have hv : eraseC c b = (1, c) := if_neg hb
    have HV := Lib.hid hv
    clear hv hb
    go_enter Try.func25, Try.ntmps25
    go_wp2_with fail
    refine (rblock_any h _).mono ?_; rintro e w' ⟨rfl, rfl⟩
    go_wp2_with fail
    go_ret
    rw [HV.out]
    exact ⟨rfl, h, Stays.refl _ _⟩

end Go.Proofs.Ythoadcibknaelaa
