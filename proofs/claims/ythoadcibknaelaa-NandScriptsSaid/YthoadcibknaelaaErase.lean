/- Erase of a chip. -/
import Derived.Test.YthoadcibknaelaaOpC
import Derived.Outline
namespace Go.Proofs.Ythoadcibknaelaa
open Go.RowKit
set_option linter.unusedVariables false
set_option linter.unusedSimpArgs false
variable {L : Lay} {c : Chp} {w : World}

/-- What an erase makes of a page. -/
def erasePg (mode : Int) (torn : Bool) (p : Pg) : Pg :=
  if torn = false ∨ 6 ≤ mode then ⟨0, ⟨#[]⟩, false⟩ else if 3 ≤ mode ∧ p.st ≠ 0 then { p with st := 2 } else p
def pgTo (f : Pg → Pg) (pg : Nat → Nat → Pg) (b k : Nat) : Nat → Nat → Pg := fun i j => if i = b ∧ j < k then f (pg i j) else pg i j
theorem pgTo_zero (f : Pg → Pg) (pg : Nat → Nat → Pg) (b : Nat) : pgTo f pg b 0 = pg := by
  funext i j; simp [pgTo]
theorem pgTo_at (f : Pg → Pg) (pg : Nat → Nat → Pg) (b k : Nat) : pgTo f pg b k b k = pg b k := by simp [pgTo]
theorem pgTo_succ (f : Pg → Pg) (pg : Nat → Nat → Pg) (b k : Nat) : upd2 (pgTo f pg b k) b k (f (pg b k)) = pgTo f pg b (k + 1) := by
  funext i j
  unfold upd2 pgTo
  by_cases h : i = b ∧ j = k
  · rw [if_pos h, if_pos ⟨h.1, by omega⟩, h.1, h.2]
  · rw [if_neg h]
    by_cases h2 : i = b ∧ j < k
    · rw [if_pos h2, if_pos ⟨h2.1, by omega⟩]
    · rw [if_neg h2, if_neg (fun h3 => by
        rcases Nat.lt_or_ge j k with h4 | h4
        · exact h2 ⟨h3.1, h4⟩
        · exact h ⟨h3.1, by omega⟩)]
theorem pgTo_skip (f : Pg → Pg) (pg : Nat → Nat → Pg) (b k : Nat) (h : f (pg b k) = pg b k) : pgTo f pg b (k + 1) = pgTo f pg b k := by
  rw [← pgTo_succ, h]
  funext i j
  unfold upd2
  split
  · rename_i e; rw [e.1, e.2, pgTo_at]
  · rfl

/-- The chip in the midst of an erase: the change is counted (c1), the block's counts are set, k pages are done. -/
def eraseTo (c1 : Chp) (mo : Int) (to : Bool) (b k : Nat) : Chp := { c1 with er := upd c1.er b (wrap64 (c1.er b + 1)), rd := upd c1.rd b 0, pg := pgTo (erasePg mo to) c1.pg b k }
def eraseC (c : Chp) (b : Int) : Int × Chp :=
  if hasB c b = true then
    if mayC c b.toNat = 0 then (if (tornC c).1.2 then 20 else 0, eraseTo (tornC c).2 (tornC c).1.1 (tornC c).1.2 b.toNat c.np) else (mayC c b.toNat, c)
  else (1, c)

theorem tornC_pg (c : Chp) : (tornC c).2.pg = c.pg := by
  by_cases h0 : c.left = 0 <;> by_cases h1 : 1 < c.left <;> simp [tornC, h0, h1]
theorem tornC_nb (c : Chp) : (tornC c).2.nb = c.nb := by
  by_cases h0 : c.left = 0 <;> by_cases h1 : 1 < c.left <;> simp [tornC, h0, h1]
theorem tornC_np (c : Chp) : (tornC c).2.np = c.np := by
  by_cases h0 : c.left = 0 <;> by_cases h1 : 1 < c.left <;> simp [tornC, h0, h1]
theorem tornC_er (c : Chp) : (tornC c).2.er = c.er := by
  by_cases h0 : c.left = 0 <;> by_cases h1 : 1 < c.left <;> simp [tornC, h0, h1]
theorem tornC_rd (c : Chp) : (tornC c).2.rd = c.rd := by
  by_cases h0 : c.left = 0 <;> by_cases h1 : 1 < c.left <;> simp [tornC, h0, h1]
theorem tornC_worn (c : Chp) : (tornC c).2.worn = c.worn := by
  by_cases h0 : c.left = 0 <;> by_cases h1 : 1 < c.left <;> simp [tornC, h0, h1]
theorem tornC_bytes (c : Chp) : (tornC c).2.bytes = c.bytes := by
  by_cases h0 : c.left = 0 <;> by_cases h1 : 1 < c.left <;> simp [tornC, h0, h1]
theorem modeC_bd (m : Int) : 0 ≤ modeC m ∧ modeC m < 8 := by unfold modeC; omega
theorem tornC_bd (c : Chp) : 0 ≤ (tornC c).1.1 ∧ (tornC c).1.1 < 8 := by
  have := modeC_bd c.mode
  by_cases h0 : c.left = 0 <;> by_cases h1 : 1 < c.left <;> simp [tornC, h0, h1] <;> omega

set_option maxHeartbeats 1600000 in
theorem erase_go (h : ChipAt w L c) (b : Nat) (hb : b < c.nb) (hm : mayC c b = 0) (mo : Int) (to : Bool) (c1 : Chp) (hT : tornC c = ((mo, to), c1)) : Calls Try.prog 19 #[.pointer (some ⟨L.a, 0, none⟩), .int .i64 b] w fun e w' =>
    e = .returned (.int .i64 (if to then 20 else 0)) ∧ ChipAt w' L (eraseTo c1 mo to b c1.np) ∧ Stays (Foot L c.nb) w w' := by
  have hhas : hasB c b = true := by simp [hasB]; omega
  have bd := tornC_bd c
  have hb1 : b < (tornC c).2.nb := by rw [tornC_nb]; exact hb
  have htorn := torn_any h
  rw [hT] at bd hb1 htorn
  dsimp only at bd hb1 htorn
  clear hT
  have HTO := Lib.hid htorn
  clear htorn
  go_enter Try.func19, Try.ntmps19
  go_wp2_with fail
  refine (has_any h _).mono ?_; rintro e w' ⟨rfl, rfl⟩
  go_wp2_with fail
  refine (may_any h b hb).mono ?_; rintro e w' ⟨rfl, rfl⟩
  go_wp2_with fail
  refine HTO.out.mono ?_; rintro e w1 ⟨rfl, H1, S1⟩
  have k0 := H1.c0
  have kb0 := H1.b0 b hb1
  have kb1 := H1.b1 b hb1
  have kb2 := H1.b2 b hb1
  have hfb := H1.fb
  have hnb1 := H1.nbn
  have hnp1 := H1.npn
  have H0 : ChipAt ((w1.setCell ⟨L.arr, b * 4 + 1, none⟩ (.int .i64 (wrap64 (c1.er b + 1)))).setCell ⟨L.arr, b * 4 + 2, none⟩ (.int .i64 0)) L (eraseTo c1 mo to b 0) := by
    have := (H1.sEr b hb1 (wrap64 (c1.er b + 1))).sRd b hb1 0
    rw [eraseTo, pgTo_zero]
    exact this
  have S0 := ((S1.mono (fun k (hk : k = L.a) => hk ▸ foot_a L c.nb)).setCell (p := ⟨L.arr, b * 4 + 1, none⟩) (foot_b _ _) (.int .i64 (wrap64 (c1.er b + 1)))).setCell (p := ⟨L.arr, b * 4 + 2, none⟩) (foot_b _ _) (.int .i64 0)
  have HH0 := Lib.hid H0
  have HS0 := Lib.hid S0
  clear H0 S0 S1 H1
  go_wp2_with fail
  go_loopw [46] (fun i wr => ∃ k : Nat, k ≤ c1.np ∧ i = .int .i64 k ∧ ChipAt wr L (eraseTo c1 mo to b k) ∧ Stays (Foot L c.nb) w wr) (fun i _ => c1.np - (intOf i).toNat)
  case atStart => exact ⟨0, Nat.zero_le _, rfl, HH0.out, HS0.out⟩
  case round =>
    clear HH0 HS0 k0 kb0 kb1 kb2 hfb HTO hm hhas
    obtain ⟨k, hk, rfl, H, S⟩ := hrel
    have k0 : wr.cell? ⟨L.a, 0, none⟩ = some (.slice (some ⟨L.arr, 0, none⟩) c1.nb L.cap) := H.c0
    have kb0 : wr.cell? ⟨L.arr, b * 4, none⟩ = some (.slice (some ⟨L.pg b, 0, none⟩) c1.np c1.np) := H.b0 b hb1
    by_cases hlt : k < c1.np
    · have kp0 : wr.cell? ⟨L.pg b, k * 3, none⟩ = some (.int .i64 (c1.pg b k).st) := by have := H.p0 b hb1 k hlt; rw [eraseTo] at this; dsimp only at this; rwa [pgTo_at] at this
      have kp1 : wr.cell? ⟨L.pg b, k * 3 + 1, none⟩ = some (.string (c1.pg b k).data) := by have := H.p1 b hb1 k hlt; rw [eraseTo] at this; dsimp only at this; rwa [pgTo_at] at this
      have kp2 : wr.cell? ⟨L.pg b, k * 3 + 2, none⟩ = some (.bool (c1.pg b k).touched) := by have := H.p2 b hb1 k hlt; rw [eraseTo] at this; dsimp only at this; rwa [pgTo_at] at this
      have hfp : ∀ o, wr.frozen? ⟨L.pg b, o, none⟩ = false := H.fp b hb1
      have HR := Lib.hid H
      have SR := Lib.hid S
      clear H S
      have step : ∀ W, ChipAt W L { eraseTo c1 mo to b k with pg := upd2 (eraseTo c1 mo to b k).pg b k (erasePg mo to (c1.pg b k)) } → ChipAt W L (eraseTo c1 mo to b (k + 1)) := by
        intro W hW
        unfold eraseTo at hW ⊢
        dsimp only at hW
        rwa [pgTo_succ] at hW
      have STEP := Lib.hid step
      clear step
      have skip : ∀ W, erasePg mo to (c1.pg b k) = c1.pg b k → ChipAt W L (eraseTo c1 mo to b k) → ChipAt W L (eraseTo c1 mo to b (k + 1)) := by
        intro W he hW
        unfold eraseTo at hW ⊢
        rwa [pgTo_skip _ _ _ _ he]
      have SKIP := Lib.hid skip
      clear skip
      cases to with
      | false =>
        go_wp2_with fail
        go_roundw
        case rel => exact ⟨k + 1, by omega, by go_num, STEP.out _ (by
          rw [erasePg, if_pos (.inl rfl)]
          exact HR.out.sPg b hb1 k hlt ⟨0, ⟨#[]⟩, false⟩), ((SR.out.setCell (foot_p _ _ b hb) _).setCell (foot_p _ _ b hb) _).setCell (foot_p _ _ b hb) _⟩
        case measure => simp [intOf]; omega
      | true =>
        by_cases h6 : 6 ≤ mo
        · have h6b : decide (6 ≤ mo) = true := by simpa using h6
          go_wp2_with fail
          go_roundw
          case rel => exact ⟨k + 1, by omega, by go_num, STEP.out _ (by
            rw [erasePg, if_pos (.inr (by omega))]
            exact HR.out.sPg b hb1 k hlt ⟨0, ⟨#[]⟩, false⟩), ((SR.out.setCell (foot_p _ _ b hb) _).setCell (foot_p _ _ b hb) _).setCell (foot_p _ _ b hb) _⟩
          case measure => simp [intOf]; omega
        · have h6b : decide (6 ≤ mo) = false := by simpa using h6
          by_cases h3 : 3 ≤ mo
          · have h3b : decide (3 ≤ mo) = true := by simpa using h3
            by_cases hs : (c1.pg b k).st = 0
            · have hsb : ((c1.pg b k).st != 0) = false := by simpa using hs
              have HS := Lib.hid hs
              clear hs
              go_wp2_with fail
              go_roundw
              case rel => exact ⟨k + 1, by omega, by go_num, SKIP.out _ (by
                rw [erasePg, if_neg (by simp; omega), if_neg (by simp [HS.out])]) HR.out, SR.out⟩
              case measure => simp [intOf]; omega
            · have hsb : ((c1.pg b k).st != 0) = true := by simpa using hs
              go_wp2_with fail
              go_roundw
              case rel => exact ⟨k + 1, by omega, by go_num, STEP.out _ (by
                rw [erasePg, if_neg (by simp; omega), if_pos ⟨by omega, hs⟩]
                have := HR.out.sSt b hb1 k hlt 2
                rwa [show (eraseTo c1 mo true b k).pg b k = c1.pg b k from pgTo_at _ _ _ _] at this), SR.out.setCell (foot_p _ _ b hb) _⟩
              case measure => simp [intOf]; omega
          · have h3b : decide (3 ≤ mo) = false := by simpa using h3
            go_wp2_with fail
            go_roundw
            case rel => exact ⟨k + 1, by omega, by go_num, SKIP.out _ (by
              rw [erasePg, if_neg (by simp; omega), if_neg (by omega)]) HR.out, SR.out⟩
            case measure => simp [intOf]; omega
    · have hke : k = c1.np := by omega
      subst hke
      cases to with
      | false =>
        go_wp2_with fail
        go_ret
        exact ⟨rfl, H, S⟩
      | true =>
        go_wp2_with fail
        go_ret
        exact ⟨rfl, H, S⟩

set_option maxHeartbeats 400000 in
theorem erase_any (h : ChipAt w L c) (b : Int) : Calls Try.prog 19 #[.pointer (some ⟨L.a, 0, none⟩), .int .i64 b] w fun e w' =>
    e = .returned (.int .i64 (eraseC c b).1) ∧ ChipAt w' L (eraseC c b).2 ∧ Stays (Foot L c.nb) w w' := by
  by_cases hb : hasB c b = true
  · obtain ⟨n, rfl, hn⟩ := hasB_nat hb
    by_cases hm : mayC c n = 0
    · have hv : eraseC c (n : Int) = (if (tornC c).1.2 then 20 else 0, eraseTo (tornC c).2 (tornC c).1.1 (tornC c).1.2 n c.np) := by
        unfold eraseC; rw [if_pos hb, Int.toNat_natCast, if_pos hm]
      rw [hv]
      have := erase_go h n hn hm (tornC c).1.1 (tornC c).1.2 (tornC c).2 rfl
      rw [tornC_np] at this
      exact this
    · have hv : eraseC c (n : Int) = (mayC c n, c) := by
        unfold eraseC; rw [if_pos hb, Int.toNat_natCast, if_neg hm]
      have HV := Lib.hid hv
      have hmb : (mayC c n != 0) = true := by simpa using hm
      clear hv
      go_enter Try.func19, Try.ntmps19
      go_wp2_with fail
      refine (has_any h _).mono ?_; rintro e w' ⟨rfl, rfl⟩
      go_wp2_with fail
      refine (may_any h n hn).mono ?_; rintro e w' ⟨rfl, rfl⟩
      go_wp2_with fail
      go_ret
      rw [HV.out]
      exact ⟨rfl, h, Stays.refl _ _⟩
  · have hb' : hasB c b = false := by simpa using hb
    have hv : eraseC c b = (1, c) := if_neg hb
    have HV := Lib.hid hv
    clear hv hb
    go_enter Try.func19, Try.ntmps19
    go_wp2_with fail
    refine (has_any h _).mono ?_; rintro e w' ⟨rfl, rfl⟩
    go_wp2_with fail
    go_ret
    rw [HV.out]
    exact ⟨rfl, h, Stays.refl _ _⟩
set_option maxHeartbeats 400000 in
theorem erase_nil (b : Int) (w : World) : Calls Try.prog 19 #[.pointer none, .int .i64 b] w fun e w' => e = .returned (.int .i64 1) ∧ w = w' := by
  go_enter Try.func19, Try.ntmps19
  go_wp2_with fail
  refine (has_nil _ _).mono ?_; rintro e w' ⟨rfl, rfl⟩
  go_wp2_with fail
  go_ret
  exact ⟨rfl, rfl⟩

end Go.Proofs.Ythoadcibknaelaa
