/- Program of the document's chip. -/
import Derived.Test.YthoadcibknaelaaROpB
import Derived.Test.YthoadcibknaelaaWrite
namespace Go.Proofs.Ythoadcibknaelaa
open Go.RowKit
set_option linter.unusedVariables false
set_option linter.unusedSimpArgs false
variable {R : RLay} {c : Chp} {w : World}

def RProgPost (R : RLay) (c c1 : Chp) (mo : Int) (tn : Bool) (b p : Nat) (data : ByteArray) (w : World) (e : Ending) (w' : World) : Prop :=
  e = .returned (.int .i64 (if cleanB c b p then (if tn then 20 else 0) else 21)) ∧
    RefAt w' R (if cleanB c b p then (if tn then progTorn c1 mo b p data else progFine c1 b p data) else c) ∧ Stays (RFoot R) w w'
theorem RProgPost.torn {c1 : Chp} {mo : Int} {b p : Nat} {data : ByteArray} {w' : World} (hcl : cleanB c b p = true) (h : RefAt w' R (progTorn c1 mo b p data)) (s : Stays (RFoot R) w w') : RProgPost R c c1 mo true b p data w (.returned (.int .i64 20)) w' := by
  unfold RProgPost
  rw [if_pos hcl, if_pos hcl]
  exact ⟨rfl, h, s⟩

theorem rt_one {w1 : World} {c1 : Chp} {b p : Nat} (H1 : RefAt w1 R c1) (hb : b < c1.nb) (hp : p < c1.np) {fl : Nat} (e : b * c1.np = fl) {mo : Int} (data : ByteArray) (m1 : mo % 3 = 1) :
    RefAt ((w1.setCell ⟨R.pp, (fl + p) * 3 + 2, none⟩ (.bool true)).setCell ⟨R.pp, (fl + p) * 3, none⟩ (.int .i64 2)) R { c1 with pg := upd2 c1.pg b p (progPg mo data (c1.pg b p)) } := by
  have h9 := (H1.sTc hb hp true).sSt hb hp 2
  simp only [upd2_twice, upd2_val] at h9
  rw [progPg, if_pos m1, if_neg (by rw [m1]; decide), ← e]
  exact h9
theorem rt_two {w1 : World} {c1 : Chp} {b p : Nat} (H1 : RefAt w1 R c1) (hb : b < c1.nb) (hp : p < c1.np) {fl : Nat} (e : b * c1.np = fl) {mo : Int} (data : ByteArray) (m1 : mo % 3 = 2) :
    RefAt (((w1.setCell ⟨R.pp, (fl + p) * 3 + 2, none⟩ (.bool true)).setCell ⟨R.pp, (fl + p) * 3, none⟩ (.int .i64 1)).setCell ⟨R.pp, (fl + p) * 3 + 1, none⟩ (.string data)) R { c1 with pg := upd2 c1.pg b p (progPg mo data (c1.pg b p)) } := by
  have h9 := ((H1.sTc hb hp true).sSt hb hp 1).sDt hb hp data
  simp only [upd2_twice, upd2_val] at h9
  rw [progPg, if_neg (by rw [m1]; decide), if_pos m1, if_pos m1, ← e]
  exact h9
theorem rt_none {w1 : World} {c1 : Chp} {b p : Nat} (H1 : RefAt w1 R c1) (hb : b < c1.nb) (hp : p < c1.np) {fl : Nat} (e : b * c1.np = fl) {mo : Int} (data : ByteArray) (m1 : mo % 3 ≠ 1) (m2 : mo % 3 ≠ 2) :
    RefAt (w1.setCell ⟨R.pp, (fl + p) * 3 + 2, none⟩ (.bool true)) R { c1 with pg := upd2 c1.pg b p (progPg mo data (c1.pg b p)) } := by
  have h9 := H1.sTc hb hp true
  rw [progPg, if_neg m1, if_neg m2, if_neg m2, ← e]
  exact h9
theorem rt_low {w1 : World} {c1 : Chp} {b p : Nat} {mo : Int} {data : ByteArray} (H2 : RefAt w1 R { c1 with pg := upd2 c1.pg b p (progPg mo data (c1.pg b p)) }) (hb : b < c1.nb) (hp : p < c1.np) {fl : Nat} (e : b * c1.np = fl)
    (hu : 2 ≤ p % 4) (h4 : 4 ≤ mo) (hst : (c1.pg b (p - 2)).st = 1) : RefAt (w1.setCell ⟨R.pp, (fl + p - 2) * 3, none⟩ (.int .i64 2)) R (progTorn c1 mo b p data) := by
  have h9 := H2.sSt (i := b) (j := p - 2) hb (show p - 2 < c1.np by omega) 2
  rw [progTorn_yes ⟨hu, h4, hst⟩, show fl + p - 2 = b * c1.np + (p - 2) by omega]
  exact h9

set_option maxHeartbeats 1600000 in
set_option maxRecDepth 100000 in
theorem rprog_go (h : RefAt w R c) (b p : Nat) (data : ByteArray) (hb : b < c.nb) (hp : p < c.np) (hs : (data.size : Int) = c.bytes) (hm : mayC c b = 0) (mo : Int) (tn : Bool) (c1 : Chp) (hT : tornC c = ((mo, tn), c1)) :
    Calls Try.prog 26 #[.pointer (some ⟨R.a, 0, none⟩), .int .i64 b, .int .i64 p, .string data] w (RProgPost R c c1 mo tn b p data w) := by
  have hhas : hasPB c b p = true := by simp [hasPB, hasB]; omega
  have bd := tornC_bd c
  have hnb1 : c1.nb = c.nb := by have := tornC_nb c; rw [hT] at this; exact this
  have hnp1 : c1.np = c.np := by have := tornC_np c; rw [hT] at this; exact this
  have hpg1 : c1.pg = c.pg := by have := tornC_pg c; rw [hT] at this; exact this
  have hbv : beginR c = if tn then mo else -1 := by rw [beginR, hT]
  rw [hT] at bd
  dsimp only at bd
  have HT := Lib.hid hT
  have HBV := Lib.hid hbv
  have HPG := Lib.hid hpg1
  clear hT hbv hpg1
  have hnb := h.nbn
  have hnp := h.npn
  have hsb : ((data.size : Int) != c.bytes) = false := by simpa using hs
  clear hs
  have k12 : w.cell? ⟨R.a, 12, none⟩ = some (.bool c.off) := h.ca 12 (by decide)
  have k6 : w.cell? ⟨R.a, 6, none⟩ = some (.slice (some ⟨R.ww, 0, none⟩) c.nb c.nb) := h.ca 6 (by decide)
  have kw : w.cell? ⟨R.ww, b, none⟩ = some (.bool (c.worn b)) := h.cw b hb
  have k2 : w.cell? ⟨R.a, 2, none⟩ = some (.int .i64 c.bytes) := h.ca 2 (by decide)
  rw [mayC_off hm] at k12
  rw [mayC_worn hm] at kw
  obtain ⟨fl, hfl⟩ : ∃ fl, fl = b * c.np := ⟨_, rfl⟩
  have hs0 : (b : Int) * (c.np : Int) = (fl : Int) := by rw [hfl]; simp
  obtain ⟨T, hT⟩ : ∃ T, T = c.nb * c.np := ⟨_, rfl⟩
  have q1 : ∀ k, k < c.np → fl + k < T := by
    intro k hk; rw [hfl, hT]; exact h.flat hb hk
  have q2 : T ≤ 4096 := by rw [hT]; exact Nat.mul_le_mul h.nbn h.npn
  have q3 : fl ≤ 4096 := by rw [hfl]; exact Nat.mul_le_mul (show b ≤ 64 by omega) h.npn
  have HFL := Lib.hid hfl
  have HTT := Lib.hid hT
  have HQ := Lib.hid q1
  clear hfl hT q1
  go_enter Try.func26, Try.ntmps26
  go_wp2_with fail
  refine (rpage_any h _ _).mono ?_; rintro e w' ⟨rfl, rfl⟩
  go_wp2_with fail
  go_loopw [9] (fun i wr => ∃ k : Nat, k ≤ c.np - p ∧ i = .int .i64 ((p + k : Nat) : Int) ∧ Hid (∀ j, j < k → (c.pg b (p + j)).st = 0 ∧ (c.pg b (p + j)).touched = false) ∧ RefAt wr R c ∧ Stays (RFoot R) w wr) (fun i _ => c.np - (intOf i).toNat)
  case atStart => exact ⟨0, Nat.zero_le _, rfl, (fun j hj => absurd hj (by omega)), h, Stays.refl _ _⟩
  case round =>
    clear k12 k6 kw k2 hm hhas hsb
    obtain ⟨k, hk, rfl, HK, H, S⟩ := hrel
    have k1 : wr.cell? ⟨R.a, 1, none⟩ = some (.int .i64 c.np) := H.ca 1 (by decide)
    have k3 : wr.cell? ⟨R.a, 3, none⟩ = some (.slice (some ⟨R.pp, 0, none⟩) T T) := by rw [HTT.out]; exact H.ca 3 (by decide)
    have hfp : ∀ o, wr.frozen? ⟨R.pp, o, none⟩ = false := H.fz R.pp (rfoot_p R)
    by_cases hlt : k < c.np - p
    · have hq := HQ.out (p + k) (by omega)
      have kp0 : wr.cell? ⟨R.pp, (fl + (p + k)) * 3, none⟩ = some (.int .i64 (c.pg b (p + k)).st) := by rw [HFL.out]; exact H.page (f := 0) hb (by omega) (by omega)
      have kp1 : wr.cell? ⟨R.pp, (fl + (p + k)) * 3 + 1, none⟩ = some (.string (c.pg b (p + k)).data) := by rw [HFL.out]; exact H.page (f := 1) hb (by omega) (by omega)
      have kp2 : wr.cell? ⟨R.pp, (fl + (p + k)) * 3 + 2, none⟩ = some (.bool (c.pg b (p + k)).touched) := by rw [HFL.out]; exact H.page (f := 2) hb (by omega) (by omega)
      have la : R.a < wr.heap.size := H.lt _ (rfoot_a R)
      have lp : R.pp < wr.heap.size := H.lt _ (rfoot_p R)
      obtain ⟨v1, v2, v3, v4, v5⟩ := flat_facts fl (p + k) T (by omega) hq
      rw [Int.natCast_add] at v2 v3 v4 v5
      by_cases hs0' : (c.pg b (p + k)).st = 0
      · have hsb0 : ((c.pg b (p + k)).st != 0) = false := by simpa using hs0'
        have HS0 := Lib.hid hs0'
        clear hs0'
        cases htc : (c.pg b (p + k)).touched with
        | false =>
          rw [htc] at kp2
          have HTC := Lib.hid htc
          clear htc
          go_upto_region 10 with fail
          go_region
          go_wp2_with fail
          go_roundw
          case rel => exact ⟨k + 1, by omega, by go_num, Lib.hid fun j hj => (by
            rcases Nat.lt_or_ge j k with hj' | hj'
            · exact HK.out j hj'
            · rw [show j = k from by omega]; exact ⟨HS0.out, HTC.out⟩), ((H.alloc _).drewN 1), ((S.alloc _).drewN 1)⟩
          case measure => simp [intOf]; omega
        | true =>
          rw [htc] at kp2
          have hcl : cleanB c b p = false := by
            rw [Bool.eq_false_iff, Ne, cleanB_iff]
            exact fun hh => by have := (hh k hlt).2; rw [htc] at this; cases this
          have HCL := Lib.hid hcl
          clear hcl htc
          go_upto_region 10 with fail
          go_region
          go_wp2_with fail
          go_ret
          unfold RProgPost
          rw [HCL.out]
          exact ⟨rfl, (H.alloc _).drewN 1, (S.alloc _).drewN 1⟩
      · have hsb0 : ((c.pg b (p + k)).st != 0) = true := by simpa using hs0'
        have hcl : cleanB c b p = false := by
          rw [Bool.eq_false_iff, Ne, cleanB_iff]
          exact fun hh => hs0' (hh k hlt).1
        have HCL := Lib.hid hcl
        clear hcl
        go_upto_region 10 with fail
        go_region
        go_wp2_with fail
        go_ret
        unfold RProgPost
        rw [HCL.out]
        exact ⟨rfl, (H.alloc _).drewN 1, (S.alloc _).drewN 1⟩
    · have hcl : cleanB c b p = true := by
        rw [cleanB_iff]
        exact fun j hj => HK.out j (by omega)
      have HCL := Lib.hid hcl
      clear hcl
      have htorn := begin_any H
      rw [HBV.out, HT.out] at htorn
      have HTO := Lib.hid htorn
      clear htorn
      go_wp2_with fail
      refine HTO.out.mono ?_; rintro e w1 ⟨rfl, H1, S1⟩
      have S1' := S.trans (S1.mono (fun k (hk : k = R.a) => hk ▸ rfoot_a R))
      clear S S1 k1 k3 hfp
      have hb1 : b < c1.nb := by omega
      have hp1 : p < c1.np := by omega
      have k1 : w1.cell? ⟨R.a, 1, none⟩ = some (.int .i64 c1.np) := H1.ca 1 (by decide)
      have k3 : w1.cell? ⟨R.a, 3, none⟩ = some (.slice (some ⟨R.pp, 0, none⟩) T T) := by rw [HTT.out, ← hnb1, ← hnp1]; exact H1.ca 3 (by decide)
      have kp0 : w1.cell? ⟨R.pp, (fl + p) * 3, none⟩ = some (.int .i64 (c1.pg b p).st) := by rw [HFL.out, ← hnp1]; exact H1.page (f := 0) hb1 hp1 (by omega)
      have kp1 : w1.cell? ⟨R.pp, (fl + p) * 3 + 1, none⟩ = some (.string (c1.pg b p).data) := by rw [HFL.out, ← hnp1]; exact H1.page (f := 1) hb1 hp1 (by omega)
      have kp2 : w1.cell? ⟨R.pp, (fl + p) * 3 + 2, none⟩ = some (.bool (c1.pg b p).touched) := by rw [HFL.out, ← hnp1]; exact H1.page (f := 2) hb1 hp1 (by omega)
      have hfp : ∀ o, w1.frozen? ⟨R.pp, o, none⟩ = false := H1.fz R.pp (rfoot_p R)
      have hs1 : (b : Int) * (c1.np : Int) = (fl : Int) := by rw [hnp1]; exact hs0
      have hq := HQ.out p hp
      have e1 : b * c1.np = fl := by rw [hnp1]; exact HFL.out.symm
      have E1 := Lib.hid e1
      clear e1
      cases tn with
      | false =>
        go_wp2_with fail
        go_ret
        unfold RProgPost
        rw [HCL.out]
        have h9 := H1.sPg hb1 hp1 ⟨1, data, false⟩
        rw [E1.out] at h9
        have hpf : progFine c1 b p data = { c1 with pg := upd2 c1.pg b p ⟨1, data, false⟩ } := by
          unfold progFine
          rw [show ({ c1.pg b p with st := 1, data := data } : Pg) = ⟨1, data, (c1.pg b p).touched⟩ from rfl, HPG.out, show (c.pg b p).touched = false from ((cleanB_iff c b p).1 HCL.out 0 (by omega)).2]
        rw [← hpf] at h9
        exact ⟨rfl, h9, ((S1'.setCell (rfoot_p R) _).setCell (rfoot_p R) _).setCell (rfoot_p R) _⟩
      | true =>
        have hf9 := rfoot_p R
        have nap : R.a ≠ R.pp := H1.n1
        clear H HK HBV HTO
        by_cases m1 : mo % 3 = 1
        · have m1b : (mo % 3 == 1) = true := by simpa using m1
          have m2b : (mo % 3 == 2) = false := by simp; omega
          have M := Lib.hid m1
          clear m1
          by_cases h4 : 4 ≤ mo
          · have h4b : decide (3 < mo) = true := by simp; omega
            by_cases hu : 2 ≤ p % 4
            · have hub : decide (1 < (p : Int) % 4) = true := by simp; omega
              have kl : w1.cell? ⟨R.pp, (fl + p - 2) * 3, none⟩ = some (.int .i64 (c1.pg b (p - 2)).st) := by rw [show fl + p - 2 = b * c1.np + (p - 2) by have := E1.out; omega]; exact H1.page (f := 0) hb1 (by omega) (by omega)
              by_cases hst : (c1.pg b (p - 2)).st = 1
              · have hstb : ((c1.pg b (p - 2)).st == 1) = true := by simpa using hst
                have HST := Lib.hid hst
                clear hst
                go_wp2_with fail
                go_ret
                exact RProgPost.torn HCL.out (rt_low (rt_one H1 hb1 hp1 E1.out data M.out) hb1 hp1 E1.out hu h4 HST.out) (((S1'.setCell hf9 _).setCell hf9 _).setCell hf9 _)
              · have hstb : ((c1.pg b (p - 2)).st == 1) = false := by simpa using hst
                go_wp2_with fail
                go_ret
                exact RProgPost.torn HCL.out (by rw [progTorn_no (fun hh => hst hh.2.2)]; exact rt_one H1 hb1 hp1 E1.out data M.out) ((S1'.setCell hf9 _).setCell hf9 _)
            · have hub : decide (1 < (p : Int) % 4) = false := by simp; omega
              go_wp2_with fail
              go_ret
              exact RProgPost.torn HCL.out (by rw [progTorn_no (fun hh => by have := hh.1; omega)]; exact rt_one H1 hb1 hp1 E1.out data M.out) ((S1'.setCell hf9 _).setCell hf9 _)
          · have h4b : decide (3 < mo) = false := by simp; omega
            go_wp2_with fail
            go_ret
            exact RProgPost.torn HCL.out (by rw [progTorn_no (fun hh => by have := hh.2.1; omega)]; exact rt_one H1 hb1 hp1 E1.out data M.out) ((S1'.setCell hf9 _).setCell hf9 _)
        · have m1b : (mo % 3 == 1) = false := by simpa using m1
          have M1 := Lib.hid m1
          clear m1
          by_cases m2 : mo % 3 = 2
          · have m2b : (mo % 3 == 2) = true := by simpa using m2
            have M := Lib.hid m2
            clear m2
            by_cases h4 : 4 ≤ mo
            · have h4b : decide (3 < mo) = true := by simp; omega
              by_cases hu : 2 ≤ p % 4
              · have hub : decide (1 < (p : Int) % 4) = true := by simp; omega
                have kl : w1.cell? ⟨R.pp, (fl + p - 2) * 3, none⟩ = some (.int .i64 (c1.pg b (p - 2)).st) := by rw [show fl + p - 2 = b * c1.np + (p - 2) by have := E1.out; omega]; exact H1.page (f := 0) hb1 (by omega) (by omega)
                by_cases hst : (c1.pg b (p - 2)).st = 1
                · have hstb : ((c1.pg b (p - 2)).st == 1) = true := by simpa using hst
                  have HST := Lib.hid hst
                  clear hst
                  go_wp2_with fail
                  go_ret
                  exact RProgPost.torn HCL.out (rt_low (rt_two H1 hb1 hp1 E1.out data M.out) hb1 hp1 E1.out hu h4 HST.out) ((((S1'.setCell hf9 _).setCell hf9 _).setCell hf9 _).setCell hf9 _)
                · have hstb : ((c1.pg b (p - 2)).st == 1) = false := by simpa using hst
                  go_wp2_with fail
                  go_ret
                  exact RProgPost.torn HCL.out (by rw [progTorn_no (fun hh => hst hh.2.2)]; exact rt_two H1 hb1 hp1 E1.out data M.out) (((S1'.setCell hf9 _).setCell hf9 _).setCell hf9 _)
              · have hub : decide (1 < (p : Int) % 4) = false := by simp; omega
                go_wp2_with fail
                go_ret
                exact RProgPost.torn HCL.out (by rw [progTorn_no (fun hh => by have := hh.1; omega)]; exact rt_two H1 hb1 hp1 E1.out data M.out) (((S1'.setCell hf9 _).setCell hf9 _).setCell hf9 _)
            · have h4b : decide (3 < mo) = false := by simp; omega
              go_wp2_with fail
              go_ret
              exact RProgPost.torn HCL.out (by rw [progTorn_no (fun hh => by have := hh.2.1; omega)]; exact rt_two H1 hb1 hp1 E1.out data M.out) (((S1'.setCell hf9 _).setCell hf9 _).setCell hf9 _)
          · have m2b : (mo % 3 == 2) = false := by simpa using m2
            have M2 := Lib.hid m2
            clear m2
            by_cases h4 : 4 ≤ mo
            · have h4b : decide (3 < mo) = true := by simp; omega
              by_cases hu : 2 ≤ p % 4
              · have hub : decide (1 < (p : Int) % 4) = true := by simp; omega
                have kl : w1.cell? ⟨R.pp, (fl + p - 2) * 3, none⟩ = some (.int .i64 (c1.pg b (p - 2)).st) := by rw [show fl + p - 2 = b * c1.np + (p - 2) by have := E1.out; omega]; exact H1.page (f := 0) hb1 (by omega) (by omega)
                by_cases hst : (c1.pg b (p - 2)).st = 1
                · have hstb : ((c1.pg b (p - 2)).st == 1) = true := by simpa using hst
                  have HST := Lib.hid hst
                  clear hst
                  go_wp2_with fail
                  go_ret
                  exact RProgPost.torn HCL.out (rt_low (rt_none H1 hb1 hp1 E1.out data M1.out M2.out) hb1 hp1 E1.out hu h4 HST.out) ((S1'.setCell hf9 _).setCell hf9 _)
                · have hstb : ((c1.pg b (p - 2)).st == 1) = false := by simpa using hst
                  go_wp2_with fail
                  go_ret
                  exact RProgPost.torn HCL.out (by rw [progTorn_no (fun hh => hst hh.2.2)]; exact rt_none H1 hb1 hp1 E1.out data M1.out M2.out) (S1'.setCell hf9 _)
              · have hub : decide (1 < (p : Int) % 4) = false := by simp; omega
                go_wp2_with fail
                go_ret
                exact RProgPost.torn HCL.out (by rw [progTorn_no (fun hh => by have := hh.1; omega)]; exact rt_none H1 hb1 hp1 E1.out data M1.out M2.out) (S1'.setCell hf9 _)
            · have h4b : decide (3 < mo) = false := by simp; omega
              go_wp2_with fail
              go_ret
              exact RProgPost.torn HCL.out (by rw [progTorn_no (fun hh => by have := hh.2.1; omega)]; exact rt_none H1 hb1 hp1 E1.out data M1.out M2.out) (S1'.setCell hf9 _)

end Go.Proofs.Ythoadcibknaelaa
