/- Program of a chip. -/
import Derived.Test.YthoadcibknaelaaErase
import Derived.Outline
import Derived.Deep.DeepCutAuto
import Derived.Deep.CutBlock
namespace Go.Proofs.Ythoadcibknaelaa
open Go.RowKit
set_option linter.unusedVariables false
set_option linter.unusedSimpArgs false
variable {L : Lay} {c : Chp} {w : World}

/-- May page p of block b be written: it and all behind it are erased and untouched. -/
def cleanB (c : Chp) (b p : Nat) : Bool := (List.range (c.np - p)).all fun j => ((c.pg b (p + j)).st == 0) && !(c.pg b (p + j)).touched
theorem cleanB_iff (c : Chp) (b p : Nat) : cleanB c b p = true ↔ ∀ j, j < c.np - p → (c.pg b (p + j)).st = 0 ∧ (c.pg b (p + j)).touched = false := by
  simp [cleanB]

def progPg (m : Int) (data : ByteArray) (p : Pg) : Pg :=
  { touched := true, st := if m % 3 = 1 then 2 else if m % 3 = 2 then 1 else p.st, data := if m % 3 = 2 then data else p.data }
def progTorn (c1 : Chp) (m : Int) (b p : Nat) (data : ByteArray) : Chp :=
  let c2 := { c1 with pg := upd2 c1.pg b p (progPg m data (c1.pg b p)) }
  if 2 ≤ p % 4 ∧ 4 ≤ m ∧ (c1.pg b (p - 2)).st = 1 then { c2 with pg := upd2 c2.pg b (p - 2) { c2.pg b (p - 2) with st := 2 } } else c2
def progFine (c1 : Chp) (b p : Nat) (data : ByteArray) : Chp := { c1 with pg := upd2 c1.pg b p { c1.pg b p with st := 1, data := data } }
def programC (c : Chp) (b p : Int) (data : ByteArray) : Int × Chp :=
  if hasPB c b p = true ∧ (data.size : Int) = c.bytes then
    if mayC c b.toNat = 0 then
      if cleanB c b.toNat p.toNat = true then
        if (tornC c).1.2 = true then (20, progTorn (tornC c).2 (tornC c).1.1 b.toNat p.toNat data) else (0, progFine (tornC c).2 b.toNat p.toNat data)
      else (21, c)
    else (mayC c b.toNat, c)
  else (1, c)

def ProgPost (L : Lay) (c c1 : Chp) (mo : Int) (tn : Bool) (b p : Nat) (data : ByteArray) (w : World) (e : Ending) (w' : World) : Prop :=
  e = .returned (.int .i64 (if cleanB c b p then (if tn then 20 else 0) else 21)) ∧
    ChipAt w' L (if cleanB c b p then (if tn then progTorn c1 mo b p data else progFine c1 b p data) else c) ∧ Stays (Foot L c.nb) w w'

theorem ProgPost.torn {c1 : Chp} {mo : Int} {b p : Nat} {data : ByteArray} {w' : World} (hcl : cleanB c b p = true) (h : ChipAt w' L (progTorn c1 mo b p data)) (s : Stays (Foot L c.nb) w w') : ProgPost L c c1 mo true b p data w (.returned (.int .i64 20)) w' := by
  unfold ProgPost
  rw [if_pos hcl, if_pos hcl]
  exact ⟨rfl, h, s⟩
theorem progTorn_yes {c1 : Chp} {mo : Int} {b p : Nat} {data : ByteArray} (h : 2 ≤ p % 4 ∧ 4 ≤ mo ∧ (c1.pg b (p - 2)).st = 1) : progTorn c1 mo b p data = { c1 with pg := upd2 (upd2 c1.pg b p (progPg mo data (c1.pg b p))) b (p - 2) { upd2 c1.pg b p (progPg mo data (c1.pg b p)) b (p - 2) with st := 2 } } := by
  unfold progTorn; rw [if_pos h]
theorem progTorn_no {c1 : Chp} {mo : Int} {b p : Nat} {data : ByteArray} (h : ¬ (2 ≤ p % 4 ∧ 4 ≤ mo ∧ (c1.pg b (p - 2)).st = 1)) : progTorn c1 mo b p data = { c1 with pg := upd2 c1.pg b p (progPg mo data (c1.pg b p)) } := by
  unfold progTorn; rw [if_neg h]

set_option maxHeartbeats 1600000 in
set_option maxRecDepth 100000 in
theorem prog_go (h : ChipAt w L c) (b p : Nat) (data : ByteArray) (hb : b < c.nb) (hp : p < c.np) (hs : (data.size : Int) = c.bytes) (hm : mayC c b = 0) (mo : Int) (tn : Bool) (c1 : Chp) (hT : tornC c = ((mo, tn), c1)) :
    Calls Try.prog 13 #[.pointer (some ⟨L.a, 0, none⟩), .int .i64 b, .int .i64 p, .string data] w (ProgPost L c c1 mo tn b p data w) := by
  have hhas : hasPB c b p = true := by simp [hasPB, hasB]; omega
  have bd := tornC_bd c
  have hb1 : b < (tornC c).2.nb := by rw [tornC_nb]; exact hb
  have hp1 : p < (tornC c).2.np := by rw [tornC_np]; exact hp
  rw [hT] at bd hb1 hp1
  dsimp only at bd hb1 hp1
  have HT := Lib.hid hT
  clear hT
  have hnb := h.nbn
  have hnp := h.npn
  have hsb : ((data.size : Int) != c.bytes) = false := by simpa using hs
  clear hs
  have k1 := h.c1
  have k0 := h.c0
  have kb0 := h.b0 b hb
  go_enter Try.func13, Try.ntmps13
  go_wp2_with fail
  refine (hasPage_any h _ _).mono ?_; rintro e w' ⟨rfl, rfl⟩
  go_wp2_with fail
  refine (may_any h b hb).mono ?_; rintro e w' ⟨rfl, rfl⟩
  go_wp2_with fail
  go_loopw [51] (fun i wr => ∃ k : Nat, k ≤ c.np - p ∧ i = .int .i64 k ∧ Hid (∀ j, j < k → (c.pg b (p + j)).st = 0 ∧ (c.pg b (p + j)).touched = false) ∧ ChipAt wr L c ∧ Stays (Foot L c.nb) w wr) (fun i _ => c.np - p - (intOf i).toNat)
  case atStart => exact ⟨0, Nat.zero_le _, rfl, (fun j hj => absurd hj (by omega)), h, Stays.refl _ _⟩
  case round =>
    clear k0 k1 kb0 hm hhas hsb
    obtain ⟨k, hk, rfl, HK, H, S⟩ := hrel
    have k0 := H.c0
    have kb0 := H.b0 b hb
    have hfp : ∀ o, wr.frozen? ⟨L.pg b, o, none⟩ = false := H.fp b hb
    by_cases hlt : k < c.np - p
    · have ea : p * 3 + k * 3 = (p + k) * 3 := by omega
      have kp0 := H.p0 b hb (p + k) (by omega)
      have kp1 := H.p1 b hb (p + k) (by omega)
      have kp2 := H.p2 b hb (p + k) (by omega)
      rw [← ea] at kp0 kp1 kp2
      clear ea
      by_cases hs0 : (c.pg b (p + k)).st = 0
      · have hsb0 : ((c.pg b (p + k)).st != 0) = false := by simpa using hs0
        have HS0 := Lib.hid hs0
        clear hs0
        cases htc : (c.pg b (p + k)).touched with
        | false =>
          rw [htc] at kp2
          have HTC := Lib.hid htc
          clear htc
          go_wp2_with fail
          go_roundw
          case rel => exact ⟨k + 1, by omega, by go_num, fun j hj => (by
            rcases Nat.lt_or_ge j k with hj' | hj'
            · exact HK.out j hj'
            · rw [show j = k from by omega]; exact ⟨HS0.out, HTC.out⟩), (H.alloc _), (S.alloc _)⟩
          case measure => simp [intOf]; omega
        | true =>
          rw [htc] at kp2
          have hcl : cleanB c b p = false := by
            rw [Bool.eq_false_iff, Ne, cleanB_iff]
            exact fun hh => by have := (hh k hlt).2; rw [htc] at this; cases this
          have HCL := Lib.hid hcl
          clear hcl htc
          go_wp2_with fail
          go_ret
          unfold ProgPost
          rw [HCL.out]
          exact ⟨rfl, H.alloc _, S.alloc _⟩
      · have hsb0 : ((c.pg b (p + k)).st != 0) = true := by simpa using hs0
        have hcl : cleanB c b p = false := by
          rw [Bool.eq_false_iff, Ne, cleanB_iff]
          exact fun hh => hs0 (hh k hlt).1
        have HCL := Lib.hid hcl
        clear hcl
        go_wp2_with fail
        go_ret
        unfold ProgPost
        rw [HCL.out]
        exact ⟨rfl, H.alloc _, S.alloc _⟩
    · have hcl : cleanB c b p = true := by
        rw [cleanB_iff]
        exact fun j hj => HK.out j (by omega)
      have HCL := Lib.hid hcl
      clear hcl
      have htorn := torn_any H
      rw [HT.out] at htorn
      have HTO := Lib.hid htorn
      clear htorn
      go_wp2_with fail
      refine HTO.out.mono ?_; rintro e w1 ⟨rfl, H1, S1⟩
      have S1' := S.trans (S1.mono (fun k (hk : k = L.a) => hk ▸ foot_a L c.nb))
      clear S S1
      have k0 : w1.cell? ⟨L.a, 0, none⟩ = _ := H1.c0
      have kb0 : w1.cell? ⟨L.arr, b * 4, none⟩ = _ := H1.b0 b hb1
      have kp0 := H1.p0 b hb1 p hp1
      have kp1 := H1.p1 b hb1 p hp1
      have kp2 := H1.p2 b hb1 p hp1
      have hfp1 : ∀ o, w1.frozen? ⟨L.pg b, o, none⟩ = false := H1.fp b hb1
      have hnb1 := H1.nbn
      have hnp1 := H1.npn
      cases tn with
      | false =>
        go_wp2_with fail
        go_ret
        unfold ProgPost
        rw [HCL.out]
        have := (H1.sSt b hb1 p hp1 1).sDt b hb1 p hp1 data
        simp only [upd2_twice, upd2_val] at this
        exact ⟨rfl, this, ((S1'.setCell (foot_p _ _ b hb) _).setCell (foot_p _ _ b hb) _)⟩
      | true =>
        go_upto_block 2 with fail
        go_cut [] (fun wx => ChipAt wx L { c1 with pg := upd2 c1.pg b p (progPg mo data (c1.pg b p)) } ∧ Stays (Foot L c.nb) w wx)
        case first =>
          have H1T := Lib.hid (H1.sTc b hb1 p hp1 true)
          have S1T := Lib.hid (S1'.setCell (p := ⟨L.pg b, p * 3 + 2, none⟩) (foot_p L _ b hb) (.bool true))
          clear H1 S1' H
          by_cases m1 : mo % 3 = 1
          · have m1b : (mo % 3 == 1) = true := by simpa using m1
            have M1 := Lib.hid m1
            clear m1
            go_wp2_with fail
            go_meet
            case rel =>
              refine ⟨?_, S1T.out.setCell (foot_p _ _ b hb) _⟩
              have := H1T.out.sSt b hb1 p hp1 2
              simp only [upd2_twice, upd2_val] at this
              rw [progPg, if_pos M1.out, if_neg (by rw [M1.out]; decide)]
              exact this
          · have m1b : (mo % 3 == 1) = false := by simpa using m1
            by_cases m2 : mo % 3 = 2
            · have m2b : (mo % 3 == 2) = true := by simpa using m2
              have M1 := Lib.hid m1
              have M2 := Lib.hid m2
              clear m1 m2
              go_wp2_with fail
              go_meet
              case rel =>
                refine ⟨?_, (S1T.out.setCell (foot_p _ _ b hb) _).setCell (foot_p _ _ b hb) _⟩
                have := (H1T.out.sSt b hb1 p hp1 1).sDt b hb1 p hp1 data
                simp only [upd2_twice, upd2_val] at this
                rw [progPg, if_neg M1.out, if_pos M2.out, if_pos M2.out]
                exact this
            · have m2b : (mo % 3 == 2) = false := by simpa using m2
              have M1 := Lib.hid m1
              have M2 := Lib.hid m2
              clear m1 m2
              go_wp2_with fail
              go_meet
              case rel =>
                refine ⟨?_, S1T.out⟩
                rw [progPg, if_neg M1.out, if_neg M2.out, if_neg M2.out]
                exact H1T.out
        case rest =>
          obtain ⟨H2, S2⟩ := hcut
          clear k0 kb0 kp0 kp1 kp2 hfp1 H1 S1' H HT HTO HK
          have k0 : wc.cell? ⟨L.a, 0, none⟩ = some (.slice (some ⟨L.arr, 0, none⟩) c1.nb L.cap) := H2.c0
          have kb0 : wc.cell? ⟨L.arr, b * 4, none⟩ = some (.slice (some ⟨L.pg b, 0, none⟩) c1.np c1.np) := H2.b0 b hb1
          have hfp2 : ∀ o, wc.frozen? ⟨L.pg b, o, none⟩ = false := H2.fp b hb1
          by_cases hu : 2 ≤ p % 4
          · have hpc : pairC (p : Int) = (((p - 2 : Nat) : Int), true) := by
              rw [pairC, if_neg (by omega), if_pos (by omega), show ((p : Int) - 2) = ((p - 2 : Nat) : Int) by omega]
            have hpa := pair_any (p : Int) wc (by omega)
            rw [hpc] at hpa
            have HPA := Lib.hid hpa
            have kl := H2.p0 b hb1 (p - 2) (show p - 2 < c1.np by omega)
            have hl : (upd2 c1.pg b p (progPg mo data (c1.pg b p)) b (p - 2)) = c1.pg b (p - 2) := by
              unfold upd2; rw [if_neg (by omega)]
            rw [show ({ c1 with pg := upd2 c1.pg b p (progPg mo data (c1.pg b p)) } : Chp).pg b (p - 2) = c1.pg b (p - 2) from hl] at kl
            have HL := Lib.hid hl
            clear hpc hpa hl
            have hp2 : p - 2 < c1.np := by omega
            by_cases h4 : 4 ≤ mo
            · have h4b : decide (4 ≤ mo) = true := by simpa using h4
              by_cases hst : (c1.pg b (p - 2)).st = 1
              · have hstb : ((c1.pg b (p - 2)).st == 1) = true := by simpa using hst
                have HST := Lib.hid hst
                clear hst
                go_wp2_with fail
                refine HPA.out.mono ?_; rintro e w' ⟨rfl, rfl⟩
                go_wp2_with fail
                go_ret
                exact ProgPost.torn HCL.out (by rw [progTorn_yes ⟨hu, h4, HST.out⟩]; exact H2.sSt b hb1 (p - 2) hp2 2) (S2.setCell (foot_p _ _ b hb) _)
              · have hstb : ((c1.pg b (p - 2)).st == 1) = false := by simpa using hst
                go_wp2_with fail
                refine HPA.out.mono ?_; rintro e w' ⟨rfl, rfl⟩
                go_wp2_with fail
                go_ret
                exact ProgPost.torn HCL.out (by rw [progTorn_no (fun hh => hst hh.2.2)]; exact H2) (S2)
            · have h4b : decide (4 ≤ mo) = false := by simpa using h4
              go_wp2_with fail
              refine HPA.out.mono ?_; rintro e w' ⟨rfl, rfl⟩
              go_wp2_with fail
              go_ret
              exact ProgPost.torn HCL.out (by rw [progTorn_no (fun hh => by omega)]; exact H2) (S2)
          · have hpc : (pairC (p : Int)).2 = false := by
              rw [pairC, if_neg (by omega), if_neg (by omega)]
            have hpa := pair_any (p : Int) wc (by omega)
            rw [hpc] at hpa
            have HPA := Lib.hid hpa
            clear hpc hpa
            go_wp2_with fail
            refine HPA.out.mono ?_; rintro e w' ⟨rfl, rfl⟩
            go_wp2_with fail
            go_ret
            exact ProgPost.torn HCL.out (by rw [progTorn_no (fun hh => by omega)]; exact H2) (S2)

set_option maxHeartbeats 800000 in
theorem program_any (h : ChipAt w L c) (b p : Int) (data : ByteArray) : Calls Try.prog 13 #[.pointer (some ⟨L.a, 0, none⟩), .int .i64 b, .int .i64 p, .string data] w fun e w' =>
    e = .returned (.int .i64 (programC c b p data).1) ∧ ChipAt w' L (programC c b p data).2 ∧ Stays (Foot L c.nb) w w' := by
  by_cases hb : hasPB c b p = true
  · by_cases hs : (data.size : Int) = c.bytes
    · obtain ⟨n, m, rfl, rfl, hn, hm⟩ := hasPB_nat hb
      by_cases hmay : mayC c n = 0
      · refine (prog_go h n m data hn hm hs hmay (tornC c).1.1 (tornC c).1.2 (tornC c).2 rfl).mono ?_
        rintro e w' ⟨he, hc, hst⟩
        have hv : programC c (n : Int) (m : Int) data = (if cleanB c n m then (if (tornC c).1.2 then 20 else 0) else 21, if cleanB c n m then (if (tornC c).1.2 then progTorn (tornC c).2 (tornC c).1.1 n m data else progFine (tornC c).2 n m data) else c) := by
          unfold programC
          rw [if_pos ⟨hb, hs⟩, Int.toNat_natCast, Int.toNat_natCast, if_pos hmay]
          cases cleanB c n m <;> cases (tornC c).1.2 <;> rfl
        rw [hv]
        exact ⟨he, hc, hst⟩
      · have hv : programC c (n : Int) (m : Int) data = (mayC c n, c) := by
          unfold programC
          rw [if_pos ⟨hb, hs⟩, Int.toNat_natCast, if_neg hmay]
        have HV := Lib.hid hv
        have hmb : (mayC c n != 0) = true := by simpa using hmay
        have hsb : ((data.size : Int) != c.bytes) = false := by simpa using hs
        have k1 := h.c1
        clear hv hs
        go_enter Try.func13, Try.ntmps13
        go_wp2_with fail
        refine (hasPage_any h _ _).mono ?_; rintro e w' ⟨rfl, rfl⟩
        go_wp2_with fail
        refine (may_any h n hn).mono ?_; rintro e w' ⟨rfl, rfl⟩
        go_wp2_with fail
        go_ret
        rw [HV.out]
        exact ⟨rfl, h, Stays.refl _ _⟩
    · have hv : programC c b p data = (1, c) := if_neg (fun hh => hs hh.2)
      have HV := Lib.hid hv
      have hsb : ((data.size : Int) != c.bytes) = true := by simpa using hs
      have k1 := h.c1
      clear hv hs
      go_enter Try.func13, Try.ntmps13
      go_wp2_with fail
      refine (hasPage_any h _ _).mono ?_; rintro e w' ⟨rfl, rfl⟩
      go_wp2_with fail
      go_ret
      rw [HV.out]
      exact ⟨rfl, h, Stays.refl _ _⟩
  · have hb' : hasPB c b p = false := by simpa using hb
    have hv : programC c b p data = (1, c) := if_neg (fun hh => hb hh.1)
    have HV := Lib.hid hv
    clear hv hb
    go_enter Try.func13, Try.ntmps13
    go_wp2_with fail
    refine (hasPage_any h _ _).mono ?_; rintro e w' ⟨rfl, rfl⟩
    go_wp2_with fail
    go_ret
    rw [HV.out]
    exact ⟨rfl, h, Stays.refl _ _⟩
set_option maxHeartbeats 400000 in
theorem program_nil (b p : Int) (data : ByteArray) (w : World) : Calls Try.prog 13 #[.pointer none, .int .i64 b, .int .i64 p, .string data] w fun e w' => e = .returned (.int .i64 1) ∧ w = w' := by
  go_enter Try.func13, Try.ntmps13
  go_wp2_with fail
  refine (hasPage_nil _ _ _).mono ?_; rintro e w' ⟨rfl, rfl⟩
  go_wp2_with fail
  go_ret
  exact ⟨rfl, rfl⟩

end Go.Proofs.Ythoadcibknaelaa
