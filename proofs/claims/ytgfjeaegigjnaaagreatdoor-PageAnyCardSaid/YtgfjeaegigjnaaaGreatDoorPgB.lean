/- Erasing, writing and making chips. -/
import Derived.Test.YtgfjeaegigjnaaaGreatDoorPgA
import Derived.Outline
import Derived.Deep.DeepCutAuto
import Derived.Deep.CutBlock
import Derived.Deep.RegionHeld3
import Derived.Deep.RegionLaw
import Derived.Deep.AppendLies
import Derived.Laws.MakeOwn
import Derived.KernelRfl
import Derived.Laws.BitsLemmas
namespace Go.Proofs.YtgfjeaegigjnaaaGreatDoor
open Go.RowKit
set_option linter.unusedVariables false
set_option linter.unusedSimpArgs false
variable {L : Lay} {c : Chp} {w : World}

/-- What an erase makes of a page. -/
def erasePg (mode : Int) (torn : Bool) (p : Pg) : Pg :=
  if torn = false ∨ 6 ≤ mode then ⟨0, ⟨#[]⟩, false⟩ else if 3 ≤ mode ∧ p.st ≠ 0 then { p with st := 2 } else p
def pgTo (f : Pg → Pg) (pg : Nat → Nat → Pg) (b k : Nat) : Nat → Nat → Pg := fun i j => if i = b ∧ j < k then f (pg i j) else pg i j
theorem pgTo_zero (f : Pg → Pg) (pg : Nat → Nat → Pg) (b : Nat) : pgTo f pg b 0 = pg := by
  funext i j; simp [pgTo]
theorem pgTo_at (f : Pg → Pg) (pg : Nat → Nat → Pg) (b k : Nat) : pgTo f pg b k b k = pg b k := by simp [pgTo]
theorem pgTo_succ (f : Pg → Pg) (pg : Nat → Nat → Pg) (b k : Nat) : upd2 (pgTo f pg b k) b k (f (pg b k)) = pgTo f pg b (k + 1) := by
  funext i j
  unfold upd2 pgTo
  by_cases h : i = b ∧ j = k
  · rw [if_pos h, if_pos ⟨h.1, by omega⟩, h.1, h.2]
  · rw [if_neg h]
    by_cases h2 : i = b ∧ j < k
    · rw [if_pos h2, if_pos ⟨h2.1, by omega⟩]
    · rw [if_neg h2, if_neg (fun h3 => by
        rcases Nat.lt_or_ge j k with h4 | h4
        · exact h2 ⟨h3.1, h4⟩
        · exact h ⟨h3.1, by omega⟩)]
theorem pgTo_skip (f : Pg → Pg) (pg : Nat → Nat → Pg) (b k : Nat) (h : f (pg b k) = pg b k) : pgTo f pg b (k + 1) = pgTo f pg b k := by
  rw [← pgTo_succ, h]
  funext i j
  unfold upd2
  split
  · rename_i e; rw [e.1, e.2, pgTo_at]
  · rfl
/-- The chip in the midst of an erase: the change is counted (c1), the block's counts are set, k pages are done. -/
def eraseTo (c1 : Chp) (mo : Int) (tn0 : Bool) (b k : Nat) : Chp := { c1 with er := upd c1.er b (wrap64 (c1.er b + 1)), rd := upd c1.rd b 0, pg := pgTo (erasePg mo tn0) c1.pg b k }
def eraseC (c : Chp) (b : Int) : Int × Chp :=
  if hasB c b = true then
    if mayC c b.toNat = 0 then (if (tornC c).1.2 then 20 else 0, eraseTo (tornC c).2 (tornC c).1.1 (tornC c).1.2 b.toNat c.np) else (mayC c b.toNat, c)
  else (1, c)
theorem tornC_pg (c : Chp) : (tornC c).2.pg = c.pg := by
  by_cases h0 : c.left = 0 <;> by_cases h1 : 1 < c.left <;> simp [tornC, h0, h1]
theorem tornC_nb (c : Chp) : (tornC c).2.nb = c.nb := by
  by_cases h0 : c.left = 0 <;> by_cases h1 : 1 < c.left <;> simp [tornC, h0, h1]
theorem tornC_np (c : Chp) : (tornC c).2.np = c.np := by
  by_cases h0 : c.left = 0 <;> by_cases h1 : 1 < c.left <;> simp [tornC, h0, h1]
theorem tornC_er (c : Chp) : (tornC c).2.er = c.er := by
  by_cases h0 : c.left = 0 <;> by_cases h1 : 1 < c.left <;> simp [tornC, h0, h1]
theorem tornC_rd (c : Chp) : (tornC c).2.rd = c.rd := by
  by_cases h0 : c.left = 0 <;> by_cases h1 : 1 < c.left <;> simp [tornC, h0, h1]
theorem tornC_worn (c : Chp) : (tornC c).2.worn = c.worn := by
  by_cases h0 : c.left = 0 <;> by_cases h1 : 1 < c.left <;> simp [tornC, h0, h1]
theorem tornC_bytes (c : Chp) : (tornC c).2.bytes = c.bytes := by
  by_cases h0 : c.left = 0 <;> by_cases h1 : 1 < c.left <;> simp [tornC, h0, h1]
theorem modeC_bd (m : Int) : 0 ≤ modeC m ∧ modeC m < 8 := by unfold modeC; omega
theorem tornC_bd (c : Chp) : 0 ≤ (tornC c).1.1 ∧ (tornC c).1.1 < 8 := by
  have := modeC_bd c.mode
  by_cases h0 : c.left = 0 <;> by_cases h1 : 1 < c.left <;> simp [tornC, h0, h1] <;> omega
end Go.Proofs.YtgfjeaegigjnaaaGreatDoor

namespace Go.Proofs.YtgfjeaegigjnaaaGreatDoor
open Go.RowKit
set_option linter.unusedVariables false
set_option linter.unusedSimpArgs false
variable {L : Lay} {c : Chp} {w : World}

/-- May page p of block b be written: it and all behind it are erased and untouched. -/
def cleanB (c : Chp) (b p : Nat) : Bool := (List.range (c.np - p)).all fun j => ((c.pg b (p + j)).st == 0) && !(c.pg b (p + j)).touched
theorem cleanB_iff (c : Chp) (b p : Nat) : cleanB c b p = true ↔ ∀ j, j < c.np - p → (c.pg b (p + j)).st = 0 ∧ (c.pg b (p + j)).touched = false := by
  simp [cleanB]
def progPg (m : Int) (data : ByteArray) (p : Pg) : Pg :=
  { touched := true, st := if m % 3 = 1 then 2 else if m % 3 = 2 then 1 else p.st, data := if m % 3 = 2 then data else p.data }
def progTorn (c1 : Chp) (m : Int) (b p : Nat) (data : ByteArray) : Chp :=
  let c2 := { c1 with pg := upd2 c1.pg b p (progPg m data (c1.pg b p)) }
  if 2 ≤ p % 4 ∧ 4 ≤ m ∧ (c1.pg b (p - 2)).st = 1 then { c2 with pg := upd2 c2.pg b (p - 2) { c2.pg b (p - 2) with st := 2 } } else c2
def progFine (c1 : Chp) (b p : Nat) (data : ByteArray) : Chp := { c1 with pg := upd2 c1.pg b p { c1.pg b p with st := 1, data := data } }
def programC (c : Chp) (b p : Int) (data : ByteArray) : Int × Chp :=
  if hasPB c b p = true ∧ (data.size : Int) = c.bytes then
    if mayC c b.toNat = 0 then
      if cleanB c b.toNat p.toNat = true then
        if (tornC c).1.2 = true then (20, progTorn (tornC c).2 (tornC c).1.1 b.toNat p.toNat data) else (0, progFine (tornC c).2 b.toNat p.toNat data)
      else (21, c)
    else (mayC c b.toNat, c)
  else (1, c)
def ProgPost (L : Lay) (c c1 : Chp) (mo : Int) (tn : Bool) (b p : Nat) (data : ByteArray) (w : World) (e : Ending) (w' : World) : Prop :=
  e = .returned (.int .i64 (if cleanB c b p then (if tn then 20 else 0) else 21)) ∧
    ChipAt w' L (if cleanB c b p then (if tn then progTorn c1 mo b p data else progFine c1 b p data) else c) ∧ Stays (Foot L c.nb) w w'
theorem ProgPost.torn {c1 : Chp} {mo : Int} {b p : Nat} {data : ByteArray} {w' : World} (hcl : cleanB c b p = true) (h : ChipAt w' L (progTorn c1 mo b p data)) (s : Stays (Foot L c.nb) w w') : ProgPost L c c1 mo true b p data w (.returned (.int .i64 20)) w' := by
  unfold ProgPost
  rw [if_pos hcl, if_pos hcl]
  exact ⟨rfl, h, s⟩
theorem progTorn_yes {c1 : Chp} {mo : Int} {b p : Nat} {data : ByteArray} (h : 2 ≤ p % 4 ∧ 4 ≤ mo ∧ (c1.pg b (p - 2)).st = 1) : progTorn c1 mo b p data = { c1 with pg := upd2 (upd2 c1.pg b p (progPg mo data (c1.pg b p))) b (p - 2) { upd2 c1.pg b p (progPg mo data (c1.pg b p)) b (p - 2) with st := 2 } } := by
  unfold progTorn; rw [if_pos h]
theorem progTorn_no {c1 : Chp} {mo : Int} {b p : Nat} {data : ByteArray} (h : ¬ (2 ≤ p % 4 ∧ 4 ≤ mo ∧ (c1.pg b (p - 2)).st = 1)) : progTorn c1 mo b p data = { c1 with pg := upd2 c1.pg b p (progPg mo data (c1.pg b p)) } := by
  unfold progTorn; rw [if_neg h]
set_option maxHeartbeats 1600000 in
set_option maxRecDepth 100000 in
theorem prog_go (h : ChipAt w L c) (b p : Nat) (data : ByteArray) (hb : b < c.nb) (hp : p < c.np) (hs : (data.size : Int) = c.bytes) (hm : mayC c b = 0) (mo : Int) (tn : Bool) (c1 : Chp) (hT : tornC c = ((mo, tn), c1)) :
    Calls Tryz.prog 20 #[.pointer (some ⟨L.a, 0, none⟩), .int .i64 b, .int .i64 p, .string data] w (ProgPost L c c1 mo tn b p data w) := by
  have hhas : hasPB c b p = true := by simp [hasPB, hasB]; omega
  have bd := tornC_bd c
  have hb1 : b < (tornC c).2.nb := by rw [tornC_nb]; exact hb
  have hp1 : p < (tornC c).2.np := by rw [tornC_np]; exact hp
  rw [hT] at bd hb1 hp1
  dsimp only at bd hb1 hp1
  have HT := Lib.hid hT
  clear hT
  have hnb := h.nbn
  have hnp := h.npn
  have hsb : ((data.size : Int) != c.bytes) = false := by simpa using hs
  clear hs
  have k1 := h.c1
  have k0 := h.c0
  have kb0 := h.b0 b hb
  go_enter Tryz.func20, Tryz.ntmps20
  go_wp2_with fail
  refine (hasPage_any h _ _).mono ?_; rintro e w' ⟨rfl, rfl⟩
  go_wp2_with fail
  refine (may_any h b hb).mono ?_; rintro e w' ⟨rfl, rfl⟩
  go_wp2_with fail
  go_loopw [51] (fun i wr => ∃ k : Nat, k ≤ c.np - p ∧ i = .int .i64 k ∧ Hid (∀ j, j < k → (c.pg b (p + j)).st = 0 ∧ (c.pg b (p + j)).touched = false) ∧ ChipAt wr L c ∧ Stays (Foot L c.nb) w wr) (fun i _ => c.np - p - (intOf i).toNat)
  case atStart => exact ⟨0, Nat.zero_le _, rfl, (fun j hj => absurd hj (by omega)), h, Stays.refl _ _⟩
  case round =>
    clear k0 k1 kb0 hm hhas hsb
    obtain ⟨k, hk, rfl, HK, H, S⟩ := hrel
    have k0 := H.c0
    have kb0 := H.b0 b hb
    have hfp : ∀ o, wr.frozen? ⟨L.pg b, o, none⟩ = false := H.fp b hb
    by_cases hlt : k < c.np - p
    · have ea : p * 3 + k * 3 = (p + k) * 3 := by omega
      have kp0 := H.p0 b hb (p + k) (by omega)
      have kp1 := H.p1 b hb (p + k) (by omega)
      have kp2 := H.p2 b hb (p + k) (by omega)
      rw [← ea] at kp0 kp1 kp2
      clear ea
      by_cases hs0 : (c.pg b (p + k)).st = 0
      · have hsb0 : ((c.pg b (p + k)).st != 0) = false := by simpa using hs0
        have HS0 := Lib.hid hs0
        clear hs0
        cases htc : (c.pg b (p + k)).touched with
        | false =>
          rw [htc] at kp2
          have HTC := Lib.hid htc
          clear htc
          go_wp2_with fail
          go_roundw
          case rel => exact ⟨k + 1, by omega, by go_num, fun j hj => (by
            rcases Nat.lt_or_ge j k with hj' | hj'
            · exact HK.out j hj'
            · rw [show j = k from by omega]; exact ⟨HS0.out, HTC.out⟩), (H.alloc _), (S.alloc _)⟩
          case measure => simp [intOf]; omega
        | true =>
          rw [htc] at kp2
          have hcl : cleanB c b p = false := by
            rw [Bool.eq_false_iff, Ne, cleanB_iff]
            exact fun hh => by have := (hh k hlt).2; rw [htc] at this; cases this
          have HCL := Lib.hid hcl
          clear hcl htc
          go_wp2_with fail
          go_ret
          unfold ProgPost
          rw [HCL.out]
          exact ⟨rfl, H.alloc _, S.alloc _⟩
      · have hsb0 : ((c.pg b (p + k)).st != 0) = true := by simpa using hs0
        have hcl : cleanB c b p = false := by
          rw [Bool.eq_false_iff, Ne, cleanB_iff]
          exact fun hh => hs0 (hh k hlt).1
        have HCL := Lib.hid hcl
        clear hcl
        go_wp2_with fail
        go_ret
        unfold ProgPost
        rw [HCL.out]
        exact ⟨rfl, H.alloc _, S.alloc _⟩
    · have hcl : cleanB c b p = true := by
        rw [cleanB_iff]
        exact fun j hj => HK.out j (by omega)
      have HCL := Lib.hid hcl
      clear hcl
      have htorn := torn_any H
      rw [HT.out] at htorn
      have HTO := Lib.hid htorn
      clear htorn
      go_wp2_with fail
      refine HTO.out.mono ?_; rintro e w1 ⟨rfl, H1, S1⟩
      have S1' := S.trans (S1.mono (fun k (hk : k = L.a) => hk ▸ foot_a L c.nb))
      clear S S1
      have k0 : w1.cell? ⟨L.a, 0, none⟩ = _ := H1.c0
      have kb0 : w1.cell? ⟨L.arr, b * 4, none⟩ = _ := H1.b0 b hb1
      have kp0 := H1.p0 b hb1 p hp1
      have kp1 := H1.p1 b hb1 p hp1
      have kp2 := H1.p2 b hb1 p hp1
      have hfp1 : ∀ o, w1.frozen? ⟨L.pg b, o, none⟩ = false := H1.fp b hb1
      have hnb1 := H1.nbn
      have hnp1 := H1.npn
      cases tn with
      | false =>
        go_wp2_with fail
        go_ret
        unfold ProgPost
        rw [HCL.out]
        have := (H1.sSt b hb1 p hp1 1).sDt b hb1 p hp1 data
        simp only [upd2_twice, upd2_val] at this
        exact ⟨rfl, this, ((S1'.setCell (foot_p _ _ b hb) _).setCell (foot_p _ _ b hb) _)⟩
      | true =>
        go_upto_block 2 with fail
        go_cut [] (fun wx => ChipAt wx L { c1 with pg := upd2 c1.pg b p (progPg mo data (c1.pg b p)) } ∧ Stays (Foot L c.nb) w wx)
        case first =>
          have H1T := Lib.hid (H1.sTc b hb1 p hp1 true)
          have S1T := Lib.hid (S1'.setCell (p := ⟨L.pg b, p * 3 + 2, none⟩) (foot_p L _ b hb) (.bool true))
          clear H1 S1' H
          by_cases m1 : mo % 3 = 1
          · have m1b : (mo % 3 == 1) = true := by simpa using m1
            have M1 := Lib.hid m1
            clear m1
            go_wp2_with fail
            go_meet
            case rel =>
              refine ⟨?_, S1T.out.setCell (foot_p _ _ b hb) _⟩
              have := H1T.out.sSt b hb1 p hp1 2
              simp only [upd2_twice, upd2_val] at this
              rw [progPg, if_pos M1.out, if_neg (by rw [M1.out]; decide)]
              exact this
          · have m1b : (mo % 3 == 1) = false := by simpa using m1
            by_cases m2 : mo % 3 = 2
            · have m2b : (mo % 3 == 2) = true := by simpa using m2
              have M1 := Lib.hid m1
              have M2 := Lib.hid m2
              clear m1 m2
              go_wp2_with fail
              go_meet
              case rel =>
                refine ⟨?_, (S1T.out.setCell (foot_p _ _ b hb) _).setCell (foot_p _ _ b hb) _⟩
                have := (H1T.out.sSt b hb1 p hp1 1).sDt b hb1 p hp1 data
                simp only [upd2_twice, upd2_val] at this
                rw [progPg, if_neg M1.out, if_pos M2.out, if_pos M2.out]
                exact this
            · have m2b : (mo % 3 == 2) = false := by simpa using m2
              have M1 := Lib.hid m1
              have M2 := Lib.hid m2
              clear m1 m2
              go_wp2_with fail
              go_meet
              case rel =>
                refine ⟨?_, S1T.out⟩
                rw [progPg, if_neg M1.out, if_neg M2.out, if_neg M2.out]
                exact H1T.out
        case rest =>
          obtain ⟨H2, S2⟩ := hcut
          clear k0 kb0 kp0 kp1 kp2 hfp1 H1 S1' H HT HTO HK
          have k0 : wc.cell? ⟨L.a, 0, none⟩ = some (.slice (some ⟨L.arr, 0, none⟩) c1.nb L.cap) := H2.c0
          have kb0 : wc.cell? ⟨L.arr, b * 4, none⟩ = some (.slice (some ⟨L.pg b, 0, none⟩) c1.np c1.np) := H2.b0 b hb1
          have hfp2 : ∀ o, wc.frozen? ⟨L.pg b, o, none⟩ = false := H2.fp b hb1
          by_cases hu : 2 ≤ p % 4
          · have hpc : pairC (p : Int) = (((p - 2 : Nat) : Int), true) := by
              rw [pairC, if_neg (by omega), if_pos (by omega), show ((p : Int) - 2) = ((p - 2 : Nat) : Int) by omega]
            have hpa := pair_any (p : Int) wc (by omega)
            rw [hpc] at hpa
            have HPA := Lib.hid hpa
            have kl := H2.p0 b hb1 (p - 2) (show p - 2 < c1.np by omega)
            have hl : (upd2 c1.pg b p (progPg mo data (c1.pg b p)) b (p - 2)) = c1.pg b (p - 2) := by
              unfold upd2; rw [if_neg (by omega)]
            rw [show ({ c1 with pg := upd2 c1.pg b p (progPg mo data (c1.pg b p)) } : Chp).pg b (p - 2) = c1.pg b (p - 2) from hl] at kl
            have HL := Lib.hid hl
            clear hpc hpa hl
            have hp2 : p - 2 < c1.np := by omega
            by_cases h4 : 4 ≤ mo
            · have h4b : decide (4 ≤ mo) = true := by simpa using h4
              by_cases hst : (c1.pg b (p - 2)).st = 1
              · have hstb : ((c1.pg b (p - 2)).st == 1) = true := by simpa using hst
                have HST := Lib.hid hst
                clear hst
                go_wp2_with fail
                refine HPA.out.mono ?_; rintro e w' ⟨rfl, rfl⟩
                go_wp2_with fail
                go_ret
                exact ProgPost.torn HCL.out (by rw [progTorn_yes ⟨hu, h4, HST.out⟩]; exact H2.sSt b hb1 (p - 2) hp2 2) (S2.setCell (foot_p _ _ b hb) _)
              · have hstb : ((c1.pg b (p - 2)).st == 1) = false := by simpa using hst
                go_wp2_with fail
                refine HPA.out.mono ?_; rintro e w' ⟨rfl, rfl⟩
                go_wp2_with fail
                go_ret
                exact ProgPost.torn HCL.out (by rw [progTorn_no (fun hh => hst hh.2.2)]; exact H2) (S2)
            · have h4b : decide (4 ≤ mo) = false := by simpa using h4
              go_wp2_with fail
              refine HPA.out.mono ?_; rintro e w' ⟨rfl, rfl⟩
              go_wp2_with fail
              go_ret
              exact ProgPost.torn HCL.out (by rw [progTorn_no (fun hh => by omega)]; exact H2) (S2)
          · have hpc : (pairC (p : Int)).2 = false := by
              rw [pairC, if_neg (by omega), if_neg (by omega)]
            have hpa := pair_any (p : Int) wc (by omega)
            rw [hpc] at hpa
            have HPA := Lib.hid hpa
            clear hpc hpa
            go_wp2_with fail
            refine HPA.out.mono ?_; rintro e w' ⟨rfl, rfl⟩
            go_wp2_with fail
            go_ret
            exact ProgPost.torn HCL.out (by rw [progTorn_no (fun hh => by omega)]; exact H2) (S2)
set_option maxRecDepth 100000 in
set_option maxHeartbeats 800000 in
theorem program_any (h : ChipAt w L c) (b p : Int) (data : ByteArray) : Calls Tryz.prog 20 #[.pointer (some ⟨L.a, 0, none⟩), .int .i64 b, .int .i64 p, .string data] w fun e w' =>
    e = .returned (.int .i64 (programC c b p data).1) ∧ ChipAt w' L (programC c b p data).2 ∧ Stays (Foot L c.nb) w w' := by
  by_cases hb : hasPB c b p = true
  · by_cases hs : (data.size : Int) = c.bytes
    · obtain ⟨n, m, rfl, rfl, hn, hm⟩ := hasPB_nat hb
      by_cases hmay : mayC c n = 0
      · refine (prog_go h n m data hn hm hs hmay (tornC c).1.1 (tornC c).1.2 (tornC c).2 rfl).mono ?_
        rintro e w' ⟨he, hc, hst⟩
        have hv : programC c (n : Int) (m : Int) data = (if cleanB c n m then (if (tornC c).1.2 then 20 else 0) else 21, if cleanB c n m then (if (tornC c).1.2 then progTorn (tornC c).2 (tornC c).1.1 n m data else progFine (tornC c).2 n m data) else c) := by
          unfold programC
          rw [if_pos ⟨hb, hs⟩, Int.toNat_natCast, Int.toNat_natCast, if_pos hmay]
          cases cleanB c n m <;> cases (tornC c).1.2 <;> rfl
        rw [hv]
        exact ⟨he, hc, hst⟩
      · have hv : programC c (n : Int) (m : Int) data = (mayC c n, c) := by
          unfold programC
          rw [if_pos ⟨hb, hs⟩, Int.toNat_natCast, if_neg hmay]
        have HV := Lib.hid hv
        have hmb : (mayC c n != 0) = true := by simpa using hmay
        have hsb : ((data.size : Int) != c.bytes) = false := by simpa using hs
        have k1 := h.c1
        clear hv hs
        go_enter Tryz.func20, Tryz.ntmps20
        go_wp2_with fail
        refine (hasPage_any h _ _).mono ?_; rintro e w' ⟨rfl, rfl⟩
        go_wp2_with fail
        refine (may_any h n hn).mono ?_; rintro e w' ⟨rfl, rfl⟩
        go_wp2_with fail
        go_ret
        rw [HV.out]
        exact ⟨rfl, h, Stays.refl _ _⟩
    · have hv : programC c b p data = (1, c) := if_neg (fun hh => hs hh.2)
      have HV := Lib.hid hv
      have hsb : ((data.size : Int) != c.bytes) = true := by simpa using hs
      have k1 := h.c1
      clear hv hs
      go_enter Tryz.func20, Tryz.ntmps20
      go_wp2_with fail
      refine (hasPage_any h _ _).mono ?_; rintro e w' ⟨rfl, rfl⟩
      go_wp2_with fail
      go_ret
      rw [HV.out]
      exact ⟨rfl, h, Stays.refl _ _⟩
  · have hb' : hasPB c b p = false := by simpa using hb
    have hv : programC c b p data = (1, c) := if_neg (fun hh => hb hh.1)
    have HV := Lib.hid hv
    clear hv hb
    go_enter Tryz.func20, Tryz.ntmps20
    go_wp2_with fail
    refine (hasPage_any h _ _).mono ?_; rintro e w' ⟨rfl, rfl⟩
    go_wp2_with fail
    go_ret
    rw [HV.out]
    exact ⟨rfl, h, Stays.refl _ _⟩
set_option maxRecDepth 100000 in
set_option maxHeartbeats 400000 in
theorem program_nil (b p : Int) (data : ByteArray) (w : World) : Calls Tryz.prog 20 #[.pointer none, .int .i64 b, .int .i64 p, .string data] w fun e w' => e = .returned (.int .i64 1) ∧ w = w' := by
  go_enter Tryz.func20, Tryz.ntmps20
  go_wp2_with fail
  refine (hasPage_nil _ _ _).mono ?_; rintro e w' ⟨rfl, rfl⟩
  go_wp2_with fail
  go_ret
  exact ⟨rfl, rfl⟩
end Go.Proofs.YtgfjeaegigjnaaaGreatDoor

namespace Go.Proofs.YtgfjeaegigjnaaaGreatDoor
open Go.RowKit
set_option linter.unusedVariables false
set_option linter.unusedSimpArgs false

def freshC (nb np : Nat) (bytes : Int) : Chp :=
  { nb := nb, np := np, pg := fun _ _ => ⟨0, ⟨#[]⟩, false⟩, er := fun _ => 0, rd := fun _ => 0, worn := fun _ => false, bytes := bytes, seed := 0, most := 0, piece := 0, left := 0, mode := 0, off := false, changes := 0 }
theorem infoBlk : (Tryz.prog.info? 82).map (fun i => (i.zero, i.size, i.bytes)) = some (some (.agg #[.slice none 0 0, .int .i64 0, .int .i64 0, .bool false]), 4, 48) := by kernel_rfl
theorem infoPage : (Tryz.prog.info? 85).map (fun i => (i.zero, i.size, i.bytes)) = some (some (.agg #[.int .i64 0, .string ⟨#[]⟩, .bool false]), 3, 32) := by kernel_rfl
/-- The cells of blocks whose pages lie there. -/
def rowOf (np : Nat) (ps : List Nat) : List Value := ps.flatMap fun g => [.slice (some ⟨g, 0, none⟩) np np, .int .i64 0, .int .i64 0, .bool false]
theorem rowOf_len (np : Nat) (ps : List Nat) : (rowOf np ps).length = ps.length * 4 := by
  induction ps with
  | nil => rfl
  | cons a l ih =>
    have : rowOf np (a :: l) = [.slice (some ⟨a, 0, none⟩) np np, .int .i64 0, .int .i64 0, .bool false] ++ rowOf np l := rfl
    rw [this, List.length_append, ih]; simp; omega
theorem rowOf_snoc (np : Nat) (ps : List Nat) (g : Nat) : rowOf np (ps ++ [g]) = rowOf np ps ++ [.slice (some ⟨g, 0, none⟩) np np, .int .i64 0, .int .i64 0, .bool false] := by simp [rowOf]
theorem rowOf_get (np : Nat) : ∀ (ps : List Nat) (i : Nat) (_ : i < ps.length), (rowOf np ps)[i * 4]? = some (.slice (some ⟨ps.getD i 0, 0, none⟩) np np) ∧ (rowOf np ps)[i * 4 + 1]? = some (.int .i64 0) ∧ (rowOf np ps)[i * 4 + 2]? = some (.int .i64 0) ∧ (rowOf np ps)[i * 4 + 3]? = some (.bool false)
  | [], i, hi => absurd hi (by simp)
  | a :: l, 0, _ => ⟨rfl, rfl, rfl, rfl⟩
  | a :: l, i + 1, hi => by
    have h := rowOf_get np l i (by simpa using hi)
    have e : rowOf np (a :: l) = .slice (some ⟨a, 0, none⟩) np np :: .int .i64 0 :: .int .i64 0 :: .bool false :: rowOf np l := rfl
    rw [e, show (i + 1) * 4 = i * 4 + 1 + 1 + 1 + 1 by omega]
    exact h
/-- What New has made behind k rounds: w: the world ahead of it, v: the slice of blocks, ps: where their pages lie. -/
structure NewRel (w wr : World) (np : Nat) (bytes : Int) (v : Value) (ps : List Nat) : Prop where
  own : wr.ownsRow (w.heap.size + 1) 82 4 v ps.length (rowOf np ps)
  below : Below w.heap.size w wr
  c0 : wr.cell? ⟨w.heap.size, 0, none⟩ = some v
  c1 : wr.cell? ⟨w.heap.size, 1, none⟩ = some (.int .i64 bytes)
  c2 : wr.cell? ⟨w.heap.size, 2, none⟩ = some (.int .i64 0)
  c3 : wr.cell? ⟨w.heap.size, 3, none⟩ = some (.int .i64 0)
  c4 : wr.cell? ⟨w.heap.size, 4, none⟩ = some (.int .i64 0)
  c5 : wr.cell? ⟨w.heap.size, 5, none⟩ = some (.int .i64 0)
  c6 : wr.cell? ⟨w.heap.size, 6, none⟩ = some (.int .i64 0)
  c7 : wr.cell? ⟨w.heap.size, 7, none⟩ = some (.bool false)
  c8 : wr.cell? ⟨w.heap.size, 8, none⟩ = some (.int .i64 0)
  fa : ∀ o, wr.frozen? ⟨w.heap.size, o, none⟩ = false
  pages : ∀ g ∈ ps, w.heap.size + 1 ≤ g ∧ wr.heap[g]? = some (.cells (madeCells #[.int .i64 0, .string ⟨#[]⟩, .bool false] (np * 3)) 85 (0, 0))
  apart : ∀ g ∈ ps, v.ownBlock ≠ some g
  once : ps.Nodup
theorem own_base {w : World} {base e size n : Nat} {v : Value} {xs : List Value} (h : w.ownsRow base e size v n xs) {g : Nat} (hg : v.ownBlock = some g) : base ≤ g ∧ g < w.heap.size := by
  rcases h.2 with ⟨rfl, _⟩ | ⟨g', cap, cur, rfl, hb, hh, _⟩
  · simp [Value.ownBlock] at hg
  · have e : g' = g := by simpa [Value.ownBlock] using hg
    subst e
    refine ⟨hb, ?_⟩
    rcases Nat.lt_or_ge g' w.heap.size with hlt | hge
    · exact hlt
    · rw [Array.getElem?_eq_none hge] at hh; cases hh
theorem heap_drew (w : World) : w.drew.heap = w.heap := rfl
/-- One round of New: a row of pages is made, the block is appended, the slice is stored. -/
theorem NewRel.step {w wr w1 : World} {np : Nat} {bytes : Int} {v : Value} {ps : List Nat} (H : NewRel w wr np bytes v ps) (o : Obj) {gg cap : Nat}
    (hown : w1.ownsRow (w.heap.size + 1) 82 4 (.slice (some ⟨gg, 0, none⟩) (ps.length + 1) cap) (ps.length + 1) (rowOf np ps ++ [.slice (some ⟨wr.heap.size, 0, none⟩) np np, .int .i64 0, .int .i64 0, .bool false]))
    (hgrow : (((wr.alloc (.cells (madeCells #[.int .i64 0, .string ⟨#[]⟩, .bool false] (np * 3)) 85)).alloc o).drew).grownBy w1 v.ownBlock)
    (hat : v.ownBlock = some gg ∨ gg = wr.heap.size + 2) :
    NewRel w (w1.setCell ⟨w.heap.size, 0, none⟩ (.slice (some ⟨gg, 0, none⟩) (ps.length + 1) cap)) np bytes (.slice (some ⟨gg, 0, none⟩) (ps.length + 1) cap) (ps ++ [wr.heap.size]) := by
  have hsz : w.heap.size < wr.heap.size := World.block_lt_of_cell? _ _ H.c0
  have hvne : ∀ g, v.ownBlock = some g → w.heap.size + 1 ≤ g ∧ g < wr.heap.size := fun g hg => own_base H.own hg
  have keep : ∀ g, g < wr.heap.size → v.ownBlock ≠ some g → w1.heap[g]? = wr.heap[g]? := by
    intro g hg hne
    have h1 := hgrow.block g (by simp [heap_drew]; omega) (fun e => hne e.symm)
    rw [h1, heap_drew, Below.heap_alloc _ _ _ (by simp; omega), Below.heap_alloc _ _ _ hg]
  have hne0 : v.ownBlock ≠ some w.heap.size := fun e => by have := (hvne _ e).1; omega
  have hps : ∀ g ∈ ps, g < wr.heap.size := by
    intro g hg
    have := (H.pages g hg).2
    rcases Nat.lt_or_ge g wr.heap.size with h | h
    · exact h
    · rw [Array.getElem?_eq_none h] at this; cases this
  have cell0 : ∀ o', w1.cell? ⟨w.heap.size, o', none⟩ = wr.cell? ⟨w.heap.size, o', none⟩ := fun o' => World.cell?_of_block (w := wr) (keep _ hsz hne0)
  have froz0 : ∀ o', w1.frozen? ⟨w.heap.size, o', none⟩ = wr.frozen? ⟨w.heap.size, o', none⟩ := fun o' => World.frozen?_of_block (w := wr) (keep _ hsz hne0)
  have oth : ∀ o', o' ≠ 0 → ∀ u, (w1.setCell ⟨w.heap.size, 0, none⟩ u).cell? ⟨w.heap.size, o', none⟩ = wr.cell? ⟨w.heap.size, o', none⟩ := fun o' ho u => by rw [setA_other _ _ _ _ _ (Ne.symm ho), cell0]
  have hbel : Below w.heap.size w w1 := (((H.below.alloc (by omega) _).alloc (by simp; omega) _).drew).grown hgrow (by simp [heap_drew]; omega) (fun k hk => by have := (hvne k hk).1; omega)
  have hnew : w1.heap[wr.heap.size]? = some (.cells (madeCells #[.int .i64 0, .string ⟨#[]⟩, .bool false] (np * 3)) 85 (0, 0)) := by
    have h1 := hgrow.block wr.heap.size (by simp [heap_drew]; omega) (fun e => by have := (hvne _ e.symm).2; omega)
    rw [h1, heap_drew, Below.heap_alloc _ _ _ (by simp)]
    exact heap_alloc_new _ _
  refine ⟨?_, hbel.setCell (p := ⟨w.heap.size, 0, none⟩) (Nat.le_refl _) _, setA_same _ _ _ _ _ ((cell0 0).trans H.c0), (oth 1 (by omega) _).trans H.c1, (oth 2 (by omega) _).trans H.c2, (oth 3 (by omega) _).trans H.c3, (oth 4 (by omega) _).trans H.c4, (oth 5 (by omega) _).trans H.c5, (oth 6 (by omega) _).trans H.c6, (oth 7 (by omega) _).trans H.c7, (oth 8 (by omega) _).trans H.c8, ?_, ?_, ?_, ?_⟩
  · rw [rowOf_snoc, List.length_append, List.length_singleton]
    exact ownsRow_setCell_below hown (a := ⟨w.heap.size, 0, none⟩) (by simp) _
  · intro o'; rw [World.frozen?_setCell, froz0]; exact H.fa o'
  · intro g hg
    rcases List.mem_append.1 hg with hg | hg
    · refine ⟨(H.pages g hg).1, ?_⟩
      rw [Below.heap_setCell _ _ _ _ (by have := (H.pages g hg).1; simp; omega), keep g (hps g hg) (H.apart g hg)]
      exact (H.pages g hg).2
    · obtain rfl : g = wr.heap.size := by simpa using hg
      refine ⟨hsz, ?_⟩
      rw [Below.heap_setCell _ _ _ _ (by simp; omega)]
      exact hnew
  · intro g hg e
    have e' : gg = g := by simpa [Value.ownBlock] using e
    subst e'
    rcases List.mem_append.1 hg with hg | hg
    · rcases hat with h | h
      · exact H.apart _ hg h
      · have := hps _ hg; omega
    · obtain h2 : gg = wr.heap.size := by simpa using hg
      rcases hat with h | h
      · have := (hvne _ h).2; omega
      · omega
  · rw [List.nodup_append]
    refine ⟨H.once, by simp, ?_⟩
    intro a ha b hb
    obtain rfl : b = wr.heap.size := by simpa using hb
    have := hps _ ha
    omega
theorem blk2 (w : World) (o1 o2 : Obj) : ((w.alloc o1).alloc o2).drew.heap[w.heap.size + 1]? = some o2 := by
  have h := heap_alloc_new (w.alloc o1) o2
  rwa [show (w.alloc o1).heap.size = w.heap.size + 1 from by simp] at h
theorem NewRel.mid {w wr w1 : World} {np : Nat} {bytes : Int} {v : Value} {ps : List Nat} (H : NewRel w wr np bytes v ps) {o1 o2 : Obj}
    (hgrow : (((wr.alloc o1).alloc o2).drew).grownBy w1 v.ownBlock) : w1.cell? ⟨w.heap.size, 0, none⟩ = some v ∧ w1.frozen? ⟨w.heap.size, 0, none⟩ = false := by
  have hsz : w.heap.size < wr.heap.size := World.block_lt_of_cell? _ _ H.c0
  have hb : w1.heap[w.heap.size]? = wr.heap[w.heap.size]? := by
    have h1 := hgrow.block w.heap.size (by simp [heap_drew]; omega) (fun e => by have := (own_base H.own e.symm).1; omega)
    rw [h1, heap_drew, Below.heap_alloc _ _ _ (by simp; omega), Below.heap_alloc _ _ _ hsz]
  exact ⟨(World.cell?_of_block (w := wr) (a := ⟨w.heap.size, 0, none⟩) hb).trans H.c0, (World.frozen?_of_block (w := wr) (a := ⟨w.heap.size, 0, none⟩) hb).trans (H.fa 0)⟩
theorem madeCells_get (z : Array Value) (n i : Nat) (h : i < n) : (madeCells z n)[i]? = some (z[i % z.size]!) := by
  simp [madeCells, h]
/-- What New has made behind the last round is a fresh chip. -/
theorem NewRel.chip {w wr : World} {np : Nat} {bytes : Int} {v : Value} {ps : List Nat} (H : NewRel w wr np bytes v ps) (h1 : 1 ≤ ps.length) (h2 : ps.length ≤ 64) (h3 : 4 ≤ np) (h4 : np ≤ 64) (h6 : 1 ≤ bytes) (h7 : bytes ≤ 2048) :
    ∃ L, L.a = w.heap.size ∧ ChipAt wr L (freshC ps.length np bytes) ∧ (∀ k, Foot L ps.length k → w.heap.size ≤ k) := by
  obtain ⟨hl, ⟨_, h0⟩ | ⟨g, cap, cur, rfl, hb, hh, hnc, hcm, hcs, htk⟩⟩ := H.own
  · omega
  have hget : ∀ j u, (rowOf np ps)[j]? = some u → wr.cell? ⟨g, j, none⟩ = some u := by
    intro j u hu
    rw [cell_of_row wr g j cur 82 (0, 0) hh]
    rw [← htk] at hu
    rw [List.getElem?_take] at hu
    split at hu
    · simpa using hu
    · cases hu
  have hfr : ∀ g' o, ∀ cs t, wr.heap[g']? = some (.cells cs t (0, 0)) → wr.frozen? ⟨g', o, none⟩ = false := by
    intro g' o cs t hg
    simp [World.frozen?, hg]
  have mem : ∀ i, i < ps.length → ps.getD i 0 ∈ ps := fun i hi => by
    rw [List.getD_eq_getElem?_getD, List.getElem?_eq_getElem hi]; exact List.getElem_mem hi
  have pgc : ∀ i, i < ps.length → ∀ x, x < np * 3 → wr.cell? ⟨ps.getD i 0, x, none⟩ = some ((#[.int .i64 0, .string ⟨#[]⟩, .bool false] : Array Value)[x % 3]!) := by
    intro i hi x hx
    rw [cell_of_row wr _ x _ 85 (0, 0) (H.pages _ (mem i hi)).2, madeCells_get _ _ _ hx]
    rfl
  refine ⟨⟨w.heap.size, g, cap, fun i => ps.getD i 0⟩, rfl, ⟨H.c0, H.c1, H.c2, H.c3, H.c4, H.c5, H.c6, H.c7, H.c8, ?_, ?_, ?_, ?_, ?_, ?_, ?_, H.fa, ?_, ?_, ?_, ?_, ?_, ?_, h2, h4, ?_, h1, ?_, ?_, ?_, ?_, h6, h7⟩, ?_⟩
  · exact fun i hi => hget _ _ (rowOf_get np ps i hi).1
  · exact fun i hi => hget _ _ (rowOf_get np ps i hi).2.1
  · exact fun i hi => hget _ _ (rowOf_get np ps i hi).2.2.1
  · exact fun i hi => hget _ _ (rowOf_get np ps i hi).2.2.2
  · intro i hi j hj
    have hj' : j < np := hj
    have := pgc i hi (j * 3) (by omega)
    rw [show j * 3 % 3 = 0 by omega] at this
    exact this
  · intro i hi j hj
    have hj' : j < np := hj
    have := pgc i hi (j * 3 + 1) (by omega)
    rw [show (j * 3 + 1) % 3 = 1 by omega] at this
    exact this
  · intro i hi j hj
    have hj' : j < np := hj
    have := pgc i hi (j * 3 + 2) (by omega)
    rw [show (j * 3 + 2) % 3 = 2 by omega] at this
    exact this
  · exact fun o => hfr g o cur _ hh
  · exact fun i hi o => hfr _ o _ _ (H.pages _ (mem i hi)).2
  · show w.heap.size ≠ g; omega
  · intro i hi; have := (H.pages _ (mem i hi)).1; show w.heap.size ≠ ps.getD i 0; omega
  · intro i hi; have := H.apart _ (mem i hi); intro e; apply this; show some g = some (ps.getD i 0); exact congrArg some e
  · intro i j hi hj e
    have hi' : i < ps.length := hi
    have hj' : j < ps.length := hj
    have e' : ps.getD i 0 = ps.getD j 0 := e
    rw [List.getD_eq_getElem?_getD, List.getD_eq_getElem?_getD, List.getElem?_eq_getElem hi', List.getElem?_eq_getElem hj'] at e'
    exact (List.getElem_inj H.once).1 e'
  · show 0 < np; omega
  · exact Int.le_refl 0
  · show (0 : Int) ≤ 9223372036854775807; omega
  · show (-9223372036854775808 : Int) ≤ 0; omega
  · show (0 : Int) ≤ 9223372036854775807; omega
  · rintro k (h | h | ⟨i, hi, h⟩)
    · rw [h]; exact Nat.le_refl _
    · rw [h]; show w.heap.size ≤ g; omega
    · have := (H.pages _ (mem i hi)).1; rw [h]; show w.heap.size ≤ ps.getD i 0; omega
set_option maxHeartbeats 1600000 in
set_option maxRecDepth 100000 in
theorem new_good (nb np : Nat) (bytes : Int) (w : World) (h1 : 1 ≤ nb) (h2 : nb ≤ 64) (h3 : 4 ≤ np) (h4 : np ≤ 64) (h5 : np % 4 = 0) (h6 : 1 ≤ bytes) (h7 : bytes ≤ 2048) :
    Calls Tryz.prog 19 #[.int .i64 nb, .int .i64 np, .int .i64 bytes] w fun e w' => ∃ L, e = .returned (.tuple #[.pointer (some ⟨L.a, 0, none⟩), .int .i64 0]) ∧ ChipAt w' L (freshC nb np bytes) ∧
      Below w.heap.size w w' ∧ (∀ k, Foot L nb k → w.heap.size ≤ k) := by
  have t1 : decide ((nb : Int) < 1) = false := by simp; omega
  have t2 : decide (64 < (nb : Int)) = false := by simp; omega
  have t3 : decide ((np : Int) < 4) = false := by simp; omega
  have t4 : decide (64 < (np : Int)) = false := by simp; omega
  have t5 : ((np : Int) % 4 != 0) = false := by simp; omega
  have t6 : decide (bytes < 1) = false := by simp; omega
  have t7 : decide (2048 < bytes) = false := by simp; omega
  obtain ⟨i0, hi0, hz0, hz1, hz2⟩ := info_parts infoBlk
  obtain ⟨j0, hj0, hy0, hy1, hy2⟩ := info_parts infoPage
  have hmk : ∀ W : World, (Instr.makeSlice 80 (.int .i64 (np : Int)) (.int .i64 (np : Int))).run Tryz.prog W = .ok (.slice (some ⟨W.heap.size, 0, none⟩) np np) (W.alloc (.cells (madeCells #[.int .i64 0, .string ⟨#[]⟩, .bool false] (np * 3)) 85)) := by
    intro W
    have := run_make (P := Tryz.prog) W 80 85 j0 _ (by kernel_rfl) hj0 hy0 .i64 .i64 (np : Int) (np : Int) (by omega) (by omega) (by rw [hy2]; omega) (by omega)
    rw [hy1] at this
    simp only [Int.toNat_natCast] at this
    exact this
  go_enter Tryz.func19, Tryz.ntmps19
  go_wp2_with fail
  go_loopw [40] (fun i wr => ∃ (v : Value) (ps : List Nat), ps.length ≤ nb ∧ i = .int .i64 ps.length ∧ NewRel w wr np bytes v ps) (fun i _ => nb - (intOf i).toNat)
  case atStart =>
    refine ⟨.slice none 0 0, [], by simp, rfl, ⟨⟨rfl, .inl ⟨rfl, rfl⟩⟩, (Below.refl _ _).alloc (Nat.le_refl _) _, by simp, by simp, by simp, by simp, by simp, by simp, by simp, by simp, by simp, by simp, by simp, by simp, by simp⟩⟩
  case round =>
    obtain ⟨v, ps, hk, rfl, H⟩ := hrel
    have k0 := H.c0
    have hfa := H.fa
    by_cases hlt : ps.length < nb
    · have hn : ps.length + 1 ≤ maxLen := by unfold maxLen; omega
      have hbd : (ps.length + 1) * 48 ≤ 140737488355328 := by omega
      have hsz : w.heap.size < wr.heap.size := World.block_lt_of_cell? _ _ H.c0
      have hvne : ∀ g, v.ownBlock = some g → w.heap.size + 1 ≤ g ∧ g < wr.heap.size := fun g hg => own_base H.own hg
      have HV := Lib.hid hvne
      clear hvne
      go_wp2_with fail
      go_region_law ((refine step_append_lies _ (by rfl) (.tmp 46) (.tmp 50) _ (by rfl) (w.heap.size + 1) 82 i0 _ 4 48 (by kernel_rfl) hi0 hz0 hz1 hz2 rfl (by omega) v ps.length (rowOf np ps) (by rfl) (((H.own.alloc _).alloc _).drew) ⟨wr.heap.size + 1, 0, none⟩ 1 1 [.slice (some ⟨wr.heap.size, 0, none⟩) np np, .int .i64 0, .int .i64 0, .bool false] (by rfl) (by rfl) (World.news_of_block (cs := #[.slice (some ⟨wr.heap.size, 0, none⟩) np np, .int .i64 0, .int .i64 0, .bool false]) (t := 82) (fr := (0, 0)) (blk2 wr _ _)) (by simp [Value.oneCell']) (by omega) hn hbd (by simp; omega) (wr.heap.size + 2) (by simp) ?_; intro gg cap w1 hown1 hgrow hat hlt1; obtain ⟨k1, f1⟩ := H.mid hgrow))
      all_goals
        go_wp2
        go_roundw
        case rel => exact ⟨_, ps ++ [wr.heap.size], by simp; omega, by simp, H.step _ hown1 hgrow hat⟩
        case measure => simp [intOf]; omega
    · obtain rfl : nb = ps.length := by omega
      obtain ⟨L, hL, hC, hF⟩ := H.chip h1 h2 h3 h4 h6 h7
      have HL := Lib.hid hL
      have HB := H.below
      clear hL
      go_wp2_with fail
      go_ret2
      exact ⟨L, by rw [HL.out]; rfl, hC, HB, hF⟩
/-- Are these the numbers of a chip? -/
def newOk (nb np bytes : Int) : Prop := 1 ≤ nb ∧ nb ≤ 64 ∧ 4 ≤ np ∧ np ≤ 64 ∧ np % 4 = 0 ∧ 1 ≤ bytes ∧ bytes ≤ 2048
set_option maxRecDepth 100000 in
set_option maxHeartbeats 800000 in
theorem new_bad (nb np bytes : Int) (w : World) (h : ¬ newOk nb np bytes) :
    Calls Tryz.prog 19 #[.int .i64 nb, .int .i64 np, .int .i64 bytes] w fun e w' => e = .returned (.tuple #[.pointer none, .int .i64 1]) ∧ w = w' := by
  unfold newOk at h
  by_cases c1 : nb < 1
  · go_enter Tryz.func19, Tryz.ntmps19
    go_wp2_with fail
    go_ret2
    exact ⟨rfl, rfl⟩
  by_cases c2 : 64 < nb
  · go_enter Tryz.func19, Tryz.ntmps19
    go_wp2_with fail
    go_ret2
    exact ⟨rfl, rfl⟩
  by_cases c3 : np < 4
  · go_enter Tryz.func19, Tryz.ntmps19
    go_wp2_with fail
    go_ret2
    exact ⟨rfl, rfl⟩
  by_cases c4 : 64 < np
  · go_enter Tryz.func19, Tryz.ntmps19
    go_wp2_with fail
    go_ret2
    exact ⟨rfl, rfl⟩
  by_cases c5 : np % 4 = 0
  · have c5b : (np % 4 != 0) = false := by simpa using c5
    have C5 := Lib.hid c5
    clear c5
    by_cases c6 : bytes < 1
    · go_enter Tryz.func19, Tryz.ntmps19
      go_wp2_with fail
      go_ret2
      exact ⟨rfl, rfl⟩
    by_cases c7 : 2048 < bytes
    · go_enter Tryz.func19, Tryz.ntmps19
      go_wp2_with fail
      go_ret2
      exact ⟨rfl, rfl⟩
    exact absurd ⟨by omega, by omega, by omega, by omega, C5.out, by omega, by omega⟩ h
  · have c5b : (np % 4 != 0) = true := by simpa using c5
    clear h c5
    go_enter Tryz.func19, Tryz.ntmps19
    go_wp2_with fail
    go_ret2
    exact ⟨rfl, rfl⟩
end Go.Proofs.YtgfjeaegigjnaaaGreatDoor

namespace Go.Proofs.YtgfjeaegigjnaaaGreatDoor
open Go.RowKit
set_option linter.unusedVariables false
set_option linter.unusedSimpArgs false

/-- The bytes l lie at the head of block g, and may be written. -/
structure BytesAt (w : World) (g : Nat) (l : List UInt8) : Prop where
  cell : ∀ j, j < l.length → w.cell? ⟨g, j, none⟩ = some (.int .u8 (l.getD j 0).toNat)
  free : ∀ j, j < l.length → w.frozen? ⟨g, j, none⟩ = false
theorem bits_xor (k : IntKind) (j : Nat) (hj : j ≤ k.bits) (hk : ∀ n : Int, 0 ≤ n → n < 2 ^ j → k.wrap n = n) (a b : Nat) (ha : a < 2 ^ j) (hb : b < 2 ^ j) : bits .xor k a b = ((a ^^^ b : Nat) : Int) := by
  have hp : 2 ^ j ≤ 2 ^ k.bits := Nat.pow_le_pow_right (by decide) hj
  have ha' : a % 2 ^ k.bits = a := Nat.mod_eq_of_lt (Nat.lt_of_lt_of_le ha hp)
  have hb' : b % 2 ^ k.bits = b := Nat.mod_eq_of_lt (Nat.lt_of_lt_of_le hb hp)
  simp only [bits, BitVec.ofInt_natCast, BitVec.toNat_xor, BitVec.toNat_ofNat, ha', hb']
  exact hk _ (Int.natCast_nonneg _) (by exact_mod_cast Nat.xor_lt_two_pow ha hb)
theorem xor_u8 (x : UInt8) (k : Nat) (hk : k < 8) : bits BinOp.xor IntKind.u8 (x.toNat : Int) (2 ^ k % 256) = ((x ^^^ UInt8.ofNat (2 ^ k)).toNat : Int) := by
  have hks : k = 0 ∨ k = 1 ∨ k = 2 ∨ k = 3 ∨ k = 4 ∨ k = 5 ∨ k = 6 ∨ k = 7 := by omega
  have h2 : (2 : Nat) ^ k < 256 := by
    rcases hks with rfl | rfl | rfl | rfl | rfl | rfl | rfl | rfl <;> decide
  have e : ((2 : Int) ^ k % 256) = ((2 ^ k : Nat) : Int) := by
    rcases hks with rfl | rfl | rfl | rfl | rfl | rfl | rfl | rfl <;> decide
  rw [e]
  have hx : x.toNat < 256 := x.toNat_lt
  rw [bits_xor .u8 8 (by decide) wraps_u8 _ _ (by omega) (by omega)]
  simp [Nat.mod_eq_of_lt h2]
/-- Bit k of byte i is turned. -/
def flipB (l : List UInt8) (i k : Nat) : List UInt8 := l.set i (l.getD i 0 ^^^ UInt8.ofNat (2 ^ k))
theorem flipB_len (l : List UInt8) (i k : Nat) : (flipB l i k).length = l.length := by simp [flipB]
def lcg (h : Int) : Int := (h * 6364136223846793005 + 1442695040888963407) % 18446744073709551616
theorem lcg_bd (h : Int) : 0 ≤ lcg h ∧ lcg h / 8589934592 ≤ 2147483647 := by unfold lcg; omega
theorem lcg_eq (h : Int) : IntKind.u64.wrap (IntKind.u64.wrap (h * 6364136223846793005) + 1442695040888963407) = lcg h := by
  unfold lcg IntKind.wrap
  simp [IntKind.bits, IntKind.signed]
def bitOf (m : Nat) (h : Int) : Nat := (h / 8589934592 % (8 * (m : Int))).toNat
/-- So many bits of the piece of m bytes at o are turned: the number behind it, the bytes. -/
def turnTo (o m : Nat) (h : Int) (l : List UInt8) : Nat → Int × List UInt8
  | 0 => (h, l)
  | k + 1 => (lcg (turnTo o m h l k).1, flipB (turnTo o m h l k).2 (o + bitOf m (lcg (turnTo o m h l k).1) / 8) (bitOf m (lcg (turnTo o m h l k).1) % 8))
def timesOf (most h : Int) : Nat := (h / 8589934592 % most + 1).toNat
def turnL (most : Int) (o m : Nat) (h : Int) (l : List UInt8) : List UInt8 := (turnTo o m h l (timesOf (min most 64) h)).2
theorem turnTo_len (o m : Nat) (h : Int) (l : List UInt8) : ∀ k, (turnTo o m h l k).2.length = l.length
  | 0 => rfl
  | k + 1 => by rw [turnTo, flipB_len]; exact turnTo_len o m h l k
theorem turnL_len (most : Int) (o m : Nat) (h : Int) (l : List UInt8) : (turnL most o m h l).length = l.length := turnTo_len ..
theorem BytesAt.flip {w : World} {g : Nat} {l : List UInt8} (h : BytesAt w g l) (i k : Nat) (hi : i < l.length) (v : Value) (hv : v = .int .u8 ((l.getD i 0 ^^^ UInt8.ofNat (2 ^ k)).toNat : Int)) : BytesAt (w.setCell ⟨g, i, none⟩ v) g (flipB l i k) := by
  refine ⟨?_, fun j hj => by rw [World.frozen?_setCell]; exact h.free j (by rwa [flipB_len] at hj)⟩
  intro j hj
  rw [flipB_len] at hj
  by_cases e : j = i
  · subst e
    rw [setA_same _ _ _ _ _ (h.cell j hj), hv]
    simp [flipB, hj]
  · rw [setA_other _ _ _ _ _ (Ne.symm e), h.cell j hj]
    simp [flipB, List.getElem?_set, Ne.symm e]
theorem BytesAt.stays {w w' : World} {g : Nat} {l : List UInt8} {S : Nat → Prop} (h : BytesAt w g l) (hg : g < w.heap.size) (hk : Stays S w w') (hS : ¬ S g) : BytesAt w' g l :=
  ⟨fun j hj => hk.cell (h.cell j hj) hS, fun j hj => (hk.frozen (p := ⟨g, j, none⟩) hS hg).trans (h.free j hj)⟩
theorem BytesAt.drew {w : World} {g : Nat} {l : List UInt8} (h : BytesAt w g l) : BytesAt w.drew g l := ⟨h.cell, h.free⟩
set_option maxRecDepth 100000 in
set_option maxHeartbeats 800000 in
theorem turn_go (g o m cap : Nat) (l : List UInt8) (sd mst mo pc h : Int) (w : World) (hm : 1 ≤ m) (hml : o + m ≤ l.length) (hl : l.length ≤ 2048) (hmost : 1 ≤ mst) (hmo : mo = min mst 64) (hh0 : 0 ≤ h) (hh1 : h / 8589934592 ≤ 2147483647) (hb : BytesAt w g l) :
    Calls Tryz.prog 32 #[.agg #[.int .i64 sd, .int .i64 mst, .int .i64 pc], .slice (some ⟨g, o, none⟩) m cap, .int .u64 h] w fun e w' => e = .returned (.tuple #[]) ∧ BytesAt w' g (turnL mst o m h l) ∧ Stays (· = g) w w' := by
  have hq0 : 0 ≤ h / 8589934592 := by omega
  have hg : g < w.heap.size := World.block_lt_of_cell? _ _ (hb.cell 0 (by omega))
  have hgo : ∀ most : Int, 1 ≤ most → most ≤ 64 → True := fun _ _ _ => trivial
  have hm1 : 1 ≤ mo := by omega
  have hm2 : mo ≤ 64 := by omega
  have ht0 : 0 ≤ h / 8589934592 % mo := Int.emod_nonneg _ (by omega)
  have ht1 : h / 8589934592 % mo < 64 := by have := Int.emod_lt_of_pos (h / 8589934592) (show 0 < mo by omega); omega
  have htm : (timesOf (min mst 64) h : Int) = h / 8589934592 % mo + 1 := by rw [timesOf, ← hmo]; omega
  have HB := Lib.hid hb
  have HTM := Lib.hid htm
  clear hb hgo htm
  have hms : (mst ≤ 64 ∧ mst = mo) ∨ (64 < mst ∧ mo = 64) := by omega
  clear hmo
  rcases hms with ⟨h64, rfl⟩ | ⟨h64, rfl⟩
  all_goals
    go_enter Tryz.func32, Tryz.ntmps32
    go_wp2_with fail
    go_loopw [2, 17] (fun vh vi wr => ∃ k : Nat, k ≤ timesOf (min mst 64) h ∧ vh = .int .u64 (turnTo o m h l k).1 ∧ vi = .int .i64 k ∧ Hid (BytesAt wr g (turnTo o m h l k).2) ∧ Hid (Stays (· = g) w wr)) (fun _ i _ => timesOf (min mst 64) h - (intOf i).toNat)
    case atStart => exact ⟨0, Nat.zero_le _, rfl, rfl, HB.out.stays (S := fun _ => False) hg ((Stays.refl _ _).alloc _) id, (Stays.refl _ _).alloc _⟩
    case round =>
      obtain ⟨k, hk, rfl, rfl, hB, hS⟩ := hrel
      obtain ⟨H, hH0, hH1, eH, hv⟩ : ∃ H : Int, 0 ≤ H / 8589934592 ∧ H / 8589934592 ≤ 2147483647 ∧ IntKind.u64.wrap (IntKind.u64.wrap ((turnTo o m h l k).1 * 6364136223846793005) + 1442695040888963407) = H ∧ Hid (H = lcg (turnTo o m h l k).1) :=
        ⟨_, by have := lcg_bd (turnTo o m h l k).1; omega, (lcg_bd _).2, lcg_eq _, Lib.hid rfl⟩
      obtain ⟨bit, hbit, eB⟩ : ∃ bit : Nat, bit < 8 * m ∧ H / 8589934592 % (8 * (m : Int)) = (bit : Int) := by
        have h1 := Int.emod_nonneg (H / 8589934592) (show (8 * (m : Int)) ≠ 0 by omega)
        have h2 := Int.emod_lt_of_pos (H / 8589934592) (show 0 < 8 * (m : Int) by omega)
        exact ⟨(H / 8589934592 % (8 * (m : Int))).toNat, by omega, by omega⟩
      have hbv : Hid (bitOf m (lcg (turnTo o m h l k).1) = bit) := by
        rw [bitOf, ← hv.out, eB]; exact Int.toNat_natCast bit
      have hlt8 : bit / 8 < m := by omega
      have hlen : o + bit / 8 < (turnTo o m h l k).2.length := by rw [turnTo_len]; omega
      have hcell : wr.cell? ⟨g, o + bit / 8, none⟩ = _ := hB.out.cell (o + bit / 8) hlen
      have hfree := hB.out.free (o + bit / 8) hlen
      have htm := HTM.out
      by_cases hlt : k < timesOf (min mst 64) h
      · have hlt' : (k : Int) < (timesOf (min mst 64) h : Int) := by omega
        rw [htm] at hlt'
        have HLT := Lib.hid hlt
        clear htm HTM hlt HB
        go_upto_region 6 with fail
        go_region
        go_wp2
        go_roundw
        case rel =>
          have hlt := HLT.out
          refine ⟨k + 1, by omega, ?_, by go_num, ?_, (hS.out.setCell (p := ⟨g, o + bit / 8, none⟩) rfl _).drew⟩
          · rw [hv.out]; rfl
          · rw [turnTo, hbv.out]
            refine BytesAt.drew (BytesAt.flip hB.out _ _ hlen _ ?_)
            rw [xor_u8 _ _ (by omega)]; simp [hlen]
        case measure =>
          have hlt := HLT.out
          simp [intOf]; omega
      · have hlt' : ¬ ((k : Int) < (timesOf (min mst 64) h : Int)) := by omega
        obtain rfl : k = timesOf (min mst 64) h := by omega
        rw [htm] at hlt'
        clear HB
        go_wp2_with fail
        go_end0
        exact ⟨rfl, hB.out, hS.out⟩
end Go.Proofs.YtgfjeaegigjnaaaGreatDoor

