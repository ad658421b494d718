/- Program of the document's chip, whole. -/
import Derived.Test.YthoadcibknaelaaROpC
namespace Go.Proofs.Ythoadcibknaelaa
open Go.RowKit
set_option linter.unusedVariables false
set_option linter.unusedSimpArgs false
variable {R : RLay} {c : Chp} {w : World}

set_option maxHeartbeats 800000 in
theorem rprogram_any (h : RefAt w R c) (b p : Int) (data : ByteArray) : Calls Try.prog 26 #[.pointer (some ⟨R.a, 0, none⟩), .int .i64 b, .int .i64 p, .string data] w fun e w' =>
    e = .returned (.int .i64 (programC c b p data).1) ∧ RefAt w' R (programC c b p data).2 ∧ Stays (RFoot R) w w' := by
  by_cases hb : hasPB c b p = true
  · by_cases hs : (data.size : Int) = c.bytes
    · obtain ⟨n, m, rfl, rfl, hn, hm⟩ := hasPB_nat hb
      by_cases hmay : mayC c n = 0
      · refine (rprog_go h n m data hn hm hs hmay (tornC c).1.1 (tornC c).1.2 (tornC c).2 rfl).mono ?_
        rintro e w' ⟨he, hc, hst⟩
        have hv : programC c (n : Int) (m : Int) data = (if cleanB c n m then (if (tornC c).1.2 then 20 else 0) else 21, if cleanB c n m then (if (tornC c).1.2 then progTorn (tornC c).2 (tornC c).1.1 n m data else progFine (tornC c).2 n m data) else c) := by
          unfold programC
          rw [if_pos ⟨hb, hs⟩, Int.toNat_natCast, Int.toNat_natCast, if_pos hmay]
          cases cleanB c n m <;> cases (tornC c).1.2 <;> rfl
        rw [hv]
        exact ⟨he, hc, hst⟩
      · have hv : programC c (n : Int) (m : Int) data = (mayC c n, c) := by
          unfold programC
          rw [if_pos ⟨hb, hs⟩, Int.toNat_natCast, if_neg hmay]
        have HV := Lib.hid hv
        have hsb : ((data.size : Int) != c.bytes) = false := by simpa using hs
        have k2 : w.cell? ⟨R.a, 2, none⟩ = some (.int .i64 c.bytes) := h.ca 2 (by decide)
        have k12 : w.cell? ⟨R.a, 12, none⟩ = some (.bool c.off) := h.ca 12 (by decide)
        have k6 : w.cell? ⟨R.a, 6, none⟩ = some (.slice (some ⟨R.ww, 0, none⟩) c.nb c.nb) := h.ca 6 (by decide)
        have kw : w.cell? ⟨R.ww, n, none⟩ = some (.bool (c.worn n)) := h.cw n hn
        have hnb := h.nbn
        clear hv hs
        rcases mayC_cases c n hmay with ⟨h1, h2⟩ | ⟨h1, h2, h3⟩
        · rw [h1] at k12
          have H2 := Lib.hid h2
          clear h2 h1 hmay
          go_enter Try.func26, Try.ntmps26
          go_wp2_with fail
          refine (rpage_any h _ _).mono ?_; rintro e w' ⟨rfl, rfl⟩
          go_wp2_with fail
          go_ret
          rw [HV.out, H2.out]
          exact ⟨rfl, h, Stays.refl _ _⟩
        · rw [h1] at k12
          rw [h2] at kw
          have H3 := Lib.hid h3
          clear h3 h2 h1 hmay
          go_enter Try.func26, Try.ntmps26
          go_wp2_with fail
          refine (rpage_any h _ _).mono ?_; rintro e w' ⟨rfl, rfl⟩
          go_wp2_with fail
          go_ret
          rw [HV.out, H3.out]
          exact ⟨rfl, h, Stays.refl _ _⟩
    · have hv : programC c b p data = (1, c) := if_neg (fun hh => hs hh.2)
      have HV := Lib.hid hv
      have hsb : ((data.size : Int) != c.bytes) = true := by simpa using hs
      have k2 : w.cell? ⟨R.a, 2, none⟩ = some (.int .i64 c.bytes) := h.ca 2 (by decide)
      clear hv hs
      go_enter Try.func26, Try.ntmps26
      go_wp2_with fail
      refine (rpage_any h _ _).mono ?_; rintro e w' ⟨rfl, rfl⟩
      go_wp2_with fail
      go_ret
      rw [HV.out]
      exact ⟨rfl, h, Stays.refl _ _⟩
  · have hb' : hasPB c b p = false := by simpa using hb
    have hv : programC c b p data = (1, c) := if_neg (fun hh => hb hh.1)
    have HV := Lib.hid hv
    clear hv hb
    go_enter Try.func26, Try.ntmps26
    go_wp2_with fail
    refine (rpage_any h _ _).mono ?_; rintro e w' ⟨rfl, rfl⟩
    go_wp2_with fail
    go_ret
    rw [HV.out]
    exact ⟨rfl, h, Stays.refl _ _⟩

end Go.Proofs.Ythoadcibknaelaa
