/- What the calls on a chip come to: Counts, Wear, Spoil, Is. -/
import Derived.Test.YthoadcibknaelaaOpB
import Derived.Deep.QuietTactic
import Derived.BigQuiet
namespace Go.Proofs.Ythoadcibknaelaa
open Go.RowKit
set_option linter.unusedVariables false
set_option linter.unusedSimpArgs false
variable {L : Lay} {c : Chp} {w : World}

theorem hasB_nat {b : Int} (h : hasB c b = true) : ∃ n : Nat, b = n ∧ n < c.nb := by
  simp [hasB] at h
  exact ⟨b.toNat, by omega, by omega⟩
theorem hasPB_nat {b p : Int} (h : hasPB c b p = true) : ∃ n m : Nat, b = n ∧ p = m ∧ n < c.nb ∧ m < c.np := by
  simp [hasPB, hasB] at h
  exact ⟨b.toNat, p.toNat, by omega, by omega, by omega, by omega⟩

def countsC (c : Chp) (b : Int) : Int × Int := if hasB c b = true then (c.er b.toNat, c.rd b.toNat) else (0, 0)

set_option maxHeartbeats 400000 in
theorem counts_any (h : ChipAt w L c) (b : Int) : Calls Try.prog 20 #[.pointer (some ⟨L.a, 0, none⟩), .int .i64 b] w fun e w' =>
    e = .returned (.tuple #[.int .i64 (countsC c b).1, .int .i64 (countsC c b).2]) ∧ ∃ k, w' = w.drewN k := by
  have hc0 := h.c0
  have hnb := h.nbn
  by_cases hb : hasB c b = true
  · have hv : countsC c b = (c.er b.toNat, c.rd b.toNat) := if_pos hb
    have HV := Lib.hid hv
    clear hv
    obtain ⟨n, rfl, hn⟩ := hasB_nat hb
    have hb1 := h.b1 n hn
    have hb2 := h.b2 n hn
    go_enter Try.func20, Try.ntmps20
    go_wp2_with (go_at_call 37; refine (has_any h _).mono ?_; rintro e w' ⟨rfl, rfl⟩)
    go_quiet (fail)
    go_wp2
    go_ret2
    exact ⟨by rw [HV.out]; rfl, _, rfl⟩
  · have hb' : hasB c b = false := by simpa using hb
    have hv : countsC c b = (0, 0) := if_neg hb
    have HV := Lib.hid hv
    clear hv hb
    go_enter Try.func20, Try.ntmps20
    go_wp2_with (go_at_call 37; refine (has_any h _).mono ?_; rintro e w' ⟨rfl, rfl⟩)
    go_ret2
    exact ⟨by rw [HV.out]; rfl, 0, rfl⟩
set_option maxHeartbeats 400000 in
theorem counts_nil (b : Int) (w : World) : Calls Try.prog 20 #[.pointer none, .int .i64 b] w fun e w' =>
    e = .returned (.tuple #[.int .i64 0, .int .i64 0]) ∧ w = w' := by
  go_enter Try.func20, Try.ntmps20
  go_wp2_with (go_at_call 37; refine (has_nil _ _).mono ?_; rintro e w' ⟨rfl, rfl⟩)
  go_ret2
  exact ⟨rfl, rfl⟩

def wearC (c : Chp) (b : Int) : Int × Chp := if hasB c b = true then (0, { c with worn := upd c.worn b.toNat true }) else (1, c)

set_option maxHeartbeats 400000 in
theorem wear_any (h : ChipAt w L c) (b : Int) : Calls Try.prog 23 #[.pointer (some ⟨L.a, 0, none⟩), .int .i64 b] w fun e w' =>
    e = .returned (.int .i64 (wearC c b).1) ∧ ChipAt w' L (wearC c b).2 ∧ Stays (Foot L c.nb) w w' := by
  have hc0 := h.c0
  have hnb := h.nbn
  have hfb := h.fb
  by_cases hb : hasB c b = true
  · have hv : wearC c b = (0, { c with worn := upd c.worn b.toNat true }) := if_pos hb
    have HV := Lib.hid hv
    clear hv
    obtain ⟨n, rfl, hn⟩ := hasB_nat hb
    have hb3 := h.b3 n hn
    go_enter Try.func23, Try.ntmps23
    go_wp2_with (go_at_call 37; refine (has_any h _).mono ?_; rintro e w' ⟨rfl, rfl⟩)
    go_ret
    rw [HV.out]
    exact ⟨rfl, h.sWn n hn true, (Stays.refl _ _).setCell (foot_b _ _) _⟩
  · have hb' : hasB c b = false := by simpa using hb
    have hv : wearC c b = (1, c) := if_neg hb
    have HV := Lib.hid hv
    clear hv hb
    go_enter Try.func23, Try.ntmps23
    go_wp2_with (go_at_call 37; refine (has_any h _).mono ?_; rintro e w' ⟨rfl, rfl⟩)
    go_ret
    rw [HV.out]
    exact ⟨rfl, h, Stays.refl _ _⟩
set_option maxHeartbeats 400000 in
theorem wear_nil (b : Int) (w : World) : Calls Try.prog 23 #[.pointer none, .int .i64 b] w fun e w' => e = .returned (.int .i64 1) ∧ w = w' := by
  go_enter Try.func23, Try.ntmps23
  go_wp2_with (go_at_call 37; refine (has_nil _ _).mono ?_; rintro e w' ⟨rfl, rfl⟩)
  go_ret
  exact ⟨rfl, rfl⟩

def spoilC (c : Chp) (b p : Int) : Int × Chp :=
  if hasPB c b p = true then (0, if (c.pg b.toNat p.toNat).st = 1 then { c with pg := upd2 c.pg b.toNat p.toNat { c.pg b.toNat p.toNat with st := 2 } } else c) else (1, c)

set_option maxHeartbeats 400000 in
theorem spoil_any (h : ChipAt w L c) (b p : Int) : Calls Try.prog 22 #[.pointer (some ⟨L.a, 0, none⟩), .int .i64 b, .int .i64 p] w fun e w' =>
    e = .returned (.int .i64 (spoilC c b p).1) ∧ ChipAt w' L (spoilC c b p).2 ∧ Stays (Foot L c.nb) w w' := by
  have hc0 := h.c0
  have hnb := h.nbn
  have hnp := h.npn
  by_cases hb : hasPB c b p = true
  · have hv : spoilC c b p = (0, if (c.pg b.toNat p.toNat).st = 1 then { c with pg := upd2 c.pg b.toNat p.toNat { c.pg b.toNat p.toNat with st := 2 } } else c) := if_pos hb
    have HV := Lib.hid hv
    clear hv
    obtain ⟨n, m, rfl, rfl, hn, hm⟩ := hasPB_nat hb
    have hb0 := h.b0 n hn
    have hp0 := h.p0 n hn m hm
    have hfp := h.fp n hn
    by_cases e1 : (c.pg n m).st = 1
    · have e1b : ((c.pg n m).st == 1) = true := by simpa using e1
      have E1 := Lib.hid e1
      clear e1
      go_enter Try.func22, Try.ntmps22
      go_wp2_with (go_at_call 32; refine (hasPage_any h _ _).mono ?_; rintro e w' ⟨rfl, rfl⟩)
      go_ret
      rw [HV.out]
      simp only [Int.toNat_natCast]
      rw [if_pos E1.out]
      exact ⟨rfl, h.sSt n hn m hm 2, (Stays.refl _ _).setCell (foot_p _ _ n hn) _⟩
    · have e1b : ((c.pg n m).st == 1) = false := by simpa using e1
      go_enter Try.func22, Try.ntmps22
      go_wp2_with (go_at_call 32; refine (hasPage_any h _ _).mono ?_; rintro e w' ⟨rfl, rfl⟩)
      go_ret
      rw [HV.out]
      simp only [Int.toNat_natCast]
      rw [if_neg e1]
      exact ⟨rfl, h, Stays.refl _ _⟩
  · have hb' : hasPB c b p = false := by simpa using hb
    have hv : spoilC c b p = (1, c) := if_neg hb
    have HV := Lib.hid hv
    clear hv hb
    go_enter Try.func22, Try.ntmps22
    go_wp2_with (go_at_call 32; refine (hasPage_any h _ _).mono ?_; rintro e w' ⟨rfl, rfl⟩)
    go_ret
    rw [HV.out]
    exact ⟨rfl, h, Stays.refl _ _⟩
set_option maxHeartbeats 400000 in
theorem spoil_nil (b p : Int) (w : World) : Calls Try.prog 22 #[.pointer none, .int .i64 b, .int .i64 p] w fun e w' => e = .returned (.int .i64 1) ∧ w = w' := by
  go_enter Try.func22, Try.ntmps22
  go_wp2_with (go_at_call 32; refine (hasPage_nil _ _ _).mono ?_; rintro e w' ⟨rfl, rfl⟩)
  go_ret
  exact ⟨rfl, rfl⟩

def isB (c : Chp) (x y z : Int) : Bool := ((c.nb : Int) == x) && (((c.np : Int) == y) && (c.bytes == z))

set_option maxHeartbeats 400000 in
theorem is_any (h : ChipAt w L c) (x y z : Int) : Calls Try.prog 30 #[.pointer (some ⟨L.a, 0, none⟩), .int .i64 x, .int .i64 y, .int .i64 z] w fun e w' => e = .returned (.bool (isB c x y z)) ∧ w = w' := by
  have hc0 := h.c0
  have hc1 := h.c1
  have hb0 := h.b0 0 h.nb0
  have n0 := h.nb0
  have hnb := h.nbn
  cases e1 : ((c.nb : Int) == x) with
  | false =>
    go_enter Try.func30, Try.ntmps30
    go_wp2
    go_ret
    exact ⟨by simp [isB, e1], rfl⟩
  | true =>
    cases e2 : ((c.np : Int) == y) with
    | false =>
      go_enter Try.func30, Try.ntmps30
      go_wp2
      go_ret
      exact ⟨by simp [isB, e1, e2], rfl⟩
    | true =>
      go_enter Try.func30, Try.ntmps30
      go_wp2
      go_ret
      exact ⟨by simp [isB, e1, e2], rfl⟩

end Go.Proofs.Ythoadcibknaelaa
