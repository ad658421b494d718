/- The law BchEncodes. -/
import Derived.Test.YtldekkniammllaaCodH
namespace Go.Proofs.Ytldekkniammllaa
open Go.RowKit
set_option linter.unusedVariables false
set_option linter.unusedSimpArgs false

theorem below_coded {w w1 w2 : World} {c t chunk : Nat} (h : Below w.heap.size w w1) (k : Coded c t chunk w1 w2) (hc : w.heap.size ≤ c) : Below w.heap.size w w2 := by
  obtain ⟨gl, be, bl, k1, k2, k3⟩ := k
  exact Below.stays h k2.st (fun q hq => by have : q = c := hq; omega) h.size
theorem Coded.at {w w' : World} {c t chunk : Nat} (k : Coded c t chunk w w') : CodeAt w' c t chunk := by
  obtain ⟨gl, be, bl, k1, _⟩ := k
  exact .inr ⟨gl, be, bl, k1⟩
theorem settings_yes (t c : Int) (h1 : 1 ≤ t) (h2 : t ≤ 8) (h3 : 1 ≤ c) (h4 : c ≤ 256) (w : World) :
    Calls Try.prog 10 #[.int .i64 t, .int .i64 c] w fun e w' => e = .returned (.bool true) ∧ w' = w := by
  go_enter Try.func10, Try.ntmps10
  go_wp2_with fail
  go_ret
  exact ⟨congrArg (fun b => Ending.returned (.bool b)) (by first | (simp; done) | (simp; omega)), rfl⟩
theorem settings_no (t c : Int) (h : t < 1 ∨ 8 < t ∨ c < 1 ∨ 256 < c) (w : World) :
    Calls Try.prog 10 #[.int .i64 t, .int .i64 c] w fun e w' => e = .returned (.bool false) ∧ w' = w := by
  by_cases h1 : 1 ≤ t
  · by_cases h2 : t ≤ 8
    · by_cases h3 : 1 ≤ c
      · have h4 : ¬ c ≤ 256 := by omega
        go_enter Try.func10, Try.ntmps10
        go_wp2_with fail
        go_ret
        exact ⟨congrArg (fun b => Ending.returned (.bool b)) (by first | (simp; done) | (simp; omega)), rfl⟩
      · go_enter Try.func10, Try.ntmps10
        go_wp2_with fail
        go_ret
        exact ⟨congrArg (fun b => Ending.returned (.bool b)) (by first | (simp; done) | (simp; omega)), rfl⟩
    · go_enter Try.func10, Try.ntmps10
      go_wp2_with fail
      go_ret
      exact ⟨congrArg (fun b => Ending.returned (.bool b)) (by first | (simp; done) | (simp; omega)), rfl⟩
  · go_enter Try.func10, Try.ntmps10
    go_wp2_with fail
    go_ret
    exact ⟨congrArg (fun b => Ending.returned (.bool b)) (by first | (simp; done) | (simp; omega)), rfl⟩
theorem par_one : parS 1 ⟨#[1]⟩ = ⟨#[0, 216]⟩ := by
  have h : (parS 1 ⟨#[1]⟩).data = #[0, 216] := by decide +kernel
  generalize parS 1 ⟨#[1]⟩ = x at h
  cases x
  exact congrArg ByteArray.mk h

set_option maxHeartbeats 1600000 in
theorem speaks_ok (w : World) : Calls Try.prog 8 #[] w fun e w' => e = .returned (.bool true) ∧ Below w.heap.size w w' := by
  go_enter Try.func8, Try.ntmps8
  go_wp2_with fail
  go_at_call 9
  refine (New_yes 1 1 (by decide) (by decide) (by decide) (by decide) w).mono ?_
  rintro e w1 ⟨rfl, hf, hb⟩
  obtain ⟨c, hc⟩ : ∃ c, c = w.heap.size := ⟨_, rfl⟩
  rw [← hc] at hf ⊢
  have HE := Lib.hid (Encode_any c 1 1 ⟨#[1]⟩ rfl (by decide) (by decide) (by decide) w1 (.inl hf))
  rw [par_one] at HE
  have HB := Lib.hid hb
  have HC := Lib.hid hc
  clear hf hb hc
  go_wp2_with fail
  go_at_call 11
  refine HE.out.mono ?_
  rintro e w2 ⟨rfl, hk⟩
  have HP := Lib.hid (Parity_any c 1 1 (by decide) (by decide) w2 hk.at)
  have HB2 : Hid (Below w.heap.size w w2) := Lib.hid (below_coded HB.out hk (by rw [HC.out]; exact Nat.le_refl _))
  clear hk HE
  go_wp2_with fail
  go_at_call 13
  refine HP.out.mono ?_
  rintro e w3 ⟨rfl, hk⟩
  have HB3 : Hid (Below w.heap.size w w3) := Lib.hid (below_coded HB2.out hk (by rw [HC.out]; exact Nat.le_refl _))
  rw [show parN 1 = 2 from rfl]
  clear hk HP
  go_wp2_with fail
  go_ret
  refine ⟨?_, HB3.out⟩
  rfl

set_option maxHeartbeats 3200000 in
theorem BchEncodes_walk (a0 a1 : Int) (s : ByteArray) (w : World) (w0 : (Lit.int .i64 a0).wf = true) (w1 : (Lit.int .i64 a1).wf = true) (hs : s.size ≤ 140737488351232) :
    Calls Try.prog 3 #[.int .i64 a0, .int .i64 a1, .string s] w fun e w' => e = .returned (.bool true) ∧ Below w.heap.size w w' := by
  clear w0 w1 hs
  have HSP := Lib.hid (speaks_ok w)
  go_enter Try.func3, Try.ntmps3
  go_wp2_with fail
  go_at_call 8
  refine HSP.out.mono ?_
  rintro e w1 ⟨rfl, hb1⟩
  have HB1 := Lib.hid hb1
  have hs1 := hb1.size
  clear hb1 HSP
  by_cases hok : 1 ≤ a0 ∧ a0 ≤ 8 ∧ 1 ≤ a1 ∧ a1 ≤ 256
  · obtain ⟨h1, h2, h3, h4⟩ := hok
    have HST := Lib.hid (fun w => settings_yes a0 a1 h1 h2 h3 h4 w)
    obtain ⟨t, rfl⟩ := Int.eq_ofNat_of_zero_le (show 0 ≤ a0 by omega)
    obtain ⟨chunk, rfl⟩ := Int.eq_ofNat_of_zero_le (show 0 ≤ a1 by omega)
    have ht1 : 1 ≤ t := by omega
    have ht8 : t ≤ 8 := by omega
    have hc1 : 1 ≤ chunk := by omega
    have hc256 : chunk ≤ 256 := by omega
    go_wp2_with fail
    go_at_call 9
    refine (New_yes t chunk ht1 ht8 hc1 hc256 w1).mono ?_
    rintro e w2 ⟨rfl, hf, hb⟩
    obtain ⟨c, hc⟩ : ∃ c, c = w1.heap.size := ⟨_, rfl⟩
    rw [← hc] at hf ⊢
    have HF := Lib.hid hf
    have HB2 : Hid (Below w.heap.size w w2) := Lib.hid (HB1.out.trans (hb.mono hs1))
    have hwc : w.heap.size ≤ c := by omega
    clear hf hb hc
    go_wp2_with fail
    go_at_call 10
    refine (HST.out w2).mono ?_
    rintro e w' ⟨rfl, hw'⟩
    obtain rfl := hw'.symm
    have hpn : (((13 * t : Nat) : Int) + 7) / 8 = ((parN t : Nat) : Int) := by unfold parN; omega
    have hd13 : 13 * t ≤ 104 := by omega
    have hpn8 : parN t ≤ 13 := par_le ht8
    obtain ⟨d, hd⟩ : ∃ d, d = 13 * t := ⟨_, rfl⟩
    obtain ⟨nb, hnb⟩ : ∃ nb, nb = parN t := ⟨_, rfl⟩
    rw [← hd, ← hnb] at hpn
    rw [← hd] at hd13
    rw [← hnb] at hpn8
    have HDEG : Hid (∀ w, Calls Try.prog 12 #[.int .i64 (t : Int)] w fun e w' => e = .returned (.int .i64 ((d : Nat) : Int)) ∧ Below w.heap.size w w') := Lib.hid (fun w => by rw [hd]; exact rdegree_any t ht1 ht8 w)
    have HPAR : Hid (∀ w, CodeAt w c t chunk → Calls Try.prog 13 #[.pointer (some ⟨c, 0, none⟩)] w fun e w' => e = .returned (.int .i64 ((nb : Nat) : Int)) ∧ Coded c t chunk w w') := Lib.hid (fun w h => by rw [hnb]; exact Parity_any c t chunk ht1 ht8 w h)
    clear hd hnb HST h1 h2 h3 h4
    by_cases hsz : s.size = chunk
    · have hne : ((s.size : Int) != (chunk : Int)) = false := by simp; omega
      have HE := Lib.hid (Encode_any c t chunk s hsz hc256 ht1 ht8 w2 (.inl HF.out))
      have HRE := Lib.hid (fun w => rencode_any t ht1 ht8 s (by omega) w)
      obtain ⟨P, hP⟩ : ∃ P, P = parS t s := ⟨_, rfl⟩
      rw [← hP] at HE HRE
      have HSZ := Lib.hid hsz
      clear hsz hP
      go_wp2_with fail
      go_at_call 11
      refine HE.out.mono ?_
      rintro e w3 ⟨rfl, hk⟩
      have HK3 := Lib.hid hk.at
      have HB3 : Hid (Below w.heap.size w w3) := Lib.hid (below_coded HB2.out hk hwc)
      clear hk HE
      go_wp2_with fail
      go_at_call 12
      refine (HDEG.out w3).mono ?_
      rintro e w4 ⟨rfl, hb4⟩
      have HK4 := Lib.hid (HK3.out.below hb4)
      have HB4 : Hid (Below w.heap.size w w4) := Lib.hid (HB3.out.trans (hb4.mono HB3.out.size))
      clear hb4
      go_wp2_with fail
      go_at_call 13
      refine (HPAR.out w4 HK4.out).mono ?_
      rintro e w5 ⟨rfl, hk⟩
      have HB5 : Hid (Below w.heap.size w w5) := Lib.hid (below_coded HB4.out hk hwc)
      clear hk
      go_wp2_with fail
      go_at_call 14
      refine (HRE.out w5).mono ?_
      rintro e w6 ⟨rfl, hb6⟩
      have HB6 : Hid (Below w.heap.size w w6) := Lib.hid (HB5.out.trans (hb6.mono HB5.out.size))
      clear hb6
      go_wp2_with fail
      go_ret
      refine ⟨?_, HB6.out⟩
      rfl
    · have hne : ((s.size : Int) != (chunk : Int)) = true := by simp; omega
      have HE := Lib.hid (Encode_long c t chunk s hsz w2 HF.out.h1)
      clear hsz
      go_wp2_with fail
      go_at_call 11
      refine HE.out.mono ?_
      rintro e w' ⟨rfl, hw'⟩
      obtain rfl := hw'.symm
      clear HE
      go_wp2_with fail
      go_at_call 12
      refine (HDEG.out _).mono ?_
      rintro e w4 ⟨rfl, hb4⟩
      have HK4 : Hid (CodeAt w4 c t chunk) := Lib.hid (CodeAt.below (.inl HF.out) hb4)
      have HB4 : Hid (Below w.heap.size w w4) := Lib.hid (HB2.out.trans (hb4.mono HB2.out.size))
      clear hb4
      go_wp2_with fail
      go_at_call 13
      refine (HPAR.out w4 HK4.out).mono ?_
      rintro e w5 ⟨rfl, hk⟩
      have HB5 : Hid (Below w.heap.size w w5) := Lib.hid (below_coded HB4.out hk hwc)
      clear hk
      go_wp2_with fail
      go_ret
      refine ⟨?_, HB5.out⟩
      rfl
  · have hbad : a0 < 1 ∨ 8 < a0 ∨ a1 < 1 ∨ 256 < a1 := by omega
    have HST := Lib.hid (fun w => settings_no a0 a1 hbad w)
    have HN := Lib.hid (New_no a0 a1 hbad w1)
    clear hok hbad
    go_wp2_with fail
    go_at_call 9
    refine HN.out.mono ?_
    rintro e w' ⟨rfl, hw'⟩
    obtain rfl := hw'.symm
    go_wp2_with fail
    go_at_call 10
    refine (HST.out _).mono ?_
    rintro e w' ⟨rfl, hw'⟩
    obtain rfl := hw'.symm
    go_wp2_with fail
    go_ret
    refine ⟨?_, HB1.out⟩
    rfl
end Go.Proofs.Ytldekkniammllaa
