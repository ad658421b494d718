/- Rows of words: add. -/
import Derived.Test.YtldekkniammllaaBchX
namespace Go.Proofs.Ytldekkniammllaa
open Go.RowKit
set_option linter.unusedVariables false
set_option linter.unusedSimpArgs false

theorem wrap_shl64 (v l : Nat) : IntKind.u64.wrap ((v : Int) * 2 ^ l) = (((v <<< l) % 2 ^ 64 : Nat) : Int) := by
  have h2 : ((2 ^ l : Nat) : Int) = (2 : Int) ^ l := by simp
  rw [← h2, ← Int.natCast_mul, IntKind.wrap_u64, Nat.shiftLeft_eq]
  generalize v * 2 ^ l = p
  omega
theorem div_shr (v s : Nat) : (v : Int) / 2 ^ s = ((v >>> s : Nat) : Int) := by
  have h2 : ((2 ^ s : Nat) : Int) = (2 : Int) ^ s := by simp
  rw [← h2, Nat.shiftRight_eq_div_pow, Int.natCast_ediv]
theorem room1 {B k up n : Nat} (h : wd B k ≠ 0) (hlt : B <<< up < 2 ^ (64 * n)) : 64 * k + up < 64 * n := by
  have h1 := wd_ne B k h
  rcases Nat.lt_or_ge (64 * k + up) (64 * n) with h2 | h2
  · exact h2
  · have h3 : 2 ^ (64 * n) ≤ 2 ^ (64 * k + up) := Nat.pow_le_pow_right (by decide) h2
    rw [Nat.shiftLeft_eq] at hlt
    have h4 : 2 ^ (64 * k) * 2 ^ up ≤ B * 2 ^ up := Nat.mul_le_mul_right _ h1
    rw [← Nat.pow_add] at h4
    omega
theorem room2 {B k up n s : Nat} (h : wd B k >>> s ≠ 0) (hlt : B <<< up < 2 ^ (64 * n)) : 64 * k + s + up < 64 * n := by
  have h1 : 2 ^ s ≤ wd B k := by
    rcases Nat.lt_or_ge (wd B k) (2 ^ s) with h2 | h2
    · exact absurd (by rw [Nat.shiftRight_eq_div_pow, Nat.div_eq_of_lt h2]) h
    · exact h2
  have h2 : wd B k ≤ B / 2 ^ (64 * k) := by
    unfold wd
    rw [Nat.shiftRight_eq_div_pow]
    exact Nat.mod_le _ _
  have h3 : 2 ^ s * 2 ^ (64 * k) ≤ B := (Nat.le_div_iff_mul_le (Nat.two_pow_pos _)).mp (Nat.le_trans h1 h2)
  rw [← Nat.pow_add, Nat.add_comm] at h3
  rcases Nat.lt_or_ge (64 * k + s + up) (64 * n) with h4 | h4
  · exact h4
  · have h5 : 2 ^ (64 * n) ≤ 2 ^ (64 * k + s + up) := Nat.pow_le_pow_right (by decide) h4
    rw [Nat.shiftLeft_eq] at hlt
    have h6 : 2 ^ (64 * k + s) * 2 ^ up ≤ B * 2 ^ up := Nat.mul_le_mul_right _ h3
    rw [← Nat.pow_add] at h6
    omega
theorem add_skip {A B up k : Nat} (h : wd B k = 0) : A ^^^ ((B % 2 ^ (64 * (k + 1))) <<< up) = A ^^^ ((B % 2 ^ (64 * k)) <<< up) := by
  rw [shl_xor_words, h]; simp
/-- One store, and no overlap into the next word. -/
theorem add_one {w : World} {g n A B up k q l : Nat} (h : WRow w g n (A ^^^ ((B % 2 ^ (64 * k)) <<< up))) (hu : up = 64 * q + l) (hl : l < 64) (hz : wd B k >>> (64 - l) = 0) :
    WRow (w.setCell ⟨g, k + q, none⟩ (.int .u64 (((wd (A ^^^ ((B % 2 ^ (64 * k)) <<< up)) (k + q) ^^^ ((wd B k <<< l) % 2 ^ 64) : Nat) : Nat) : Int))) g n (A ^^^ ((B % 2 ^ (64 * (k + 1))) <<< up)) := by
  refine WRow.put h fun j => ?_
  rw [shl_xor_words, show 64 * k + up = 64 * (k + q) + l by omega, wd_add _ _ _ _ _ (wd_lt B k) hl]
  split <;> rename_i hj
  · rw [hj]
  · split <;> rename_i hj2
    · rw [hz, Nat.xor_zero]
    · rfl
theorem add_two {w : World} {g n A B up k q l : Nat} (h : WRow w g n (A ^^^ ((B % 2 ^ (64 * k)) <<< up))) (hu : up = 64 * q + l) (hl : l < 64) :
    WRow ((w.setCell ⟨g, k + q, none⟩ (.int .u64 (((wd (A ^^^ ((B % 2 ^ (64 * k)) <<< up)) (k + q) ^^^ ((wd B k <<< l) % 2 ^ 64) : Nat) : Nat) : Int))).setCell ⟨g, k + q + 1, none⟩ (.int .u64 (((wd (A ^^^ ((B % 2 ^ (64 * k)) <<< up)) (k + q + 1) ^^^ (wd B k >>> (64 - l)) : Nat) : Nat) : Int))) g n (A ^^^ ((B % 2 ^ (64 * (k + 1))) <<< up)) := by
  refine (Row.set (Row.set h _ _) _ _).congr fun j hj => ?_
  rw [shl_xor_words, show 64 * k + up = 64 * (k + q) + l by omega, wd_add _ _ _ _ _ (wd_lt B k) hl]
  by_cases e1 : j = k + q
  · subst e1
    rw [upd_other _ _ (by omega), upd_same, if_pos rfl]
  · by_cases e2 : j = k + q + 1
    · subst e2
      rw [upd_same, if_neg e1, if_pos rfl]
    · rw [upd_other _ _ e2, upd_other _ _ e1, if_neg e1, if_neg e2]

set_option maxHeartbeats 1600000 in
theorem rowadd_any (g n c h m d A B up : Nat) (w : World) (hr : WRow w g n A) (ho : WRow w h m B) (hgh : g ≠ h) (hup : up ≤ 16448) (hm : m ≤ 258) (hn : n ≤ 258) (hB : B < 2 ^ (64 * m)) (hlt : B <<< up < 2 ^ (64 * n)) (lh : h < w.heap.size) :
    Calls Try.prog 67 #[.slice (some ⟨g, 0, none⟩) n c, .slice (some ⟨h, 0, none⟩) m d, .int .i64 (up : Int)] w fun x w' => x = .returned (.tuple #[]) ∧ WRow w' g n (A ^^^ (B <<< up)) ∧ Stays (· = g) w w' := by
  obtain ⟨q, hq⟩ : ∃ q, q = up / 64 := ⟨_, rfl⟩
  obtain ⟨l, hl⟩ : ∃ l, l = up % 64 := ⟨_, rfl⟩
  have hqi : (up : Int) / 64 = (q : Int) := by omega
  have hri : (up : Int) % 64 = (l : Int) := by omega
  have hl64 : l < 64 := by omega
  have hu : up = 64 * q + l := by omega
  have hq2 : q ≤ 258 := by omega
  have HU := Lib.hid hu
  have HLT := Lib.hid hlt
  have HB := Lib.hid hB
  have HR := Lib.hid hr
  have HO := Lib.hid ho
  clear hq hl hu hlt hB hr ho
  go_enter Try.func67, Try.ntmps67
  go_wp2
  rw [hri]
  go_loopw [16] (fun i wr => ∃ k : Nat, k ≤ m ∧ i = .int .i64 k ∧ WRow wr g n (A ^^^ ((B % 2 ^ (64 * k)) <<< up)) ∧ Stays (· = g) w wr) (fun i _ => m - (intOf i).toNat)
  case atStart => exact ⟨0, Nat.zero_le _, rfl, by simpa [Nat.mod_one] using HR.out, Stays.refl _ _⟩
  case round =>
    obtain ⟨k, hk, rfl, hrow, hst⟩ := hrel
    by_cases hkm : k < m
    · have hor := HO.out.stays hst lh (Ne.symm hgh)
      have hcv := hor.cell k hkm
      obtain ⟨v, hv⟩ : ∃ v, v = wd B k := ⟨_, rfl⟩
      have hv64 : v < 18446744073709551616 := hv ▸ wd_lt B k
      by_cases hz : wd B k = 0
      · have HZ := Lib.hid hz
        rw [hz] at hcv
        have HW := Lib.hid hrow
        have HS := Lib.hid hst
        clear hrow hst hz hv hv64 hor
        go_wp2
        go_roundw
        case rel => exact ⟨k + 1, by omega, by go_num, by rw [add_skip HZ.out]; exact HW.out, HS.out⟩
        case measure => simp [intOf]; omega
      · have hrm := room1 hz HLT.out
        have hkq : k + q < n := by have := HU.out; omega
        have hvz : (((v : Nat) : Int) == 0) = false := by simp; omega
        have hc1 := hrow.cell (k + q) hkq
        have hf1 := hrow.free (k + q)
        have hf2 := hrow.free (k + q + 1)
        have hc2 := hrow.cell (k + q + 1)
        have hrv : wd B k >>> (64 - l) ≠ 0 → k + q + 1 < n := fun h => by
          have := room2 h HLT.out
          have := HU.out
          omega
        rw [← hv] at hcv hrv
        have hwo := add_one (l := l) hrow HU.out hl64
        have hwt := add_two (l := l) hrow HU.out hl64
        rw [← hv] at hwo hwt
        obtain ⟨R, hR⟩ : ∃ R, R = A ^^^ ((B % 2 ^ (64 * k)) <<< up) := ⟨_, rfl⟩
        rw [← hR] at hrow hc1 hc2 hwo hwt
        obtain ⟨s, hs⟩ : ∃ s, s = 64 - l := ⟨_, rfl⟩
        rw [← hs] at hwo hwt hrv
        have hsi : 64 - (l : Int) = (s : Int) := by omega
        have hs1 : 1 ≤ s := by omega
        have hs2 : s ≤ 64 := by omega
        have hkqi : (k : Int) + (q : Int) < (n : Int) := by omega
        have HHV := Lib.hid hv
        have HHR := Lib.hid hR
        have HHS := Lib.hid hs
        have HW := Lib.hid hrow
        have HST := Lib.hid hst
        have HWO := Lib.hid hwo
        have HWT := Lib.hid hwt
        have HC2 := Lib.hid hc2
        have HRV := Lib.hid hrv
        have HRM := Lib.hid hrm
        clear hv hR hs hrow hst hwo hwt hc2 hrv hrm hz hor
        have hval : bits BinOp.xor .u64 ((wd R (k + q) : Nat) : Int) (IntKind.u64.wrap ((v : Int) * 2 ^ l)) = (((wd R (k + q) ^^^ ((v <<< l) % 2 ^ 64) : Nat)) : Int) := by
          rw [wrap_shl64, bits_xor_u64_nat _ _ (wd_lt _ _) (Nat.mod_lt _ (by decide))]
        have hval2 : bits BinOp.xor .u64 ((wd R (k + q + 1) : Nat) : Int) ((v : Int) / 2 ^ s) = (((wd R (k + q + 1) ^^^ (v >>> s) : Nat)) : Int) := by
          rw [div_shr, bits_xor_u64_nat _ _ (wd_lt _ _) (Nat.lt_of_le_of_lt (by rw [Nat.shiftRight_eq_div_pow]; exact Nat.div_le_self _ _) hv64)]
        have HVL := Lib.hid hval
        have HVL2 := Lib.hid hval2
        clear hval hval2
        go_wp2_with fail
        go_region
        go_wp2_with fail
        · have ht : (((v : Nat) : Int) / 2 ^ s != 0) = true := by assumption
          have hvs : v >>> s ≠ 0 := by
            intro h0
            rw [div_shr, h0] at ht
            simp at ht
          have hkq1 := HRV.out hvs
          have hc2 := HC2.out hkq1
          have hkq1i : (k : Int) + (q : Int) + 1 < (n : Int) := by omega
          clear hvs
          go_region
          go_wp2_with fail
          go_roundw
          case rel => exact ⟨k + 1, by omega, by go_num, by rw [HVL.out, HVL2.out]; exact Row.drew (Row.drew HWT.out), by rw [HVL.out, HVL2.out]; exact Stays.drew (Stays.drew ((HST.out.trans Row.stay).trans Row.stay))⟩
          case measure => simp [intOf]; omega
        · have ht : (((v : Nat) : Int) / 2 ^ s != 0) = false := by assumption
          have hvs : v >>> s = 0 := by
            rw [div_shr] at ht
            by_cases h0 : v >>> s = 0
            · exact h0
            · have : (((v >>> s : Nat) : Int) != 0) = true := by simp only [bne_iff_ne, ne_eq]; omega
              rw [this] at ht; cases ht
          have HV := Lib.hid hvs
          clear hvs
          go_roundw
          case rel => exact ⟨k + 1, by omega, by go_num, by rw [HVL.out]; exact Row.drew (HWO.out HV.out), by rw [HVL.out]; exact Stays.drew (HST.out.trans Row.stay)⟩
          case measure => simp [intOf]; omega
        · have hl0 : l = 0 := by omega
          have hvs : v >>> s = 0 := by
            rw [HHS.out, hl0, Nat.shiftRight_eq_div_pow]
            exact Nat.div_eq_of_lt hv64
          have HV := Lib.hid hvs
          clear hvs hl0
          go_roundw
          case rel => exact ⟨k + 1, by omega, by go_num, by rw [HVL.out]; exact Row.drew (HWO.out HV.out), by rw [HVL.out]; exact Stays.drew (HST.out.trans Row.stay)⟩
          case measure => simp [intOf]; omega
    · have hkm2 : k = m := by omega
      subst hkm2
      have HW := Lib.hid hrow
      have HS := Lib.hid hst
      clear hrow hst
      go_wp2
      go_end0
      refine ⟨rfl, ?_, HS.out⟩
      have := HW.out
      rw [Nat.mod_eq_of_lt HB.out] at this
      exact this
end Go.Proofs.Ytldekkniammllaa
