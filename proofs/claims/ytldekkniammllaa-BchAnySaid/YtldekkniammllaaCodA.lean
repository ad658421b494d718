/- The register of the division: left, divide. -/
import Derived.Test.YtldekkniammllaaRefE
import Derived.Test.YtldekkniammllaaCodP
namespace Go.Proofs.Ytldekkniammllaa
open Go.RowKit
set_option linter.unusedVariables false
set_option linter.unusedSimpArgs false

/-- A row of n bytes that is the number V. -/
def VRow (w : World) (g n V : Nat) : Prop := Row w g n (fun j => .int .u8 ((byteAt n V j : Nat) : Int))
theorem VRow.stays {w w' : World} {g n V : Nat} {S : Nat → Prop} (h : VRow w g n V) (k : Stays S w w') (hg : g < w.heap.size) (hs : ¬ S g) : VRow w' g n V := Row.stays h k hg hs
/-- What left has done, down to byte i. -/
def lft (n V i j : Nat) : Nat := if i ≤ j then byteAt n (2 * V) j else byteAt n V j
theorem VRow.mod {w : World} {g n V : Nat} (h : VRow w g n V) : VRow w g n (V % 2 ^ (8 * n)) := by
  refine Row.congr h fun j hj => ?_
  congr 2
  apply Nat.eq_of_testBit_eq
  intro t
  rw [byteAt_bit, byteAt_bit, Nat.testBit_mod_two_pow]
  by_cases ht : t < 8
  · have : 8 * (n - 1 - j) + t < 8 * n := by omega
    simp [ht, this]
  · simp [ht]

set_option maxHeartbeats 1600000 in
/-- One place left; what falls out. -/
theorem left_any (g n c V : Nat) (w : World) (h : VRow w g n V) (hn0 : 0 < n) (hn : n ≤ 1000) :
    Calls Try.prog 32 #[.slice (some ⟨g, 0, none⟩) n c] w fun x w' => x = .returned (.int .u8 (((V >>> (8 * n - 1)) % 2 : Nat) : Int)) ∧ VRow w' g n ((2 * V) % 2 ^ (8 * n)) ∧ Stays (· = g) w w' := by
  have HH := Lib.hid h
  clear h
  go_enter Try.func32, Try.ntmps32
  go_wp2_with fail
  go_loopw [3, 4] (fun ov iv wr => ∃ (i o : Nat), i ≤ n ∧ iv = .int .i64 ((i : Int) - 1) ∧ ov = .int .u8 (o : Int) ∧ Hid (o = if i < n then (V >>> (8 * (n - i) - 1)) % 2 else 0) ∧ Hid (Row wr g n (fun j => .int .u8 ((lft n V i j : Nat) : Int))) ∧ Hid (Stays (· = g) w wr)) (fun _ iv _ => (intOf iv + 1).toNat)
  case atStart => exact ⟨n, 0, Nat.le_refl _, rfl, rfl, Lib.hid (by rw [if_neg (by omega)]), Lib.hid (HH.out.congr fun j hj => by unfold lft; rw [if_neg (by omega)]), Lib.hid (Stays.refl _ _)⟩
  case round =>
    obtain ⟨i, o, hi, rfl, rfl, HO, HR, HS⟩ := hrel
    obtain ⟨wq, rfl⟩ : ∃ wq : World, wq = wr := ⟨_, rfl⟩
    have ho2 : o < 2 := by rw [HO.out]; split <;> omega
    by_cases h0 : 0 < i
    · obtain ⟨k, rfl⟩ : ∃ k, i = k + 1 := ⟨i - 1, by omega⟩
      have hki : ((k + 1 : Nat) : Int) - 1 = (k : Int) := by omega
      rw [hki]
      have hc : wq.cell? ⟨g, k, none⟩ = some (.int .u8 ((byteAt n V k : Nat) : Int)) := by
        have := HR.out.cell k (by omega)
        rw [this]; unfold lft; rw [if_neg (by omega)]
      have hf := HR.out.free k
      have hb := byteAt_lt n V k
      have hleft := byte_left (n := n) (V := V) (j := k) (by omega) o (by rw [HO.out, show 8 * (n - (k + 1)) = 8 * (n - 1 - k) by omega])
      have hout : byteAt n V k / 128 = if k < n then (V >>> (8 * (n - k) - 1)) % 2 else 0 := by
        rw [if_pos (by omega)]
        unfold byteAt
        rw [show 8 * (n - k) - 1 = 8 * (n - 1 - k) + 7 by omega, Nat.shiftRight_add]
        generalize V >>> (8 * (n - 1 - k)) = x
        rw [Nat.shiftRight_eq_div_pow]
        have : (2 : Nat) ^ 7 = 128 := rfl
        have h2 : (2 : Nat) ^ 8 = 256 := rfl
        rw [this, h2]; omega
      obtain ⟨x, hx⟩ : ∃ x, x = byteAt n V k := ⟨_, rfl⟩
      rw [← hx] at hc hb hleft hout
      have hor := or_u8 ((x * 2) % 256) o (by omega) (by omega)
      rw [← hleft] at hor
      have hwr : (((x * 2) % 256 : Nat) : Int) = IntKind.u8.wrap ((x : Int) * 2) := by rw [IntKind.wrap_u8]; omega
      rw [hwr] at hor
      have HX := Lib.hid hx
      have HOUT := Lib.hid hout
      have HL := Lib.hid hleft
      have HOR := Lib.hid hor
      have hkn : (k : Int) < (n : Int) := by omega
      clear hx hout hleft hor hwr hki
      go_wp2_with fail
      go_region
      go_wp2_with fail
      have hR2 : Row (wq.setCell ⟨g, k, none⟩ (.int .u8 (bits BinOp.or .u8 (IntKind.u8.wrap ((x : Int) * 2)) (o : Int)))).drew g n (fun j => .int .u8 ((lft n V k j : Nat) : Int)) := by
        rw [HOR.out]
        refine ((Row.set HR.out k _).congr fun j hj => ?_).drew
        by_cases e : j = k
        · subst e; rw [upd_same]; unfold lft; rw [if_pos (Nat.le_refl _)]
        · rw [upd_other _ _ e]; unfold lft
          have e2 : (k + 1 ≤ j) ↔ (k ≤ j) := by omega
          simp only [e2]
      have HR2 := Lib.hid hR2
      clear hR2
      go_roundw
      case rel => exact ⟨k, x / 128, by omega, rfl, by first | rfl | (congr 1; omega) | go_num, HOUT, HR2, Lib.hid ((HS.out.trans Row.stay).drew)⟩
      case measure => simp [intOf]
    · obtain rfl : i = 0 := by omega
      have ho := HO.out
      rw [if_pos hn0, Nat.sub_zero] at ho
      have HO2 := Lib.hid ho
      clear ho HO ho2
      go_wp2_with fail
      go_ret
      refine ⟨by rw [HO2.out]; rfl, ?_, HS.out⟩
      exact VRow.mod (HR.out.congr fun j hj => by unfold lft; rw [if_pos (Nat.zero_le _)])
end Go.Proofs.Ytldekkniammllaa
