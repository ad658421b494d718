/- The turning of bits back, in plain Lean: a word of bytes as a number. -/
import Derived.Test.YtldekkniammllaaCodK
import Derived.Test.YtldekkniammllaaLocP
namespace Go.Proofs.Ytldekkniammllaa
set_option linter.unusedVariables false
set_option linter.unusedSimpArgs false

/-- Bit k from the front of n bytes, turned. -/
theorem byteAt_turn (n V k j : Nat) (hk : k < 8 * n) (hj : j < n) : byteAt n (V ^^^ 2 ^ (8 * n - 1 - k)) j = if j = k / 8 then byteAt n V j ^^^ 128 / 2 ^ (k % 8) else byteAt n V j := by
  have h128 : ∀ i, i < 8 → (128 : Nat) / 2 ^ i = 2 ^ (7 - i) := by decide
  apply Nat.eq_of_testBit_eq
  intro i
  have hl1 := byteAt_bit n (V ^^^ 2 ^ (8 * n - 1 - k)) j i
  have hl2 := byteAt_bit n V j i
  rw [hl1, Nat.testBit_xor, Nat.testBit_two_pow]
  by_cases h : j = k / 8
  · rw [if_pos h, Nat.testBit_xor, hl2, h128 _ (Nat.mod_lt _ (by decide)), Nat.testBit_two_pow]
    by_cases hi : i < 8
    · have e : (8 * n - 1 - k = 8 * (n - 1 - j) + i) ↔ (7 - k % 8 = i) := by omega
      simp [hi, e]
    · have : ¬ (7 - k % 8 = i) := by omega
      simp [hi, this]
  · rw [if_neg h, hl2]
    by_cases hi : i < 8
    · have e : ¬ (8 * n - 1 - k = 8 * (n - 1 - j) + i) := by omega
      simp [hi, e]
    · simp [hi]
open Go.RowKit in
theorem SV.turn {w : World} {g n V k : Nat} (h : SV w g n V) (hk : k < 8 * n) : SV (w.setCell ⟨g, k / 8, none⟩ (.int .u8 ((byteAt n V (k / 8) ^^^ 128 / 2 ^ (k % 8) : Nat) : Int))) g n (V ^^^ 2 ^ (8 * n - 1 - k)) :=
  (SRow.set h (k / 8) (.int .u8 ((byteAt n V (k / 8) ^^^ 128 / 2 ^ (k % 8) : Nat) : Int))).congr fun j hj => by
    by_cases e : j = k / 8
    · rw [e, upd_same, byteAt_turn n V k (k / 8) hk (by omega), if_pos rfl]
    · rw [upd_other _ _ e, byteAt_turn n V k j hk hj, if_neg e]
/-- One place turned back: of the chunk, or of the parity. -/
def decStep (chunk nb deg : Nat) (s : Nat × Nat) (e : Nat) : Nat × Nat :=
  if 8 * chunk + deg - 1 - e < 8 * chunk then (s.1 ^^^ 2 ^ (8 * chunk - 1 - (8 * chunk + deg - 1 - e)), s.2)
  else (s.1, s.2 ^^^ 2 ^ (8 * nb - 1 - (8 * chunk + deg - 1 - e - 8 * chunk)))
/-- The first i places turned back. -/
def decI (chunk nb deg V P : Nat) (L : List Nat) : Nat → Nat × Nat
  | 0 => (V, P)
  | i + 1 => decStep chunk nb deg (decI chunk nb deg V P L i) (L.getD i 0)
theorem decI_lt {chunk nb deg V P : Nat} (hV : V < 2 ^ (8 * chunk)) (hP : P < 2 ^ (8 * nb)) (hc : 0 < chunk) (hn : 0 < nb) (L : List Nat) (i : Nat) : (decI chunk nb deg V P L i).1 < 2 ^ (8 * chunk) ∧ (decI chunk nb deg V P L i).2 < 2 ^ (8 * nb) := by
  induction i with
  | zero => exact ⟨hV, hP⟩
  | succ i ih =>
    show (decStep _ _ _ _ _).1 < _ ∧ (decStep _ _ _ _ _).2 < _
    unfold decStep
    split
    · exact ⟨Nat.xor_lt_two_pow ih.1 (Nat.pow_lt_pow_right (by decide) (by omega)), ih.2⟩
    · exact ⟨ih.1, Nat.xor_lt_two_pow ih.2 (Nat.pow_lt_pow_right (by decide) (by omega))⟩
end Go.Proofs.Ytldekkniammllaa
