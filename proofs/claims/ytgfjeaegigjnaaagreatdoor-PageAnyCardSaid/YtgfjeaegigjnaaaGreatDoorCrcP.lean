/- The checksum, bit by bit and by half bytes; sealed texts: in plain Lean. -/
import Derived.Test.YtgfjeaegigjnaaaGreatDoorProg
namespace Go.Proofs.YtgfjeaegigjnaaaGreatDoor
set_option linter.unusedVariables false
set_option linter.unusedSimpArgs false

def crcBit (r : Nat) : Nat := (r / 2) ^^^ (if r % 2 = 1 then 3988292384 else 0)
def crcIt : Nat → Nat → Nat
  | 0, r => r
  | n + 1, r => crcBit (crcIt n r)
def nibT : List Nat := [0, 498536548, 997073096, 651767980, 1994146192, 1802195444, 1303535960, 1342533948, 3988292384, 4027552580, 3604390888, 3412177804, 2607071920, 2262029012, 2685067896, 3183342108]
theorem crcBit_xor (a b : Nat) : crcBit (a ^^^ b) = crcBit a ^^^ crcBit b := by
  unfold crcBit
  have h1 : (a ^^^ b) / 2 = a / 2 ^^^ b / 2 := by
    have := Nat.shiftRight_xor_distrib (a := a) (b := b) (i := 1)
    simpa [Nat.shiftRight_eq_div_pow] using this
  have h2 : (a ^^^ b) % 2 = (a % 2) ^^^ (b % 2) := by
    have := Nat.xor_mod_two_pow (a := a) (b := b) (n := 1)
    simpa using this
  rw [h1, h2]
  have ha : a % 2 = 0 ∨ a % 2 = 1 := by omega
  have hb : b % 2 = 0 ∨ b % 2 = 1 := by omega
  have lc : ∀ x y z : Nat, x ^^^ (y ^^^ z) = y ^^^ (x ^^^ z) := fun x y z => by rw [← Nat.xor_assoc, Nat.xor_comm x y, Nat.xor_assoc]
  rcases ha with ha | ha <;> rcases hb with hb | hb <;> rw [ha, hb] <;> simp [Nat.xor_assoc, Nat.xor_comm, lc]
theorem crcIt_xor (n a b : Nat) : crcIt n (a ^^^ b) = crcIt n a ^^^ crcIt n b := by
  induction n with
  | zero => rfl
  | succ n ih => show crcBit _ = _; rw [ih, crcBit_xor]; rfl
theorem crcBit_even (x : Nat) : crcBit (2 * x) = x := by
  unfold crcBit
  rw [if_neg (by omega), Nat.xor_zero]; omega
theorem split16 (r : Nat) : r = (16 * (r / 16)) ^^^ (r % 16) := by
  apply Nat.eq_of_testBit_eq
  intro i
  have h1 : 16 * (r / 16) = (r >>> 4) <<< 4 := by rw [Nat.shiftLeft_eq, Nat.shiftRight_eq_div_pow, Nat.mul_comm]
  rw [h1, Nat.testBit_xor, Nat.testBit_shiftLeft, Nat.testBit_shiftRight, show (16 : Nat) = 2 ^ 4 from rfl, Nat.testBit_mod_two_pow]
  by_cases h : i < 4
  · have : ¬ (i ≥ 4) := by omega
    simp [h, this]
  · have h2 : i ≥ 4 := by omega
    have h3 : 4 + (i - 4) = i := by omega
    simp [h, h2, h3]
theorem nib_ok (r : Nat) : (r / 16) ^^^ nibT.getD (r % 16) 0 = crcIt 4 r := by
  have e := split16 r
  have h1 : crcIt 4 (16 * (r / 16)) = r / 16 := by
    show crcBit (crcBit (crcBit (crcBit (16 * (r / 16))))) = _
    rw [show 16 * (r / 16) = 2 * (2 * (2 * (2 * (r / 16)))) by omega, crcBit_even, crcBit_even, crcBit_even, crcBit_even]
  have h2 : ∀ x, x < 16 → crcIt 4 x = nibT.getD x 0 := by decide
  have h3 := congrArg (crcIt 4) e
  rw [crcIt_xor, h1, h2 _ (Nat.mod_lt _ (by decide))] at h3
  exact h3.symm
theorem crcBit_lt {r : Nat} (h : r < 4294967296) : crcBit r < 4294967296 := by
  refine Nat.xor_lt_two_pow (n := 32) (by omega) ?_
  split <;> decide
theorem crcIt_lt (n : Nat) {r : Nat} (h : r < 4294967296) : crcIt n r < 4294967296 := by
  induction n with
  | zero => exact h
  | succ n ih => exact crcBit_lt ih
theorem nibT_lt (i : Nat) : nibT.getD i 0 < 4294967296 := by
  rcases Nat.lt_or_ge i 16 with h | h
  · exact (by decide : ∀ i, i < 16 → nibT.getD i 0 < 4294967296) i h
  · rw [List.getD_eq_getElem?_getD, List.getElem?_eq_none (by simpa [nibT] using h)]; decide
theorem crcIt_add (m n r : Nat) : crcIt (m + n) r = crcIt m (crcIt n r) := by
  induction m with
  | zero => rw [Nat.zero_add]; rfl
  | succ m ih => rw [Nat.succ_add]; show crcBit _ = crcBit _; rw [ih]
/-- The register after a byte. -/
def crcByte (r : Nat) (b : UInt8) : Nat := crcIt 8 (r ^^^ b.toNat)
def crcL (r : Nat) (l : List UInt8) : Nat := l.foldl crcByte r
theorem crcByte_lt {r : Nat} (h : r < 4294967296) (b : UInt8) : crcByte r b < 4294967296 :=
  crcIt_lt 8 (Nat.xor_lt_two_pow (n := 32) h (Nat.lt_of_lt_of_le (UInt8.toNat_lt b) (by decide)))
theorem crcL_lt {r : Nat} (h : r < 4294967296) (l : List UInt8) : crcL r l < 4294967296 := by
  induction l generalizing r with
  | nil => exact h
  | cons b l ih => exact ih (crcByte_lt h b)
theorem crcL_snoc (r : Nat) (l : List UInt8) (b : UInt8) : crcL r (l ++ [b]) = crcByte (crcL r l) b := by simp [crcL]
def crcSum (l : List UInt8) : Nat := crcL 4294967295 l ^^^ 4294967295
theorem crcSum_lt (l : List UInt8) : crcSum l < 4294967296 := Nat.xor_lt_two_pow (n := 32) (crcL_lt (by decide) l) (by decide)
/-- A sum's bytes. -/
def fourL (c : Nat) : List UInt8 := [UInt8.ofNat c, UInt8.ofNat (c / 256), UInt8.ofNat (c / 65536), UInt8.ofNat (c / 16777216)]
def sealL (l : List UInt8) : List UInt8 := l ++ fourL (crcSum l)
def openL (l : List UInt8) : Option (List UInt8) := if l.length < 4 then none else if l.drop (l.length - 4) = fourL (crcSum (l.take (l.length - 4))) then some (l.take (l.length - 4)) else none
theorem sealL_length (l : List UInt8) : (sealL l).length = l.length + 4 := by simp [sealL, fourL]
theorem openL_seal (l : List UInt8) : openL (sealL l) = some l := by
  unfold openL
  rw [sealL_length, if_neg (by omega), Nat.add_sub_cancel]
  have h1 : (sealL l).take l.length = l := by unfold sealL; rw [List.take_left']; rfl
  have h2 : (sealL l).drop l.length = fourL (crcSum l) := by unfold sealL; rw [List.drop_left']; rfl
  rw [h1, h2, if_pos rfl]
theorem openL_some {l m : List UInt8} (h : openL l = some m) : l = sealL m := by
  unfold openL at h
  split at h
  · cases h
  · split at h
    · next h1 =>
      obtain rfl := Option.some.inj h
      unfold sealL
      rw [← h1, List.take_append_drop]
    · cases h
end Go.Proofs.YtgfjeaegigjnaaaGreatDoor
