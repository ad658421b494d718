/- Bytes as numbers, the highest first; the register of the division; the document's long division. Plain Lean. -/
import Derived.Test.YtldekkniammllaaPolQ
namespace Go.Proofs.Ytldekkniammllaa
set_option linter.unusedVariables false
set_option linter.unusedSimpArgs false

/-- Byte j of n, of a number of 8 n bits. -/
def byteAt (n V j : Nat) : Nat := (V >>> (8 * (n - 1 - j))) % 2 ^ 8
theorem byteAt_lt (n V j : Nat) : byteAt n V j < 256 := Nat.mod_lt _ (by decide)
theorem byteAt_bit (n V j t : Nat) : (byteAt n V j).testBit t = (decide (t < 8) && V.testBit (8 * (n - 1 - j) + t)) := by
  unfold byteAt
  rw [Nat.testBit_mod_two_pow, Nat.testBit_shiftRight]
theorem byteAt_zero (n j : Nat) : byteAt n 0 j = 0 := by unfold byteAt; simp
theorem byteAt_xor (n V U j : Nat) : byteAt n (V ^^^ U) j = byteAt n V j ^^^ byteAt n U j := by
  apply Nat.eq_of_testBit_eq
  intro t
  rw [byteAt_bit, Nat.testBit_xor, Nat.testBit_xor, byteAt_bit, byteAt_bit]
  cases decide (t < 8) <;> simp
def bytesOf (n V : Nat) : List UInt8 := (List.range n).map (fun j => UInt8.ofNat (byteAt n V j))
theorem bytesOf_length (n V : Nat) : (bytesOf n V).length = n := by simp [bytesOf]
theorem bytesOf_get {n V j : Nat} (h : j < n) : (bytesOf n V)[j]? = some (UInt8.ofNat (byteAt n V j)) := by
  unfold bytesOf
  rw [List.getElem?_map, List.getElem?_range h]; rfl
def strOf (n V : Nat) : ByteArray := ⟨(bytesOf n V).toArray⟩
theorem bytesOf_snoc (n V : Nat) : bytesOf (n + 1) (V * 256) = bytesOf n V ++ [0] := by
  unfold bytesOf
  rw [List.range_succ, List.map_append, List.map_singleton]
  congr 1
  · apply List.map_congr_left
    intro j hj
    rw [List.mem_range] at hj
    congr 1
    unfold byteAt
    rw [show 8 * (n + 1 - 1 - j) = 8 * (n - 1 - j) + 8 by omega, Nat.add_comm, Nat.shiftRight_add]
    congr 2
    rw [Nat.shiftRight_eq_div_pow]
    exact Nat.mul_div_cancel _ (by decide)
  · congr 1
    unfold byteAt
    rw [show 8 * (n + 1 - 1 - n) = 0 by omega, Nat.shiftRight_zero]
    have : V * 256 % 2 ^ 8 = 0 := Nat.mul_mod_left _ _
    rw [this]; rfl
/-- Bit i from the front lies in byte i / 8. -/
theorem byte_set {n V i : Nat} (h : i < 8 * n) (j : Nat) (hj : j < n) : byteAt n (V ^^^ 2 ^ (8 * n - 1 - i)) j = if j = i / 8 then byteAt n V j ^^^ 2 ^ (7 - i % 8) else byteAt n V j := by
  apply Nat.eq_of_testBit_eq
  intro t
  rw [byteAt_bit, Nat.testBit_xor, Nat.testBit_two_pow]
  split
  · next hji =>
    rw [Nat.testBit_xor, byteAt_bit, Nat.testBit_two_pow]
    by_cases ht : t < 8
    · have e : decide (8 * n - 1 - i = 8 * (n - 1 - j) + t) = decide (7 - i % 8 = t) := by
        congr 1; apply propext; constructor <;> intro _ <;> omega
      simp [ht, e]
    · have e : ¬ (7 - i % 8 = t) := by omega
      simp [ht, e]
  · next hji =>
    rw [byteAt_bit]
    by_cases ht : t < 8
    · have e : ¬ (8 * n - 1 - i = 8 * (n - 1 - j) + t) := by omega
      simp [ht, e]
    · simp [ht]
/-- One place left. -/
theorem byte_left {n V j : Nat} (hj : j < n) (out : Nat) (ho : out = if j + 1 < n then (V >>> (8 * (n - 1 - j) - 1)) % 2 else 0) : byteAt n (2 * V) j = ((byteAt n V j * 2) % 256) ||| out := by
  have ho2 : out < 2 := by rw [ho]; split <;> omega
  apply Nat.eq_of_testBit_eq
  intro t
  rw [byteAt_bit, Nat.testBit_or, show (256 : Nat) = 2 ^ 8 from rfl, Nat.testBit_mod_two_pow]
  have h2 : ∀ x s : Nat, (2 * x).testBit s = (decide (1 ≤ s) && x.testBit (s - 1)) := by
    intro x s
    have := Nat.testBit_shiftLeft (x := x) (i := 1) (j := s)
    rw [Nat.shiftLeft_eq, Nat.pow_one, Nat.mul_comm] at this
    exact this
  rw [h2, Nat.mul_comm (byteAt n V j) 2, h2, byteAt_bit]
  by_cases ht : t < 8
  · match t with
    | 0 =>
      have ob : out.testBit 0 = decide (out = 1) := by
        rw [Nat.testBit_zero]; congr 1; apply propext; constructor <;> intro _ <;> omega
      rw [ob]
      by_cases hl : j + 1 < n
      · have hv : V.testBit (8 * (n - 1 - j) - 1) = decide (out = 1) := by
          rw [ho, if_pos hl, Nat.testBit_eq_decide_div_mod_eq, Nat.shiftRight_eq_div_pow]
        have e2 : 1 ≤ 8 * (n - 1 - j) := by omega
        simp [hv, e2]
      · rw [ho, if_neg hl]
        have e2 : ¬ (1 ≤ 8 * (n - 1 - j)) := by omega
        simp [e2]
    | t + 1 =>
      have ob : out.testBit (t + 1) = false := Nat.testBit_lt_two_pow (Nat.lt_of_lt_of_le ho2 (by rw [Nat.pow_succ]; have := Nat.two_pow_pos t; omega))
      rw [ob]
      have e1 : t < 8 := by omega
      have e3 : 8 * (n - 1 - j) + (t + 1) - 1 = 8 * (n - 1 - j) + t := by omega
      have e4 : 1 ≤ 8 * (n - 1 - j) + (t + 1) := by omega
      simp [ht, e1, e3, e4]
  · have ob : out.testBit t = false := Nat.testBit_lt_two_pow (Nat.lt_of_lt_of_le ho2 (by
      have : 2 ^ 1 ≤ 2 ^ t := Nat.pow_le_pow_right (by decide) (by omega)
      simpa using this))
    simp [ht, ob]
/-- The number of a list of bytes. -/
def numB (L : List UInt8) : Nat := L.foldl (fun a b => a * 256 + b.toNat) 0
theorem numB_snoc (L : List UInt8) (b : UInt8) : numB (L ++ [b]) = numB L * 256 + b.toNat := by simp [numB]
theorem numF_acc (acc : Nat) (L : List UInt8) : L.foldl (fun a b => a * 256 + b.toNat) acc = acc * 2 ^ (8 * L.length) + numB L := by
  induction L generalizing acc with
  | nil => simp [numB]
  | cons b L ih =>
    show L.foldl _ (acc * 256 + b.toNat) = _
    have e : numB (b :: L) = L.foldl (fun a b => a * 256 + b.toNat) (0 * 256 + b.toNat) := rfl
    rw [ih, e, ih (0 * 256 + b.toNat), List.length_cons, Nat.mul_add, Nat.pow_add, Nat.zero_mul, Nat.zero_add, Nat.add_mul, Nat.mul_one]
    have : (2 : Nat) ^ 8 = 256 := rfl
    rw [this, Nat.mul_assoc, Nat.mul_comm 256, Nat.add_assoc]
theorem numB_append (L M : List UInt8) : numB (L ++ M) = numB L * 2 ^ (8 * M.length) + numB M := by
  have : numB (L ++ M) = M.foldl (fun a b => a * 256 + b.toNat) (numB L) := by unfold numB; rw [List.foldl_append]
  rw [this, numF_acc]
theorem numB_lt (L : List UInt8) : numB L < 2 ^ (8 * L.length) := by
  induction L with
  | nil => exact (by decide : (0 : Nat) < 1)
  | cons b L ih =>
    have e : numB (b :: L) = L.foldl (fun a b => a * 256 + b.toNat) (0 * 256 + b.toNat) := rfl
    rw [e, numF_acc, List.length_cons, Nat.mul_add, Nat.pow_add, Nat.zero_mul, Nat.zero_add]
    have hb : b.toNat + 1 ≤ 256 := UInt8.toNat_lt b
    have h8 : (2 : Nat) ^ (8 * 1) = 256 := rfl
    rw [h8]
    have := Nat.mul_le_mul_right (2 ^ (8 * L.length)) hb
    rw [Nat.add_mul, Nat.one_mul, Nat.mul_comm 256] at this
    omega
theorem numB_take (L : List UInt8) (i : Nat) (h : i ≤ L.length) : numB L >>> (8 * (L.length - i)) = numB (L.take i) := by
  have e := numB_append (L.take i) (L.drop i)
  rw [List.take_append_drop] at e
  have hl : (L.drop i).length = L.length - i := List.length_drop
  have hlt := numB_lt (L.drop i)
  rw [hl] at e hlt
  rw [e, Nat.shiftRight_eq_div_pow, Nat.add_comm, Nat.add_mul_div_right _ _ (Nat.two_pow_pos _), Nat.div_eq_of_lt hlt, Nat.zero_add]
theorem numB_bit (L : List UInt8) (i t : Nat) (b : UInt8) (h : L[i]? = some b) (ht : t < 8) : (numB L).testBit (8 * L.length - 1 - (8 * i + t)) = b.toNat.testBit (7 - t) := by
  have hi : i < L.length := by
    rcases Nat.lt_or_ge i L.length with h1 | h1
    · exact h1
    · rw [List.getElem?_eq_none h1] at h; cases h
  have e := numB_take L (i + 1) hi
  have e2 : L.take (i + 1) = L.take i ++ [b] := by rw [List.take_add_one, h]; rfl
  rw [e2, numB_snoc] at e
  have e3 : 8 * L.length - 1 - (8 * i + t) = 8 * (L.length - (i + 1)) + (7 - t) := by omega
  rw [e3, ← Nat.testBit_shiftRight, e]
  have e4 : (numB (L.take i) * 256 + b.toNat).testBit (7 - t) = ((numB (L.take i) * 256 + b.toNat) % 2 ^ 8).testBit (7 - t) := by
    rw [Nat.testBit_mod_two_pow]
    have : 7 - t < 8 := by omega
    simp [this]
  have hb : b.toNat < 256 := UInt8.toNat_lt b
  have e5 : (numB (L.take i) * 256 + b.toNat) % 2 ^ 8 = b.toNat := by
    rw [show (2 : Nat) ^ 8 = 256 from rfl]; omega
  rw [e4, e5]

/-- The register, one bit on. -/
def regStep (n LOW V : Nat) (bit : Bool) : Nat := ((2 * V) % 2 ^ (8 * n)) ^^^ (if V.testBit (8 * n - 1) != bit then LOW else 0)
/-- The register after i of the M bits of D. -/
def regI (n LOW D M : Nat) : Nat → Nat
  | 0 => 0
  | i + 1 => regStep n LOW (regI n LOW D M i) (D.testBit (M - 1 - i))
/-- The document's rest after i steps; T bits in all. -/
def docI (G d T B : Nat) : Nat → Nat
  | 0 => B
  | i + 1 => let C := docI G d T B i
    if C.testBit (T - 1 - i) then C ^^^ (G <<< (T - 1 - d - i)) else C
theorem two_mul_bit (x s : Nat) : (2 * x).testBit s = (decide (1 ≤ s) && x.testBit (s - 1)) := by
  have := Nat.testBit_shiftLeft (x := x) (i := 1) (j := s)
  rw [Nat.shiftLeft_eq, Nat.pow_one, Nat.mul_comm] at this
  exact this
theorem bit_none {x k t : Nat} (h : x < 2 ^ k) (ht : k ≤ t) : x.testBit t = false := Nat.testBit_lt_two_pow (Nat.lt_of_lt_of_le h (Nat.pow_le_pow_right (by decide) ht))
/-- One step of both. -/
theorem div_step {n s d G R j : Nat} (hn : 8 * n = d + s) (hd : 0 < d) (hG : G < 2 ^ (d + 1)) (hGd : G.testBit d = true) (hR : R < 2 ^ d) (D : Nat) (bit : Bool) (hb : D.testBit j = bit) :
    ∃ R', regStep n ((G ^^^ 2 ^ d) <<< s) (R <<< s) bit = R' <<< s ∧ R' < 2 ^ d ∧
      (let C := (R <<< (j + 1)) ^^^ ((D % 2 ^ (j + 1)) <<< d); if C.testBit (d + j) then C ^^^ (G <<< j) else C) = (R' <<< j) ^^^ ((D % 2 ^ j) <<< d) := by
  have hGl : G ^^^ 2 ^ d < 2 ^ d := by
    apply Nat.lt_pow_two_of_testBit
    intro i hi
    rw [Nat.testBit_xor, Nat.testBit_two_pow]
    by_cases h : d = i
    · subst h; simp [hGd]
    · have := bit_none hG (show d + 1 ≤ i by omega)
      simp [this, h]
  refine ⟨((2 * R) % 2 ^ d) ^^^ (if R.testBit (d - 1) != bit then G ^^^ 2 ^ d else 0), ?_, ?_, ?_⟩
  · unfold regStep
    have ht : (R <<< s).testBit (8 * n - 1) = R.testBit (d - 1) := by
      rw [Nat.testBit_shiftLeft, hn]
      have e1 : d + s - 1 ≥ s := by omega
      have e2 : d + s - 1 - s = d - 1 := by omega
      simp [e1, e2]
    have e : ∀ A B : Nat, (A ^^^ B) <<< s = (A <<< s) ^^^ (B <<< s) := fun A B => Nat.shiftLeft_xor_distrib
    rw [ht, e ((2 * R) % 2 ^ d)]
    congr 1
    · apply Nat.eq_of_testBit_eq
      intro t
      rw [Nat.testBit_mod_two_pow, two_mul_bit, Nat.testBit_shiftLeft, Nat.testBit_shiftLeft, Nat.testBit_mod_two_pow, two_mul_bit, hn]
      rcases Nat.lt_or_ge t s with h1 | h1
      · have e1 : ¬ (t - 1 ≥ s) := by omega
        have e2 : ¬ (t ≥ s) := by omega
        simp [e1, e2]
      · by_cases e0 : t = s
        · have e1 : ¬ (1 ≤ t - s) := by omega
          by_cases e3 : 1 ≤ t
          · have e4 : ¬ (t - 1 ≥ s) := by omega
            simp [e1, e4]
          · simp [e1, e3]
        · have e1 : t - 1 ≥ s := by omega
          have e3 : 1 ≤ t := by omega
          have e4 : 1 ≤ t - s := by omega
          have e5 : t - 1 - s = t - s - 1 := by omega
          have e6 : (t < d + s) ↔ (t - s < d) := by omega
          simp [e1, e3, e4, e5, e6, h1]
    · split
      · rfl
      · simp
  · refine Nat.xor_lt_two_pow (Nat.mod_lt _ (Nat.two_pow_pos _)) ?_
    split
    · exact hGl
    · exact Nat.two_pow_pos _
  · have htop : ((R <<< (j + 1)) ^^^ ((D % 2 ^ (j + 1)) <<< d)).testBit (d + j) = (R.testBit (d - 1) != bit) := by
      rw [Nat.testBit_xor, Nat.testBit_shiftLeft, Nat.testBit_shiftLeft, Nat.testBit_mod_two_pow]
      have e1 : d + j ≥ j + 1 := by omega
      have e2 : d + j - (j + 1) = d - 1 := by omega
      have e3 : d + j ≥ d := by omega
      have e4 : d + j - d = j := by omega
      simp [e1, e2, e4, hb]
    show (if _ then _ else _) = _
    rw [htop]
    apply Nat.eq_of_testBit_eq
    intro t
    have hsplit : ∀ (X : Nat), (if (R.testBit (d - 1) != bit) = true then ((R <<< (j + 1)) ^^^ ((D % 2 ^ (j + 1)) <<< d)) ^^^ X else ((R <<< (j + 1)) ^^^ ((D % 2 ^ (j + 1)) <<< d))) = ((R <<< (j + 1)) ^^^ ((D % 2 ^ (j + 1)) <<< d)) ^^^ (if (R.testBit (d - 1) != bit) = true then X else 0) := by
      intro X; split <;> simp
    have hif : ∀ (c : Bool) (X : Nat), (if c = true then X else 0).testBit t = (c && X.testBit t) := by
      intro c X; cases c <;> simp
    rw [hsplit, Nat.testBit_xor, Nat.testBit_xor, Nat.testBit_shiftLeft, Nat.testBit_shiftLeft, Nat.testBit_mod_two_pow, Nat.testBit_xor, Nat.testBit_shiftLeft, Nat.testBit_shiftLeft, Nat.testBit_mod_two_pow, hif, Nat.testBit_shiftLeft, Nat.testBit_xor, Nat.testBit_mod_two_pow, two_mul_bit]
    have hif2 : ∀ (c : Bool) (X i : Nat), (if c = true then X else 0).testBit i = (c && X.testBit i) := by
      intro c X i; cases c <;> simp
    rw [hif2, Nat.testBit_xor, Nat.testBit_two_pow]
    generalize hc : (R.testBit (d - 1) != bit) = c
    rcases Nat.lt_or_ge t j with h1 | h1
    · have a1 : ¬ (t ≥ j + 1) := by omega
      have a2 : ¬ (t ≥ j) := by omega
      by_cases h2 : t ≥ d
      · have a3 : t - d < j + 1 := by omega
        have a4 : t - d < j := by omega
        simp [a1, a2, h2, a3, a4]
      · simp [a1, a2, h2]
    · rcases Nat.lt_trichotomy t (d + j) with h2 | h2 | h2
      · have a2 : t - j < d := by omega
        have a3 : ¬ (d = t - j) := by omega
        by_cases h3 : t = j
        · subst h3
          have a1 : decide (t + 1 ≤ t) = false := by simp
          by_cases h4 : t ≥ d
          · have a4 : t - d < t := by omega
            have a5 : t - d < t + 1 := by omega
            have a6 : ¬ (d = 0) := by omega
            simp [h4, a4, a5, a6, a1, Bool.xor_comm]
          · have a6 : ¬ (d = 0) := by omega
            simp [h4, a6, a1]
        · have a1 : t ≥ j + 1 := by omega
          have a4 : 1 ≤ t - j := by omega
          have a5 : t - (j + 1) = t - j - 1 := by omega
          by_cases h4 : t ≥ d
          · have a6 : t - d < j := by omega
            have a7 : t - d < j + 1 := by omega
            simp [a1, a2, a3, a4, a5, a6, a7, h1, h4, Bool.xor_comm, Bool.xor_assoc, Bool.xor_left_comm]
          · simp [a1, a2, a3, a4, a5, h1, h4]
      · subst h2
        have a1 : d + j ≥ j + 1 := by omega
        have a2 : d + j - (j + 1) = d - 1 := by omega
        have a3 : d + j - d = j := by omega
        have a4 : d + j - j = d := by omega
        simp [a1, a2, a3, a4, hb, hGd]
        rw [← hc]
        cases R.testBit (d - 1) <;> cases bit <;> rfl
      · have a1 : t ≥ j + 1 := by omega
        have a2 : R.testBit (t - (j + 1)) = false := bit_none hR (by omega)
        have a3 : ¬ (t - d < j + 1) := by omega
        have a4 : ¬ (t - d < j) := by omega
        have a5 : G.testBit (t - j) = false := bit_none hG (by omega)
        have a6 : ¬ (t - j < d) := by omega
        have a7 : ¬ (d = t - j) := by omega
        simp [a2, a3, a4, a5, a6, a7]
theorem div_all {n s d G M : Nat} (hn : 8 * n = d + s) (hd : 0 < d) (hG : G < 2 ^ (d + 1)) (hGd : G.testBit d = true) (D : Nat) (hD : D < 2 ^ M) (i : Nat) (hi : i ≤ M) :
    ∃ R, regI n ((G ^^^ 2 ^ d) <<< s) D M i = R <<< s ∧ R < 2 ^ d ∧ docI G d (M + d) (D <<< d) i = (R <<< (M - i)) ^^^ ((D % 2 ^ (M - i)) <<< d) := by
  induction i with
  | zero => exact ⟨0, by simp [regI], Nat.two_pow_pos _, by simp [docI, Nat.mod_eq_of_lt hD]⟩
  | succ i ih =>
    obtain ⟨R, h1, h2, h3⟩ := ih (by omega)
    obtain ⟨R', k1, k2, k3⟩ := div_step hn hd hG hGd h2 D (D.testBit (M - 1 - i)) (j := M - 1 - i) rfl
    refine ⟨R', ?_, k2, ?_⟩
    · show regStep _ _ (regI _ _ _ _ i) _ = _
      rw [h1]; exact k1
    · show (let C := docI G d (M + d) (D <<< d) i; if C.testBit (M + d - 1 - i) then C ^^^ (G <<< (M + d - 1 - d - i)) else C) = _
      rw [h3]
      have e1 : M - i = M - 1 - i + 1 := by omega
      have e2 : M + d - 1 - i = d + (M - 1 - i) := by omega
      have e3 : M + d - 1 - d - i = M - 1 - i := by omega
      have e4 : M - (i + 1) = M - 1 - i := by omega
      rw [e1, e2, e3, e4]
      exact k3
/-- The register at the end, and the document's rest. -/
theorem div_end {n s d G M : Nat} (hn : 8 * n = d + s) (hd : 0 < d) (hG : G < 2 ^ (d + 1)) (hGd : G.testBit d = true) (D : Nat) (hD : D < 2 ^ M) :
    docI G d (M + d) (D <<< d) M < 2 ^ d ∧ regI n ((G ^^^ 2 ^ d) <<< s) D M M = docI G d (M + d) (D <<< d) M <<< s := by
  obtain ⟨R, h1, h2, h3⟩ := div_all hn hd hG hGd D hD M (Nat.le_refl _)
  rw [Nat.sub_self, Nat.shiftLeft_zero, Nat.pow_zero, Nat.mod_one, Nat.zero_shiftLeft, Nat.xor_zero] at h3
  rw [h3]
  exact ⟨h2, h1⟩
end Go.Proofs.Ytldekkniammllaa
