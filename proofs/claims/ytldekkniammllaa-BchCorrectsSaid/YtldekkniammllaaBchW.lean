/- Polynomials over two numbers as natural numbers, a bit an exponent: their words, their terms, their product. Plain Lean. -/
import Derived.Test.YtldekkniammllaaBchG
namespace Go.Proofs.Ytldekkniammllaa
set_option linter.unusedVariables false
set_option linter.unusedSimpArgs false

/-- Word j of a row. -/
def wd (A j : Nat) : Nat := (A >>> (64 * j)) % 2 ^ 64
theorem wd_lt (A j : Nat) : wd A j < 18446744073709551616 := Nat.mod_lt _ (by decide)
theorem wd_bit (A j t : Nat) : (wd A j).testBit t = (decide (t < 64) && A.testBit (64 * j + t)) := by
  unfold wd
  rw [Nat.testBit_mod_two_pow, Nat.testBit_shiftRight]
theorem wd_zero (j : Nat) : wd 0 j = 0 := by unfold wd; simp
theorem wd_flip (A e j : Nat) : wd (A ^^^ 2 ^ e) j = if j = e / 64 then wd A j ^^^ 2 ^ (e % 64) else wd A j := by
  apply Nat.eq_of_testBit_eq
  intro t
  rw [wd_bit, Nat.testBit_xor, Nat.testBit_two_pow]
  split
  · next h =>
    rw [Nat.testBit_xor, wd_bit, Nat.testBit_two_pow]
    by_cases ht : t < 64
    · have : decide (e = 64 * j + t) = decide (e % 64 = t) := by
        congr 1; apply propext; constructor <;> intro _ <;> omega
      simp [ht, this]
    · have : ¬ (e % 64 = t) := by omega
      simp [ht, this]
  · next h =>
    rw [wd_bit]
    by_cases ht : t < 64
    · have : ¬ (e = 64 * j + t) := by omega
      simp [ht, this]
    · simp [ht]
theorem wd_add (A w q l j : Nat) (hw : w < 2 ^ 64) (hl : l < 64) :
    wd (A ^^^ (w <<< (64 * q + l))) j = if j = q then wd A j ^^^ ((w <<< l) % 2 ^ 64) else if j = q + 1 then wd A j ^^^ (w >>> (64 - l)) else wd A j := by
  apply Nat.eq_of_testBit_eq
  intro t
  rw [wd_bit, Nat.testBit_xor, Nat.testBit_shiftLeft]
  split
  · next h =>
    subst h
    rw [Nat.testBit_xor, wd_bit, Nat.testBit_mod_two_pow, Nat.testBit_shiftLeft]
    by_cases ht : t < 64
    · have e1 : decide (64 * j + t ≥ 64 * j + l) = decide (t ≥ l) := by
        congr 1; apply propext; constructor <;> intro _ <;> omega
      have e2 : 64 * j + t - (64 * j + l) = t - l := by omega
      simp [ht, e1, e2]
    · simp [ht]
  · next h =>
    split
    · next h2 =>
      subst h2
      rw [Nat.testBit_xor, wd_bit, Nat.testBit_shiftRight]
      by_cases ht : t < 64
      · have e1 : (64 * (q + 1) + t ≥ 64 * q + l) := by omega
        have e2 : 64 * (q + 1) + t - (64 * q + l) = 64 - l + t := by omega
        simp [ht, e1, e2]
      · have : w.testBit (64 - l + t) = false := Nat.testBit_lt_two_pow (Nat.lt_of_lt_of_le hw (Nat.pow_le_pow_right (by decide) (by omega)))
        simp [ht, this]
    · next h2 =>
      rw [wd_bit]
      by_cases ht : t < 64
      · rcases Nat.lt_or_ge j q with hq | hq
        · have e1 : ¬ (64 * j + t ≥ 64 * q + l) := by omega
          simp [ht, e1]
        · have : w.testBit (64 * j + t - (64 * q + l)) = false := Nat.testBit_lt_two_pow (Nat.lt_of_lt_of_le hw (Nat.pow_le_pow_right (by decide) (by omega)))
          simp [ht, this]
      · simp [ht]
/-- A word that is not 0 lies within the number. -/
theorem wd_ne (A j : Nat) (h : wd A j ≠ 0) : 2 ^ (64 * j) ≤ A := by
  rcases Nat.lt_or_ge A (2 ^ (64 * j)) with h1 | h1
  · exact absurd (by unfold wd; rw [Nat.shiftRight_eq_div_pow, Nat.div_eq_of_lt h1]) h
  · exact h1

/-- The exponents below n, falling. -/
def bl : Nat → Nat → List Nat
  | 0, _ => []
  | n + 1, A => if A.testBit n then n :: bl n A else bl n A
theorem bl_length (n A : Nat) : (bl n A).length ≤ n := by
  induction n with
  | zero => simp [bl]
  | succ n ih =>
    unfold bl
    split
    · rw [List.length_cons]; omega
    · omega
theorem bl_mem {n A e : Nat} (h : e ∈ bl n A) : e < n ∧ A.testBit e = true := by
  induction n with
  | zero => simp [bl] at h
  | succ n ih =>
    unfold bl at h
    split at h
    · rcases List.mem_cons.mp h with h1 | h1
      · subst h1; exact ⟨by omega, by assumption⟩
      · have := ih h1; exact ⟨by omega, this.2⟩
    · have := ih h; exact ⟨by omega, this.2⟩
theorem bl_congr {n A B : Nat} (h : ∀ e, e < n → A.testBit e = B.testBit e) : bl n A = bl n B := by
  induction n with
  | zero => rfl
  | succ n ih => unfold bl; rw [ih (fun e he => h e (by omega)), h n (by omega)]
theorem bl_zero (n : Nat) : bl n 0 = [] := by
  induction n with
  | zero => rfl
  | succ n ih => unfold bl; rw [ih]; simp
theorem bl_more {n m A : Nat} (h : A < 2 ^ n) (hm : n ≤ m) : bl m A = bl n A := by
  induction m with
  | zero => have : n = 0 := by omega
            subst this; rfl
  | succ m ih =>
    rcases Nat.lt_or_ge m n with h1 | h1
    · have : n = m + 1 := by omega
      subst this; rfl
    · have h2 : A.testBit m = false := Nat.testBit_lt_two_pow (Nat.lt_of_lt_of_le h (Nat.pow_le_pow_right (by decide) h1))
      show (if A.testBit m then m :: bl m A else bl m A) = _
      rw [h2, ih h1]; rfl
theorem bl_shift (k m A : Nat) : bl (k + m) A = (bl m (A >>> k)).map (k + ·) ++ bl k A := by
  induction m with
  | zero => rfl
  | succ m ih =>
    show (if A.testBit (k + m) then (k + m) :: bl (k + m) A else bl (k + m) A) = (if (A >>> k).testBit m then m :: bl m (A >>> k) else bl m (A >>> k)).map (k + ·) ++ bl k A
    rw [ih, Nat.testBit_shiftRight]
    cases A.testBit (k + m) <;> simp
theorem bl_words (i A : Nat) : bl (64 * (i + 1)) A = (bl 64 (wd A i)).map (64 * i + ·) ++ bl (64 * i) A := by
  rw [Nat.mul_add, Nat.mul_one, bl_shift]
  congr 2
  apply bl_congr
  intro e he
  rw [Nat.testBit_shiftRight, wd_bit]; simp [he]
theorem bl_top {n w : Nat} (h0 : w ≠ 0) (h : w < 2 ^ n) : bl n w = w.log2 :: bl n (w ^^^ 2 ^ w.log2) := by
  induction n with
  | zero => simp at h; omega
  | succ n ih =>
    have hl : w.log2 < n + 1 := (Nat.log2_lt h0).mpr h
    have hb : w.testBit w.log2 = true := Nat.testBit_log2 h0
    have hx : (w ^^^ 2 ^ w.log2) < 2 ^ w.log2 := by
      apply Nat.lt_pow_two_of_testBit
      intro i hi
      rw [Nat.testBit_xor, Nat.testBit_two_pow]
      rcases Nat.lt_or_ge w.log2 i with h1 | h1
      · have : w.testBit i = false := Nat.testBit_lt_two_pow ((Nat.log2_lt h0).mp h1)
        have h2 : ¬ (w.log2 = i) := by omega
        simp [this, h2]
      · have : i = w.log2 := by omega
        subst this
        simp [hb]
    rw [bl_more hx (Nat.le_of_lt hl)]
    have hw2 : w < 2 ^ (w.log2 + 1) := Nat.lt_log2_self
    rw [bl_more hw2 (by omega)]
    show (if w.testBit w.log2 then w.log2 :: bl w.log2 w else bl w.log2 w) = _
    rw [hb]
    show w.log2 :: bl w.log2 w = _
    congr 1
    apply bl_congr
    intro e he
    have h2 : ¬ (w.log2 = e) := by omega
    rw [Nat.testBit_xor, Nat.testBit_two_pow]
    simp [h2]
/-- The sum of these powers. -/
def sumL (acc : Nat) (L : List Nat) : Nat := L.foldl (fun a e => a ^^^ 2 ^ e) acc
theorem sumL_bl (n A acc : Nat) : sumL acc (bl n A) = acc ^^^ (A % 2 ^ n) := by
  induction n generalizing acc with
  | zero => simp [sumL, bl, Nat.mod_one]
  | succ n ih =>
    unfold bl
    by_cases hb : A.testBit n = true
    · rw [if_pos hb]
      show sumL (acc ^^^ 2 ^ n) (bl n A) = _
      rw [ih, Nat.xor_assoc]
      congr 1
      apply Nat.eq_of_testBit_eq
      intro t
      rw [Nat.testBit_xor, Nat.testBit_two_pow, Nat.testBit_mod_two_pow, Nat.testBit_mod_two_pow]
      by_cases h1 : n = t
      · subst h1; simp [hb]
      · have : decide (t < n) = decide (t < n + 1) := by congr 1; apply propext; constructor <;> intro _ <;> omega
        simp [h1, this]
    · rw [if_neg hb, ih]
      congr 1
      apply Nat.eq_of_testBit_eq
      intro t
      rw [Nat.testBit_mod_two_pow, Nat.testBit_mod_two_pow]
      by_cases h1 : n = t
      · subst h1; simp [hb]
      · have : decide (t < n) = decide (t < n + 1) := by congr 1; apply propext; constructor <;> intro _ <;> omega
        simp [this]
theorem sumL_self {n A : Nat} (h : A < 2 ^ n) : sumL 0 (bl n A) = A := by
  rw [sumL_bl, Nat.zero_xor, Nat.mod_eq_of_lt h]
/-- The product: of each term of A, B so far up. -/
def mulL (B : Nat) (acc : Nat) (L : List Nat) : Nat := L.foldl (fun a e => a ^^^ (B <<< e)) acc
def clmul (A B : Nat) : Nat := mulL B 0 (bl (A.log2 + 1) A)
theorem shl_lt {B e m n : Nat} (h : B < 2 ^ m) (hn : m + e ≤ n) : B <<< e < 2 ^ n := by
  rw [Nat.shiftLeft_eq]
  have h1 : B * 2 ^ e < 2 ^ m * 2 ^ e := Nat.mul_lt_mul_of_pos_right h (Nat.two_pow_pos e)
  rw [← Nat.pow_add] at h1
  exact Nat.lt_of_lt_of_le h1 (Nat.pow_le_pow_right (by decide) hn)
theorem mulL_lt {B m n : Nat} (hB : B < 2 ^ m) : ∀ (L : List Nat) (acc : Nat), (∀ e ∈ L, m + e ≤ n) → acc < 2 ^ n → mulL B acc L < 2 ^ n := by
  intro L
  induction L with
  | nil => intro acc _ h; exact h
  | cons e L ih =>
    intro acc hL h
    exact ih _ (fun x hx => hL x (List.mem_cons_of_mem _ hx)) (Nat.xor_lt_two_pow h (shl_lt hB (hL e (List.mem_cons_self ..))))
theorem mulL_snoc (B acc : Nat) (L : List Nat) (e : Nat) : mulL B acc (L ++ [e]) = mulL B acc L ^^^ (B <<< e) := by simp [mulL]
theorem sumL_snoc (acc : Nat) (L : List Nat) (e : Nat) : sumL acc (L ++ [e]) = sumL acc L ^^^ 2 ^ e := by simp [sumL]
/-- The low i words, one word more. -/
theorem low_words (B i : Nat) : B % 2 ^ (64 * (i + 1)) = (B % 2 ^ (64 * i)) ^^^ (wd B i <<< (64 * i)) := by
  apply Nat.eq_of_testBit_eq
  intro t
  rw [Nat.testBit_xor, Nat.testBit_mod_two_pow, Nat.testBit_mod_two_pow, Nat.testBit_shiftLeft, wd_bit]
  rcases Nat.lt_or_ge t (64 * i) with h | h
  · have h1 : t < 64 * (i + 1) := by omega
    have h2 : ¬ (t ≥ 64 * i) := by omega
    simp [h, h1, h2]
  · have h2 : ¬ (t < 64 * i) := by omega
    rcases Nat.lt_or_ge t (64 * (i + 1)) with h3 | h3
    · have h4 : t - 64 * i < 64 := by omega
      have h5 : 64 * i + (t - 64 * i) = t := by omega
      simp [h, h2, h3, h4, h5]
    · have h4 : ¬ (t < 64 * (i + 1)) := by omega
      have h5 : ¬ (t - 64 * i < 64) := by omega
      simp [h2, h4, h5]
theorem shl_xor_words (A B u i : Nat) : A ^^^ ((B % 2 ^ (64 * (i + 1))) <<< u) = (A ^^^ ((B % 2 ^ (64 * i)) <<< u)) ^^^ (wd B i <<< (64 * i + u)) := by
  rw [low_words, Nat.shiftLeft_xor_distrib, Nat.xor_assoc, ← Nat.shiftLeft_add]
end Go.Proofs.Ytldekkniammllaa
