/- The field of 8192 elements, in plain Lean. -/
import Derived.Test.YtgfjeaegigjnaaaGreatDoorProg
namespace Go.Proofs.YtgfjeaegigjnaaaGreatDoor
set_option linter.unusedVariables false
set_option linter.unusedSimpArgs false

theorem xor_lc (a b c : Nat) : a ^^^ (b ^^^ c) = b ^^^ (a ^^^ c) := by rw [← Nat.xor_assoc, Nat.xor_comm a b, Nat.xor_assoc]
theorem xor_can (a b : Nat) : a ^^^ (a ^^^ b) = b := by rw [← Nat.xor_assoc, Nat.xor_self, Nat.zero_xor]
theorem xor_can2 (a b : Nat) : a ^^^ (b ^^^ a) = b := by rw [Nat.xor_comm b a, xor_can]
/-- Twice an element. -/
def step (x : Nat) : Nat := (x <<< 1) ^^^ (if x.testBit 12 then 0x201B else 0)
def expN : Nat → Nat
  | 0 => 1
  | i + 1 => step (expN i)
theorem bit12 {x : Nat} (h : x < 8192) : x.testBit 12 = decide (4096 ≤ x) := by
  rw [Nat.testBit_eq_decide_div_mod_eq]
  congr 1
  apply propext
  constructor <;> intro h2 <;> omega
theorem step_low {x : Nat} (h : x < 4096) : step x = 2 * x := by
  unfold step
  rw [bit12 (by omega), if_neg (by simp; omega), Nat.xor_zero, Nat.shiftLeft_eq]; omega
theorem step_high {x : Nat} (h : 4096 ≤ x) (h2 : x < 8192) : step x = (2 * x) ^^^ 0x201B := by
  unfold step
  rw [bit12 h2, if_pos (by simpa using h), Nat.shiftLeft_eq]; congr 1; omega
theorem step_lt {x : Nat} (h : x < 8192) : step x < 8192 := by
  rcases Nat.lt_or_ge x 4096 with h1 | h1
  · rw [step_low h1]; omega
  · rw [step_high h1 h]
    have h3 : (2 * x) ^^^ 0x201B < 2 ^ 14 := Nat.xor_lt_two_pow (by omega) (by decide)
    have h2 : ((2 * x) ^^^ 0x201B).testBit 13 = false := by
      rw [Nat.testBit_xor]
      have : (2 * x).testBit 13 = true := by
        rw [Nat.testBit_eq_decide_div_mod_eq]
        simp
        omega
      rw [this]; rfl
    have h4 := Nat.testBit_eq_decide_div_mod_eq (x := (2 * x) ^^^ 0x201B) (i := 13)
    rw [h2] at h4
    simp at h4
    omega
theorem expN_lt (i : Nat) : expN i < 8192 := by
  induction i with
  | zero => decide
  | succ i ih => exact step_lt ih
theorem step_xor (a b : Nat) : step (a ^^^ b) = step a ^^^ step b := by
  unfold step
  rw [Nat.shiftLeft_xor_distrib, Nat.testBit_xor]
  cases a.testBit 12 <;> cases b.testBit 12 <;> simp [Nat.xor_assoc, Nat.xor_comm, xor_lc, xor_can, xor_can2]
theorem step_zero : step 0 = 0 := by decide
/-- The inverse of step. -/
def back (x : Nat) : Nat := if x % 2 = 0 then x / 2 else (x ^^^ 0x201B) / 2
theorem back_step {x : Nat} (h : x < 8192) : back (step x) = x := by
  unfold back
  rcases Nat.lt_or_ge x 4096 with h1 | h1
  · rw [step_low h1, if_pos (by omega)]; omega
  · rw [step_high h1 h]
    have h2 : ((2 * x) ^^^ 0x201B) % 2 = 1 := by
      have h3 := Nat.xor_mod_two_pow (a := 2 * x) (b := 0x201B) (n := 1)
      rw [Nat.pow_one, show 2 * x % 2 = 0 by omega] at h3
      exact h3
    rw [if_neg (by omega), Nat.xor_assoc, Nat.xor_self, Nat.xor_zero]
    omega
theorem step_inj {a b : Nat} (ha : a < 8192) (hb : b < 8192) (h : step a = step b) : a = b := by
  rw [← back_step ha, h, back_step hb]
def stepN : Nat → Nat → Nat
  | 0, x => x
  | n + 1, x => step (stepN n x)
theorem stepN_xor (n a b : Nat) : stepN n (a ^^^ b) = stepN n a ^^^ stepN n b := by
  induction n with
  | zero => rfl
  | succ n ih => show step (stepN n (a ^^^ b)) = _; rw [ih, step_xor]; rfl
theorem stepN_zero (n : Nat) : stepN n 0 = 0 := by
  induction n with
  | zero => rfl
  | succ n ih => show step (stepN n 0) = 0; rw [ih]; exact step_zero
theorem stepN_step (n x : Nat) : stepN n (step x) = step (stepN n x) := by
  induction n with
  | zero => rfl
  | succ n ih => show step (stepN n (step x)) = _; rw [ih]; rfl
theorem stepN_exp (n j : Nat) : stepN n (expN j) = expN (n + j) := by
  induction n with
  | zero => rw [Nat.zero_add]; rfl
  | succ n ih => show step (stepN n (expN j)) = _; rw [ih, Nat.add_right_comm]; rfl
/-- The product: of each bit of a, b so often doubled. -/
def mulK (a b : Nat) : Nat → Nat
  | 0 => 0
  | n + 1 => mulK a b n ^^^ (if a.testBit n then stepN n b else 0)
def mulP (a b : Nat) : Nat := mulK a b 13
theorem mulK_xor (a a' b n : Nat) : mulK (a ^^^ a') b n = mulK a b n ^^^ mulK a' b n := by
  induction n with
  | zero => simp [mulK]
  | succ n ih =>
    rw [mulK, mulK, mulK, ih, Nat.testBit_xor]
    cases a.testBit n <;> cases a'.testBit n <;> simp [Nat.xor_assoc, Nat.xor_comm, xor_lc, xor_can, xor_can2]
theorem mulK_shift (a b n : Nat) : mulK (a <<< 1) b (n + 1) = step (mulK a b n) := by
  induction n with
  | zero => rw [mulK, mulK, mulK]; simp [step_zero]
  | succ n ih =>
    rw [mulK, ih, mulK, step_xor]
    congr 1
    have : (a <<< 1).testBit (n + 1) = a.testBit n := by rw [Nat.testBit_shiftLeft]; simp
    rw [this]
    cases a.testBit n
    · simp [step_zero]
    · rfl
/-- Doubling thirteen times, of a power. -/
theorem stepN_13 (j : Nat) : stepN 13 (expN j) = stepN 4 (expN j) ^^^ (stepN 3 (expN j) ^^^ (stepN 1 (expN j) ^^^ expN j)) := by
  induction j with
  | zero => decide
  | succ j ih =>
    show stepN 13 (step (expN j)) = stepN 4 (step (expN j)) ^^^ (stepN 3 (step (expN j)) ^^^ (stepN 1 (step (expN j)) ^^^ step (expN j)))
    rw [stepN_step, ih, step_xor, step_xor, step_xor, stepN_step, stepN_step, stepN_step]
theorem mulK_zero (b n : Nat) : mulK 0 b n = 0 := by
  induction n with
  | zero => rfl
  | succ n ih => rw [mulK, ih]; simp
theorem mulP_one (b : Nat) : mulP 1 b = b := by
  unfold mulP
  have h : ∀ i, (1 : Nat).testBit (i + 1) = false := by intro i; rw [Nat.testBit_succ]; simp
  have h0 : (1 : Nat).testBit 0 = true := rfl
  simp [mulK, h, h0, stepN]
/-- Twice the first factor is twice the product. -/
theorem mulP_step (a j : Nat) (ha : a < 8192) : mulP (step a) (expN j) = step (mulP a (expN j)) := by
  have h14 : mulK (a <<< 1) (expN j) 14 = step (mulK a (expN j) 13) := mulK_shift a (expN j) 13
  have hr : mulK 0x201B (expN j) 14 = 0 := by
    have h13 := stepN_13 j
    rw [mulK, if_pos (by decide)]
    have : mulK 0x201B (expN j) 13 = expN j ^^^ stepN 1 (expN j) ^^^ stepN 3 (expN j) ^^^ stepN 4 (expN j) := by
      simp only [mulK]
      rw [if_pos (by decide), if_pos (by decide), if_neg (by decide), if_pos (by decide), if_pos (by decide), if_neg (by decide), if_neg (by decide), if_neg (by decide), if_neg (by decide), if_neg (by decide), if_neg (by decide), if_neg (by decide), if_neg (by decide)]
      simp [stepN]
    rw [this, h13]
    simp [Nat.xor_assoc, Nat.xor_comm, xor_lc, xor_can, xor_can2]
  have hs : step a < 8192 := step_lt ha
  have htop : mulK (step a) (expN j) 14 = mulK (step a) (expN j) 13 := by
    rw [mulK, Nat.testBit_lt_two_pow (show step a < 2 ^ 13 from hs)]
    simp
  show mulK (step a) (expN j) 13 = _
  rw [← htop]
  show mulK ((a <<< 1) ^^^ _) (expN j) 14 = _
  rw [mulK_xor, h14]
  split
  · rw [hr, Nat.xor_zero]; rfl
  · rw [mulK_zero, Nat.xor_zero]; rfl
theorem mulP_exp (i j : Nat) : mulP (expN i) (expN j) = expN (i + j) := by
  induction i with
  | zero => rw [Nat.zero_add]; exact mulP_one _
  | succ i ih =>
    show mulP (step (expN i)) (expN j) = _
    rw [mulP_step _ _ (expN_lt i), ih, Nat.add_right_comm]; rfl
theorem exp_dbl {n v w : Nat} (h : expN n = v) (hm : mulP v v = w) : expN (n + n) = w := by
  rw [← mulP_exp, h, hm]
theorem exp_8192 : expN 8192 = 2 := by
  have h0 : expN 1 = 2 := by decide
  have h1 := exp_dbl h0 (w := 4) (by decide)
  have h2 := exp_dbl h1 (w := 16) (by decide)
  have h3 := exp_dbl h2 (w := 256) (by decide)
  have h4 := exp_dbl h3 (w := 216) (by decide)
  have h5 := exp_dbl h4 (w := 4470) (by decide)
  have h6 := exp_dbl h5 (w := 3478) (by decide)
  have h7 := exp_dbl h6 (w := 6753) (by decide)
  have h8 := exp_dbl h7 (w := 6432) (by decide)
  have h9 := exp_dbl h8 (w := 2713) (by decide)
  have h10 := exp_dbl h9 (w := 5132) (by decide)
  have h11 := exp_dbl h10 (w := 5514) (by decide)
  have h12 := exp_dbl h11 (w := 5488) (by decide)
  exact exp_dbl h12 (w := 2) (by decide)
theorem exp_8191 : expN 8191 = 1 := by
  have h : step (expN 8191) = step 1 := exp_8192
  exact step_inj (expN_lt _) (by decide) h
/-- A power that is 1 shifts nothing. -/
theorem exp_add {n : Nat} (h : expN n = 1) (j : Nat) : expN (n + j) = expN j := by
  rw [← mulP_exp, h, mulP_one]
theorem exp_mul {n : Nat} (h : expN n = 1) (k j : Nat) : expN (n * k + j) = expN j := by
  induction k with
  | zero => rw [Nat.mul_zero, Nat.zero_add]
  | succ k ih => rw [Nat.mul_succ, Nat.add_right_comm, Nat.add_comm, exp_add h, ih]
theorem exp_mod (i : Nat) : expN (i % 8191) = expN i := by
  have h := exp_mul exp_8191 (i / 8191) (i % 8191)
  rw [Nat.div_add_mod] at h
  exact h.symm
/-- The numbers whose power is 1 close under taking remainders, so under the greatest common divisor. -/
theorem exp_gcd : ∀ (m n : Nat), expN m = 1 → expN n = 1 → expN (Nat.gcd m n) = 1 := by
  intro m n
  induction m, n using Nat.gcd.induction with
  | H0 n => intro _ h; rw [Nat.gcd_zero_left]; exact h
  | H1 m n hm ih =>
    intro h1 h2
    rw [Nat.gcd_rec]
    refine ih ?_ h1
    have h := exp_mul h1 (n / m) (n % m)
    rw [Nat.div_add_mod, h2] at h
    exact h.symm
theorem prime_gcd : ∀ p, 0 < p → p < 8191 → Nat.gcd p 8191 = 1 := by
  intro p h0 h1
  have hd : Nat.gcd p 8191 ∣ 8191 := Nat.gcd_dvd_right _ _
  have hle : Nat.gcd p 8191 ≤ p := Nat.le_of_dvd h0 (Nat.gcd_dvd_left _ _)
  obtain ⟨k, hk⟩ := hd
  generalize Nat.gcd p 8191 = g at *
  have hg : g < 91 ∨ k < 91 := by
    rcases Nat.lt_or_ge g 91 with h | h
    · exact .inl h
    · rcases Nat.lt_or_ge k 91 with h' | h'
      · exact .inr h'
      · have := Nat.mul_le_mul h h'; omega
  have key : ∀ q, q < 91 → 8191 % q = 0 → q = 1 := by decide +kernel
  rcases hg with h | h
  · exact key g h (by rw [hk]; exact Nat.mul_mod_right _ _)
  · have := key k h (by rw [hk]; exact Nat.mul_mod_left _ _)
    subst this; omega
theorem exp_ne {p : Nat} (h0 : 0 < p) (h1 : p < 8191) : expN p ≠ 1 := by
  intro h
  have := exp_gcd p 8191 h exp_8191
  rw [prime_gcd p h0 h1] at this
  revert this; decide
theorem stepN_inj (n : Nat) {a b : Nat} (ha : a < 8192) (hb : b < 8192) (h : stepN n a = stepN n b) : a = b := by
  induction n with
  | zero => exact h
  | succ n ih =>
    refine ih (step_inj ?_ ?_ h)
    · clear ih h; induction n with
      | zero => exact ha
      | succ n ih => exact step_lt ih
    · clear ih h; induction n with
      | zero => exact hb
      | succ n ih => exact step_lt ih
/-- The powers below 8191 differ from each other. -/
theorem exp_inj {i j : Nat} (hi : i < 8191) (hj : j < 8191) (h : expN i = expN j) : i = j := by
  have key : ∀ i j, i < j → j < 8191 → expN i ≠ expN j := by
    intro i j hij hj h
    have h2 : stepN i (expN 0) = stepN i (expN (j - i)) := by
      rw [stepN_exp, stepN_exp, Nat.add_zero, show i + (j - i) = j by omega]; exact h
    have h3 := stepN_inj i (expN_lt 0) (expN_lt (j - i)) h2
    exact exp_ne (by omega) (by omega) h3.symm
  rcases Nat.lt_trichotomy i j with h1 | h1 | h1
  · exact absurd h (key i j h1 hj)
  · exact h1
  · exact absurd h.symm (key j i h1 hi)
theorem exp_pos (i : Nat) : 0 < expN i := by
  rcases Nat.eq_zero_or_pos (expN i) with h | h
  · have h2 : stepN i (expN 0) = stepN i 0 := by rw [stepN_exp, stepN_zero, Nat.add_zero]; exact h
    exact absurd (stepN_inj i (expN_lt 0) (by decide) h2) (by decide)
  · exact h
/-- So many values, all different, none too large: each is met. -/
theorem pigeon : ∀ (n : Nat) (f : Nat → Nat), (∀ i, i < n → f i < n) → (∀ i j, i < n → j < n → f i = f j → i = j) → ∀ y, y < n → ∃ i, i < n ∧ f i = y := by
  intro n
  induction n with
  | zero => intro f _ _ y hy; omega
  | succ n ih =>
    intro f hf hi y hy
    have hne : ∀ i, i < n → f i ≠ f n := fun i h1 h2 => by have := hi i n (by omega) (by omega) h2; omega
    have hb := hf n (by omega)
    have hg := ih (fun i => if f i = n then f n else f i)
      (fun i h1 => by
        have h2 := hf i (by omega)
        have h3 := hne i h1
        show (if f i = n then f n else f i) < n
        split <;> omega)
      (fun i j h1 h2 h3 => by
        have h4 := hne i h1
        have h5 := hne j h2
        apply hi i j (by omega) (by omega)
        try simp only at h3
        split at h3 <;> split at h3 <;> omega)
    rcases Nat.lt_or_ge y n with h | h
    · obtain ⟨i, h1, h2⟩ := hg y h
      try simp only at h2
      split at h2
      · exact ⟨n, by omega, h2⟩
      · exact ⟨i, by omega, h2⟩
    · have hyn : y = n := by omega
      rcases Nat.lt_or_ge (f n) n with h3 | h3
      · obtain ⟨i, h1, h2⟩ := hg (f n) h3
        have h4 := hne i h1
        try simp only at h2
        split at h2
        · exact ⟨i, by omega, by omega⟩
        · omega
      · exact ⟨n, by omega, by omega⟩
/-- Each element but 0 is a power. -/
theorem exp_surj {x : Nat} (h0 : 0 < x) (h1 : x < 8192) : ∃ i, i < 8191 ∧ expN i = x := by
  obtain ⟨i, h2, h3⟩ := pigeon 8191 (fun i => expN i - 1)
    (fun i _ => by have := expN_lt i; have := exp_pos i; show expN i - 1 < 8191; omega)
    (fun i j hi hj h => by
      have := exp_pos i
      have := exp_pos j
      try simp only at h
      exact exp_inj hi hj (by omega)) (x - 1) (by omega)
  try simp only at h3
  have := exp_pos i
  exact ⟨i, h2, by omega⟩
/-- The logarithm, of an element that is not 0. -/
noncomputable def logN (x : Nat) : Nat := if h : 0 < x ∧ x < 8192 then Classical.choose (exp_surj h.1 h.2) else 0
theorem logN_lt (x : Nat) : logN x < 8191 := by
  unfold logN
  split
  · next h => exact (Classical.choose_spec (exp_surj h.1 h.2)).1
  · decide
theorem exp_log {x : Nat} (h0 : 0 < x) (h1 : x < 8192) : expN (logN x) = x := by
  unfold logN
  rw [dif_pos ⟨h0, h1⟩]
  exact (Classical.choose_spec (exp_surj h0 h1)).2
theorem log_exp {i : Nat} (h : i < 8191) : logN (expN i) = i := exp_inj (logN_lt _) h (exp_log (exp_pos i) (expN_lt i))
/-- The product by logarithms. -/
theorem mul_logs {a b : Nat} (ha : 0 < a) (ha2 : a < 8192) (hb : 0 < b) (hb2 : b < 8192) : expN (logN a + logN b) = mulP a b := by
  rw [← mulP_exp, exp_log ha ha2, exp_log hb hb2]
theorem mulP_zero_left (b : Nat) : mulP 0 b = 0 := mulK_zero b 13
theorem mulP_zero_right (a : Nat) : mulP a 0 = 0 := by
  unfold mulP
  simp [mulK, stepN_zero]
end Go.Proofs.YtgfjeaegigjnaaaGreatDoor

