/- The document's way to a minimal polynomial, in plain Lean. -/
import Derived.Test.YtldekkniammllaaPolQ
namespace Go.Proofs.Ytldekkniammllaa
set_option linter.unusedVariables false
set_option linter.unusedSimpArgs false

/-- v and its mix, reduced by the first i rows. -/
def red (R M : List Nat) (v m : Nat) : Nat → Nat × Nat
  | 0 => (v, m)
  | i + 1 => let s := red R M v m i
    if s.1 ^^^ R.getD i 0 < s.1 then (s.1 ^^^ R.getD i 0, s.2 ^^^ M.getD i 0) else s
/-- How many rows at the head are greater than v. -/
def posF : List Nat → Nat → Nat
  | [], _ => 0
  | x :: l, v => if v < x then posF l v + 1 else 0
theorem posF_le (l : List Nat) (v : Nat) : posF l v ≤ l.length := by
  induction l with
  | nil => exact Nat.le_refl _
  | cons x l ih => unfold posF; split <;> (rw [List.length_cons]; omega)
theorem posF_lt (l : List Nat) (v i : Nat) (h : i < posF l v) : v < l.getD i 0 := by
  induction l generalizing i with
  | nil => simp [posF] at h
  | cons x l ih =>
    unfold posF at h
    split at h
    · next hx =>
      match i with
      | 0 => simpa using hx
      | i + 1 => have := ih i (by omega); simpa using this
    · omega
theorem posF_at (l : List Nat) (v : Nat) (h : posF l v < l.length) : ¬ v < l.getD (posF l v) 0 := by
  induction l with
  | nil => simp at h
  | cons x l ih =>
    unfold posF at h ⊢
    split at h
    · next hx =>
      rw [if_pos hx]
      have := ih (by simpa using h)
      simpa using this
    · next hx => rw [if_neg hx]; simpa using hx
/-- One more row. -/
def putAt (l : List Nat) (i v : Nat) : List Nat := l.take i ++ [v] ++ l.drop i
theorem putAt_length {l : List Nat} {i : Nat} (v : Nat) (h : i ≤ l.length) : (putAt l i v).length = l.length + 1 := by
  unfold putAt
  rw [List.length_append, List.length_append, List.length_take, List.length_drop]
  simp; omega
/-- The rows, the mixes and the power at the head of round d. -/
def stD (r : Nat) : Nat → List Nat × List Nat × Nat
  | 0 => ([], [], 1)
  | d + 1 => let s := stD r d; let x := red s.1 s.2.1 s.2.2 (2 ^ d) d
    (putAt s.1 (posF s.1 x.1) x.1, putAt s.2.1 (posF s.1 x.1) x.2, mulP r s.2.2)
def redD (r d : Nat) : Nat × Nat := red (stD r d).1 (stD r d).2.1 (stD r d).2.2 (2 ^ d) d
theorem stD_lengths (r d : Nat) : (stD r d).1.length = d ∧ (stD r d).2.1.length = d := by
  induction d with
  | zero => exact ⟨rfl, rfl⟩
  | succ d ih =>
    have h := posF_le (stD r d).1 (red (stD r d).1 (stD r d).2.1 (stD r d).2.2 (2 ^ d) d).1
    refine ⟨?_, ?_⟩
    · show (putAt _ _ _).length = _
      rw [putAt_length _ h, ih.1]
    · show (putAt _ _ _).length = _
      rw [putAt_length _ (by rw [ih.2]; rw [ih.1] at h; exact h), ih.2]
/-- What is decided of a root. -/
structure MinD (r : Nat) (A : Nat) : Prop where
  lt : r < 8192
  nz : ∀ d, d < 13 → (redD r d).1 ≠ 0
  z : (redD r 13).1 = 0
  mix : bl 14 (redD r 13).2 = terms A
  rows : ∀ d, d ≤ 13 → ∀ i, i < 13 → (stD r d).1.getD i 0 < 8192 ∧ (stD r d).2.1.getD i 0 < 16384
  pw : ∀ d, d ≤ 13 → (stD r d).2.2 < 8192
def minB (r A : Nat) : Bool := decide (r < 8192) && (List.range 13).all (fun d => (redD r d).1 != 0) && (redD r 13).1 == 0 && bl 14 (redD r 13).2 == terms A && (List.range 14).all (fun d => (List.range 13).all (fun i => decide ((stD r d).1.getD i 0 < 8192) && decide ((stD r d).2.1.getD i 0 < 16384)) && decide ((stD r d).2.2 < 8192))
theorem MinD.of {r A : Nat} (h : minB r A = true) : MinD r A := by
  unfold minB at h
  simp only [Bool.and_eq_true, beq_iff_eq, List.all_eq_true, List.mem_range, decide_eq_true_eq, bne_iff_ne] at h
  obtain ⟨⟨⟨⟨h1, h2⟩, h3⟩, h4⟩, h5⟩ := h
  exact ⟨h1, fun d hd => h2 d hd, h3, h4, fun d hd i hi => (h5 d (by omega)).1 i hi, fun d hd => (h5 d (by omega)).2⟩
theorem red_lt {R M : List Nat} {v m : Nat} (hR : ∀ i, i < 13 → R.getD i 0 < 8192 ∧ M.getD i 0 < 16384) (hv : v < 8192) (hm : m < 16384) {i : Nat} (hi : i ≤ 13) : (red R M v m i).1 < 8192 ∧ (red R M v m i).2 < 16384 := by
  induction i with
  | zero => exact ⟨hv, hm⟩
  | succ i ih =>
    have h := ih (by omega)
    have h2 := hR i (by omega)
    show (if _ then _ else _ : Nat × Nat).1 < 8192 ∧ (if _ then _ else _ : Nat × Nat).2 < 16384
    split
    · exact ⟨Nat.xor_lt_two_pow (n := 13) h.1 h2.1, Nat.xor_lt_two_pow (n := 14) h.2 h2.2⟩
    · exact h
theorem min_ok {j : Nat} (h : j < 8) : MinD (expN (2 * j + 1)) (mkA j) := .of ((by decide +kernel : ∀ j, j < 8 → minB (expN (2 * j + 1)) (mkA j) = true) j h)
end Go.Proofs.Ytldekkniammllaa
