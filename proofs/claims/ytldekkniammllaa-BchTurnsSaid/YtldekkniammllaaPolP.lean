/- Minimal polynomials in plain Lean: the roots, the product of the factors x + r, the exponents whose coefficient is 1. -/
import Derived.Test.YtldekkniammllaaBchG
namespace Go.Proofs.Ytldekkniammllaa
set_option linter.unusedVariables false
set_option linter.unusedSimpArgs false

theorem stepN_lt {x : Nat} (n : Nat) (h : x < 8192) : stepN n x < 8192 := by
  induction n with
  | zero => exact h
  | succ n ih => exact step_lt ih
theorem mulK_lt (a : Nat) {b : Nat} (n : Nat) (h : b < 8192) : mulK a b n < 8192 := by
  induction n with
  | zero => exact (by decide : (0 : Nat) < 8192)
  | succ n ih =>
    unfold mulK
    refine Nat.xor_lt_two_pow (n := 13) ih ?_
    split
    · exact stepN_lt n h
    · decide
theorem mulP_lt (a : Nat) {b : Nat} (h : b < 8192) : mulP a b < 8192 := mulK_lt a 13 h
theorem sq_exp {r : Nat} (h0 : 0 < r) (h1 : r < 8192) : expN (logN r * 2) = mulP r r := by
  rw [Nat.mul_two, ← mulP_exp, exp_log h0 h1]

/-- Place t of the product so far: i coefficients of c times x + r. -/
def nxf (c : List Nat) (r i t : Nat) : Nat := (if 0 < t ∧ t ≤ i then c.getD (t - 1) 0 else 0) ^^^ (if t < i then mulP (c.getD t 0) r else 0)
theorem nxf_zero (c : List Nat) (r t : Nat) : nxf c r 0 t = 0 := by
  unfold nxf
  rw [if_neg (by omega), if_neg (by omega)]; rfl
theorem nxf_step (c : List Nat) (r i t : Nat) : nxf c r (i + 1) t = if t = i then nxf c r i i ^^^ mulP (c.getD i 0) r else if t = i + 1 then nxf c r i (i + 1) ^^^ c.getD i 0 else nxf c r i t := by
  unfold nxf
  by_cases h : t = i
  · subst h
    rw [if_pos rfl, if_neg (show ¬ t < t by omega), if_pos (show t < t + 1 by omega), Nat.xor_zero]
    congr 1
    by_cases h0 : 0 < t
    · rw [if_pos ⟨h0, by omega⟩, if_pos ⟨h0, by omega⟩]
    · rw [if_neg (by omega), if_neg (by omega)]
  · rw [if_neg h]
    by_cases h2 : t = i + 1
    · subst h2
      rw [if_pos rfl, if_pos ⟨by omega, by omega⟩, if_neg (by omega), if_neg (by omega), if_neg (by omega)]
      simp
    · rw [if_neg h2]
      have e1 : (0 < t ∧ t ≤ i + 1) ↔ (0 < t ∧ t ≤ i) := by omega
      have e2 : (t < i + 1) ↔ (t < i) := by omega
      simp only [e1, e2]
theorem nxf_lt {c : List Nat} {r : Nat} (hc : ∀ j, c.getD j 0 < 8192) (hr : r < 8192) (i t : Nat) : nxf c r i t < 8192 := by
  unfold nxf
  refine Nat.xor_lt_two_pow (n := 13) ?_ ?_
  · split
    · exact hc _
    · decide
  · split
    · exact mulP_lt _ hr
    · decide
/-- The whole product. -/
def mulLin (c : List Nat) (r : Nat) : List Nat := (List.range (c.length + 1)).map (nxf c r c.length)
theorem mulLin_length (c : List Nat) (r : Nat) : (mulLin c r).length = c.length + 1 := by simp [mulLin]
theorem mulLin_get (c : List Nat) (r t : Nat) (h : t < c.length + 1) : (mulLin c r).getD t 0 = nxf c r c.length t := by
  unfold mulLin
  rw [List.getD_eq_getElem?_getD, List.getElem?_map, List.getElem?_range h]; rfl
theorem mulLin_lt {c : List Nat} {r : Nat} (hc : ∀ j, c.getD j 0 < 8192) (hr : r < 8192) (j : Nat) : (mulLin c r).getD j 0 < 8192 := by
  rcases Nat.lt_or_ge j (c.length + 1) with h | h
  · rw [mulLin_get _ _ _ h]; exact nxf_lt hc hr _ _
  · rw [List.getD_eq_getElem?_getD, List.getElem?_eq_none (by rw [mulLin_length]; exact h)]; decide
/-- The coefficients after i factors. -/
def cfs (rs : List Nat) (i : Nat) : List Nat := (rs.take i).foldl mulLin [1]
theorem cfs_succ {rs : List Nat} {i : Nat} (h : i < rs.length) : cfs rs (i + 1) = mulLin (cfs rs i) (rs.getD i 0) := by
  unfold cfs
  rw [List.take_add_one, List.getElem?_eq_getElem h, List.foldl_append, List.getD_eq_getElem?_getD, List.getElem?_eq_getElem h]; rfl
theorem cfs_length {rs : List Nat} {i : Nat} (h : i ≤ rs.length) : (cfs rs i).length = i + 1 := by
  induction i with
  | zero => rfl
  | succ i ih => rw [cfs_succ (by omega), mulLin_length, ih (by omega)]
theorem cfs_lt {rs : List Nat} (hr : ∀ j, rs.getD j 0 < 8192) {i : Nat} (h : i ≤ rs.length) (j : Nat) : (cfs rs i).getD j 0 < 8192 := by
  induction i generalizing j with
  | zero =>
    have : cfs rs 0 = [1] := rfl
    rw [this]
    match j with
    | 0 => decide
    | j + 1 => simp
  | succ i ih => rw [cfs_succ (by omega)]; exact mulLin_lt (fun j => ih (by omega) j) (hr i) j
/-- The places, below n, that hold 1, falling. -/
def ones (cs : List Nat) : Nat → List Nat
  | 0 => []
  | n + 1 => if cs.getD n 0 = 1 then n :: ones cs n else ones cs n
theorem ones_length (cs : List Nat) (n : Nat) : (ones cs n).length ≤ n := by
  induction n with
  | zero => simp [ones]
  | succ n ih =>
    unfold ones
    split
    · rw [List.length_cons]; omega
    · omega

/-- What the roots of a minimal polynomial are: 13 powers, each the square of the one ahead. -/
structure Rootz (k : Nat) (rs : List Nat) : Prop where
  len : rs.length = 13
  first : expN (k % 8191) = rs.getD 0 0
  next : ∀ i, i < 13 → mulP (rs.getD i 0) (rs.getD i 0) = rs.getD ((i + 1) % 13) 0
  pos : ∀ i, i < 13 → 0 < rs.getD i 0
  lt : ∀ i, rs.getD i 0 < 8192
  new : ∀ i, i < 13 → (rs.take i).contains (rs.getD i 0) = false
def sqs : Nat → Nat → List Nat
  | 0, _ => []
  | n + 1, r => r :: sqs n (mulP r r)
def rootz (k : Nat) : List Nat := sqs 13 (expN k)
/-- Decided at a numeral. -/
def rootzB (k : Nat) (rs : List Nat) : Bool := rs.length == 13 && expN (k % 8191) == rs.getD 0 0 && (List.range 13).all (fun i => mulP (rs.getD i 0) (rs.getD i 0) == rs.getD ((i + 1) % 13) 0 && decide (0 < rs.getD i 0) && decide (rs.getD i 0 < 8192) && !(rs.take i).contains (rs.getD i 0))
theorem Rootz.of {k : Nat} {rs : List Nat} (h : rootzB k rs = true) : Rootz k rs := by
  unfold rootzB at h
  simp only [Bool.and_eq_true, beq_iff_eq, List.all_eq_true, List.mem_range, decide_eq_true_eq, Bool.not_eq_true'] at h
  obtain ⟨⟨h1, h2⟩, h3⟩ := h
  refine ⟨h1, h2, fun i hi => (h3 i hi).1.1.1, fun i hi => (h3 i hi).1.1.2, fun i => ?_, fun i hi => (h3 i hi).2⟩
  rcases Nat.lt_or_ge i 13 with hi | hi
  · exact (h3 i hi).1.2
  · rw [List.getD_eq_getElem?_getD, List.getElem?_eq_none (by omega)]; decide
theorem rootz1 : Rootz 1 (rootz 1) := .of (by decide +kernel)
theorem rootz3 : Rootz 3 (rootz 3) := .of (by decide +kernel)
theorem rootz15 : Rootz 15 (rootz 15) := .of (by decide +kernel)

end Go.Proofs.Ytldekkniammllaa
