/- Polynomials over two numbers. -/
import Derived.Test.YtgfjeaegigjnaaaGreatDoorPgD
import Derived.Test.YtgfjeaegigjnaaaGreatDoorPgH
import Derived.Test.YtgfjeaegigjnaaaGreatDoorShelf
import Derived.Lib.ItoaNum
namespace Go.Proofs.YtgfjeaegigjnaaaGreatDoor
set_option linter.unusedVariables false
set_option linter.unusedSimpArgs false

/-- Word j of a row. -/
def wd (A j : Nat) : Nat := (A >>> (64 * j)) % 2 ^ 64
theorem wd_lt (A j : Nat) : wd A j < 18446744073709551616 := Nat.mod_lt _ (by decide)
theorem wd_bit (A j t : Nat) : (wd A j).testBit t = (decide (t < 64) && A.testBit (64 * j + t)) := by
  unfold wd
  rw [Nat.testBit_mod_two_pow, Nat.testBit_shiftRight]
theorem wd_zero (j : Nat) : wd 0 j = 0 := by unfold wd; simp
theorem wd_flip (A e j : Nat) : wd (A ^^^ 2 ^ e) j = if j = e / 64 then wd A j ^^^ 2 ^ (e % 64) else wd A j := by
  apply Nat.eq_of_testBit_eq
  intro t
  rw [wd_bit, Nat.testBit_xor, Nat.testBit_two_pow]
  split
  · next h =>
    rw [Nat.testBit_xor, wd_bit, Nat.testBit_two_pow]
    by_cases ht : t < 64
    · have : decide (e = 64 * j + t) = decide (e % 64 = t) := by
        congr 1; apply propext; constructor <;> intro _ <;> omega
      simp [ht, this]
    · have : ¬ (e % 64 = t) := by omega
      simp [ht, this]
  · next h =>
    rw [wd_bit]
    by_cases ht : t < 64
    · have : ¬ (e = 64 * j + t) := by omega
      simp [ht, this]
    · simp [ht]
theorem wd_add (A w q l j : Nat) (hw : w < 2 ^ 64) (hl : l < 64) :
    wd (A ^^^ (w <<< (64 * q + l))) j = if j = q then wd A j ^^^ ((w <<< l) % 2 ^ 64) else if j = q + 1 then wd A j ^^^ (w >>> (64 - l)) else wd A j := by
  apply Nat.eq_of_testBit_eq
  intro t
  rw [wd_bit, Nat.testBit_xor, Nat.testBit_shiftLeft]
  split
  · next h =>
    subst h
    rw [Nat.testBit_xor, wd_bit, Nat.testBit_mod_two_pow, Nat.testBit_shiftLeft]
    by_cases ht : t < 64
    · have e1 : decide (64 * j + t ≥ 64 * j + l) = decide (t ≥ l) := by
        congr 1; apply propext; constructor <;> intro _ <;> omega
      have e2 : 64 * j + t - (64 * j + l) = t - l := by omega
      simp [ht, e1, e2]
    · simp [ht]
  · next h =>
    split
    · next h2 =>
      subst h2
      rw [Nat.testBit_xor, wd_bit, Nat.testBit_shiftRight]
      by_cases ht : t < 64
      · have e1 : (64 * (q + 1) + t ≥ 64 * q + l) := by omega
        have e2 : 64 * (q + 1) + t - (64 * q + l) = 64 - l + t := by omega
        simp [ht, e1, e2]
      · have : w.testBit (64 - l + t) = false := Nat.testBit_lt_two_pow (Nat.lt_of_lt_of_le hw (Nat.pow_le_pow_right (by decide) (by omega)))
        simp [ht, this]
    · next h2 =>
      rw [wd_bit]
      by_cases ht : t < 64
      · rcases Nat.lt_or_ge j q with hq | hq
        · have e1 : ¬ (64 * j + t ≥ 64 * q + l) := by omega
          simp [ht, e1]
        · have : w.testBit (64 * j + t - (64 * q + l)) = false := Nat.testBit_lt_two_pow (Nat.lt_of_lt_of_le hw (Nat.pow_le_pow_right (by decide) (by omega)))
          simp [ht, this]
      · simp [ht]
/-- A word that is not 0 lies within the number. -/
theorem wd_ne (A j : Nat) (h : wd A j ≠ 0) : 2 ^ (64 * j) ≤ A := by
  rcases Nat.lt_or_ge A (2 ^ (64 * j)) with h1 | h1
  · exact absurd (by unfold wd; rw [Nat.shiftRight_eq_div_pow, Nat.div_eq_of_lt h1]) h
  · exact h1
/-- The exponents below n, falling. -/
def bl : Nat → Nat → List Nat
  | 0, _ => []
  | n + 1, A => if A.testBit n then n :: bl n A else bl n A
theorem bl_length (n A : Nat) : (bl n A).length ≤ n := by
  induction n with
  | zero => simp [bl]
  | succ n ih =>
    unfold bl
    split
    · rw [List.length_cons]; omega
    · omega
theorem bl_mem {n A e : Nat} (h : e ∈ bl n A) : e < n ∧ A.testBit e = true := by
  induction n with
  | zero => simp [bl] at h
  | succ n ih =>
    unfold bl at h
    split at h
    · rcases List.mem_cons.mp h with h1 | h1
      · subst h1; exact ⟨by omega, by assumption⟩
      · have := ih h1; exact ⟨by omega, this.2⟩
    · have := ih h; exact ⟨by omega, this.2⟩
theorem bl_congr {n A B : Nat} (h : ∀ e, e < n → A.testBit e = B.testBit e) : bl n A = bl n B := by
  induction n with
  | zero => rfl
  | succ n ih => unfold bl; rw [ih (fun e he => h e (by omega)), h n (by omega)]
theorem bl_zero (n : Nat) : bl n 0 = [] := by
  induction n with
  | zero => rfl
  | succ n ih => unfold bl; rw [ih]; simp
theorem bl_more {n m A : Nat} (h : A < 2 ^ n) (hm : n ≤ m) : bl m A = bl n A := by
  induction m with
  | zero => have : n = 0 := by omega
            subst this; rfl
  | succ m ih =>
    rcases Nat.lt_or_ge m n with h1 | h1
    · have : n = m + 1 := by omega
      subst this; rfl
    · have h2 : A.testBit m = false := Nat.testBit_lt_two_pow (Nat.lt_of_lt_of_le h (Nat.pow_le_pow_right (by decide) h1))
      show (if A.testBit m then m :: bl m A else bl m A) = _
      rw [h2, ih h1]; rfl
theorem bl_shift (k m A : Nat) : bl (k + m) A = (bl m (A >>> k)).map (k + ·) ++ bl k A := by
  induction m with
  | zero => rfl
  | succ m ih =>
    show (if A.testBit (k + m) then (k + m) :: bl (k + m) A else bl (k + m) A) = (if (A >>> k).testBit m then m :: bl m (A >>> k) else bl m (A >>> k)).map (k + ·) ++ bl k A
    rw [ih, Nat.testBit_shiftRight]
    cases A.testBit (k + m) <;> simp
theorem bl_words (i A : Nat) : bl (64 * (i + 1)) A = (bl 64 (wd A i)).map (64 * i + ·) ++ bl (64 * i) A := by
  rw [Nat.mul_add, Nat.mul_one, bl_shift]
  congr 2
  apply bl_congr
  intro e he
  rw [Nat.testBit_shiftRight, wd_bit]; simp [he]
theorem bl_top {n w : Nat} (h0 : w ≠ 0) (h : w < 2 ^ n) : bl n w = w.log2 :: bl n (w ^^^ 2 ^ w.log2) := by
  induction n with
  | zero => simp at h; omega
  | succ n ih =>
    have hl : w.log2 < n + 1 := (Nat.log2_lt h0).mpr h
    have hb : w.testBit w.log2 = true := Nat.testBit_log2 h0
    have hx : (w ^^^ 2 ^ w.log2) < 2 ^ w.log2 := by
      apply Nat.lt_pow_two_of_testBit
      intro i hi
      rw [Nat.testBit_xor, Nat.testBit_two_pow]
      rcases Nat.lt_or_ge w.log2 i with h1 | h1
      · have : w.testBit i = false := Nat.testBit_lt_two_pow ((Nat.log2_lt h0).mp h1)
        have h2 : ¬ (w.log2 = i) := by omega
        simp [this, h2]
      · have : i = w.log2 := by omega
        subst this
        simp [hb]
    rw [bl_more hx (Nat.le_of_lt hl)]
    have hw2 : w < 2 ^ (w.log2 + 1) := Nat.lt_log2_self
    rw [bl_more hw2 (by omega)]
    show (if w.testBit w.log2 then w.log2 :: bl w.log2 w else bl w.log2 w) = _
    rw [hb]
    show w.log2 :: bl w.log2 w = _
    congr 1
    apply bl_congr
    intro e he
    have h2 : ¬ (w.log2 = e) := by omega
    rw [Nat.testBit_xor, Nat.testBit_two_pow]
    simp [h2]
/-- The sum of these powers. -/
def sumL (acc : Nat) (L : List Nat) : Nat := L.foldl (fun a e => a ^^^ 2 ^ e) acc
theorem sumL_bl (n A acc : Nat) : sumL acc (bl n A) = acc ^^^ (A % 2 ^ n) := by
  induction n generalizing acc with
  | zero => simp [sumL, bl, Nat.mod_one]
  | succ n ih =>
    unfold bl
    by_cases hb : A.testBit n = true
    · rw [if_pos hb]
      show sumL (acc ^^^ 2 ^ n) (bl n A) = _
      rw [ih, Nat.xor_assoc]
      congr 1
      apply Nat.eq_of_testBit_eq
      intro t
      rw [Nat.testBit_xor, Nat.testBit_two_pow, Nat.testBit_mod_two_pow, Nat.testBit_mod_two_pow]
      by_cases h1 : n = t
      · subst h1; simp [hb]
      · have : decide (t < n) = decide (t < n + 1) := by congr 1; apply propext; constructor <;> intro _ <;> omega
        simp [h1, this]
    · rw [if_neg hb, ih]
      congr 1
      apply Nat.eq_of_testBit_eq
      intro t
      rw [Nat.testBit_mod_two_pow, Nat.testBit_mod_two_pow]
      by_cases h1 : n = t
      · subst h1; simp [hb]
      · have : decide (t < n) = decide (t < n + 1) := by congr 1; apply propext; constructor <;> intro _ <;> omega
        simp [this]
theorem sumL_self {n A : Nat} (h : A < 2 ^ n) : sumL 0 (bl n A) = A := by
  rw [sumL_bl, Nat.zero_xor, Nat.mod_eq_of_lt h]
/-- The product: of each term of A, B so far up. -/
def mulL (B : Nat) (acc : Nat) (L : List Nat) : Nat := L.foldl (fun a e => a ^^^ (B <<< e)) acc
def clmul (A B : Nat) : Nat := mulL B 0 (bl (A.log2 + 1) A)
theorem shl_lt {B e m n : Nat} (h : B < 2 ^ m) (hn : m + e ≤ n) : B <<< e < 2 ^ n := by
  rw [Nat.shiftLeft_eq]
  have h1 : B * 2 ^ e < 2 ^ m * 2 ^ e := Nat.mul_lt_mul_of_pos_right h (Nat.two_pow_pos e)
  rw [← Nat.pow_add] at h1
  exact Nat.lt_of_lt_of_le h1 (Nat.pow_le_pow_right (by decide) hn)
theorem mulL_lt {B m n : Nat} (hB : B < 2 ^ m) : ∀ (L : List Nat) (acc : Nat), (∀ e ∈ L, m + e ≤ n) → acc < 2 ^ n → mulL B acc L < 2 ^ n := by
  intro L
  induction L with
  | nil => intro acc _ h; exact h
  | cons e L ih =>
    intro acc hL h
    exact ih _ (fun x hx => hL x (List.mem_cons_of_mem _ hx)) (Nat.xor_lt_two_pow h (shl_lt hB (hL e (List.mem_cons_self ..))))
theorem mulL_snoc (B acc : Nat) (L : List Nat) (e : Nat) : mulL B acc (L ++ [e]) = mulL B acc L ^^^ (B <<< e) := by simp [mulL]
theorem sumL_snoc (acc : Nat) (L : List Nat) (e : Nat) : sumL acc (L ++ [e]) = sumL acc L ^^^ 2 ^ e := by simp [sumL]
/-- The low i words, one word more. -/
theorem low_words (B i : Nat) : B % 2 ^ (64 * (i + 1)) = (B % 2 ^ (64 * i)) ^^^ (wd B i <<< (64 * i)) := by
  apply Nat.eq_of_testBit_eq
  intro t
  rw [Nat.testBit_xor, Nat.testBit_mod_two_pow, Nat.testBit_mod_two_pow, Nat.testBit_shiftLeft, wd_bit]
  rcases Nat.lt_or_ge t (64 * i) with h | h
  · have h1 : t < 64 * (i + 1) := by omega
    have h2 : ¬ (t ≥ 64 * i) := by omega
    simp [h, h1, h2]
  · have h2 : ¬ (t < 64 * i) := by omega
    rcases Nat.lt_or_ge t (64 * (i + 1)) with h3 | h3
    · have h4 : t - 64 * i < 64 := by omega
      have h5 : 64 * i + (t - 64 * i) = t := by omega
      simp [h, h2, h3, h4, h5]
    · have h4 : ¬ (t < 64 * (i + 1)) := by omega
      have h5 : ¬ (t - 64 * i < 64) := by omega
      simp [h2, h4, h5]
theorem shl_xor_words (A B u i : Nat) : A ^^^ ((B % 2 ^ (64 * (i + 1))) <<< u) = (A ^^^ ((B % 2 ^ (64 * i)) <<< u)) ^^^ (wd B i <<< (64 * i + u)) := by
  rw [low_words, Nat.shiftLeft_xor_distrib, Nat.xor_assoc, ← Nat.shiftLeft_add]
end Go.Proofs.YtgfjeaegigjnaaaGreatDoor

namespace Go.Proofs.YtgfjeaegigjnaaaGreatDoor
open Go.RowKit
set_option linter.unusedVariables false
set_option linter.unusedSimpArgs false

/-- A row of n words that is the polynomial A. -/
def WRow (w : World) (g n A : Nat) : Prop := Row w g n (fun j => .int .u64 ((wd A j : Nat) : Int))
theorem wrap_pow64 {r : Nat} (h : r < 64) : IntKind.u64.wrap ((2 : Int) ^ r) = ((2 ^ r : Nat) : Int) := by
  have h1 : 2 ^ r < 2 ^ 64 := Nat.pow_lt_pow_right (by decide) h
  have h2 : ((2 ^ r : Nat) : Int) = (2 : Int) ^ r := by simp
  rw [← h2, IntKind.wrap_u64]
  generalize 2 ^ r = p at *
  omega
theorem WRow.put {w : World} {g n A A' q v : Nat} (h : WRow w g n A) (hv : ∀ j, wd A' j = if j = q then v else wd A j) : WRow (w.setCell ⟨g, q, none⟩ (.int .u64 ((v : Nat) : Int))) g n A' := by
  refine (Row.set h q (.int .u64 ((v : Nat) : Int))).congr fun j hj => ?_
  by_cases e : j = q
  · subst e; rw [upd_same, hv, if_pos rfl]
  · rw [upd_other _ _ e, hv, if_neg e]
theorem Row.stay {w : World} {g q : Nat} {v : Value} : Stays (· = g) w (w.setCell ⟨g, q, none⟩ v) := Stays.setCell (S := (· = g)) (p := ⟨g, q, none⟩) (Stays.refl _ _) rfl v
set_option maxRecDepth 100000 in
set_option maxHeartbeats 1600000 in
theorem flip_any (g n c A e : Nat) (w : World) (h : WRow w g n A) (he : e / 64 < n) (he2 : e ≤ 16448) :
    Calls Tryz.prog 125 #[.slice (some ⟨g, 0, none⟩) n c, .int .i64 (e : Int)] w fun x w' => x = .returned (.tuple #[]) ∧ WRow w' g n (A ^^^ 2 ^ e) ∧ Stays (· = g) w w' := by
  obtain ⟨q, hq⟩ : ∃ q, q = e / 64 := ⟨_, rfl⟩
  obtain ⟨r, hr⟩ : ∃ r, r = e % 64 := ⟨_, rfl⟩
  have hqi : (e : Int) / 64 = (q : Int) := by omega
  have hri : (e : Int) % 64 = (r : Int) := by omega
  have hr64 : r < 64 := by omega
  rw [← hq] at he
  have hc := h.cell q he
  have hf := h.free q
  have HQ := Lib.hid hq
  have HR := Lib.hid hr
  have HH := Lib.hid h
  clear hq hr h
  go_enter Tryz.func125, Tryz.ntmps125
  go_wp2
  go_region
  go_end0
  refine ⟨rfl, ?_, Stays.drew Row.stay⟩
  have hw := wd_lt A q
  rw [wrap_pow64 hr64, bits_xor_u64_nat _ _ hw (Nat.pow_lt_pow_right (by decide) hr64)]
  refine Row.drew (WRow.put HH.out (v := wd A q ^^^ 2 ^ r) fun j => ?_)
  rw [wd_flip, HQ.out, HR.out]
  split <;> rename_i hj
  · rw [hj]
  · rfl
theorem log2_lt_pow {A n : Nat} (h : A.log2 < n) : A < 2 ^ n := by
  rcases Nat.eq_zero_or_pos A with h0 | h0
  · subst h0; exact Nat.two_pow_pos _
  · exact (Nat.log2_lt (by omega)).mp h
theorem log2_of_lt {A n : Nat} (hn : 0 < n) (h : A < 2 ^ n) : A.log2 < n := by
  rcases Nat.eq_zero_or_pos A with h0 | h0
  · subst h0; rw [Nat.log2_zero]; exact hn
  · exact (Nat.log2_lt (by omega)).mpr h
/-- The degree, as a number. -/
def degI (A : Nat) : Int := if A = 0 then -1 else (A.log2 : Int)
theorem top_word {A k : Nat} (h : A < 2 ^ (64 * (k + 1))) (h0 : wd A k ≠ 0) : A ≠ 0 ∧ A.log2 = 64 * k + (wd A k).log2 := by
  have h1 := wd_ne A k h0
  have hp : 0 < 2 ^ (64 * k) := Nat.two_pow_pos _
  have hA : A ≠ 0 := by omega
  refine ⟨hA, ?_⟩
  have hk : wd A k = A / 2 ^ (64 * k) := by
    unfold wd
    rw [Nat.shiftRight_eq_div_pow]
    refine Nat.mod_eq_of_lt (Nat.div_lt_of_lt_mul ?_)
    rw [← Nat.pow_add]
    exact h
  rw [hk] at h0 ⊢
  have e1 : 2 ^ (A / 2 ^ (64 * k)).log2 ≤ A / 2 ^ (64 * k) := Nat.log2_self_le h0
  have e2 : A / 2 ^ (64 * k) < 2 ^ ((A / 2 ^ (64 * k)).log2 + 1) := Nat.lt_log2_self
  generalize (A / 2 ^ (64 * k)).log2 = l at *
  have e3 : 2 ^ (64 * k + l) ≤ A := by
    rw [Nat.pow_add, Nat.mul_comm]
    exact (Nat.le_div_iff_mul_le hp).mp e1
  have e4 : A < 2 ^ (64 * k + l + 1) := by
    rw [Nat.add_assoc, Nat.pow_add, Nat.mul_comm]
    exact (Nat.div_lt_iff_lt_mul hp).mp e2
  have e5 : A.log2 < 64 * k + l + 1 := (Nat.log2_lt hA).mpr e4
  have e6 : ¬ A.log2 < 64 * k + l := fun h => by
    have := (Nat.log2_lt hA).mp h
    omega
  omega
theorem no_word {A k : Nat} (h : A < 2 ^ (64 * (k + 1))) (h0 : wd A k = 0) : A < 2 ^ (64 * k) := by
  have hp : 0 < 2 ^ (64 * k) := Nat.two_pow_pos _
  have hk : wd A k = A / 2 ^ (64 * k) := by
    unfold wd
    rw [Nat.shiftRight_eq_div_pow]
    refine Nat.mod_eq_of_lt (Nat.div_lt_of_lt_mul ?_)
    rw [← Nat.pow_add]
    exact h
  rw [hk] at h0
  rcases Nat.lt_or_ge A (2 ^ (64 * k)) with h1 | h1
  · exact h1
  · have := Nat.div_pos h1 hp; omega
theorem bitLen_log2 {x : Nat} (h : x ≠ 0) (h2 : x < 2 ^ 64) : Lib.bitLen x = x.log2 + 1 := by
  obtain ⟨a, b, c⟩ := Go.Lib.bitLenAux_bounds 64 x h2 h
  have hL : Lib.bitLen x = Lib.bitLenAux 64 x := rfl
  rw [hL]
  generalize Lib.bitLenAux 64 x = L at *
  have e1 : x.log2 < L := (Nat.log2_lt h).mpr c
  have e2 : ¬ x.log2 < L - 1 := fun h3 => by
    have := (Nat.log2_lt h).mp h3
    omega
  omega
set_option maxRecDepth 100000 in
set_option maxHeartbeats 1600000 in
theorem degree_any (g n c A : Nat) (w : World) (h : WRow w g n A) (hn : n ≤ 258) (hAl : A.log2 < 64 * n) :
    Calls Tryz.prog 113 #[.slice (some ⟨g, 0, none⟩) n c] w fun x w' => x = .returned (.int .i64 (degI A)) ∧ w' = w := by
  have hA : A < 2 ^ (64 * n) := log2_lt_pow hAl
  clear hAl
  go_enter Tryz.func113, Tryz.ntmps113
  go_wp2
  go_loop [3] (fun i => ∃ j : Int, -1 ≤ j ∧ j < n ∧ i = .int .i64 j ∧ A < 2 ^ (64 * (j + 1).toNat)) (fun i => (intOf i + 1).toNat)
  case atStart => exact ⟨(n : Int) - 1, by omega, by omega, rfl, by simpa using hA⟩
  case round =>
    obtain ⟨j, hj0, hj1, rfl, hj⟩ := hrel
    by_cases h0 : 0 ≤ j
    · obtain ⟨k, rfl⟩ := Int.eq_ofNat_of_zero_le h0
      have hc := h.cell k (by omega)
      have hj := Lib.hid hj
      have hl := wd_lt A k
      have HA := Lib.hid hA
      have HH := Lib.hid h
      clear hA h
      by_cases hz : wd A k = 0
      · have hz1 : (((wd A k : Nat) : Int) != 0) = false := by simp [hz]
        have HZ := Lib.hid hz
        clear hz
        go_wp2_with fail
        go_round
        case rel => 
          refine ⟨(k : Int) - 1, by omega, by omega, rfl, ?_⟩
          have := no_word (by simpa using hj.out) HZ.out
          simpa using this
        case measure => simp [intOf]
      · have hz1 : (((wd A k : Nat) : Int) != 0) = true := by simp [hz]
        have HZ := Lib.hid hz
        clear hz
        have hT := top_word (k := k) (by simpa using hj.out) HZ.out
        have hlt : (wd A k).log2 < 64 := (Nat.log2_lt HZ.out).mpr hl
        have hB := bitLen_log2 HZ.out hl
        obtain ⟨L, hL⟩ : ∃ L, L = Lib.bitLen (((wd A k : Nat) : Int)).toNat := ⟨_, rfl⟩
        have hLn : L = (wd A k).log2 + 1 := by rw [hL, Int.toNat_natCast]; exact hB
        have hL2 : L ≤ 64 := by omega
        have HL := Lib.hid hL
        have HT := Lib.hid hT
        have HB := Lib.hid hLn
        clear hL hT hB hLn hlt
        go_wp2_with (go_at_call 126; refine (Tryz.bits_Len64 ((wd A k : Nat) : Int) _ (by omega) (by omega)).mono ?_; rintro e w' ⟨rfl, hw'⟩; rw [← HL.out])
        go_ret
        refine ⟨congrArg (fun z => Ending.returned (.int .i64 z)) ?_, rfl⟩
        obtain ⟨t1, t2⟩ := HT.out
        have := HB.out
        unfold degI
        rw [if_neg t1, t2]; omega
    · have : j = -1 := by omega
      subst this
      go_wp2_with fail
      go_ret
      refine ⟨congrArg (fun z => Ending.returned (.int .i64 z)) ?_, rfl⟩
      have : A = 0 := by simpa using hj
      subst this
      rfl
end Go.Proofs.YtgfjeaegigjnaaaGreatDoor

namespace Go.Proofs.YtgfjeaegigjnaaaGreatDoor
open Go.RowKit
set_option linter.unusedVariables false
set_option linter.unusedSimpArgs false

theorem wrap_shl64 (v l : Nat) : IntKind.u64.wrap ((v : Int) * 2 ^ l) = (((v <<< l) % 2 ^ 64 : Nat) : Int) := by
  have h2 : ((2 ^ l : Nat) : Int) = (2 : Int) ^ l := by simp
  rw [← h2, ← Int.natCast_mul, IntKind.wrap_u64, Nat.shiftLeft_eq]
  generalize v * 2 ^ l = p
  omega
theorem div_shr (v s : Nat) : (v : Int) / 2 ^ s = ((v >>> s : Nat) : Int) := by
  have h2 : ((2 ^ s : Nat) : Int) = (2 : Int) ^ s := by simp
  rw [← h2, Nat.shiftRight_eq_div_pow, Int.natCast_ediv]
theorem room1 {B k up n : Nat} (h : wd B k ≠ 0) (hlt : B <<< up < 2 ^ (64 * n)) : 64 * k + up < 64 * n := by
  have h1 := wd_ne B k h
  rcases Nat.lt_or_ge (64 * k + up) (64 * n) with h2 | h2
  · exact h2
  · have h3 : 2 ^ (64 * n) ≤ 2 ^ (64 * k + up) := Nat.pow_le_pow_right (by decide) h2
    rw [Nat.shiftLeft_eq] at hlt
    have h4 : 2 ^ (64 * k) * 2 ^ up ≤ B * 2 ^ up := Nat.mul_le_mul_right _ h1
    rw [← Nat.pow_add] at h4
    omega
theorem room2 {B k up n s : Nat} (h : wd B k >>> s ≠ 0) (hlt : B <<< up < 2 ^ (64 * n)) : 64 * k + s + up < 64 * n := by
  have h1 : 2 ^ s ≤ wd B k := by
    rcases Nat.lt_or_ge (wd B k) (2 ^ s) with h2 | h2
    · exact absurd (by rw [Nat.shiftRight_eq_div_pow, Nat.div_eq_of_lt h2]) h
    · exact h2
  have h2 : wd B k ≤ B / 2 ^ (64 * k) := by
    unfold wd
    rw [Nat.shiftRight_eq_div_pow]
    exact Nat.mod_le _ _
  have h3 : 2 ^ s * 2 ^ (64 * k) ≤ B := (Nat.le_div_iff_mul_le (Nat.two_pow_pos _)).mp (Nat.le_trans h1 h2)
  rw [← Nat.pow_add, Nat.add_comm] at h3
  rcases Nat.lt_or_ge (64 * k + s + up) (64 * n) with h4 | h4
  · exact h4
  · have h5 : 2 ^ (64 * n) ≤ 2 ^ (64 * k + s + up) := Nat.pow_le_pow_right (by decide) h4
    rw [Nat.shiftLeft_eq] at hlt
    have h6 : 2 ^ (64 * k + s) * 2 ^ up ≤ B * 2 ^ up := Nat.mul_le_mul_right _ h3
    rw [← Nat.pow_add] at h6
    omega
theorem add_skip {A B up k : Nat} (h : wd B k = 0) : A ^^^ ((B % 2 ^ (64 * (k + 1))) <<< up) = A ^^^ ((B % 2 ^ (64 * k)) <<< up) := by
  rw [shl_xor_words, h]; simp
/-- One store, and no overlap into the next word. -/
theorem add_one {w : World} {g n A B up k q l : Nat} (h : WRow w g n (A ^^^ ((B % 2 ^ (64 * k)) <<< up))) (hu : up = 64 * q + l) (hl : l < 64) (hz : wd B k >>> (64 - l) = 0) :
    WRow (w.setCell ⟨g, k + q, none⟩ (.int .u64 (((wd (A ^^^ ((B % 2 ^ (64 * k)) <<< up)) (k + q) ^^^ ((wd B k <<< l) % 2 ^ 64) : Nat) : Nat) : Int))) g n (A ^^^ ((B % 2 ^ (64 * (k + 1))) <<< up)) := by
  refine WRow.put h fun j => ?_
  rw [shl_xor_words, show 64 * k + up = 64 * (k + q) + l by omega, wd_add _ _ _ _ _ (wd_lt B k) hl]
  split <;> rename_i hj
  · rw [hj]
  · split <;> rename_i hj2
    · rw [hz, Nat.xor_zero]
    · rfl
theorem add_two {w : World} {g n A B up k q l : Nat} (h : WRow w g n (A ^^^ ((B % 2 ^ (64 * k)) <<< up))) (hu : up = 64 * q + l) (hl : l < 64) :
    WRow ((w.setCell ⟨g, k + q, none⟩ (.int .u64 (((wd (A ^^^ ((B % 2 ^ (64 * k)) <<< up)) (k + q) ^^^ ((wd B k <<< l) % 2 ^ 64) : Nat) : Nat) : Int))).setCell ⟨g, k + q + 1, none⟩ (.int .u64 (((wd (A ^^^ ((B % 2 ^ (64 * k)) <<< up)) (k + q + 1) ^^^ (wd B k >>> (64 - l)) : Nat) : Nat) : Int))) g n (A ^^^ ((B % 2 ^ (64 * (k + 1))) <<< up)) := by
  refine (Row.set (Row.set h _ _) _ _).congr fun j hj => ?_
  rw [shl_xor_words, show 64 * k + up = 64 * (k + q) + l by omega, wd_add _ _ _ _ _ (wd_lt B k) hl]
  by_cases e1 : j = k + q
  · subst e1
    rw [upd_other _ _ (by omega), upd_same, if_pos rfl]
  · by_cases e2 : j = k + q + 1
    · subst e2
      rw [upd_same, if_neg e1, if_pos rfl]
    · rw [upd_other _ _ e2, upd_other _ _ e1, if_neg e1, if_neg e2]
set_option maxRecDepth 100000 in
set_option maxHeartbeats 1600000 in
theorem rowadd_any (g n c h m d A B up : Nat) (w : World) (hr : WRow w g n A) (ho : WRow w h m B) (hgh : g ≠ h) (hup : up ≤ 16448) (hm : m ≤ 258) (hn : n ≤ 258) (hB : B < 2 ^ (64 * m)) (hlt : B <<< up < 2 ^ (64 * n)) (lh : h < w.heap.size) :
    Calls Tryz.prog 115 #[.slice (some ⟨g, 0, none⟩) n c, .slice (some ⟨h, 0, none⟩) m d, .int .i64 (up : Int)] w fun x w' => x = .returned (.tuple #[]) ∧ WRow w' g n (A ^^^ (B <<< up)) ∧ Stays (· = g) w w' := by
  obtain ⟨q, hq⟩ : ∃ q, q = up / 64 := ⟨_, rfl⟩
  obtain ⟨l, hl⟩ : ∃ l, l = up % 64 := ⟨_, rfl⟩
  have hqi : (up : Int) / 64 = (q : Int) := by omega
  have hri : (up : Int) % 64 = (l : Int) := by omega
  have hl64 : l < 64 := by omega
  have hu : up = 64 * q + l := by omega
  have hq2 : q ≤ 258 := by omega
  have HU := Lib.hid hu
  have HLT := Lib.hid hlt
  have HB := Lib.hid hB
  have HR := Lib.hid hr
  have HO := Lib.hid ho
  clear hq hl hu hlt hB hr ho
  go_enter Tryz.func115, Tryz.ntmps115
  go_wp2
  rw [hri]
  go_loopw [16] (fun i wr => ∃ k : Nat, k ≤ m ∧ i = .int .i64 k ∧ WRow wr g n (A ^^^ ((B % 2 ^ (64 * k)) <<< up)) ∧ Stays (· = g) w wr) (fun i _ => m - (intOf i).toNat)
  case atStart => exact ⟨0, Nat.zero_le _, rfl, by simpa [Nat.mod_one] using HR.out, Stays.refl _ _⟩
  case round =>
    obtain ⟨k, hk, rfl, hrow, hst⟩ := hrel
    by_cases hkm : k < m
    · have hor := HO.out.stays hst lh (Ne.symm hgh)
      have hcv := hor.cell k hkm
      obtain ⟨v, hv⟩ : ∃ v, v = wd B k := ⟨_, rfl⟩
      have hv64 : v < 18446744073709551616 := hv ▸ wd_lt B k
      by_cases hz : wd B k = 0
      · have HZ := Lib.hid hz
        rw [hz] at hcv
        have HW := Lib.hid hrow
        have HS := Lib.hid hst
        clear hrow hst hz hv hv64 hor
        go_wp2
        go_roundw
        case rel => exact ⟨k + 1, by omega, by go_num, by rw [add_skip HZ.out]; exact HW.out, HS.out⟩
        case measure => simp [intOf]; omega
      · have hrm := room1 hz HLT.out
        have hkq : k + q < n := by have := HU.out; omega
        have hvz : (((v : Nat) : Int) == 0) = false := by simp; omega
        have hc1 := hrow.cell (k + q) hkq
        have hf1 := hrow.free (k + q)
        have hf2 := hrow.free (k + q + 1)
        have hc2 := hrow.cell (k + q + 1)
        have hrv : wd B k >>> (64 - l) ≠ 0 → k + q + 1 < n := fun h => by
          have := room2 h HLT.out
          have := HU.out
          omega
        rw [← hv] at hcv hrv
        have hwo := add_one (l := l) hrow HU.out hl64
        have hwt := add_two (l := l) hrow HU.out hl64
        rw [← hv] at hwo hwt
        obtain ⟨R, hR⟩ : ∃ R, R = A ^^^ ((B % 2 ^ (64 * k)) <<< up) := ⟨_, rfl⟩
        rw [← hR] at hrow hc1 hc2 hwo hwt
        obtain ⟨s, hs⟩ : ∃ s, s = 64 - l := ⟨_, rfl⟩
        rw [← hs] at hwo hwt hrv
        have hsi : 64 - (l : Int) = (s : Int) := by omega
        have hs1 : 1 ≤ s := by omega
        have hs2 : s ≤ 64 := by omega
        have hkqi : (k : Int) + (q : Int) < (n : Int) := by omega
        have HHV := Lib.hid hv
        have HHR := Lib.hid hR
        have HHS := Lib.hid hs
        have HW := Lib.hid hrow
        have HST := Lib.hid hst
        have HWO := Lib.hid hwo
        have HWT := Lib.hid hwt
        have HC2 := Lib.hid hc2
        have HRV := Lib.hid hrv
        have HRM := Lib.hid hrm
        clear hv hR hs hrow hst hwo hwt hc2 hrv hrm hz hor
        have hval : bits BinOp.xor .u64 ((wd R (k + q) : Nat) : Int) (IntKind.u64.wrap ((v : Int) * 2 ^ l)) = (((wd R (k + q) ^^^ ((v <<< l) % 2 ^ 64) : Nat)) : Int) := by
          rw [wrap_shl64, bits_xor_u64_nat _ _ (wd_lt _ _) (Nat.mod_lt _ (by decide))]
        have hval2 : bits BinOp.xor .u64 ((wd R (k + q + 1) : Nat) : Int) ((v : Int) / 2 ^ s) = (((wd R (k + q + 1) ^^^ (v >>> s) : Nat)) : Int) := by
          rw [div_shr, bits_xor_u64_nat _ _ (wd_lt _ _) (Nat.lt_of_le_of_lt (by rw [Nat.shiftRight_eq_div_pow]; exact Nat.div_le_self _ _) hv64)]
        have HVL := Lib.hid hval
        have HVL2 := Lib.hid hval2
        clear hval hval2
        go_wp2_with fail
        go_region
        go_wp2_with fail
        · have ht : (((v : Nat) : Int) / 2 ^ s != 0) = true := by assumption
          have hvs : v >>> s ≠ 0 := by
            intro h0
            rw [div_shr, h0] at ht
            simp at ht
          have hkq1 := HRV.out hvs
          have hc2 := HC2.out hkq1
          have hkq1i : (k : Int) + (q : Int) + 1 < (n : Int) := by omega
          clear hvs
          go_region
          go_wp2_with fail
          go_roundw
          case rel => exact ⟨k + 1, by omega, by go_num, by rw [HVL.out, HVL2.out]; exact Row.drew (Row.drew HWT.out), by rw [HVL.out, HVL2.out]; exact Stays.drew (Stays.drew ((HST.out.trans Row.stay).trans Row.stay))⟩
          case measure => simp [intOf]; omega
        · have ht : (((v : Nat) : Int) / 2 ^ s != 0) = false := by assumption
          have hvs : v >>> s = 0 := by
            rw [div_shr] at ht
            by_cases h0 : v >>> s = 0
            · exact h0
            · have : (((v >>> s : Nat) : Int) != 0) = true := by simp only [bne_iff_ne, ne_eq]; omega
              rw [this] at ht; cases ht
          have HV := Lib.hid hvs
          clear hvs
          go_roundw
          case rel => exact ⟨k + 1, by omega, by go_num, by rw [HVL.out]; exact Row.drew (HWO.out HV.out), by rw [HVL.out]; exact Stays.drew (HST.out.trans Row.stay)⟩
          case measure => simp [intOf]; omega
        · have hl0 : l = 0 := by omega
          have hvs : v >>> s = 0 := by
            rw [HHS.out, hl0, Nat.shiftRight_eq_div_pow]
            exact Nat.div_eq_of_lt hv64
          have HV := Lib.hid hvs
          clear hvs hl0
          go_roundw
          case rel => exact ⟨k + 1, by omega, by go_num, by rw [HVL.out]; exact Row.drew (HWO.out HV.out), by rw [HVL.out]; exact Stays.drew (HST.out.trans Row.stay)⟩
          case measure => simp [intOf]; omega
    · have hkm2 : k = m := by omega
      subst hkm2
      have HW := Lib.hid hrow
      have HS := Lib.hid hst
      clear hrow hst
      go_wp2
      go_end0
      refine ⟨rfl, ?_, HS.out⟩
      have := HW.out
      rw [Nat.mod_eq_of_lt HB.out] at this
      exact this
end Go.Proofs.YtgfjeaegigjnaaaGreatDoor

namespace Go.Proofs.YtgfjeaegigjnaaaGreatDoor
open Go.RowKit
set_option linter.unusedVariables false
set_option linter.unusedSimpArgs false

def intV (n : Nat) : Value := .int .i64 ((n : Nat) : Int)
theorem top_lt {u : Nat} (h : u ≠ 0) : u ^^^ 2 ^ u.log2 < 2 ^ u.log2 ∧ 2 ^ u.log2 ≤ u := by
  refine ⟨?_, Nat.log2_self_le h⟩
  apply Nat.lt_pow_two_of_testBit
  intro i hi
  rw [Nat.testBit_xor, Nat.testBit_two_pow]
  rcases Nat.lt_or_ge u.log2 i with h1 | h1
  · have : u.testBit i = false := Nat.testBit_lt_two_pow ((Nat.log2_lt h).mp h1)
    have h2 : ¬ (u.log2 = i) := by omega
    simp [this, h2]
  · have : i = u.log2 := by omega
    subst this
    simp [Nat.testBit_log2 h]
theorem info_int : (Tryz.prog.info? 3).map (fun i => (i.zero, i.size, i.bytes)) = some (some (.int .i64 0), 1, 8) := by kernel_rfl
set_option maxHeartbeats 3200000 in
set_option maxRecDepth 100000 in
/-- The terms of a row, falling, in memory of the call's own. -/
theorem terms_any (g n c A : Nat) (w : World) (h : WRow w g n A) (hn : n ≤ 258) (lg : g < w.heap.size) :
    Calls Tryz.prog 114 #[.slice (some ⟨g, 0, none⟩) n c] w fun x w' => ∃ v, x = .returned v ∧ w'.ownsRow w.heap.size 3 1 v (bl (64 * n) A).length ((bl (64 * n) A).map intV) ∧ Below w.heap.size w w' := by
  obtain ⟨i0, hi, hz0, hz1, hz2⟩ := info_parts info_int
  obtain ⟨F, hF⟩ : ∃ F, F = bl (64 * n) A := ⟨_, rfl⟩
  have hFl : F.length ≤ 16512 := by
    have := bl_length (64 * n) A
    rw [hF]; omega
  have HH := Lib.hid h
  have HF := Lib.hid hF
  have HFL := Lib.hid hFl
  rw [← hF]
  clear h hF hFl
  go_enter Tryz.func114, Tryz.ntmps114
  go_wp2
  go_loopw [3, 4] (fun v i wr => ∃ (j : Int) (T : List Nat), -1 ≤ j ∧ j < n ∧ i = .int .i64 j ∧ Hid (F = T ++ bl (64 * (j + 1).toNat) A) ∧ Hid (wr.ownsRow w.heap.size 3 1 v T.length (T.map intV)) ∧ Hid (Below w.heap.size w wr)) (fun _ i _ => (intOf i + 1).toNat)
  case atStart => exact ⟨(n : Int) - 1, [], by omega, by omega, rfl, Lib.hid (by simpa using HF.out), Lib.hid (World.ownsRow_nil _ _ _ _), Lib.hid (Below.refl _ _)⟩
  case round =>
    obtain ⟨j, T, hj0, hj1, rfl, HT, HO, HB⟩ := hrel
    obtain ⟨wq, rfl⟩ : ∃ wq : World, wq = wr := ⟨_, rfl⟩
    by_cases h0 : 0 ≤ j
    · obtain ⟨k, rfl⟩ := Int.eq_ofNat_of_zero_le h0
      have hk : k < n := by omega
      have hcv : wq.cell? ⟨g, k, none⟩ = some (.int .u64 ((wd A k : Nat) : Int)) := HB.out.cell (p := ⟨g, k, none⟩) (by exact lg) |>.trans (HH.out.cell k hk)
      have HT2 : Hid (F = T ++ ((bl 64 (wd A k)).map (64 * k + ·) ++ bl (64 * k) A)) := Lib.hid (by
        have := HT.out
        rw [show ((k : Int) + 1).toNat = k + 1 by omega, bl_words] at this
        exact this)
      go_wp2_with fail
      go_loopw [3, 5] (fun v sw wz => ∃ (u : Nat) (T' : List Nat), u < 18446744073709551616 ∧ sw = .int .u64 ((u : Nat) : Int) ∧ Hid (F = T' ++ ((bl 64 u).map (64 * k + ·) ++ bl (64 * k) A)) ∧ Hid (wz.ownsRow w.heap.size 3 1 v T'.length (T'.map intV)) ∧ Hid (Below w.heap.size w wz)) (fun _ sw _ => (intOf sw).toNat)
      case atStart => exact ⟨wd A k, T, wd_lt A k, rfl, HT2, HO, HB⟩
      case round =>
        obtain ⟨u, T', hu, rfl, HT3, HO3, HB3⟩ := hrel
        obtain ⟨wz, rfl⟩ : ∃ wz : World, wz = wr := ⟨_, rfl⟩
        clear hcv
        by_cases hz : u = 0
        · subst hz
          have HT4 : Hid (F = T' ++ bl (64 * k) A) := Lib.hid (by
            have := HT3.out
            rw [bl_zero] at this
            simpa using this)
          clear HT3 HT2
          go_wp2_with fail
          go_roundw
          case rel => exact ⟨(k : Int) - 1, T', by omega, by omega, rfl, Lib.hid (by have := HT4.out; rw [show ((k : Int) - 1 + 1).toNat = k by omega]; exact this), HO3, HB3⟩
          case measure => simp [intOf]
        · have hun : (((u : Nat) : Int) != 0) = true := by simp [hz]
          have hlog : u.log2 < 64 := (Nat.log2_lt hz).mpr hu
          have hbl := bitLen_log2 hz hu
          obtain ⟨hx1, hx2⟩ := top_lt hz
          have hbt := bl_top (n := 64) hz hu
          have hT4 := HT3.out
          rw [hbt] at hT4
          have hxv : bits BinOp.xor .u64 ((u : Nat) : Int) (((2 ^ u.log2 : Nat)) : Int) = ((u ^^^ 2 ^ u.log2 : Nat) : Int) := bits_xor_u64_nat _ _ hu (Nat.pow_lt_pow_right (by decide) hlog)
          obtain ⟨t, ht⟩ : ∃ t, t = u.log2 := ⟨_, rfl⟩
          rw [← ht] at hlog hbl hx1 hx2 hT4 hxv
          obtain ⟨u', hu'⟩ : ∃ u', u' = u ^^^ 2 ^ t := ⟨_, rfl⟩
          rw [← hu'] at hx1 hT4 hxv
          rw [← wrap_pow64 hlog] at hxv
          have hlt : u' < u := by omega
          have HLT := Lib.hid hlt
          have hu2 : u' < 18446744073709551616 := by omega
          have HT4 : Hid (F = (T' ++ [64 * k + t]) ++ ((bl 64 u').map (64 * k + ·) ++ bl (64 * k) A)) := Lib.hid (by rw [hT4]; simp)
          have hlen : T'.length + 1 ≤ 16512 := by
            have h1 := congrArg List.length HT4.out
            have h2 := HFL.out
            simp at h1
            omega
          have HBL : Hid (Lib.bitLen (((u : Nat) : Int)).toNat = t + 1) := Lib.hid (by rw [Int.toNat_natCast]; exact hbl)
          have HU2 := Lib.hid hu'
          have HT5 := Lib.hid ht
          clear hbl hx1 hx2 hbt hT4 hu' ht hz hlt
          go_wp2_with (first | (go_at_call 126; refine (Tryz.bits_Len64 ((u : Nat) : Int) _ (by omega) (by omega)).mono ?_; rintro e w' ⟨rfl, hw'⟩; obtain rfl := hw'.symm; rw [HBL.out]) | (at_builtin; refine wpList_append_own _ rfl _ _ 152 rfl w.heap.size 3 i0 (.int .i64 0) 1 8 (by kernel_rfl) hi hz0 hz1 hz2 rfl (by decide) _ _ _ rfl (HO3.out.alloc _) ⟨wz.heap.size, 0, none⟩ 1 1 [.int .i64 (64 * (k : Int) + (t : Int))] rfl rfl ?c1 ?c2 ?c3 ?c4 ?c5 ?_))
          case c1 =>
            intro i u hu
            cases i with
            | zero => simp at hu; subst hu; simp [Addr.add]
            | succ i => simp at hu
          case c2 => intro u hu; simp at hu; subst hu; rfl
          case c3 => unfold maxLen; omega
          case c4 => omega
          case c5 => have := HB3.out.size; simp; omega
          intro v' w2 hown' hgrow _
          have HB4 : Hid (Below w.heap.size w w2) := Lib.hid ((HB3.out.alloc HB3.out.size _).grown hgrow (by have := HB3.out.size; simp; omega) (fun q hq => (HO3.out.lt q hq).1))
          have HO4 : Hid (w2.ownsRow w.heap.size 3 1 v' (T' ++ [64 * k + t]).length ((T' ++ [64 * k + t]).map intV)) := Lib.hid (by
            have e : intV (64 * k + t) = .int .i64 (64 * (k : Int) + (t : Int)) := by unfold intV; congr 1
            rw [List.length_append, List.map_append, List.map_singleton, e]
            exact hown')
          clear hown' hgrow
          go_wp2_with fail
          go_roundw
          case rel => exact ⟨u', T' ++ [64 * k + t], hu2, by first | rfl | rw [hxv], HT4, HO4, HB4⟩
          case measure =>
            have := HLT.out
            simp [intOf]; omega
    · have : j = -1 := by omega
      subst this
      have hT : F = T := by simpa [bl] using HT.out
      subst hT
      go_wp2_with fail
      go_ret
      exact ⟨_, rfl, HO.out, HB.out⟩
/-- A slice that begins at the head of block a and holds these numbers. -/
def IntsAt (w : World) (a : Nat) (L : List Nat) : Prop := ∀ j, j < L.length → w.cell? ⟨a, j, none⟩ = some (intV (L.getD j 0))
set_option maxHeartbeats 3200000 in
set_option maxRecDepth 100000 in
theorem rowOf_any (a c : Nat) (L : List Nat) (w : World) (h : IntsAt w a L) (hL : ∀ e ∈ L, e ≤ 16384) (hl : L.length ≤ 16512) (la : a < w.heap.size) :
    Calls Tryz.prog 112 #[.slice (some ⟨a, 0, none⟩) L.length c] w fun x w' => x = .returned (.slice (some ⟨w.heap.size, 0, none⟩) 257 257) ∧ WRow w' w.heap.size 257 (sumL 0 L) ∧ Below w.heap.size w w' := by
  obtain ⟨N, hN⟩ : ∃ N : Nat, N = 257 := ⟨257, rfl⟩
  have hmk : ∀ W : World, (Instr.makeSlice 188 (.int .i64 257) (.int .i64 257)).run Tryz.prog W = .ok (.slice (some ⟨W.heap.size, 0, none⟩) N N) (W.alloc (.cells (madeCells #[.int .u64 0] N) 87)) := by
    intro W
    have h := run_make_row' (P := Tryz.prog) 188 87 (.int .u64 0) 8 (by kernel_rfl) (by kernel_rfl) rfl .i64 .i64 N (by omega) (by omega) W
    have hc : ((N : Nat) : Int) = 257 := by omega
    rw [hc] at h
    exact h
  have HN := Lib.hid hN
  have HH := Lib.hid h
  have HL := Lib.hid hL
  clear hN h hL
  obtain ⟨g, hg⟩ : ∃ g, g = w.heap.size := ⟨_, rfl⟩
  have hr0 : WRow (w.alloc (.cells (madeCells #[.int .u64 0] N) 87)) g N 0 := by
    rw [hg]
    exact Row.made _ _ _ _ _ (fun j hj => by rw [madeCells_getN _ _ _ hj, wd_zero]; rfl)
  have hb0 : Below g w (w.alloc (.cells (madeCells #[.int .u64 0] N) 87)) := by rw [hg]; exact (Below.refl _ _).alloc (Nat.le_refl _) _
  rw [← hg] at la ⊢
  have HR0 := Lib.hid hr0
  have HB0 := Lib.hid hb0
  have HG := Lib.hid hg
  clear hr0 hb0
  go_enter Tryz.func112, Tryz.ntmps112
  go_wp2
  try rw [← HG.out]
  generalize w.alloc (.cells (madeCells #[.int .u64 0] N) 87) = W0 at *
  clear hg
  go_loopw [9] (fun i wr => ∃ k : Nat, k ≤ L.length ∧ i = .int .i64 k ∧ Hid (WRow wr g N (sumL 0 (L.take k))) ∧ Hid (Below g w wr)) (fun i _ => L.length - (intOf i).toNat)
  case atStart => exact ⟨0, Nat.zero_le _, rfl, HR0, HB0⟩
  case round =>
    obtain ⟨k, hk, rfl, HR, HB⟩ := hrel
    obtain ⟨wq, rfl⟩ : ∃ wq : World, wq = wr := ⟨_, rfl⟩
    by_cases hlt : k < L.length
    · obtain ⟨e, he⟩ : ∃ e, e = L.getD k 0 := ⟨_, rfl⟩
      have hel : L[k]? = some e := by
        rw [he, List.getD_eq_getElem?_getD, List.getElem?_eq_getElem hlt]; rfl
      have he2 : e ≤ 16384 := HL.out e (List.mem_of_getElem? hel)
      have hce : wq.cell? ⟨a, k, none⟩ = some (.int .i64 (e : Int)) := by
        have := HB.out.cell (p := ⟨a, k, none⟩) (by exact la) |>.trans (HH.out k hlt)
        rw [← he] at this
        exact this
      have HT : Hid (L.take (k + 1) = L.take k ++ [e]) := Lib.hid (by rw [List.take_add_one, hel]; rfl)
      clear hel he
      go_wp2_with (go_at_call 125; refine (flip_any g N _ _ e _ HR.out (by rw [HN.out]; omega) (by omega)).mono ?_; rintro x w2 ⟨rfl, hr2, hs2⟩)
      have HR2 := Lib.hid hr2
      have HB2 : Hid (Below g w w2) := Lib.hid (Below.stays HB.out hs2 (fun q hq => by omega) (by have := HB.out.size; have := HG.out; omega))
      clear hr2 hs2
      go_wp2_with fail
      go_roundw
      case rel => exact ⟨k + 1, by omega, by go_num, Lib.hid (by rw [HT.out, sumL_snoc]; exact HR2.out), HB2⟩
      case measure => simp [intOf]; omega
    · have hk2 : k = L.length := by omega
      subst hk2
      go_wp2_with fail
      go_ret
      refine ⟨by rw [HN.out]; rfl, ?_, HB.out⟩
      have := HR.out
      rw [List.take_length, HN.out] at this
      exact this
end Go.Proofs.YtgfjeaegigjnaaaGreatDoor

namespace Go.Proofs.YtgfjeaegigjnaaaGreatDoor
open Go.RowKit
set_option linter.unusedVariables false
set_option linter.unusedSimpArgs false

theorem WRow.below {w w' : World} {g n A : Nat} (h : WRow w g n A) (k : Below w.heap.size w w') (hg : g < w.heap.size) : WRow w' g n A := Row.stays h (S := fun _ => False) (Stays.of_below k) hg id
/-- A row that reaches farther: the words behind it are 0. -/
theorem WRow.mono {w : World} {g n m A : Nat} (h : WRow w g n A) (hm : m ≤ n) : WRow w g m A := Row.mono h hm
theorem own_ints {w : World} {B : Nat} {v : Value} {L : List Nat} (h : w.ownsRow B 3 1 v L.length (L.map intV)) (h0 : L ≠ []) : ∃ g cap, v = .slice (some ⟨g, 0, none⟩) L.length cap ∧ B ≤ g ∧ g < w.heap.size ∧ IntsAt w g L ∧ ∀ j, w.frozen? ⟨g, j, none⟩ = false := by
  rcases h.2 with ⟨_, h1⟩ | ⟨g, cap, cur, hv, hB, hb, _⟩
  · exact absurd (List.length_eq_zero_iff.mp h1) h0
  · subst hv
    refine ⟨g, cap, rfl, hB, ?_, fun j hj => ?_, h.frozenAt⟩
    · rcases Nat.lt_or_ge g w.heap.size with h2 | h2
      · exact h2
      · rw [Array.getElem?_eq_none h2] at hb; cases hb
    · rw [h.cellAt j (by omega), List.getElem?_map, List.getElem?_eq_getElem hj, List.getD_eq_getElem?_getD, List.getElem?_eq_getElem hj]; rfl
theorem IntsAt.below {w w' : World} {a : Nat} {L : List Nat} {B : Nat} (h : IntsAt w a L) (k : Below B w w') (ha : a < B) : IntsAt w' a L := fun j hj => (k.cell (p := ⟨a, j, none⟩) ha).trans (h j hj)
theorem IntsAt.stays {w w' : World} {a : Nat} {L : List Nat} {S : Nat → Prop} (h : IntsAt w a L) (k : Stays S w w') (ha : ¬ S a) : IntsAt w' a L := fun j hj => k.cell (h j hj) ha
theorem own_mono {w : World} {B B' e size : Nat} {v : Value} {n : Nat} {xs : List Value} (h : w.ownsRow B e size v n xs) (hB : B' ≤ B) : w.ownsRow B' e size v n xs := by
  refine ⟨h.1, h.2.imp id ?_⟩
  rintro ⟨g, cap, cur, h1, h2, h3⟩
  exact ⟨g, cap, cur, h1, Nat.le_trans hB h2, h3⟩
/-- The terms of a number, as the program has them. -/
def terms (A : Nat) : List Nat := bl (A.log2 + 1) A
theorem terms_bl {A n : Nat} (h : A < 2 ^ n) : bl n A = terms A := by
  unfold terms
  rcases Nat.eq_zero_or_pos A with h0 | h0
  · subst h0; rw [bl_zero, bl_zero]
  · have : A.log2 < n := (Nat.log2_lt (by omega)).mpr h
    exact bl_more Nat.lt_log2_self (by omega)
theorem terms_bl2 {A n : Nat} (h : A.log2 < n) : bl n A = terms A := terms_bl (log2_lt_pow h)
theorem mulL_log {B m n : Nat} (hB : B < 2 ^ m) (L : List Nat) (hn : 0 < n) (hL : ∀ e ∈ L, m + e ≤ n) : (mulL B 0 L).log2 < n := log2_of_lt hn (mulL_lt hB L 0 hL (Nat.two_pow_pos _))
theorem terms_ne {A : Nat} (h : A ≠ 0) : terms A ≠ [] := by
  unfold terms
  rw [bl_top h Nat.lt_log2_self]; simp
theorem terms_le {A e : Nat} (h : e ∈ terms A) : e ≤ A.log2 := by
  have := (bl_mem h).1; omega
theorem terms_sum (A : Nat) : sumL 0 (terms A) = A := sumL_self Nat.lt_log2_self
theorem terms_length (A : Nat) : (terms A).length ≤ A.log2 + 1 := bl_length _ _
theorem degI_pos {A : Nat} (h : A ≠ 0) : degI A = (A.log2 : Int) := by unfold degI; rw [if_neg h]
set_option maxHeartbeats 3200000 in
set_option maxRecDepth 100000 in
theorem polyMul_any (a b ca cb A B : Nat) (w : World) (hA : A ≠ 0) (hB : B ≠ 0) (ha : IntsAt w a (terms A)) (hb : IntsAt w b (terms B)) (hd : A.log2 + B.log2 ≤ 16384) (la : a < w.heap.size) (lb : b < w.heap.size) :
    Calls Tryz.prog 94 #[.slice (some ⟨a, 0, none⟩) (terms A).length ca, .slice (some ⟨b, 0, none⟩) (terms B).length cb] w fun x w' =>
      ∃ v, x = .returned (.tuple #[v, .bool true]) ∧ w'.ownsRow w.heap.size 3 1 v (terms (clmul A B)).length ((terms (clmul A B)).map intV) ∧ Below w.heap.size w w' := by
  have hAl := terms_length A
  have hBl := terms_length B
  have hdA := degI_pos hA
  have hdB := degI_pos hB
  have hA2 : A.log2 < 64 * 257 := by omega
  have hB2 : B.log2 < 64 * 257 := by omega
  have HtA : Hid (∀ e ∈ terms A, e ≤ 16384) := Lib.hid (fun e he => by have := terms_le he; omega)
  have HtB : Hid (∀ e ∈ terms B, e ≤ 16384) := Lib.hid (fun e he => by have := terms_le he; omega)
  have HM : Hid (mulL B 0 (terms A) = clmul A B) := Lib.hid rfl
  have HeA : Hid (∀ e ∈ terms A, e ≤ A.log2) := Lib.hid (fun e he => terms_le he)
  have HNE := Lib.hid (terms_ne hA)
  have HB1 : Hid (B < 2 ^ (B.log2 + 1)) := Lib.hid Nat.lt_log2_self
  have HT1 : Hid (bl (64 * 257) A = terms A) := Lib.hid (terms_bl2 hA2)
  have HT2 : Hid (∀ C : Nat, C.log2 < 64 * 258 → bl (64 * 258) C = terms C) := Lib.hid (fun C hC => terms_bl2 hC)
  obtain ⟨m, hm⟩ : ∃ m, m = A.log2 := ⟨_, rfl⟩
  obtain ⟨n, hn⟩ : ∃ n, n = B.log2 := ⟨_, rfl⟩
  obtain ⟨LA, hLA⟩ : ∃ LA, LA = terms A := ⟨_, rfl⟩
  obtain ⟨LB, hLB⟩ : ∃ LB, LB = terms B := ⟨_, rfl⟩
  obtain ⟨C, hC⟩ : ∃ C, C = clmul A B := ⟨_, rfl⟩
  obtain ⟨LC, hLC⟩ : ∃ LC, LC = terms C := ⟨_, rfl⟩
  have hsA : sumL 0 LA = A := by rw [hLA]; exact terms_sum A
  have hsB : sumL 0 LB = B := by rw [hLB]; exact terms_sum B
  rw [← hm] at hd hAl hdA HeA
  rw [← hn] at hd hBl hdB HB1
  rw [← hLA] at ha hAl HtA HeA HNE HT1 HM
  rw [← hLB] at hb hBl HtB
  rw [← hC] at HM
  rw [← hLA, ← hLB, ← hC, ← hLC]
  have HLC := Lib.hid hLC
  have HdA := Lib.hid hdA
  have HdB := Lib.hid hdB
  have HA := Lib.hid ha
  have HB := Lib.hid hb
  have HA2 := Lib.hid hA2
  have HB2 := Lib.hid hB2
  have HsA := Lib.hid hsA
  have HsB := Lib.hid hsB
  clear hdA hdB ha hb hsA hsB hC hLC hLA hLB hm hn hA2 hB2 hA hB
  obtain ⟨N, hN⟩ : ∃ N : Nat, N = 258 := ⟨258, rfl⟩
  have hmk : ∀ W : World, (Instr.makeSlice 188 (.int .i64 258) (.int .i64 258)).run Tryz.prog W = .ok (.slice (some ⟨W.heap.size, 0, none⟩) N N) (W.alloc (.cells (madeCells #[.int .u64 0] N) 87)) := by
    intro W
    have h := run_make_row' (P := Tryz.prog) 188 87 (.int .u64 0) 8 (by kernel_rfl) (by kernel_rfl) rfl .i64 .i64 N (by omega) (by omega) W
    have hc : ((N : Nat) : Int) = 258 := by omega
    rw [hc] at h
    exact h
  have HN := Lib.hid hN
  clear hN
  go_enter Tryz.func94, Tryz.ntmps94
  go_wp2_with fail
  go_at_call 112
  refine (rowOf_any a ca LA w HA.out HtA.out (by omega) la).mono ?_
  rintro x w1 ⟨rfl, hr1, hb1⟩
  have hz1 : w.heap.size < w1.heap.size := World.block_lt_of_cell? _ _ (hr1.cell 0 (by decide))
  have HR1 := Lib.hid hr1
  have HB1' := Lib.hid hb1
  obtain ⟨g1, hg1⟩ : ∃ g, g = w.heap.size := ⟨_, rfl⟩
  rw [← hg1] at HR1
  rw [← hg1]
  have HG1 := Lib.hid hg1
  clear hr1 hb1 hg1
  go_wp2_with fail
  go_at_call 112
  refine (rowOf_any b cb LB w1 (HB.out.below HB1'.out lb) HtB.out (by omega) (by omega)).mono ?_
  rintro x w2 ⟨rfl, hr2, hb2⟩
  have hz2 : w1.heap.size < w2.heap.size := World.block_lt_of_cell? _ _ (hr2.cell 0 (by decide))
  have HR2 := Lib.hid hr2
  have HB2' := Lib.hid hb2
  obtain ⟨g2, hg2⟩ : ∃ g, g = w1.heap.size := ⟨_, rfl⟩
  rw [← hg2] at HR2
  rw [← hg2]
  have HG2 := Lib.hid hg2
  clear hr2 hb2 hg2
  have HX2 : Hid (WRow w2 g1 257 A) := Lib.hid (by have := HR1.out; rw [HsA.out] at this; exact WRow.below this HB2'.out (by have := HG1.out; omega))
  have HY2 : Hid (WRow w2 g2 257 B) := Lib.hid (by have := HR2.out; rw [HsB.out] at this; exact this)
  have HBW2 : Hid (Below w.heap.size w w2) := Lib.hid (HB1'.out.trans (HB2'.out.mono (by omega)))
  go_wp2_with (first | (go_at_call 113; (with_reducible refine (degree_any g1 257 257 A _ HX2.out (by omega) HA2.out).mono ?_); rintro x w' ⟨rfl, hw'⟩; obtain rfl := hw'.symm; rw [HdA.out]) | (go_at_call 113; (with_reducible refine (degree_any g2 257 257 B _ HY2.out (by omega) HB2.out).mono ?_); rintro x w' ⟨rfl, hw'⟩; obtain rfl := hw'.symm; rw [HdB.out]))
  have hg12 := HG1.out
  have hg22 := HG2.out
  have HX3 : Hid (WRow (w2.alloc (.cells (madeCells #[.int .u64 0] N) 87)) g1 257 A) := Lib.hid (Row.alloc HX2.out (by omega) _)
  have HY3 : Hid (WRow (w2.alloc (.cells (madeCells #[.int .u64 0] N) 87)) g2 257 B) := Lib.hid (Row.alloc HY2.out (by omega) _)
  have HZ3 : Hid (WRow (w2.alloc (.cells (madeCells #[.int .u64 0] N) 87)) w2.heap.size N 0) := Lib.hid (Row.made _ _ _ _ _ (fun j hj => by rw [madeCells_getN _ _ _ hj, wd_zero]; rfl))
  have HBW3 : Hid (Below w.heap.size w (w2.alloc (.cells (madeCells #[.int .u64 0] N) 87))) := Lib.hid (HBW2.out.alloc (by omega) _)
  have hsz3 : (w2.alloc (.cells (madeCells #[.int .u64 0] N) 87)).heap.size = w2.heap.size + 1 := by simp
  generalize w2.alloc (.cells (madeCells #[.int .u64 0] N) 87) = w3 at *
  clear hg12 hg22
  go_at_call 114
  refine (terms_any g1 257 257 A w3 HX3.out (by omega) (by have := HG1.out; omega)).mono ?_
  rintro x w4 ⟨v, rfl, how, hb4⟩
  rw [HT1.out] at how
  obtain ⟨gv, cv, rfl, hgv1, hgv2, hiv, hfv⟩ := own_ints how HNE.out
  obtain ⟨g3, hg3⟩ : ∃ g, g = w2.heap.size := ⟨_, rfl⟩
  rw [← hg3] at HZ3
  rw [← hg3]
  have HX4 : Hid (WRow w4 g1 257 A) := Lib.hid (WRow.below HX3.out hb4 (by have := HG1.out; omega))
  have HY4 : Hid (WRow w4 g2 257 B) := Lib.hid (WRow.below HY3.out hb4 (by have := HG2.out; omega))
  have HZ4 : Hid (WRow w4 g3 N 0) := Lib.hid (WRow.below HZ3.out hb4 (by omega))
  have HBW4 : Hid (Below w.heap.size w w4) := Lib.hid (HBW3.out.trans (hb4.mono (by omega)))
  have HIV := Lib.hid hiv
  have hn1 : g2 ≠ g3 := by have := HG2.out; omega
  have hn2 : gv ≠ g3 := by omega
  have hg3w : w.heap.size ≤ g3 := by omega
  have hz4 : w3.heap.size ≤ w4.heap.size := hb4.size
  have hg24 : g2 < w4.heap.size := by have := HG2.out; omega
  have hg34 : g3 < w4.heap.size := by omega
  have HG3 := Lib.hid hg3
  clear how hb4 hiv hg3 hsz3 hmk
  clear HX3 HY3 HZ3 HX2 HY2 HX4 HR1 HR2
  have hn64 : (n : Int) / 64 + 1 = ((n / 64 + 1 : Nat) : Int) := by omega
  obtain ⟨q, hq⟩ : ∃ q, q = n / 64 := ⟨_, rfl⟩
  have hqi : (n : Int) / 64 = (q : Int) := by omega
  have hq2 : q ≤ 256 := by omega
  have HQ := Lib.hid hq
  clear hn64 hq
  have hBq : B < 2 ^ (64 * (q + 1)) := Nat.lt_of_lt_of_le HB1.out (Nat.pow_le_pow_right (by decide) (by have := HQ.out; omega))
  have HBQ := Lib.hid hBq
  have HNP : Hid (∀ e ∈ LA, B <<< e < 2 ^ (64 * N)) := Lib.hid (fun e he => shl_lt HB1.out (by have := HeA.out e he; have := HN.out; omega))
  clear hBq
  go_wp2_with fail
  go_loopw [38] (fun i wr => ∃ k : Nat, k ≤ LA.length ∧ i = .int .i64 k ∧ Hid (WRow wr g3 N (mulL B 0 (LA.take k))) ∧ Hid (Stays (· = g3) w4 wr)) (fun i _ => LA.length - (intOf i).toNat)
  case atStart => exact ⟨0, Nat.zero_le _, rfl, HZ4, Lib.hid (Stays.refl _ _)⟩
  case round =>
    obtain ⟨k, hk, rfl, HR, HS⟩ := hrel
    obtain ⟨wq, rfl⟩ : ∃ wq : World, wq = wr := ⟨_, rfl⟩
    by_cases hlt : k < LA.length
    · obtain ⟨e, he⟩ : ∃ e, e = LA.getD k 0 := ⟨_, rfl⟩
      have hel : LA[k]? = some e := by
        rw [he, List.getD_eq_getElem?_getD, List.getElem?_eq_getElem hlt]; rfl
      have heL : e ∈ LA := List.mem_of_getElem? hel
      have he2 : e ≤ 16384 := HtA.out e heL
      have hce : wq.cell? ⟨gv, k, none⟩ = some (.int .i64 (e : Int)) := by
        have := HS.out.cell (HIV.out k hlt) hn2
        rw [← he] at this
        exact this
      have HNE2 := Lib.hid (HNP.out e heL)
      have HT : Hid (LA.take (k + 1) = LA.take k ++ [e]) := Lib.hid (by rw [List.take_add_one, hel]; rfl)
      have HY5 : Hid (WRow wq g2 (q + 1) B) := Lib.hid (WRow.mono (Row.stays HY4.out HS.out hg24 hn1) (by omega))
      have hg25 : g2 < wq.heap.size := by have := HS.out.size; omega
      clear hel he heL
      go_wp2_with (go_at_call 115; refine (rowadd_any g3 N N g2 (q + 1) 257 _ B e _ HR.out HY5.out (Ne.symm hn1) (by omega) (by omega) (by rw [HN.out]; exact Nat.le_refl _) HBQ.out HNE2.out hg25).mono ?_; rintro x w5 ⟨rfl, hr5, hs5⟩)
      have HR5 := Lib.hid hr5
      have HS5 := Lib.hid (HS.out.trans hs5)
      clear hr5 hs5
      go_wp2_with fail
      go_roundw
      case rel => exact ⟨k + 1, by omega, by go_num, Lib.hid (by rw [HT.out, mulL_snoc]; exact HR5.out), HS5⟩
      case measure => simp [intOf]; omega
    · have hk2 : k = LA.length := by omega
      subst hk2
      have hC1 : C.log2 < 64 * 258 := by
        rw [← HM.out]
        exact mulL_log HB1.out LA (by omega) (fun e he => by have := HeA.out e he; omega)
      have HC : Hid (bl (64 * 258) C = LC) := Lib.hid (by rw [HT2.out C hC1, ← HLC.out])
      have HR5 : Hid (WRow wq g3 258 C) := Lib.hid (by
        have := HR.out
        rw [List.take_length, HM.out, HN.out] at this
        exact this)
      have hg35 : g3 < wq.heap.size := by have := HS.out.size; omega
      have HB5 : Hid (Below w.heap.size w wq) := Lib.hid (Below.stays HBW4.out HS.out (fun q hq => by omega) (by omega))
      obtain rfl : N = 258 := HN.out
      clear hC1
      go_wp2_with (go_at_call 114; refine (terms_any g3 258 258 C _ HR5.out (by omega) hg35).mono ?_; rintro x w6 ⟨v6, rfl, how6, hb6⟩)
      rw [HC.out] at how6
      have hb5z := HB5.out.size
      have HO6 : Hid (w6.ownsRow w.heap.size 3 1 v6 LC.length (LC.map intV)) := Lib.hid (own_mono how6 hb5z)
      have HB6 : Hid (Below w.heap.size w w6) := Lib.hid (HB5.out.trans (hb6.mono hb5z))
      clear how6 hb6
      go_wp2_with fail
      go_ret2
      exact ⟨v6, rfl, HO6.out, HB6.out⟩
end Go.Proofs.YtgfjeaegigjnaaaGreatDoor

namespace Go.Proofs.YtgfjeaegigjnaaaGreatDoor
set_option linter.unusedVariables false
set_option linter.unusedSimpArgs false

theorem stepN_lt {x : Nat} (n : Nat) (h : x < 8192) : stepN n x < 8192 := by
  induction n with
  | zero => exact h
  | succ n ih => exact step_lt ih
theorem mulK_lt (a : Nat) {b : Nat} (n : Nat) (h : b < 8192) : mulK a b n < 8192 := by
  induction n with
  | zero => exact (by decide : (0 : Nat) < 8192)
  | succ n ih =>
    unfold mulK
    refine Nat.xor_lt_two_pow (n := 13) ih ?_
    split
    · exact stepN_lt n h
    · decide
theorem mulP_lt (a : Nat) {b : Nat} (h : b < 8192) : mulP a b < 8192 := mulK_lt a 13 h
theorem sq_exp {r : Nat} (h0 : 0 < r) (h1 : r < 8192) : expN (logN r * 2) = mulP r r := by
  rw [Nat.mul_two, ← mulP_exp, exp_log h0 h1]
/-- Place t of the product so far: i coefficients of c times x + r. -/
def nxf (c : List Nat) (r i t : Nat) : Nat := (if 0 < t ∧ t ≤ i then c.getD (t - 1) 0 else 0) ^^^ (if t < i then mulP (c.getD t 0) r else 0)
theorem nxf_zero (c : List Nat) (r t : Nat) : nxf c r 0 t = 0 := by
  unfold nxf
  rw [if_neg (by omega), if_neg (by omega)]; rfl
theorem nxf_step (c : List Nat) (r i t : Nat) : nxf c r (i + 1) t = if t = i then nxf c r i i ^^^ mulP (c.getD i 0) r else if t = i + 1 then nxf c r i (i + 1) ^^^ c.getD i 0 else nxf c r i t := by
  unfold nxf
  by_cases h : t = i
  · subst h
    rw [if_pos rfl, if_neg (show ¬ t < t by omega), if_pos (show t < t + 1 by omega), Nat.xor_zero]
    congr 1
    by_cases h0 : 0 < t
    · rw [if_pos ⟨h0, by omega⟩, if_pos ⟨h0, by omega⟩]
    · rw [if_neg (by omega), if_neg (by omega)]
  · rw [if_neg h]
    by_cases h2 : t = i + 1
    · subst h2
      rw [if_pos rfl, if_pos ⟨by omega, by omega⟩, if_neg (by omega), if_neg (by omega), if_neg (by omega)]
      simp
    · rw [if_neg h2]
      have e1 : (0 < t ∧ t ≤ i + 1) ↔ (0 < t ∧ t ≤ i) := by omega
      have e2 : (t < i + 1) ↔ (t < i) := by omega
      simp only [e1, e2]
theorem nxf_lt {c : List Nat} {r : Nat} (hc : ∀ j, c.getD j 0 < 8192) (hr : r < 8192) (i t : Nat) : nxf c r i t < 8192 := by
  unfold nxf
  refine Nat.xor_lt_two_pow (n := 13) ?_ ?_
  · split
    · exact hc _
    · decide
  · split
    · exact mulP_lt _ hr
    · decide
/-- The whole product. -/
def mulLin (c : List Nat) (r : Nat) : List Nat := (List.range (c.length + 1)).map (nxf c r c.length)
theorem mulLin_length (c : List Nat) (r : Nat) : (mulLin c r).length = c.length + 1 := by simp [mulLin]
theorem mulLin_get (c : List Nat) (r t : Nat) (h : t < c.length + 1) : (mulLin c r).getD t 0 = nxf c r c.length t := by
  unfold mulLin
  rw [List.getD_eq_getElem?_getD, List.getElem?_map, List.getElem?_range h]; rfl
theorem mulLin_lt {c : List Nat} {r : Nat} (hc : ∀ j, c.getD j 0 < 8192) (hr : r < 8192) (j : Nat) : (mulLin c r).getD j 0 < 8192 := by
  rcases Nat.lt_or_ge j (c.length + 1) with h | h
  · rw [mulLin_get _ _ _ h]; exact nxf_lt hc hr _ _
  · rw [List.getD_eq_getElem?_getD, List.getElem?_eq_none (by rw [mulLin_length]; exact h)]; decide
/-- The coefficients after i factors. -/
def cfs (rs : List Nat) (i : Nat) : List Nat := (rs.take i).foldl mulLin [1]
theorem cfs_succ {rs : List Nat} {i : Nat} (h : i < rs.length) : cfs rs (i + 1) = mulLin (cfs rs i) (rs.getD i 0) := by
  unfold cfs
  rw [List.take_add_one, List.getElem?_eq_getElem h, List.foldl_append, List.getD_eq_getElem?_getD, List.getElem?_eq_getElem h]; rfl
theorem cfs_length {rs : List Nat} {i : Nat} (h : i ≤ rs.length) : (cfs rs i).length = i + 1 := by
  induction i with
  | zero => rfl
  | succ i ih => rw [cfs_succ (by omega), mulLin_length, ih (by omega)]
theorem cfs_lt {rs : List Nat} (hr : ∀ j, rs.getD j 0 < 8192) {i : Nat} (h : i ≤ rs.length) (j : Nat) : (cfs rs i).getD j 0 < 8192 := by
  induction i generalizing j with
  | zero =>
    have : cfs rs 0 = [1] := rfl
    rw [this]
    match j with
    | 0 => decide
    | j + 1 => simp
  | succ i ih => rw [cfs_succ (by omega)]; exact mulLin_lt (fun j => ih (by omega) j) (hr i) j
/-- The places, below n, that hold 1, falling. -/
def ones (cs : List Nat) : Nat → List Nat
  | 0 => []
  | n + 1 => if cs.getD n 0 = 1 then n :: ones cs n else ones cs n
theorem ones_length (cs : List Nat) (n : Nat) : (ones cs n).length ≤ n := by
  induction n with
  | zero => simp [ones]
  | succ n ih =>
    unfold ones
    split
    · rw [List.length_cons]; omega
    · omega
/-- What the roots of a minimal polynomial are: 13 powers, each the square of the one ahead. -/
structure Rootz (k : Nat) (rs : List Nat) : Prop where
  len : rs.length = 13
  first : expN (k % 8191) = rs.getD 0 0
  next : ∀ i, i < 13 → mulP (rs.getD i 0) (rs.getD i 0) = rs.getD ((i + 1) % 13) 0
  pos : ∀ i, i < 13 → 0 < rs.getD i 0
  lt : ∀ i, rs.getD i 0 < 8192
  new : ∀ i, i < 13 → (rs.take i).contains (rs.getD i 0) = false
def sqs : Nat → Nat → List Nat
  | 0, _ => []
  | n + 1, r => r :: sqs n (mulP r r)
def rootz (k : Nat) : List Nat := sqs 13 (expN k)
/-- Decided at a numeral. -/
def rootzB (k : Nat) (rs : List Nat) : Bool := rs.length == 13 && expN (k % 8191) == rs.getD 0 0 && (List.range 13).all (fun i => mulP (rs.getD i 0) (rs.getD i 0) == rs.getD ((i + 1) % 13) 0 && decide (0 < rs.getD i 0) && decide (rs.getD i 0 < 8192) && !(rs.take i).contains (rs.getD i 0))
theorem Rootz.of {k : Nat} {rs : List Nat} (h : rootzB k rs = true) : Rootz k rs := by
  unfold rootzB at h
  simp only [Bool.and_eq_true, beq_iff_eq, List.all_eq_true, List.mem_range, decide_eq_true_eq, Bool.not_eq_true'] at h
  obtain ⟨⟨h1, h2⟩, h3⟩ := h
  refine ⟨h1, h2, fun i hi => (h3 i hi).1.1.1, fun i hi => (h3 i hi).1.1.2, fun i => ?_, fun i hi => (h3 i hi).2⟩
  rcases Nat.lt_or_ge i 13 with hi | hi
  · exact (h3 i hi).1.2
  · rw [List.getD_eq_getElem?_getD, List.getElem?_eq_none (by omega)]; decide
theorem rootz1 : Rootz 1 (rootz 1) := .of (by decide +kernel)
theorem rootz3 : Rootz 3 (rootz 3) := .of (by decide +kernel)
theorem rootz15 : Rootz 15 (rootz 15) := .of (by decide +kernel)
end Go.Proofs.YtgfjeaegigjnaaaGreatDoor

namespace Go.Proofs.YtgfjeaegigjnaaaGreatDoor
set_option linter.unusedVariables false
set_option linter.unusedSimpArgs false

def mkA (j : Nat) : Nat := [8219, 9905, 10643, 10063, 12769, 9123, 12409, 8895].getD j 0
def genA (j : Nat) : Nat := [1, 8219, 81073483, 802986049005, 5719866781435563, 70802422373250291595, 600861845307791167304061, 2475918012808473855665188261, 22023288022493040599844014848803].getD j 0
theorem mk_rootz {j : Nat} (h : j < 8) : Rootz (2 * j + 1) (rootz (2 * j + 1)) := .of ((by decide +kernel : ∀ j, j < 8 → rootzB (2 * j + 1) (rootz (2 * j + 1)) = true) j h)
theorem mk_ones {j : Nat} (h : j < 8) : ones (cfs (rootz (2 * j + 1)) 13) 14 = terms (mkA j) := (by decide +kernel : ∀ j, j < 8 → ones (cfs (rootz (2 * j + 1)) 13) 14 = terms (mkA j)) j h
theorem gen_step {j : Nat} (h : j < 8) : clmul (genA j) (mkA j) = genA (j + 1) := (by decide +kernel : ∀ j, j < 8 → clmul (genA j) (mkA j) = genA (j + 1)) j h
theorem gen_ne {j : Nat} (h : j < 9) : genA j ≠ 0 := (by decide +kernel : ∀ j, j < 9 → genA j ≠ 0) j h
theorem mk_ne {j : Nat} (h : j < 8) : mkA j ≠ 0 := (by decide +kernel : ∀ j, j < 8 → mkA j ≠ 0) j h
theorem gen_log {j : Nat} (h : j < 9) : (genA j).log2 = 13 * j := (by decide +kernel : ∀ j, j < 9 → (genA j).log2 = 13 * j) j h
theorem mk_log {j : Nat} (h : j < 8) : (mkA j).log2 = 13 := (by decide +kernel : ∀ j, j < 8 → (mkA j).log2 = 13) j h
theorem mk_apart {i j : Nat} (hi : i < j) (hj : j < 8) : terms (mkA i) ≠ terms (mkA j) := fun e => by
  have h := congrArg (sumL 0) e
  rw [terms_sum, terms_sum] at h
  exact (by decide +kernel : ∀ j, j < 8 → ∀ i, i < j → mkA i ≠ mkA j) j hj i hi h
theorem gen_zero : terms (genA 0) = [0] := by decide +kernel
end Go.Proofs.YtgfjeaegigjnaaaGreatDoor

