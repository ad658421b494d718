/- The shortest recurrence of the syndromes (Berlekamp and Massey), and a locator's roots (Chien), as the program reckons them, in plain Lean. -/
import Derived.Test.YtldekkniammllaaPolP
namespace Go.Proofs.Ytldekkniammllaa
set_option linter.unusedVariables false
set_option linter.unusedSimpArgs false

structure BM where
  now : List Nat
  old : List Nat
  len : Nat
  gap : Nat
  last : Nat
/-- The discrepancy, of the first i terms. -/
def dsc (s : Nat → Nat) (now : List Nat) (n : Nat) : Nat → Nat
  | 0 => s n
  | i + 1 => dsc s now n i ^^^ mulP (now.getD (i + 1) 0) (s (n - (i + 1)))
def BM.disc (s : Nat → Nat) (st : BM) (n : Nat) : Nat := dsc s st.now n (min st.len (st.now.length - 1))
/-- The first i terms of by times old laid over now, gap higher. -/
def adf (now old : List Nat) (by' gap i j : Nat) : Nat := now.getD j 0 ^^^ (if gap ≤ j ∧ j < gap + i then mulP by' (old.getD (j - gap) 0) else 0)
def addS (now old : List Nat) (by' gap : Nat) : List Nat := (List.range (max now.length (old.length + gap))).map (adf now old by' gap old.length)
noncomputable def quotN (last d : Nat) : Nat := mulP (expN (8191 - logN last)) d
noncomputable def bmStep (s : Nat → Nat) (st : BM) (n : Nat) : BM :=
  if st.disc s n = 0 then { st with gap := st.gap + 1 }
  else if 2 * st.len ≤ n then { now := addS st.now st.old (quotN st.last (st.disc s n)) st.gap, old := st.now, len := n + 1 - st.len, gap := 1, last := st.disc s n }
  else { st with now := addS st.now st.old (quotN st.last (st.disc s n)) st.gap, gap := st.gap + 1 }
noncomputable def bmI (s : Nat → Nat) : Nat → BM
  | 0 => ⟨[1], [1], 0, 1, 1⟩
  | n + 1 => bmStep s (bmI s n) n
/-- Without the noughts at the end. -/
def trimL : List Nat → Nat → List Nat
  | L, 0 => L
  | L, f + 1 => if 1 < L.length ∧ L.getD (L.length - 1) 0 = 0 then trimL (L.take (L.length - 1)) f else L

theorem dsc_lt {s : Nat → Nat} (hs : ∀ i, s i < 8192) (now : List Nat) (n i : Nat) : dsc s now n i < 8192 := by
  induction i with
  | zero => exact hs n
  | succ i ih => exact Nat.xor_lt_two_pow (n := 13) ih (mulP_lt _ (hs _))
theorem adf_lt {now old : List Nat} (hn : ∀ j, now.getD j 0 < 8192) (ho : ∀ j, old.getD j 0 < 8192) (by' gap i j : Nat) : adf now old by' gap i j < 8192 := by
  unfold adf
  refine Nat.xor_lt_two_pow (n := 13) (hn j) ?_
  split
  · exact mulP_lt _ (ho _)
  · exact (by decide : (0 : Nat) < 2 ^ 13)
theorem addS_length (now old : List Nat) (by' gap : Nat) : (addS now old by' gap).length = max now.length (old.length + gap) := by simp [addS]
theorem addS_get (now old : List Nat) (by' gap j : Nat) (h : j < max now.length (old.length + gap)) : (addS now old by' gap).getD j 0 = adf now old by' gap old.length j := by
  unfold addS
  rw [List.getD_eq_getElem?_getD, List.getElem?_map, List.getElem?_range h]; rfl
theorem addS_lt {now old : List Nat} (hn : ∀ j, now.getD j 0 < 8192) (ho : ∀ j, old.getD j 0 < 8192) (by' gap j : Nat) : (addS now old by' gap).getD j 0 < 8192 := by
  rcases Nat.lt_or_ge j (max now.length (old.length + gap)) with h | h
  · rw [addS_get _ _ _ _ _ h]; exact adf_lt hn ho _ _ _ _
  · rw [List.getD_eq_getElem?_getD, List.getElem?_eq_none (by rw [addS_length]; exact h)]; decide
theorem adf_zero (now old : List Nat) (by' gap j : Nat) : adf now old by' gap 0 j = now.getD j 0 := by
  unfold adf
  rw [if_neg (by omega), Nat.xor_zero]
theorem adf_step (now old : List Nat) (by' gap i j : Nat) : adf now old by' gap (i + 1) j = if j = i + gap then adf now old by' gap i j ^^^ mulP by' (old.getD i 0) else adf now old by' gap i j := by
  unfold adf
  by_cases h : j = i + gap
  · subst h
    rw [if_pos rfl, if_pos ⟨by omega, by omega⟩, if_neg (by omega), Nat.xor_zero, Nat.add_sub_cancel]
  · rw [if_neg h]
    have e : (gap ≤ j ∧ j < gap + (i + 1)) ↔ (gap ≤ j ∧ j < gap + i) := by omega
    simp only [e]
/-- What holds ahead of syndrome n. -/
structure BMok (st : BM) (n : Nat) : Prop where
  len : st.len ≤ n
  now1 : 1 ≤ st.now.length
  nowl : st.now.length ≤ n + 1
  old1 : 1 ≤ st.old.length
  oldl : st.old.length + st.gap ≤ n + 2
  gap1 : 1 ≤ st.gap
  last0 : 0 < st.last
  last8 : st.last < 8192
  now8 : ∀ j, st.now.getD j 0 < 8192
  old8 : ∀ j, st.old.getD j 0 < 8192
theorem bm_ok {s : Nat → Nat} (hs : ∀ i, s i < 8192) (n : Nat) : BMok (bmI s n) n := by
  induction n with
  | zero =>
    have h1 : ∀ j, ([1] : List Nat).getD j 0 < 8192 := by
      intro j
      match j with
      | 0 => decide
      | j + 1 => simp
    exact ⟨Nat.le_refl _, by simp [bmI], by simp [bmI], by simp [bmI], by simp [bmI], by simp [bmI], by simp [bmI], by simp [bmI], h1, h1⟩
  | succ n ih =>
    show BMok (bmStep s (bmI s n) n) (n + 1)
    generalize bmI s n = st at ih
    obtain ⟨i1, i2, i3, i4, i5, i6, i7, i8, i9, i10⟩ := ih
    unfold bmStep
    have hd8 : st.disc s n < 8192 := dsc_lt hs _ _ _
    split
    · exact ⟨by show st.len ≤ n + 1; omega, i2, by show st.now.length ≤ n + 1 + 1; omega, i4, by show st.old.length + (st.gap + 1) ≤ n + 1 + 2; omega, by show 1 ≤ st.gap + 1; omega, i7, i8, i9, i10⟩
    · split
      · refine ⟨by show n + 1 - st.len ≤ n + 1; omega, ?_, ?_, i2, by show st.now.length + 1 ≤ n + 1 + 2; omega, Nat.le_refl _, by show 0 < st.disc s n; omega, hd8, fun j => addS_lt i9 i10 _ _ _, i9⟩
        · show 1 ≤ (addS _ _ _ _).length
          rw [addS_length]; omega
        · show (addS _ _ _ _).length ≤ n + 1 + 1
          rw [addS_length]; omega
      · refine ⟨by show st.len ≤ n + 1; omega, ?_, ?_, i4, by show st.old.length + (st.gap + 1) ≤ n + 1 + 2; omega, by show 1 ≤ st.gap + 1; omega, i7, i8, fun j => addS_lt i9 i10 _ _ _, i10⟩
        · show 1 ≤ (addS _ _ _ _).length
          rw [addS_length]; omega
        · show (addS _ _ _ _).length ≤ n + 1 + 1
          rw [addS_length]; omega
end Go.Proofs.Ytldekkniammllaa
namespace Go.Proofs.Ytldekkniammllaa
set_option linter.unusedVariables false
set_option linter.unusedSimpArgs false

theorem logN_zero : logN 0 = 0 := by
  unfold logN
  rw [dif_neg (by omega)]
/-- The exponent of term i at e, from 0 to 8190. -/
noncomputable def chE (x i e : Nat) : Nat := (((logN x : Int) - (i : Int) * (e : Int)) % 8191).toNat
theorem chE_eq (x i e : Nat) : ((logN x : Int) - (i : Int) * (e : Int)) % 8191 = ((chE x i e : Nat) : Int) := by
  unfold chE
  have := Int.emod_nonneg ((logN x : Int) - (i : Int) * (e : Int)) (by decide : (8191 : Int) ≠ 0)
  omega
/-- The value at the inverse power e, of the first i terms. -/
noncomputable def chien (L : List Nat) (e : Nat) : Nat → Nat
  | 0 => 0
  | i + 1 => if L.getD i 0 = 0 then chien L e i else chien L e i ^^^ expN (chE (L.getD i 0) i e)
theorem chien_lt (L : List Nat) (e i : Nat) : chien L e i < 8192 := by
  induction i with
  | zero => exact (by decide : (0 : Nat) < 8192)
  | succ i ih =>
    unfold chien
    split
    · exact ih
    · exact Nat.xor_lt_two_pow (n := 13) ih (expN_lt _)
/-- The roots below e: never more than the list is long. -/
noncomputable def rootsI (L : List Nat) : Nat → List Nat
  | 0 => []
  | e + 1 => if (rootsI L e).length < L.length ∧ chien L e L.length = 0 then rootsI L e ++ [e] else rootsI L e
theorem rootsI_length (L : List Nat) (e : Nat) : (rootsI L e).length ≤ L.length ∧ (rootsI L e).length ≤ e := by
  induction e with
  | zero => exact ⟨Nat.zero_le _, Nat.zero_le _⟩
  | succ e ih =>
    unfold rootsI
    split
    · rename_i h
      rw [List.length_append]
      exact ⟨by simp; omega, by simp; omega⟩
    · exact ⟨ih.1, by omega⟩
theorem rootsI_lt (L : List Nat) (e : Nat) : ∀ x ∈ rootsI L e, x < e := by
  induction e with
  | zero => intro x hx; simp [rootsI] at hx
  | succ e ih =>
    intro x hx
    unfold rootsI at hx
    split at hx
    · rcases List.mem_append.1 hx with h | h
      · have := ih x h; omega
      · simp at h; omega
    · have := ih x hx; omega
theorem rootsI_nodup (L : List Nat) (e : Nat) : (rootsI L e).Nodup := by
  induction e with
  | zero => exact List.nodup_nil
  | succ e ih =>
    unfold rootsI
    split
    · refine List.nodup_append.2 ⟨ih, by simp, ?_⟩
      intro a ha b hb
      have := rootsI_lt L e a ha
      simp at hb; omega
    · exact ih
/-- Once it is full, it stays so. -/
theorem rootsI_full (L : List Nat) (e k : Nat) (h : L.length ≤ (rootsI L e).length) : rootsI L (e + k) = rootsI L e := by
  induction k with
  | zero => rfl
  | succ k ih =>
    show (if (rootsI L (e + k)).length < L.length ∧ chien L (e + k) L.length = 0 then rootsI L (e + k) ++ [e + k] else rootsI L (e + k)) = _
    rw [ih, if_neg (by omega)]
end Go.Proofs.Ytldekkniammllaa
