/- What is read out of a page: in plain Lean. -/
import Derived.Test.YtgfjeaegigjnaaaGreatDoorPagE
import Derived.Test.YtgfjeaegigjnaaaGreatDoorPgR
namespace Go.Proofs.YtgfjeaegigjnaaaGreatDoor
open Go.RowKit
set_option linter.unusedVariables false
set_option linter.unusedSimpArgs false

/-- What Decode makes of chunk i of a raw page: K bytes and pn behind them. -/
noncomputable def decC (t K : Nat) (R : List UInt8) (i : Nat) : Option (Nat × Nat × Nat) :=
  decR t K (numB ((R.drop (i * (K + parN t))).take K)) (numB (((R.drop (i * (K + parN t))).take (K + parN t)).drop K))
/-- The first i chunks, and the bits turned back in them. -/
noncomputable def decsC (t K : Nat) (R : List UInt8) : Nat → Option (List UInt8 × Nat)
  | 0 => some ([], 0)
  | i + 1 => match decsC t K R i with
    | none => none
    | some (b, n) => match decC t K R i with
      | none => none
      | some z => some (b ++ (strOf K z.1).data.toList, n + z.2.2)
def foundV (st : Int) (p : List UInt8) (n : Int) : Value := .agg #[.int .i64 st, .string (bytS p), .int .i64 n]
def openedV (n : Nat) : Option (List UInt8) → Value
  | none => foundV 2 [] 0
  | some m => if Lib.hasPrefix m [0, 0, 0] then foundV 1 (Lib.trimPrefix m [0, 0, 0]) n else foundV 2 [] 0
def fullV : Option (List UInt8 × Nat) → Value
  | none => foundV 2 [] 0
  | some z => openedV z.2 (openL z.1)
noncomputable def Geo.readL (g : Geo) (R : List UInt8) : Value :=
  if emptyB (g.K.toNat + parN g.T.toNat) g.C.toNat g.T R then foundV 0 [] 0 else fullV (decsC g.T.toNat g.K.toNat R g.C.toNat)
noncomputable def Geo.readV (g : Geo) (s : ByteArray) (e : Int) : Value := if e ≠ 0 then foundV 0 [] 0 else g.readL s.data.toList
theorem decsC_none {t K : Nat} {R : List UInt8} {i j : Nat} (h : decsC t K R i = none) (hj : i ≤ j) : decsC t K R j = none := by
  induction j with
  | zero => obtain rfl : i = 0 := by omega
            exact h
  | succ j ih =>
    rcases Nat.lt_or_ge i (j + 1) with h2 | h2
    · have := ih (by omega)
      simp only [decsC, this]
    · obtain rfl : i = j + 1 := by omega
      exact h
theorem decsC_length {t K : Nat} {R : List UInt8} : ∀ {i : Nat} {b : List UInt8} {n : Nat}, decsC t K R i = some (b, n) → b.length = i * K
  | 0, b, n, h => by
    simp only [decsC, Option.some.injEq, Prod.mk.injEq] at h
    rw [← h.1]; simp
  | i + 1, b, n, h => by
    simp only [decsC] at h
    split at h
    · cases h
    · next b' n' h1 =>
      split at h
      · cases h
      · next z hz =>
        simp only [Option.some.injEq, Prod.mk.injEq] at h
        rw [← h.1, List.length_append, decsC_length h1, ← Lib.size_eq, str_size, Nat.succ_mul]
theorem decC_le {t K : Nat} (ht1 : 1 ≤ t) (ht8 : t ≤ 8) (hK : 0 < K) {R : List UInt8} {i : Nat} (h1 : ((R.drop (i * (K + parN t))).take K).length = K) (h2 : (((R.drop (i * (K + parN t))).take (K + parN t)).drop K).length = parN t) {z : Nat × Nat × Nat} (h : decC t K R i = some z) : z.2.2 ≤ 8 := by
  obtain ⟨V, P, k⟩ := z
  have hV := numB_lt ((R.drop (i * (K + parN t))).take K)
  have hP := numB_lt (((R.drop (i * (K + parN t))).take (K + parN t)).drop K)
  rw [h1] at hV
  rw [h2] at hP
  have := (decR_word ht1 ht8 hK hV hP h).2.2.1
  show k ≤ 8
  omega

/-- The places of a number's set bits, of its first n. -/
def bitsN (n X : Nat) : List Nat := (List.range n).filter (fun e => X.testBit e)
def popN (n X : Nat) : Nat := (bitsN n X).length
theorem bitsN_nodup (n X : Nat) : (bitsN n X).Nodup := List.Nodup.sublist List.filter_sublist List.nodup_range
theorem bitsN_mem {n X e : Nat} : e ∈ bitsN n X ↔ e < n ∧ X.testBit e = true := by unfold bitsN; rw [List.mem_filter, List.mem_range]
theorem bitsN_xor {n X : Nat} (h : X < 2 ^ n) : xorI (bitsN n X) (bitsN n X).length = X := by
  apply Nat.eq_of_testBit_eq
  intro e
  rw [xorI_all (bitsN_nodup n X)]
  by_cases h1 : e < n
  · by_cases h2 : X.testBit e = true
    · rw [h2]; exact decide_eq_true (bitsN_mem.2 ⟨h1, h2⟩)
    · rw [Bool.not_eq_true] at h2
      rw [h2]; exact decide_eq_false (fun hm => by rw [(bitsN_mem.1 hm).2] at h2; cases h2)
  · have : X.testBit e = false := Nat.testBit_lt_two_pow (Nat.lt_of_lt_of_le h (Nat.pow_le_pow_right (by decide) (by omega)))
    rw [this]; exact decide_eq_false (fun hm => h1 (bitsN_mem.1 hm).1)
theorem popN_succ (n X : Nat) : popN (n + 1) X = popN n X + if X.testBit n then 1 else 0 := by
  unfold popN bitsN
  rw [List.range_succ, List.filter_append, List.length_append]
  congr 1
  by_cases h : X.testBit n = true
  · simp [h]
  · simp [h]
theorem popN_add (n m X : Nat) : popN (n + m) X = popN n X + popN m (X >>> n) := by
  induction m with
  | zero => rfl
  | succ m ih => rw [← Nat.add_assoc, popN_succ, popN_succ, ih, Nat.testBit_shiftRight]; omega
theorem popN_congr {n X Y : Nat} (h : ∀ e, e < n → X.testBit e = Y.testBit e) : popN n X = popN n Y := by
  induction n with
  | zero => rfl
  | succ n ih => rw [popN_succ, popN_succ, ih (fun e he => h e (by omega)), h n (by omega)]
theorem popN_pop : ((List.range 256).all fun z => popN 8 z == popF 8 z) = true := by decide +kernel
theorem popN_u8 (x : UInt8) : popN 8 x.toNat = pop x := by
  have h := popN_pop
  rw [List.all_eq_true] at h
  have := h x.toNat (by have := x.toNat_lt; simp; omega)
  simpa [pop] using this
theorem numB_bits (L : List UInt8) (b : UInt8) (e : Nat) : (numB (L ++ [b])).testBit e = if e < 8 then b.toNat.testBit e else (numB L).testBit (e - 8) := by
  rw [numB_snoc, Nat.mul_comm]
  exact Nat.testBit_two_pow_mul_add (numB L) (i := 8) (b := b.toNat) b.toNat_lt e
theorem pop_snoc (L M : List UInt8) (b c : UInt8) (n : Nat) : popN (8 * (n + 1)) (numB (L ++ [b]) ^^^ numB (M ++ [c])) = popN (8 * n) (numB L ^^^ numB M) + pop (c ^^^ b) := by
  rw [show 8 * (n + 1) = 8 + 8 * n by omega, popN_add]
  rw [show popN 8 (numB (L ++ [b]) ^^^ numB (M ++ [c])) = popN 8 (c ^^^ b).toNat from popN_congr (fun e he => by
    rw [Nat.testBit_xor, numB_bits, numB_bits, if_pos he, if_pos he, UInt8.toNat_xor, Nat.testBit_xor, Bool.xor_comm])]
  rw [popN_u8, Nat.add_comm]
  congr 1
  refine popN_congr (fun e _ => ?_)
  rw [Nat.testBit_shiftRight, Nat.testBit_xor, numB_bits, numB_bits, if_neg (by omega), if_neg (by omega), Nat.testBit_xor, show 8 + e - 8 = e by omega]
theorem dist_take (L M : List UInt8) : ∀ n, n ≤ L.length → n ≤ M.length → popN (8 * n) (numB (L.take n) ^^^ numB (M.take n)) = D (dif L M) 0 n
  | 0, _, _ => rfl
  | n + 1, h1, h2 => by
    have e1 : L.take (n + 1) = L.take n ++ [L.getD n 0] := by rw [List.take_add_one, List.getElem?_eq_getElem (show n < L.length by omega), List.getD_eq_getElem?_getD, List.getElem?_eq_getElem (show n < L.length by omega)]; rfl
    have e2 : M.take (n + 1) = M.take n ++ [M.getD n 0] := by rw [List.take_add_one, List.getElem?_eq_getElem (show n < M.length by omega), List.getD_eq_getElem?_getD, List.getElem?_eq_getElem (show n < M.length by omega)]; rfl
    rw [e1, e2, pop_snoc, dist_take L M n (by omega) (by omega), D, Nat.zero_add]; rfl
theorem D_drop (L M : List UInt8) (a : Nat) : ∀ m, D (dif L M) a m = D (dif (L.drop a) (M.drop a)) 0 m
  | 0 => rfl
  | m + 1 => by
    rw [D, D, D_drop L M a m, Nat.zero_add]
    congr 1
    unfold dif
    rw [List.getD_eq_getElem?_getD, List.getD_eq_getElem?_getD, List.getD_eq_getElem?_getD, List.getD_eq_getElem?_getD, List.getElem?_drop, List.getElem?_drop]
/-- How far two chunks lie apart. -/
theorem dist_chunk {L M : List UInt8} {sz i n : Nat} (hi : i < n) (hL : L.length = n * sz) (hM : M.length = n * sz) : popN (8 * sz) (numB (ckL sz L i) ^^^ numB (ckL sz M i)) = D (dif L M) (i * sz) sz := by
  have h : (i + 1) * sz ≤ n * sz := Nat.mul_le_mul_right _ hi
  rw [Nat.succ_mul] at h
  rw [D_drop]
  exact dist_take _ _ sz (by rw [List.length_drop]; omega) (by rw [List.length_drop]; omega)
theorem ckL_length {L : List UInt8} {sz i n : Nat} (hi : i < n) (hL : L.length = n * sz) : (ckL sz L i).length = sz := by
  have h : (i + 1) * sz ≤ n * sz := Nat.mul_le_mul_right _ hi
  rw [Nat.succ_mul] at h
  unfold ckL; rw [List.length_take, List.length_drop]; omega
/-- A chunk's word is its number without the spare bits. -/
theorem word_chunk (t : Nat) (v p : List UInt8) (hp : p.length = parN t) : wordN (13 * t) (spare t) (numB v) (numB p) = numB (v ++ p) >>> spare t := by
  have hps := par_spare t
  have hlt := numB_lt p
  rw [hp] at hlt
  apply Nat.eq_of_testBit_eq
  intro e
  unfold wordN
  rw [Nat.testBit_xor, Nat.testBit_shiftLeft, Nat.testBit_shiftRight, Nat.testBit_shiftRight, numB_append, hp, Nat.mul_comm (numB v), Nat.testBit_two_pow_mul_add (numB v) hlt]
  by_cases h : e < 13 * t
  · rw [if_pos (by omega)]
    have : ¬ (e ≥ 13 * t) := by omega
    simp [this]
  · rw [if_neg (by omega)]
    have h3 : (numB p).testBit (spare t + e) = false := Nat.testBit_lt_two_pow (Nat.lt_of_lt_of_le hlt (Nat.pow_le_pow_right (by decide) (by omega)))
    have h4 : e ≥ 13 * t := by omega
    rw [h3, show spare t + e - 8 * parN t = e - 13 * t by omega]
    simp [h4]
theorem parS_length (t : Nat) (s : ByteArray) : (parS t s).data.toList.length = parN t := by rw [← Lib.size_eq]; unfold parS; exact str_size _ _
theorem parS_num {t : Nat} (ht1 : 1 ≤ t) (ht8 : t ≤ 8) (v : List UInt8) : numB (parS t (bytS v)).data.toList = regV t v.length (numB v) := by
  have := regV_lt ht1 ht8 v.length (numB v) (numB_lt v)
  unfold parS
  rw [bytS_size, bytS_list]
  exact num_str this
theorem strOf_num (v : List UInt8) : strOf v.length (numB v) = bytS v := by
  have := str_num (bytS v)
  rw [bytS_size, bytS_list] at this
  exact this
theorem decC_form (t K : Nat) (R : List UInt8) (i : Nat) : decC t K R i = decR t K (numB ((ckL (K + parN t) R i).take K)) (numB ((ckL (K + parN t) R i).drop K)) := by
  unfold decC ckL
  rw [List.take_take, Nat.min_eq_left (Nat.le_add_right _ _)]
/-- A chunk near a code word is read as that. -/
theorem decC_near {t K n i m : Nat} (ht1 : 1 ≤ t) (ht8 : t ≤ 8) (hK0 : 0 < K) (hK : K ≤ 256) (hi : i < n) {v P R : List UInt8} (hv : v.length = K) (hP : P.length = n * (K + parN t)) (hR : R.length = n * (K + parN t))
    (hc : ckL (K + parN t) P i = v ++ (parS t (bytS v)).data.toList) (hd : D (dif P R) (i * (K + parN t)) (K + parN t) ≤ m) (hm : m ≤ t) :
    ∃ k, k ≤ m ∧ decC t K R i = some (numB v, regV t K (numB v), k) := by
  have hps := par_spare t
  have hr := ckL_length hi hR
  have hpl := parS_length t (bytS v)
  have hdc := dist_chunk hi hP hR
  rw [hc] at hdc
  rw [decC_form]
  generalize ckL (K + parN t) R i = r at *
  have hr1 : (r.take K).length = K := by rw [List.length_take]; omega
  have hr2 : (r.drop K).length = parN t := by rw [List.length_drop]; omega
  have hV := numB_lt v
  rw [hv] at hV
  have hV' := numB_lt (r.take K)
  rw [hr1] at hV'
  have hP' := numB_lt (r.drop K)
  rw [hr2] at hP'
  obtain ⟨X, hX⟩ : ∃ X, X = (numB (v ++ (parS t (bytS v)).data.toList) ^^^ numB r) >>> spare t := ⟨_, rfl⟩
  have hXl : X < 2 ^ (8 * K + 13 * t) := by
    have h1 := numB_lt (v ++ (parS t (bytS v)).data.toList)
    rw [List.length_append, hv, hpl] at h1
    have h2 := numB_lt r
    rw [hr] at h2
    have h3 := Nat.xor_lt_two_pow h1 h2
    rw [hX]
    exact shr_lt h3 (by omega)
  have hlen : (bitsN (8 * K + 13 * t) X).length ≤ m := by
    refine Nat.le_trans ?_ hd
    rw [← hdc, show 8 * (K + parN t) = spare t + (8 * K + 13 * t) by omega, popN_add, ← hX]
    exact Nat.le_add_left _ _
  refine ⟨(bitsN (8 * K + 13 * t) X).length, hlen, ?_⟩
  refine decR_right ht1 ht8 hK0 hK hV (bitsN_nodup _ _) (fun x hx => (bitsN_mem.1 hx).1) (Nat.le_trans hlen hm) _ _ hV' hP' ?_
  have hpn := parS_num ht1 ht8 v
  rw [hv] at hpn
  rw [bitsN_xor hXl, ← hpn, word_chunk t _ _ hpl, word_chunk t _ _ hr2, List.take_append_drop, hX, Nat.shiftRight_xor_distrib, ← Nat.xor_assoc, Nat.xor_self, Nat.zero_xor]
theorem encI_length (t K : Nat) (B : List UInt8) (n : Nat) (hB : B.length = n * K) : ∀ i, i ≤ n → (encI t K B i).length = i * (K + parN t)
  | 0, _ => by simp [encI]
  | i + 1, h => by
    simp only [encI, List.length_append]
    rw [encI_length t K B n hB i (by omega), ckL_length (by omega) hB, parS_length, Nat.succ_mul]
theorem encI_chunk {t K n : Nat} {B : List UInt8} (hB : B.length = n * K) (i : Nat) (hi : i < n) : ∀ j, i < j → j ≤ n → ckL (K + parN t) (encI t K B j) i = ckL K B i ++ (parS t (bytS (ckL K B i))).data.toList
  | 0, h, _ => by omega
  | j + 1, h, hj => by
    have hl := encI_length t K B n hB j (by omega)
    have hc : (ckL K B j ++ (parS t (bytS (ckL K B j))).data.toList).length = K + parN t := by rw [List.length_append, ckL_length (by omega) hB, parS_length]
    rcases Nat.lt_or_ge i j with h1 | h1
    · rw [← encI_chunk hB i hi j h1 (by omega)]
      have h2 : (i + 1) * (K + parN t) ≤ j * (K + parN t) := Nat.mul_le_mul_right _ h1
      rw [Nat.succ_mul] at h2
      show ((encI t K B j ++ _).drop _).take _ = _
      unfold ckL
      rw [List.drop_append_of_le_length (by omega), List.take_append_of_le_length (by rw [List.length_drop]; omega)]
    · obtain rfl : i = j := by omega
      show ((encI t K B i ++ _).drop _).take _ = _
      rw [← hl, List.drop_left, ← hc, List.take_length]
theorem take_chunk (K : Nat) (B : List UInt8) (i : Nat) : B.take ((i + 1) * K) = B.take (i * K) ++ ckL K B i := by
  unfold ckL
  rw [Nat.succ_mul, List.take_add]
/-- Chunks near a page's are read as that page's. -/
theorem decsC_near {t K n m : Nat} (ht1 : 1 ≤ t) (ht8 : t ≤ 8) (hK0 : 0 < K) (hK : K ≤ 256) {B R : List UInt8} (hB : B.length = n * K) (hR : R.length = n * (K + parN t)) (hm : m ≤ t)
    (hd : ∀ i, i < n → D (dif (encI t K B n) R) (i * (K + parN t)) (K + parN t) ≤ m) : ∀ i, i ≤ n → ∃ k, k ≤ i * m ∧ decsC t K R i = some (B.take (i * K), k)
  | 0, _ => ⟨0, Nat.zero_le _, by simp [decsC]⟩
  | i + 1, h => by
    obtain ⟨k, hk, he⟩ := decsC_near ht1 ht8 hK0 hK hB hR hm hd i (by omega)
    have hv : (ckL K B i).length = K := ckL_length (by omega) hB
    obtain ⟨k2, hk2, he2⟩ := decC_near ht1 ht8 hK0 hK (i := i) (n := n) (by omega) hv (encI_length t K B n hB n (Nat.le_refl _)) hR (encI_chunk hB i (by omega) n (by omega) (Nat.le_refl _)) (hd i (by omega)) hm
    refine ⟨k + k2, by rw [Nat.succ_mul]; omega, ?_⟩
    have hs : (strOf K (numB (ckL K B i))).data.toList = ckL K B i := by
      have := strOf_num (ckL K B i)
      rw [hv] at this
      rw [this, bytS_list]
    simp only [decsC, he, he2]
    rw [hs, take_chunk]
theorem ones_pop : ((List.range 256).all fun z => Lib.onesCount z == popF 8 z) = true := by decide +kernel
theorem ones_u8 (x : UInt8) : Lib.onesCount x.toNat = pop x := by
  have h := ones_pop
  rw [List.all_eq_true] at h
  have := h x.toNat (by have := x.toNat_lt; simp; omega)
  simpa [pop] using this
theorem zer_append (L M : List UInt8) : zer (L ++ M) = zer L + zer M := by
  induction L with
  | nil => simp [zer]
  | cons a L ih => simp only [List.cons_append, zer, ih]; omega
/-- A page near one that was written isn't as if erased. -/
theorem not_empty {t K n : Nat} {T : Int} (hn : 1 ≤ n) (hK : 16 ≤ K) {B R : List UInt8} (hB : B.length = n * K) (hR : R.length = n * (K + parN t)) (hT : T ≤ 8) (h3 : B.take 3 = [0, 0, 0]) (hd : D (dif (encI t K B n) R) 0 (K + parN t) ≤ 8) : ¬ emptyB (K + parN t) n T R := by
  intro h
  have h0 := h 0 (by omega)
  have hr := ckL_length (i := 0) (by omega) hR
  have hle : 1 * (K + parN t) ≤ n * (K + parN t) := Nat.mul_le_mul_right _ hn
  have hBk : 1 * K ≤ n * K := Nat.mul_le_mul_right _ hn
  have hel := encI_length t K B n hB n (Nat.le_refl _)
  have hD := D_mono (f := dif (encI t K B n) R) (a := 0) (show 3 ≤ K + parN t by omega)
  have he := encI_chunk (t := t) hB 0 (by omega) n (by omega) (Nat.le_refl _)
  have hg : ∀ j, j < 3 → (encI t K B n).getD j 0 = 0 := by
    intro j hj
    have h1 : (encI t K B n).getD j 0 = (ckL (K + parN t) (encI t K B n) 0).getD j 0 := by
      unfold ckL
      rw [Nat.zero_mul, List.drop_zero, List.getD_eq_getElem?_getD, List.getD_eq_getElem?_getD, List.getElem?_take_of_lt (by omega)]
    have h2 : (ckL K B 0).getD j 0 = (B.take 3).getD j 0 := by
      unfold ckL
      rw [Nat.zero_mul, List.drop_zero, List.getD_eq_getElem?_getD, List.getD_eq_getElem?_getD, List.getElem?_take_of_lt (by omega), List.getElem?_take_of_lt (by omega)]
    have hkl : (ckL K B 0).length = K := ckL_length (by omega) hB
    rw [h1, he, List.getD_eq_getElem?_getD, List.getElem?_append_left (by omega), ← List.getD_eq_getElem?_getD, h2, h3]
    rcases (show j = 0 ∨ j = 1 ∨ j = 2 by omega) with rfl | rfl | rfl <;> rfl
  obtain ⟨x, y, z, rest, hRe⟩ : ∃ x y z rest, R = x :: y :: z :: rest := by
    match R, hR with
    | [], h => simp at h; omega
    | [_], h => simp at h; omega
    | [_, _], h => simp at h; omega
    | x :: y :: z :: rest, _ => exact ⟨x, y, z, rest, rfl⟩
  have hz : zer (ckL (K + parN t) R 0) = zer [x, y, z] + zer (rest.take (K + parN t - 3)) := by
    rw [← zer_append]
    unfold ckL
    rw [Nat.zero_mul, List.drop_zero, hRe]
    obtain ⟨q, hq⟩ : ∃ q, K + parN t = q + 3 := ⟨K + parN t - 3, by omega⟩
    rw [hq]; rfl
  have hz2 := (zer_bound (rest.take (K + parN t - 3))).1
  have hD3 : D (dif (encI t K B n) R) 0 3 = pop x + pop y + pop z := by
    simp only [D, dif, Nat.zero_add]
    rw [hg 0 (by omega), hg 1 (by omega), hg 2 (by omega), hRe]
    simp
  have hz3 : zer [x, y, z] = 24 - ((pop x + pop y + pop z : Nat) : Int) := by
    simp only [zer, ones_u8]; omega
  omega
theorem bodyL_take3 (room : Nat) (p : List UInt8) : (bodyL room p).take 3 = [0, 0, 0] := by
  unfold bodyL sealL
  simp
/-- What a payload is read as: with noughts behind it. -/
def padL (room : Nat) (p : List UInt8) : List UInt8 := p ++ Lib.repeatL [0] (room - p.length)
theorem open_body (room : Nat) (p : List UInt8) : openL (bodyL room p) = some ([0, 0, 0] ++ padL room p) := by
  unfold bodyL
  rw [openL_seal, List.append_assoc]; rfl
theorem prefix3 (l : List UInt8) : Lib.hasPrefix ([0, 0, 0] ++ l) [0, 0, 0] = true ∧ Lib.trimPrefix ([0, 0, 0] ++ l) [0, 0, 0] = l := by
  constructor
  · simp [Lib.hasPrefix]
  · simp [Lib.trimPrefix, Lib.hasPrefix]
/-- A page that lies near one that was written is read as it was written. -/
theorem readL_near {g : Geo} (hg : g.ok) {p R : List UInt8} (hp : (p.length : Int) ≤ g.room) (hR : R.length = g.C.toNat * (g.K.toNat + parN g.T.toNat)) {m : Nat} (hm : m ≤ g.T.toNat)
    (hd : ∀ i, i < g.C.toNat → D (dif (g.pageL p) R) (i * (g.K.toNat + parN g.T.toNat)) (g.K.toNat + parN g.T.toNat) ≤ m) :
    ∃ k : Nat, k ≤ g.C.toNat * m ∧ g.readL R = foundV 1 (padL g.room.toNat p) k := by
  have hroom : g.room = g.C * g.K - 7 := by unfold Geo.room; rw [if_pos hg]
  obtain ⟨b1, b2, b3, b4, b5, b6, b7, b8, b9, b10, b11⟩ := hg
  have m2 := mul4 (c := g.C) (x := g.K) b6 b7 (by omega)
  have hB : (bodyL g.room.toNat p).length = g.C.toNat * g.K.toNat := by
    rw [bodyL_length (by omega)]
    have h1 : ((g.C.toNat * g.K.toNat : Nat) : Int) = g.C * g.K := by rw [Int.natCast_mul, Int.toNat_of_nonneg (by omega), Int.toNat_of_nonneg (by omega)]
    omega
  unfold Geo.pageL at hd
  obtain ⟨k, hk, he⟩ := decsC_near (t := g.T.toNat) (K := g.K.toNat) (n := g.C.toNat) (m := m) (by omega) (by omega) (by omega) (by omega) hB hR hm hd g.C.toNat (Nat.le_refl _)
  refine ⟨k, hk, ?_⟩
  have h0 := hd 0 (by omega)
  rw [Nat.zero_mul] at h0
  have hne := not_empty (T := g.T) (by omega) (by omega) hB hR b11 (bodyL_take3 _ _) (Nat.le_trans h0 (by omega))
  unfold Geo.readL
  rw [if_neg hne, he, ← hB, List.take_length]
  show openedV k (openL (bodyL g.room.toNat p)) = _
  rw [open_body]
  show (if Lib.hasPrefix ([0, 0, 0] ++ padL g.room.toNat p) [0, 0, 0] = true then foundV 1 (Lib.trimPrefix ([0, 0, 0] ++ padL g.room.toNat p) [0, 0, 0]) k else foundV 2 [] 0) = _
  rw [(prefix3 _).1, (prefix3 _).2]
  rfl
theorem dif_self (l : List UInt8) (a m : Nat) : D (dif l l) a m = 0 := D_zero m (fun t _ _ => pop_self _)
theorem pageL_length {g : Geo} (hg : g.ok) {p : List UInt8} (hp : (p.length : Int) ≤ g.room) : (g.pageL p).length = g.C.toNat * (g.K.toNat + parN g.T.toNat) := by
  have hroom : g.room = g.C * g.K - 7 := by unfold Geo.room; rw [if_pos hg]
  obtain ⟨b1, b2, b3, b4, b5, b6, b7, b8, b9, b10, b11⟩ := hg
  have m2 := mul4 (c := g.C) (x := g.K) b6 b7 (by omega)
  have hB : (bodyL g.room.toNat p).length = g.C.toNat * g.K.toNat := by
    rw [bodyL_length (by omega)]
    have h1 : ((g.C.toNat * g.K.toNat : Nat) : Int) = g.C * g.K := by rw [Int.natCast_mul, Int.toNat_of_nonneg (by omega), Int.toNat_of_nonneg (by omega)]
    omega
  exact encI_length _ _ _ _ hB _ (Nat.le_refl _)
/-- A page is read as it was written. -/
theorem readL_page {g : Geo} (hg : g.ok) {p : List UInt8} (hp : (p.length : Int) ≤ g.room) : g.readL (g.pageL p) = foundV 1 (padL g.room.toNat p) 0 := by
  obtain ⟨k, hk, he⟩ := readL_near hg hp (pageL_length hg hp) (m := 0) (Nat.zero_le _) (fun i hi => by rw [dif_self]; exact Nat.le_refl _)
  rw [Nat.mul_zero] at hk
  obtain rfl : k = 0 := by omega
  exact he
end Go.Proofs.YtgfjeaegigjnaaaGreatDoor
