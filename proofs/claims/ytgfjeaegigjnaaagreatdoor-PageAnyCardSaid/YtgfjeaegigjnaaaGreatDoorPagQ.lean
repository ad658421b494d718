/- Whatever bytes lie in a page; how far pages lie apart: in plain Lean. -/
import Derived.Test.YtgfjeaegigjnaaaGreatDoorPagP
namespace Go.Proofs.YtgfjeaegigjnaaaGreatDoor
open Go.RowKit
set_option linter.unusedVariables false
set_option linter.unusedSimpArgs false

/-- Chunk i as a word; in how many bits the chunks of two pages differ. -/
def wdC (t K : Nat) (R : List UInt8) (i : Nat) : Nat := wordN (13 * t) (spare t) (numB ((ckL (K + parN t) R i).take K)) (numB ((ckL (K + parN t) R i).drop K))
def hamC (t K : Nat) (R P : List UInt8) (i : Nat) : Nat := ham (wdC t K R i) (wdC t K P i) (8 * K + 13 * t) (8 * K + 13 * t)
def hamS (t K : Nat) (R P : List UInt8) : Nat → Nat
  | 0 => 0
  | i + 1 => hamS t K R P i + hamC t K R P i
theorem decC_any {t K n i : Nat} (ht1 : 1 ≤ t) (ht8 : t ≤ 8) (hK0 : 0 < K) (hi : i < n) {R B : List UInt8} (hR : R.length = n * (K + parN t)) (hB : B.length = n * K) {z : Nat × Nat × Nat} (h : decC t K R i = some z) (hc : ckL K B i = (strOf K z.1).data.toList) :
    hamC t K R (encI t K B n) i = z.2.2 ∧ z.2.2 ≤ t := by
  obtain ⟨V, Q, k⟩ := z
  have hr := ckL_length hi hR
  have he := encI_chunk (t := t) hB i hi n hi (Nat.le_refl _)
  rw [decC_form] at h
  unfold hamC wdC
  rw [he]
  generalize ckL (K + parN t) R i = r at *
  have hr1 : (r.take K).length = K := by rw [List.length_take]; omega
  have hr2 : (r.drop K).length = parN t := by rw [List.length_drop]; omega
  have hV := numB_lt (r.take K)
  rw [hr1] at hV
  have hP := numB_lt (r.drop K)
  rw [hr2] at hP
  obtain ⟨h1, h2, h3, es, h4, h5, h6, h7⟩ := decR_word ht1 ht8 hK0 hV hP h
  have hcl : (ckL K B i).length = K := ckL_length hi hB
  have hpl := parS_length t (bytS (ckL K B i))
  have hn : numB (ckL K B i) = V := by rw [hc]; exact num_str h1
  have hpn := parS_num ht1 ht8 (ckL K B i)
  rw [hcl, hn, ← h2] at hpn
  rw [List.take_left' hcl, List.drop_left' hcl]
  rw [hpn, hn, h7]
  refine ⟨?_, h3⟩
  show ham _ _ _ _ = k
  rw [← h6]
  exact ham_all h4 (by rw [← Nat.xor_assoc, Nat.xor_self, Nat.zero_xor]) h5
theorem decsC_any {t K n : Nat} (ht1 : 1 ≤ t) (ht8 : t ≤ 8) (hK0 : 0 < K) {R B : List UInt8} (hR : R.length = n * (K + parN t)) (hB : B.length = n * K) : ∀ i, i ≤ n → ∀ b k, decsC t K R i = some (b, k) → B.take (i * K) = b →
    k = hamS t K R (encI t K B n) i ∧ ∀ j, j < i → hamC t K R (encI t K B n) j ≤ t
  | 0, _, b, k, h, _ => by
    simp only [decsC, Option.some.injEq, Prod.mk.injEq] at h
    exact ⟨h.2.symm, fun j hj => by omega⟩
  | i + 1, hi, b, k, h, hb => by
    simp only [decsC] at h
    split at h
    · cases h
    · next b' k' h1 =>
      split at h
      · cases h
      · next z hz =>
        simp only [Option.some.injEq, Prod.mk.injEq] at h
        have hl := decsC_length h1
        rw [take_chunk, ← h.1] at hb
        have hlen : (B.take (i * K)).length = b'.length := by
          have : (i + 1) * K ≤ n * K := Nat.mul_le_mul_right _ hi
          rw [Nat.succ_mul] at this
          rw [List.length_take, hl]; omega
        obtain ⟨hb1, hb2⟩ := List.append_inj hb hlen
        obtain ⟨h3, h4⟩ := decsC_any ht1 ht8 hK0 hR hB i (by omega) b' k' h1 hb1
        obtain ⟨h5, h6⟩ := decC_any ht1 ht8 hK0 (by omega) hR hB hz hb2
        refine ⟨by rw [← h.2, h3, ← h5]; rfl, fun j hj => ?_⟩
        rcases Nat.lt_or_ge j i with h7 | h7
        · exact h4 j h7
        · obtain rfl : j = i := by omega
          rw [h5]; exact h6
theorem prefix3_of {m : List UInt8} (h : Lib.hasPrefix m [0, 0, 0] = true) : m = [0, 0, 0] ++ Lib.trimPrefix m [0, 0, 0] := by
  match m, h with
  | [], h => simp [Lib.hasPrefix] at h
  | [a], h => simp [Lib.hasPrefix] at h
  | [a, b], h => simp [Lib.hasPrefix] at h
  | a :: b :: c :: l, h =>
    have : 0 = a ∧ 0 = b ∧ 0 = c := by simpa [Lib.hasPrefix] using h
    obtain ⟨rfl, rfl, rfl⟩ := this
    rw [show (0 :: 0 :: 0 :: l : List UInt8) = [0, 0, 0] ++ l from rfl, (prefix3 l).2]
/-- What is read of whatever bytes. -/
theorem readL_any {g : Geo} (hg : g.ok) {R : List UInt8} (hR : R.length = g.C.toNat * (g.K.toNat + parN g.T.toNat)) (hne : ¬ emptyB (g.K.toNat + parN g.T.toNat) g.C.toNat g.T R) :
    g.readL R = foundV 2 [] 0 ∨ ∃ pay : List UInt8, (pay.length : Int) = g.room ∧ g.readL R = foundV 1 pay ((hamS g.T.toNat g.K.toNat R (g.pageL pay) g.C.toNat : Nat) : Int) ∧
      (∀ i, i < g.C.toNat → hamC g.T.toNat g.K.toNat R (g.pageL pay) i ≤ g.T.toNat) := by
  have hroom : g.room = g.C * g.K - 7 := by unfold Geo.room; rw [if_pos hg]
  obtain ⟨b1, b2, b3, b4, b5, b6, b7, b8, b9, b10, b11⟩ := hg
  have m2 := mul4 (c := g.C) (x := g.K) b6 b7 (by omega)
  have hCK : ((g.C.toNat * g.K.toNat : Nat) : Int) = g.C * g.K := by rw [Int.natCast_mul, Int.toNat_of_nonneg (by omega), Int.toNat_of_nonneg (by omega)]
  unfold Geo.readL
  rw [if_neg hne]
  cases hd : decsC g.T.toNat g.K.toNat R g.C.toNat with
  | none => exact .inl rfl
  | some z =>
    obtain ⟨b, n⟩ := z
    cases ho : openL b with
    | none =>
      left
      show openedV n (openL b) = _
      rw [ho]; rfl
    | some m =>
      have hfv : fullV (some (b, n)) = if Lib.hasPrefix m [0, 0, 0] then foundV 1 (Lib.trimPrefix m [0, 0, 0]) n else foundV 2 [] 0 := by
        show openedV n (openL b) = _
        rw [ho]; rfl
      rw [hfv]
      by_cases hp : Lib.hasPrefix m [0, 0, 0] = true
      · rw [if_pos hp]
        right
        have hb := openL_some ho
        have hm := prefix3_of hp
        have hl := decsC_length hd
        generalize Lib.trimPrefix m [0, 0, 0] = pay at *
        have hpl : pay.length + 7 = g.C.toNat * g.K.toNat := by
          rw [← hl, hb, sealL_length, hm, List.length_append]
          show pay.length + 7 = 3 + pay.length + 4
          omega
        have hrp : g.room.toNat = pay.length := by omega
        have hbody : bodyL g.room.toNat pay = b := by
          unfold bodyL
          rw [hrp, Nat.sub_self]
          show sealL (([0, 0, 0] ++ pay) ++ []) = b
          rw [List.append_nil, ← hm, ← hb]
        have h1 := decsC_any (t := g.T.toNat) (K := g.K.toNat) (n := g.C.toNat) (by omega) (by omega) (by omega) hR hl g.C.toNat (Nat.le_refl _) b n hd (by rw [← hl, List.take_length])
        rw [← hbody] at h1
        refine ⟨pay, by omega, ?_, h1.2⟩
        rw [h1.1]; rfl
      · rw [if_neg hp]; exact .inl rfl
theorem xorI_split {es : List Nat} (h : es.Nodup) (k : Nat) : xorI es es.length = xorI (es.take k) (es.take k).length ^^^ xorI (es.drop k) (es.drop k).length := by
  have h1 : (es.take k).Nodup := List.Nodup.sublist (List.take_sublist _ _) h
  have h2 : (es.drop k).Nodup := List.Nodup.sublist (List.drop_sublist _ _) h
  have h3 : ∀ e, e ∈ es.take k → e ∉ es.drop k := by
    intro e ha hb
    have h4 := h
    rw [← List.take_append_drop k es] at h4
    exact (List.nodup_append.1 h4).2.2 _ ha _ hb rfl
  apply Nat.eq_of_testBit_eq
  intro e
  rw [Nat.testBit_xor, xorI_all h, xorI_all h1, xorI_all h2]
  have hm : (e ∈ es) ↔ (e ∈ es.take k ∨ e ∈ es.drop k) := by
    conv => lhs; rw [← List.take_append_drop k es, List.mem_append]
  by_cases ha : e ∈ es.take k
  · have hb := h3 e ha
    simp [hm, ha, hb]
  · by_cases hb : e ∈ es.drop k <;> simp [hm, ha, hb]
/-- Every word is one of chunk and parity. -/
theorem word_split {d s K nb W : Nat} (hn : 8 * nb = d + s) (hW : W < 2 ^ (8 * K + d)) : ∃ V P, V < 2 ^ (8 * K) ∧ P < 2 ^ (8 * nb) ∧ wordN d s V P = W := by
  refine ⟨W >>> d, (W % 2 ^ d) <<< s, shr_lt hW (by omega), ?_, ?_⟩
  · have := Nat.mod_lt W (Nat.two_pow_pos d)
    rw [hn]; exact shl_lt this (Nat.le_refl _)
  · unfold wordN
    rw [shl_shr]
    apply Nat.eq_of_testBit_eq
    intro e
    rw [Nat.testBit_xor, Nat.testBit_shiftLeft, Nat.testBit_shiftRight, Nat.testBit_mod_two_pow]
    by_cases h : e < d
    · have : ¬ (e ≥ d) := by omega
      simp [this, h]
    · have h2 : e ≥ d := by omega
      rw [show d + (e - d) = e by omega]
      simp [h, h2]
theorem xorI_lt {es : List Nat} (h : es.Nodup) {n : Nat} (hl : ∀ x ∈ es, x < n) : xorI es es.length < 2 ^ n := by
  refine Nat.lt_pow_two_of_testBit _ (fun e he => ?_)
  rw [xorI_all h]
  exact decide_eq_false (fun hm => by have := hl e hm; omega)
/-- Two code words that differ lie apart by more than twice what is turned back. -/
theorem far_chunk {t K : Nat} (ht1 : 1 ≤ t) (ht8 : t ≤ 8) (hK0 : 0 < K) (hK : K ≤ 256) {v u : List UInt8} (hv : v.length = K) (hu : u.length = K) (hne : v ≠ u) :
    2 * t < popN (8 * (K + parN t)) (numB (v ++ (parS t (bytS v)).data.toList) ^^^ numB (u ++ (parS t (bytS u)).data.toList)) := by
  rcases Nat.lt_or_ge (2 * t) (popN (8 * (K + parN t)) (numB (v ++ (parS t (bytS v)).data.toList) ^^^ numB (u ++ (parS t (bytS u)).data.toList))) with h | h
  · exact h
  · exfalso
    have hps := par_spare t
    have hpv := parS_length t (bytS v)
    have hpu := parS_length t (bytS u)
    have hVn := numB_lt v
    rw [hv] at hVn
    have hUn := numB_lt u
    rw [hu] at hUn
    obtain ⟨X, hX⟩ : ∃ X, X = (numB (v ++ (parS t (bytS v)).data.toList) ^^^ numB (u ++ (parS t (bytS u)).data.toList)) >>> spare t := ⟨_, rfl⟩
    have hXl : X < 2 ^ (8 * K + 13 * t) := by
      have h1 := numB_lt (v ++ (parS t (bytS v)).data.toList)
      rw [List.length_append, hv, hpv] at h1
      have h2 := numB_lt (u ++ (parS t (bytS u)).data.toList)
      rw [List.length_append, hu, hpu] at h2
      have h3 := Nat.xor_lt_two_pow h1 h2
      rw [hX]
      exact shr_lt h3 (by omega)
    have hlen : (bitsN (8 * K + 13 * t) X).length ≤ 2 * t := by
      refine Nat.le_trans ?_ h
      rw [show 8 * (K + parN t) = spare t + (8 * K + 13 * t) by omega, popN_add, ← hX]
      exact Nat.le_add_left _ _
    have hxo := bitsN_xor hXl
    have hnd := bitsN_nodup (8 * K + 13 * t) X
    have hbl : ∀ x ∈ bitsN (8 * K + 13 * t) X, x < 8 * K + 13 * t := fun x hx => (bitsN_mem.1 hx).1
    generalize bitsN (8 * K + 13 * t) X = es at *
    have hpnv := parS_num ht1 ht8 v
    rw [hv] at hpnv
    have hpnu := parS_num ht1 ht8 u
    rw [hu] at hpnu
    have hWX : wordN (13 * t) (spare t) (numB v) (regV t K (numB v)) ^^^ wordN (13 * t) (spare t) (numB u) (regV t K (numB u)) = xorI es es.length := by
      rw [hxo, hX, ← hpnv, ← hpnu, word_chunk t _ _ hpv, word_chunk t _ _ hpu, Nat.shiftRight_xor_distrib]
    rw [xorI_split hnd t] at hWX
    have h1 : (es.take t).Nodup := List.Nodup.sublist (List.take_sublist _ _) hnd
    have h2 : (es.drop t).Nodup := List.Nodup.sublist (List.drop_sublist _ _) hnd
    have hb1 : ∀ x ∈ es.take t, x < 8 * K + 13 * t := fun x hx => hbl x (List.mem_of_mem_take hx)
    have hb2 : ∀ x ∈ es.drop t, x < 8 * K + 13 * t := fun x hx => hbl x (List.mem_of_mem_drop hx)
    have hl1 : (es.take t).length ≤ t := by rw [List.length_take]; omega
    have hl2 : (es.drop t).length ≤ t := by rw [List.length_drop]; omega
    have hWl : wordN (13 * t) (spare t) (numB v) (regV t K (numB v)) < 2 ^ (8 * K + 13 * t) := by
      have h3 := numB_lt (v ++ (parS t (bytS v)).data.toList)
      rw [List.length_append, hv, hpv] at h3
      rw [← hpnv, word_chunk t _ _ hpv]
      exact shr_lt h3 (by omega)
    obtain ⟨V, P, hV, hP, hW⟩ := word_split hps (Nat.xor_lt_two_pow hWl (xorI_lt h1 hb1))
    have d1 := decR_right ht1 ht8 hK0 hK hVn h1 hb1 hl1 V P hV hP hW
    have d2 := decR_right ht1 ht8 hK0 hK hUn h2 hb2 hl2 V P hV hP (by
      rw [hW]
      generalize wordN (13 * t) (spare t) (numB v) (regV t K (numB v)) = a at *
      generalize wordN (13 * t) (spare t) (numB u) (regV t K (numB u)) = b at *
      generalize xorI (es.take t) (es.take t).length = x at *
      generalize xorI (es.drop t) (es.drop t).length = y at *
      have : b = a ^^^ (x ^^^ y) := by rw [← hWX, ← Nat.xor_assoc, Nat.xor_self, Nat.zero_xor]
      rw [this, Nat.xor_assoc, Nat.xor_assoc, Nat.xor_self, Nat.xor_zero])
    rw [d1] at d2
    have hnn : numB v = numB u := congrArg (fun z : Option (Nat × Nat × Nat) => (z.getD (0, 0, 0)).1) d2
    have hs := strOf_num v
    have hs2 := strOf_num u
    rw [hv, hnn] at hs
    rw [hu] at hs2
    rw [hs] at hs2
    apply hne
    have := congrArg (fun s : ByteArray => s.data.toList) hs2
    exact this
theorem D_split (f : Nat → Nat) (a m : Nat) : ∀ k, D f a (m + k) = D f a m + D f (a + m) k
  | 0 => by simp [D]
  | k + 1 => by rw [← Nat.add_assoc, D, D, D_split f a m k, Nat.add_assoc a m k]; omega
theorem D_part (f : Nat → Nat) {a m n : Nat} (h : a + m ≤ n) : D f a m ≤ D f 0 n := by
  obtain ⟨k, rfl⟩ : ∃ k, n = a + m + k := ⟨n - (a + m), by omega⟩
  rw [D_split, D_split, Nat.zero_add]; omega
theorem encI_same {t K : Nat} {B C : List UInt8} : ∀ n, (∀ i, i < n → ckL K B i = ckL K C i) → encI t K B n = encI t K C n
  | 0, _ => rfl
  | n + 1, h => by simp only [encI]; rw [encI_same n (fun i hi => h i (by omega)), h n (by omega)]
theorem far_pages {g : Geo} (hg : g.ok) {p q : List UInt8} (hp : (p.length : Int) ≤ g.room) (hq : (q.length : Int) ≤ g.room) (hne : g.pageL p ≠ g.pageL q) :
    2 * g.T.toNat < D (dif (g.pageL p) (g.pageL q)) 0 (g.C.toNat * (g.K.toNat + parN g.T.toNat)) := by
  have hlp := pageL_length hg hp
  have hlq := pageL_length hg hq
  have hroom : g.room = g.C * g.K - 7 := by unfold Geo.room; rw [if_pos hg]
  obtain ⟨b1, b2, b3, b4, b5, b6, b7, b8, b9, b10, b11⟩ := hg
  have m2 := mul4 (c := g.C) (x := g.K) b6 b7 (by omega)
  have hCK : ((g.C.toNat * g.K.toNat : Nat) : Int) = g.C * g.K := by rw [Int.natCast_mul, Int.toNat_of_nonneg (by omega), Int.toNat_of_nonneg (by omega)]
  have hBp : (bodyL g.room.toNat p).length = g.C.toNat * g.K.toNat := by rw [bodyL_length (by omega)]; omega
  have hBq : (bodyL g.room.toNat q).length = g.C.toNat * g.K.toNat := by rw [bodyL_length (by omega)]; omega
  have hex : ∃ i, i < g.C.toNat ∧ ckL g.K.toNat (bodyL g.room.toNat p) i ≠ ckL g.K.toNat (bodyL g.room.toNat q) i := by
    refine Classical.byContradiction fun hc => hne ?_
    unfold Geo.pageL
    exact encI_same _ (fun i hi => Classical.byContradiction fun h => hc ⟨i, hi, h⟩)
  obtain ⟨i, hi, hci⟩ := hex
  have h1 := far_chunk (t := g.T.toNat) (K := g.K.toNat) (by omega) (by omega) (by omega) (by omega) (ckL_length hi hBp) (ckL_length hi hBq) hci
  have h2 := dist_chunk hi hlp hlq
  unfold Geo.pageL at h2
  rw [encI_chunk hBp i hi _ hi (Nat.le_refl _), encI_chunk hBq i hi _ hi (Nat.le_refl _)] at h2
  rw [h2] at h1
  refine Nat.lt_of_lt_of_le h1 (D_part _ ?_)
  have := Nat.mul_le_mul_right (g.K.toNat + parN g.T.toNat) (show i + 1 ≤ g.C.toNat from hi)
  rw [Nat.succ_mul] at this
  exact this
/-- Payloads are told apart as their pages are. -/
theorem pad_page {g : Geo} (hg : g.ok) {p q : List UInt8} (hp : (p.length : Int) ≤ g.room) (hq : (q.length : Int) ≤ g.room) : padL g.room.toNat p = padL g.room.toNat q ↔ g.pageL p = g.pageL q := by
  constructor
  · intro h
    unfold Geo.pageL bodyL
    rw [List.append_assoc, List.append_assoc]
    show encI _ _ (sealL ([0, 0, 0] ++ padL g.room.toNat p)) _ = encI _ _ (sealL ([0, 0, 0] ++ padL g.room.toNat q)) _
    rw [h]
  · intro h
    have h1 := readL_page hg hp
    rw [h, readL_page hg hq] at h1
    unfold foundV at h1
    simp only [Value.agg.injEq, Array.mk.injEq, List.cons.injEq, Value.string.injEq, true_and, and_true] at h1
    exact (congrArg (fun s : ByteArray => s.data.toList) h1).symm
end Go.Proofs.YtgfjeaegigjnaaaGreatDoor
