/- The plain law of the noise: in each piece no more bits are turned than are allowed. -/
import Derived.Test.YthoadcibknaelaaReadm
namespace Go.Proofs.Ythoadcibknaelaa
open Go.RowKit
set_option linter.unusedVariables false
set_option linter.unusedSimpArgs false

/-- How many bits of a number are set, of its first so many. -/
def popF : Nat → Nat → Nat
  | 0, _ => 0
  | f + 1, x => if x = 0 then 0 else x % 2 + popF f (x / 2)
def pop (x : UInt8) : Nat := popF 8 x.toNat
theorem pop_all : ((List.range 256).all fun z => (List.range 8).all fun k => decide (popF 8 (z ^^^ 2 ^ k) ≤ popF 8 z + 1)) = true := by decide +kernel
theorem pop_flip (z : UInt8) (k : Nat) (hk : k < 8) : pop (z ^^^ UInt8.ofNat (2 ^ k)) ≤ pop z + 1 := by
  have h := pop_all
  rw [List.all_eq_true] at h
  have h1 := h z.toNat (by have := z.toNat_lt; simp; omega)
  rw [List.all_eq_true] at h1
  have h2 := h1 k (by simp; omega)
  have hk2 : 2 ^ k < 256 := by
    have hks : k = 0 ∨ k = 1 ∨ k = 2 ∨ k = 3 ∨ k = 4 ∨ k = 5 ∨ k = 6 ∨ k = 7 := by omega
    rcases hks with rfl | rfl | rfl | rfl | rfl | rfl | rfl | rfl <;> decide
  unfold pop
  rw [UInt8.toNat_xor, UInt8.toNat_ofNat', Nat.mod_eq_of_lt hk2]
  simpa using h2

/-- A sum over m places from a on. -/
def D (f : Nat → Nat) (a : Nat) : Nat → Nat
  | 0 => 0
  | m + 1 => D f a m + f (a + m)
theorem D_congr {f g : Nat → Nat} {a : Nat} : ∀ m, (∀ t, a ≤ t → t < a + m → f t = g t) → D f a m = D g a m
  | 0, _ => rfl
  | m + 1, h => by rw [D, D, D_congr m (fun t h1 h2 => h t h1 (by omega)), h (a + m) (by omega) (by omega)]
theorem D_one {f g : Nat → Nat} {a i : Nat} (hi : f i ≤ g i + 1) (ho : ∀ t, t ≠ i → f t = g t) : ∀ m, D f a m ≤ D g a m + 1
  | 0 => by simp [D]
  | m + 1 => by
    rw [D, D]
    by_cases h : a + m = i
    · rw [D_congr m (fun t h1 h2 => ho t (by omega)), h]; omega
    · rw [ho _ h]; have := D_one (a := a) hi ho m; omega
theorem D_mono {f : Nat → Nat} {a : Nat} {m m' : Nat} (h : m ≤ m') : D f a m ≤ D f a m' := by
  induction m' with
  | zero => rw [show m = 0 by omega]; exact Nat.le_refl _
  | succ n ih =>
    by_cases e : m = n + 1
    · rw [e]; exact Nat.le_refl _
    · have := ih (by omega); rw [D]; omega

/-- How many bits differ at each place. -/
def dif (w l : List UInt8) (t : Nat) : Nat := pop (l.getD t 0 ^^^ w.getD t 0)
theorem flipB_get (l : List UInt8) (i k t : Nat) : (flipB l i k).getD t 0 = if t = i ∧ t < l.length then l.getD t 0 ^^^ UInt8.ofNat (2 ^ k) else l.getD t 0 := by
  unfold flipB
  rw [List.getD_eq_getElem?_getD, List.getElem?_set]
  by_cases h : i = t
  · subst h
    by_cases h2 : i < l.length
    · simp [h2]
    · simp [h2]
  · rw [if_neg h, if_neg (fun e => h e.1.symm), List.getD_eq_getElem?_getD]
theorem dif_flip_at (w l : List UInt8) (i k : Nat) (hk : k < 8) : dif w (flipB l i k) i ≤ dif w l i + 1 := by
  unfold dif
  rw [flipB_get]
  split
  · have := pop_flip (l.getD i 0 ^^^ w.getD i 0) k hk
    rw [UInt8.xor_assoc, UInt8.xor_comm (w.getD i 0), ← UInt8.xor_assoc] at this
    exact this
  · omega
theorem dif_flip_off (w l : List UInt8) (i k t : Nat) (h : t ≠ i) : dif w (flipB l i k) t = dif w l t := by
  unfold dif
  rw [flipB_get, if_neg (fun e => h e.1)]

theorem bitOf_lt (m : Nat) (h : Int) (hm : 1 ≤ m) : bitOf m h / 8 < m := by
  unfold bitOf
  have h1 := Int.emod_nonneg (h / 8589934592) (show (8 * (m : Int)) ≠ 0 by omega)
  have h2 := Int.emod_lt_of_pos (h / 8589934592) (show 0 < 8 * (m : Int) by omega)
  omega
theorem turnTo_off (w : List UInt8) (o m : Nat) (hm : 1 ≤ m) (h : Int) (l : List UInt8) (t : Nat) (ht : t < o ∨ o + m ≤ t) : ∀ k, dif w (turnTo o m h l k).2 t = dif w l t
  | 0 => rfl
  | k + 1 => by
    rw [turnTo]
    dsimp only
    rw [dif_flip_off, turnTo_off w o m hm h l t ht k]
    have := bitOf_lt m (lcg (turnTo o m h l k).1) hm
    omega
theorem turnTo_D (w : List UInt8) (o m : Nat) (h : Int) (l : List UInt8) : ∀ k, D (dif w (turnTo o m h l k).2) o m ≤ D (dif w l) o m + k
  | 0 => Nat.le_refl _
  | k + 1 => by
    rw [turnTo]
    dsimp only
    have h1 := D_one (a := o) (dif_flip_at w (turnTo o m h l k).2 (o + bitOf m (lcg (turnTo o m h l k).1) / 8) (bitOf m (lcg (turnTo o m h l k).1) % 8) (by omega)) (fun t ht => dif_flip_off w _ _ _ t ht) m
    have h2 := turnTo_D w o m h l k
    omega
theorem turnL_off (w : List UInt8) (most : Int) (o m : Nat) (hm : 1 ≤ m) (h : Int) (l : List UInt8) (t : Nat) (ht : t < o ∨ o + m ≤ t) : dif w (turnL most o m h l) t = dif w l t := turnTo_off w o m hm h l t ht _
theorem turnL_D (w : List UInt8) (most : Int) (h1 : 1 ≤ most) (h2 : most ≤ 64) (o m : Nat) (h : Int) (l : List UInt8) : (D (dif w (turnL most o m h l)) o m : Int) ≤ D (dif w l) o m + most := by
  have h3 := turnTo_D w o m h l (timesOf (min most 64) h)
  have h4 : ((timesOf (min most 64) h : Nat) : Int) ≤ most := by
    unfold timesOf
    rw [show min most 64 = most by omega]
    have a1 := Int.emod_nonneg (h / 8589934592) (show most ≠ 0 by omega)
    have a2 := Int.emod_lt_of_pos (h / 8589934592) (show 0 < most by omega)
    omega
  unfold turnL
  omega
theorem D_zero {f : Nat → Nat} {a : Nat} : ∀ m, (∀ t, a ≤ t → t < a + m → f t = 0) → D f a m = 0
  | 0, _ => rfl
  | m + 1, h => by rw [D, D_zero m (fun t h1 h2 => h t h1 (by omega)), h (a + m) (by omega) (by omega)]
theorem pop_self (x : UInt8) : pop (x ^^^ x) = 0 := by rw [UInt8.xor_self]; rfl

/-- The noise, piece by piece: where it stands lies on a piece's begin or at the end; what lies behind is as it was; each piece before has no more than `most` turned bits. -/
theorem nTo_inv (most : Int) (h1 : 1 ≤ most) (h2 : most ≤ 64) (piece : Nat) (hp : 1 ≤ piece) (h : Int) (l : List UInt8) : ∀ k,
    ((nTo most piece h l k).1 = l.length ∨ (nTo most piece h l k).1 = k * piece) ∧ (∀ t, (nTo most piece h l k).1 ≤ t → dif l (nTo most piece h l k).2 t = 0) ∧
    ∀ j, j * piece < (nTo most piece h l k).1 → (D (dif l (nTo most piece h l k).2) (j * piece) (min piece (l.length - j * piece)) : Int) ≤ most
  | 0 => ⟨.inr (by simp [nTo]), fun t _ => pop_self _, fun j hj => by simp [nTo] at hj⟩
  | k + 1 => by
    obtain ⟨a, b, c⟩ := nTo_inv most h1 h2 piece hp h l k
    have hle := nTo_le (most := most) (piece := piece) (h := h) (l := l) k
    by_cases hlt : (nTo most piece h l k).1 < l.length
    · have ha : (nTo most piece h l k).1 = k * piece := by omega
      have key : ∀ m, 1 ≤ m → (nTo most piece h l k).1 + m ≤ l.length → m = min piece (l.length - k * piece) →
          (∀ t, (nTo most piece h l k).1 + m ≤ t → dif l (turnL most (nTo most piece h l k).1 m (pieceH h k) (nTo most piece h l k).2) t = 0) ∧
          ∀ j, j * piece < (nTo most piece h l k).1 + m → (D (dif l (turnL most (nTo most piece h l k).1 m (pieceH h k) (nTo most piece h l k).2)) (j * piece) (min piece (l.length - j * piece)) : Int) ≤ most := by
        intro m hm1 hm2 hm3
        refine ⟨fun t ht => ?_, fun j hj => ?_⟩
        · rw [turnL_off l most _ m hm1 _ _ t (.inr ht)]
          exact b t (by omega)
        · rcases Nat.lt_trichotomy j k with hjk | hjk | hjk
          · have hjp : j * piece + piece ≤ k * piece := by
              have := Nat.mul_le_mul_right piece hjk
              rw [Nat.succ_mul] at this; exact this
            rw [D_congr _ (fun t ht1 ht2 => turnL_off l most _ m hm1 _ _ t (.inl (by omega)))]
            exact c j (by omega)
          · subst hjk
            rw [← hm3, ← ha]
            have := turnL_D l most h1 h2 (nTo most piece h l j).1 m (pieceH h j) (nTo most piece h l j).2
            rw [D_zero m (fun t ht1 _ => b t ht1)] at this
            simpa using this
          · have hjp : k * piece + piece ≤ j * piece := by
              have := Nat.mul_le_mul_right piece hjk
              rw [Nat.succ_mul] at this; exact this
            omega
      by_cases hpl : piece < l.length - (nTo most piece h l k).1
      · rw [nTo_a hlt hpl]
        obtain ⟨k1, k2⟩ := key piece hp (by omega) (by omega)
        exact ⟨.inr (by dsimp only; rw [ha, Nat.succ_mul]), k1, k2⟩
      · rw [nTo_b hlt hpl]
        obtain ⟨k1, k2⟩ := key (l.length - (nTo most piece h l k).1) (by omega) (by omega) (by omega)
        rw [show (nTo most piece h l k).1 + (l.length - (nTo most piece h l k).1) = l.length by omega] at k1 k2
        exact ⟨.inl rfl, k1, k2⟩
    · have : nTo most piece h l (k + 1) = nTo most piece h l k := by rw [nTo, if_neg hlt]
      rw [this]
      exact ⟨.inl (by omega), b, c⟩

theorem noiseL_D (most : Int) (h1 : 1 ≤ most) (h2 : most ≤ 64) (piece : Nat) (hp : 1 ≤ piece) (h : Int) (l : List UInt8) (j : Nat) (hj : j * piece < l.length) :
    (D (dif l (noiseL most piece h l)) (j * piece) (min piece (l.length - j * piece)) : Int) ≤ most := by
  have hn : (nTo most piece h l l.length).1 = l.length := by
    rcases nTo_more (most := most) (h := h) (l := l) hp l.length with h3 | h3
    · exact h3
    · have := nTo_le (most := most) (piece := piece) (h := h) (l := l) l.length; omega
  exact (nTo_inv most h1 h2 piece hp h l l.length).2.2 j (by omega)

end Go.Proofs.Ythoadcibknaelaa
