/- Pages that are erased or spoilt: in plain Lean. -/
import Derived.Test.YtgfjeaegigjnaaaGreatDoorPagQ
namespace Go.Proofs.YtgfjeaegigjnaaaGreatDoor
open Go.RowKit
set_option linter.unusedVariables false
set_option linter.unusedSimpArgs false

theorem repeat_replicate (b : UInt8) (n : Nat) : Lib.repeatL [b] n = List.replicate n b := by
  induction n with
  | zero => rfl
  | succ n ih =>
    show [b] ++ Lib.repeatL [b] n = _
    rw [ih]; rfl
def zsteps : Nat → Nat → Bool
  | 0, _ => true
  | n + 1, r => (crcByte r 0 != 4294967295) && zsteps n (crcByte r 0)
theorem zsteps_ok : zsteps 1020 4294967295 = true := by decide +kernel
theorem zsteps_at : ∀ (n m r : Nat), zsteps n r = true → 1 ≤ m → m ≤ n → crcL r (List.replicate m 0) ≠ 4294967295
  | 0, m, r, _, h1, h2 => by omega
  | n + 1, 0, r, _, h1, _ => by omega
  | n + 1, 1, r, h, _, _ => by
    have h3 := (Bool.and_eq_true_iff.1 h).1
    show crcByte r 0 ≠ _
    exact bne_iff_ne.1 h3
  | n + 1, m + 2, r, h, _, h2 => by
    have h3 := (Bool.and_eq_true_iff.1 h).2
    exact zsteps_at n (m + 1) (crcByte r 0) h3 (by omega) (by omega)
theorem fourL_zero {c : Nat} (hc : c < 4294967296) (h : fourL c = [0, 0, 0, 0]) : c = 0 := by
  unfold fourL at h
  simp only [List.cons.injEq, and_true] at h
  obtain ⟨h1, h2, h3, h4⟩ := h
  have g1 := congrArg UInt8.toNat h1
  have g2 := congrArg UInt8.toNat h2
  have g3 := congrArg UInt8.toNat h3
  have g4 := congrArg UInt8.toNat h4
  rw [UInt8.toNat_ofNat'] at g1 g2 g3 g4
  have z : (0 : UInt8).toNat = 0 := rfl
  rw [z] at g1 g2 g3 g4
  omega
/-- Noughts alone are not sealed. -/
theorem open_zero {n : Nat} (h1 : 5 ≤ n) (h2 : n ≤ 1024) : openL (List.replicate n 0) = none := by
  unfold openL
  rw [List.length_replicate, if_neg (by omega), List.drop_replicate, List.take_replicate, show n - (n - 4) = 4 by omega, show min (n - 4) n = n - 4 by omega]
  rw [if_neg]
  intro h
  have h3 := fourL_zero (crcSum_lt _) h.symm
  unfold crcSum at h3
  have h4 : crcL 4294967295 (List.replicate (n - 4) 0) = 4294967295 := by
    have := congrArg (fun x => x ^^^ 4294967295) h3
    simp only [Nat.xor_assoc, Nat.xor_self, Nat.xor_zero, Nat.zero_xor] at this
    exact this
  exact zsteps_at 1020 (n - 4) 4294967295 zsteps_ok (by omega) (by omega) h4
theorem numB_zero (n : Nat) : numB (List.replicate n 0) = 0 := by
  induction n with
  | zero => rfl
  | succ n ih => rw [List.replicate_succ', numB_snoc, ih]; rfl
theorem regI_zero (n LOW M : Nat) (i : Nat) : regI n LOW 0 M i = 0 := by
  induction i with
  | zero => rfl
  | succ i ih =>
    show regStep n LOW (regI n LOW 0 M i) ((0 : Nat).testBit _) = 0
    rw [ih, Nat.zero_testBit]
    unfold regStep
    simp
theorem par_zero (t K : Nat) : (parS t (bytS (List.replicate K 0))).data.toList = List.replicate (parN t) 0 := by
  unfold parS
  rw [bytS_list, numB_zero, regI_zero]
  show bytesOf (parN t) 0 = _
  unfold bytesOf
  refine List.ext_getElem (by simp) (fun j h1 h2 => ?_)
  rw [List.getElem_map, List.getElem_range, List.getElem_replicate]
  unfold byteAt
  simp
theorem encI_zero (t K M : Nat) : ∀ i, i * K ≤ M → encI t K (List.replicate M 0) i = List.replicate (i * (K + parN t)) 0
  | 0, _ => by simp [encI]
  | i + 1, h => by
    rw [Nat.succ_mul] at h
    have hc : ckL K (List.replicate M (0 : UInt8)) i = List.replicate K 0 := by
      unfold ckL
      rw [List.drop_replicate, List.take_replicate, Nat.min_eq_left (by omega)]
    simp only [encI]
    rw [encI_zero t K M i (by omega), hc, par_zero, List.replicate_append_replicate, List.replicate_append_replicate, Nat.succ_mul]
theorem pop8 : ((List.range 256).all fun z => decide (popF 8 z ≤ 8) && (popF 8 (z ^^^ 255) == 8 - popF 8 z) && (Lib.onesCount z == popF 8 z)) = true := by decide +kernel
theorem pop_u8 (x : UInt8) : pop x ≤ 8 ∧ pop (x ^^^ 255) = 8 - pop x := by
  have h := pop8
  rw [List.all_eq_true] at h
  have h1 := h x.toNat (by have := x.toNat_lt; simp; omega)
  simp only [Bool.and_eq_true, decide_eq_true_eq, beq_iff_eq] at h1
  refine ⟨h1.1.1, ?_⟩
  unfold pop
  rw [UInt8.toNat_xor]
  exact h1.1.2
theorem zer_take (L : List UInt8) : ∀ n, n ≤ L.length → zer (L.take n) = ((D (fun j => 8 - pop (L.getD j 0)) 0 n : Nat) : Int)
  | 0, _ => rfl
  | n + 1, h => by
    have e1 : L.take (n + 1) = L.take n ++ [L.getD n 0] := by rw [List.take_add_one, List.getElem?_eq_getElem (show n < L.length by omega), List.getD_eq_getElem?_getD, List.getElem?_eq_getElem (show n < L.length by omega)]; rfl
    rw [e1, zer_snoc, zer_take L n (by omega), D, Nat.zero_add, ones_u8]
    have := (pop_u8 (L.getD n 0)).1
    omega
theorem zer_chunk {R : List UInt8} {sz i n : Nat} (hi : i < n) (hR : R.length = n * sz) : zer (ckL sz R i) = ((D (fun j => 8 - pop (R.getD (i * sz + j) 0)) 0 sz : Nat) : Int) := by
  have h : (i + 1) * sz ≤ n * sz := Nat.mul_le_mul_right _ hi
  rw [Nat.succ_mul] at h
  unfold ckL
  rw [zer_take _ _ (by rw [List.length_drop]; omega)]
  congr 1
  refine D_congr _ (fun j _ _ => ?_)
  rw [List.getD_eq_getElem?_getD, List.getD_eq_getElem?_getD, List.getElem?_drop]
theorem D_shift (f : Nat → Nat) (a : Nat) : ∀ m, D f a m = D (fun j => f (a + j)) 0 m
  | 0 => rfl
  | m + 1 => by rw [D, D, D_shift f a m, Nat.zero_add]
/-- A page near an erased one is empty. -/
theorem empty_near {R : List UInt8} {sz n m : Nat} {T : Int} (hR : R.length = n * sz) (hm : (m : Int) ≤ T) (hd : ∀ i, i < n → D (dif (List.replicate (n * sz) 255) R) (i * sz) sz ≤ m) : emptyB sz n T R := by
  intro i hi
  rw [zer_chunk hi hR]
  have h := hd i hi
  rw [D_shift] at h
  have hle : (i + 1) * sz ≤ n * sz := Nat.mul_le_mul_right _ hi
  rw [Nat.succ_mul] at hle
  have e : D (fun j => 8 - pop (R.getD (i * sz + j) 0)) 0 sz = D (fun j => dif (List.replicate (n * sz) 255) R (i * sz + j)) 0 sz := D_congr _ (fun j _ hj => by
    unfold dif
    rw [show (List.replicate (n * sz) (255 : UInt8)).getD (i * sz + j) 0 = 255 by rw [List.getD_eq_getElem?_getD, List.getElem?_replicate, if_pos (by omega)]; rfl, (pop_u8 _).2])
  rw [e]
  omega
/-- A page of noughts, or near it, isn't empty. -/
theorem zero_full {R : List UInt8} {sz n m : Nat} {T : Int} (hn : 1 ≤ n) (hsz : 3 ≤ sz) (hR : R.length = n * sz) (hm : m ≤ 8) (hT : T ≤ 8) (hd : D (dif (List.replicate (n * sz) 0) R) 0 sz ≤ m) : ¬ emptyB sz n T R := by
  intro h
  have h0 := h 0 (by omega)
  rw [zer_chunk (by omega) hR] at h0
  have hle : 1 * sz ≤ n * sz := Nat.mul_le_mul_right _ hn
  have e : ∀ k, k ≤ sz → D (fun j => 8 - pop (R.getD (0 * sz + j) 0)) 0 k + D (dif (List.replicate (n * sz) 0) R) 0 k = 8 * k := by
    intro k
    induction k with
    | zero => intro _; rfl
    | succ k ih =>
      intro hk
      rw [D, D, Nat.zero_add, Nat.zero_mul, Nat.zero_add]
      have h1 := ih (by omega)
      rw [Nat.zero_mul] at h1
      have h2 : dif (List.replicate (n * sz) 0) R k = pop (R.getD k 0) := by
        unfold dif
        rw [show (List.replicate (n * sz) (0 : UInt8)).getD k 0 = 0 by rw [List.getD_eq_getElem?_getD, List.getElem?_replicate]; split <;> rfl, UInt8.xor_zero]
      have h3 := (pop_u8 (R.getD k 0)).1
      rw [h2]
      omega
  have h1 := e sz (Nat.le_refl _)
  omega
theorem readL_zero {g : Geo} (hg : g.ok) {R : List UInt8} (hR : R.length = g.C.toNat * (g.K.toNat + parN g.T.toNat)) {m : Nat} (hm : m ≤ g.T.toNat)
    (hd : ∀ i, i < g.C.toNat → D (dif (List.replicate (g.C.toNat * (g.K.toNat + parN g.T.toNat)) 0) R) (i * (g.K.toNat + parN g.T.toNat)) (g.K.toNat + parN g.T.toNat) ≤ m) :
    g.readL R = foundV 2 [] 0 := by
  obtain ⟨b1, b2, b3, b4, b5, b6, b7, b8, b9, b10, b11⟩ := hg
  have hB : (List.replicate (g.C.toNat * g.K.toNat) (0 : UInt8)).length = g.C.toNat * g.K.toNat := List.length_replicate
  have he := encI_zero g.T.toNat g.K.toNat (g.C.toNat * g.K.toNat) g.C.toNat (Nat.le_refl _)
  have h0 := hd 0 (by omega)
  rw [Nat.zero_mul] at h0
  have hne := zero_full (T := g.T) (by omega) (by omega) hR (show m ≤ 8 by omega) b11 h0
  rw [← he] at hd
  obtain ⟨k, hk, hs⟩ := decsC_near (t := g.T.toNat) (K := g.K.toNat) (n := g.C.toNat) (m := m) (by omega) (by omega) (by omega) (by omega) hB hR hm hd g.C.toNat (Nat.le_refl _)
  unfold Geo.readL
  have htk : (List.replicate (g.C.toNat * g.K.toNat) (0 : UInt8)).take (g.C.toNat * g.K.toNat) = List.replicate (g.C.toNat * g.K.toNat) 0 := by rw [List.take_replicate, Nat.min_self]
  rw [htk] at hs
  rw [if_neg hne, hs]
  show openedV k (openL (List.replicate (g.C.toNat * g.K.toNat) 0)) = _
  have h5 : 1 * 16 ≤ g.C.toNat * g.K.toNat := Nat.mul_le_mul (by omega) (by omega)
  have h6 : g.C.toNat * g.K.toNat ≤ 4 * 256 := Nat.mul_le_mul (by omega) (by omega)
  rw [open_zero (by omega) (by omega)]
  rfl
theorem readL_ones {g : Geo} {R : List UInt8} (hR : R.length = g.C.toNat * (g.K.toNat + parN g.T.toNat)) {m : Nat} (hm : (m : Int) ≤ g.T)
    (hd : ∀ i, i < g.C.toNat → D (dif (List.replicate (g.C.toNat * (g.K.toNat + parN g.T.toNat)) 255) R) (i * (g.K.toNat + parN g.T.toNat)) (g.K.toNat + parN g.T.toNat) ≤ m) :
    g.readL R = foundV 0 [] 0 := by
  unfold Geo.readL
  rw [if_pos (empty_near hR hm hd)]
end Go.Proofs.YtgfjeaegigjnaaaGreatDoor
