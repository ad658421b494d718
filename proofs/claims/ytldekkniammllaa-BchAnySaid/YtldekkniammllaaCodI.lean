/- A text as bytes; a parity without its spare bits (clean). -/
import Derived.Test.YtldekkniammllaaLEncodes
import Derived.Lib.ConvBytes
namespace Go.Proofs.Ytldekkniammllaa
open Go.RowKit
set_option linter.unusedVariables false
set_option linter.unusedSimpArgs false

/-- A row of n cells of block g; behind them nothing is said. -/
structure SRow (w : World) (g n : Nat) (E : Nat → Value) : Prop where
  cell : ∀ j, j < n → w.cell? ⟨g, j, none⟩ = some (E j)
  free : ∀ j, j < n → w.frozen? ⟨g, j, none⟩ = false
theorem SRow.set {w : World} {g n : Nat} {E : Nat → Value} (h : SRow w g n E) (i : Nat) (v : Value) : SRow (w.setCell ⟨g, i, none⟩ v) g n (upd E i v) := by
  refine ⟨fun j hj => ?_, fun j hj => (World.frozen?_setCell _ _ _ _).trans (h.free j hj)⟩
  by_cases e : j = i
  · subst e; rw [upd_same]; exact World.cell?_setCell_same _ _ _ (h.cell j hj)
  · rw [upd_other _ _ e]; exact (World.cell?_setCell_other _ _ _ _ (addr_ne_off (Ne.symm e))).trans (h.cell j hj)
theorem SRow.stays {w w' : World} {g n : Nat} {S : Nat → Prop} {E : Nat → Value} (h : SRow w g n E) (k : Stays S w w') (hg : g < w.heap.size) (hb : ¬ S g) : SRow w' g n E :=
  ⟨fun j hj => k.cell (h.cell j hj) hb, fun j hj => (k.frozen (p := ⟨g, j, none⟩) hb hg).trans (h.free j hj)⟩
theorem SRow.drew {w : World} {g n : Nat} {E : Nat → Value} (h : SRow w g n E) : SRow w.drew g n E :=
  ⟨fun j hj => (World.cell?_drew _ _).trans (h.cell j hj), fun j hj => (World.frozen?_drew _ _).trans (h.free j hj)⟩
theorem SRow.congr {w : World} {g n : Nat} {E E' : Nat → Value} (h : SRow w g n E) (hE : ∀ j, j < n → E j = E' j) : SRow w g n E' := ⟨fun j hj => by rw [h.cell j hj, hE j hj], h.free⟩
/-- Bytes that are the number V. -/
def SV (w : World) (g n V : Nat) : Prop := SRow w g n (fun j => .int .u8 ((byteAt n V j : Nat) : Int))
theorem SV.string {w : World} {g n V cap : Nat} (h : SV w g n V) : (convert 43 9 (.slice (some ⟨g, 0, none⟩) n cap)).run Try.prog w = .ok (.string (strOf n V)) w := by
  have := run_convert_bytes_back (P := Try.prog) w 43 9 5 ⟨g, 0, none⟩ cap (bytesOf n V) (by kernel_rfl) (by kernel_rfl) (by kernel_rfl) (by
    intro j hj
    rw [bytesOf_length] at hj
    have h1 := bytesOf_get (V := V) hj
    rw [List.getElem?_eq_getElem (by rw [bytesOf_length]; exact hj)] at h1
    rw [Option.some.inj h1, addr_add, Nat.zero_add, h.cell j hj, UInt8.toNat_ofNat_of_lt' (byteAt_lt n V j)])
  rw [bytesOf_length] at this
  exact this
theorem SV.flip {w : World} {g n V i : Nat} (h : SV w g n V) (hi : i < 8 * n) : SV (w.setCell ⟨g, i / 8, none⟩ (.int .u8 ((byteAt n V (i / 8) ^^^ 2 ^ (7 - i % 8) : Nat) : Int))) g n (V ^^^ 2 ^ (8 * n - 1 - i)) := by
  refine (SRow.set h _ _).congr fun j hj => ?_
  rw [byte_set hi j hj]
  by_cases e : j = i / 8
  · subst e; rw [upd_same, if_pos rfl]
  · rw [upd_other _ _ e, if_neg e]
/-- The bytes of a text are its number's. -/
theorem byteAt_num (L : List UInt8) (j : Nat) (b : UInt8) (h : L[j]? = some b) : byteAt L.length (numB L) j = b.toNat := by
  have hj : j < L.length := by
    rcases Nat.lt_or_ge j L.length with h1 | h1
    · exact h1
    · rw [List.getElem?_eq_none h1] at h; cases h
  apply Nat.eq_of_testBit_eq
  intro t
  rw [byteAt_bit]
  by_cases ht : t < 8
  · have := numB_bit L j (7 - t) b h (by omega)
    rw [show 8 * L.length - 1 - (8 * j + (7 - t)) = 8 * (L.length - 1 - j) + t by omega, show 7 - (7 - t) = t by omega] at this
    simp [ht, this]
  · have : b.toNat.testBit t = false := Nat.testBit_lt_two_pow (Nat.lt_of_lt_of_le (UInt8.toNat_lt b) (Nat.pow_le_pow_right (by decide) (show 8 ≤ t by omega)))
    simp [ht, this]
theorem bytes_num (L : List UInt8) : bytesOf L.length (numB L) = L := by
  apply List.ext_getElem?
  intro j
  rcases Nat.lt_or_ge j L.length with h | h
  · rw [bytesOf_get h, byteAt_num L j L[j] (List.getElem?_eq_getElem h), List.getElem?_eq_getElem h]
    congr 1
    exact UInt8.ofNat_toNat
  · rw [List.getElem?_eq_none (by rw [bytesOf_length]; exact h), List.getElem?_eq_none h]
theorem str_num (s : ByteArray) : strOf s.size (numB s.data.toList) = s := by
  have hsl : s.data.toList.length = s.size := by simp
  have := bytes_num s.data.toList
  rw [hsl] at this
  unfold strOf
  rw [this]
theorem num_bytes {n V : Nat} (h : V < 2 ^ (8 * n)) : numB (bytesOf n V) = V := by
  apply Nat.eq_of_testBit_eq
  intro t
  rcases Nat.lt_or_ge t (8 * n) with ht | ht
  · obtain ⟨j, r, hj, hr, e⟩ : ∃ j r, j < n ∧ r < 8 ∧ t = 8 * n - 1 - (8 * j + r) := ⟨(8 * n - 1 - t) / 8, (8 * n - 1 - t) % 8, by omega, by omega, by omega⟩
    have h1 := numB_bit (bytesOf n V) j r _ (bytesOf_get hj) hr
    rw [bytesOf_length, ← e, UInt8.toNat_ofNat_of_lt' (byteAt_lt n V j), byteAt_bit] at h1
    rw [h1]
    have e2 : 8 * (n - 1 - j) + (7 - r) = t := by omega
    have e3 : 7 - r < 8 := by omega
    rw [e2]; simp [e3]
  · rw [bit_none h ht]
    have := numB_lt (bytesOf n V)
    rw [bytesOf_length] at this
    exact bit_none this ht
theorem conv_str (s : ByteArray) (W : World) : (convert 9 43 (.string s)).run Try.prog W = .ok (.slice (some ⟨W.heap.size, 0, none⟩) s.size (grownCap W s.size 0 5)) (Lib.bytesWorld W 5 s) :=
  Lib.run_convert_string_bytes W 9 43 5 s (u := .string) (by kernel_rfl) (by kernel_rfl) (by kernel_rfl)
theorem below_bytes (w : World) (s : ByteArray) : Below w.heap.size w (Lib.bytesWorld w 5 s) :=
  ⟨rfl, rfl, rfl, by rw [Lib.bytesWorld_size]; omega, fun k hk => Lib.bytesWorld_at_old w 5 s k hk⟩
theorem bytes_row (w : World) (s : ByteArray) : SV (Lib.bytesWorld w 5 s) w.heap.size s.size (numB s.data.toList) := by
  have hsl : s.data.toList.length = s.size := by simp
  refine ⟨fun j hj => ?_, fun j hj => ?_⟩
  · rw [Lib.bytesWorld_cell w 5 s j hj]
    have hb : s.data.toList[j]? = some (s.data.toList.getD j 0) := by
      rw [List.getD_eq_getElem?_getD, List.getElem?_eq_getElem (by rw [hsl]; exact hj)]; rfl
    have := byteAt_num s.data.toList j _ hb
    rw [hsl] at this
    rw [this]
  · have h := Lib.bytesWorld_at_new w 5 s
    have hlen : s.size ≤ (Lib.bytesCells w 5 s).size := by
      unfold Lib.bytesCells
      simp
    simp only [World.frozen?, h]
    have : ¬ ((Lib.bytesCells w 5 s).size ≤ j) := by omega
    simp [this]
/-- Without the spare bits. -/
def noSpare (s V : Nat) : Nat := (V >>> s) <<< s
theorem noSpare_bit (s V t : Nat) : (noSpare s V).testBit t = (decide (s ≤ t) && V.testBit t) := by
  unfold noSpare
  rw [Nat.testBit_shiftLeft, Nat.testBit_shiftRight]
  by_cases h : s ≤ t
  · have : s + (t - s) = t := by omega
    simp [h, this]
  · simp [h]
end Go.Proofs.Ytldekkniammllaa
