/- Keys of pieces as texts: the program's and the document's. -/
import Derived.Test.YthpdmgefdaegmaaDoorOpsO
import Derived.Deep.RegionHeld3
namespace Go.Proofs.YthpdmgefdaegmaaDoor
open Go.RowKit
set_option linter.unusedVariables false
set_option linter.unusedSimpArgs false

theorem row_lt0 {w : World} {G : Nat} {o : Obj} (h : w.heap[G]? = some o) : G < w.heap.size := by
  rcases Nat.lt_or_ge G w.heap.size with h1 | h1
  · exact h1
  · rw [Array.getElem?_eq_none h1] at h; cases h
/-- A number in so many bytes, the highest first. -/
def beL : Nat → Nat → List UInt8
  | _, 0 => []
  | n, s + 1 => beL (n / 256) s ++ [UInt8.ofNat (n % 256)]
theorem beL_len : ∀ (s n : Nat), (beL n s).length = s
  | 0, _ => rfl
  | s + 1, n => by rw [beL, List.length_append, beL_len s]; rfl
theorem beL_get : ∀ (s n i : Nat), i < s → (beL n s)[i]? = some (UInt8.ofNat (n / 256 ^ (s - 1 - i) % 256))
  | 0, _, _, h => by omega
  | s + 1, n, i, h => by
    rw [beL]
    rcases Nat.lt_or_ge i s with h1 | h1
    · rw [List.getElem?_append_left (by rw [beL_len]; exact h1), beL_get s (n / 256) i h1, Nat.div_div_eq_div_mul, show s + 1 - 1 - i = (s - 1 - i) + 1 by omega, Nat.pow_succ, Nat.mul_comm]
    · obtain rfl : i = s := by omega
      rw [List.getElem?_append_right (by rw [beL_len]; omega), beL_len, Nat.sub_self, show i + 1 - 1 - i = 0 by omega]
      simp

def fillK (n s i : Nat) : List UInt8 := (List.range 8).map fun q => if q < i then UInt8.ofNat (n / 256 ^ (s - 1 - q) % 256) else 0
def KAt (w : World) (G : Nat) (l : List UInt8) : Prop := w.heap[G]? = some (.cells (l.map byteV).toArray 91 (0, 0))
theorem KAt.set {w : World} {G n s i : Nat} (h : KAt w G (fillK n s i)) (hi : i < 8) : KAt (w.setCell ⟨G, i, none⟩ (byteV (UInt8.ofNat (n / 256 ^ (s - 1 - i) % 256)))) G (fillK n s (i + 1)) := by
  unfold KAt at *
  rw [heap_setCell_same w G i _ _ _ h]
  congr 2
  refine Array.ext_getElem? fun j => ?_
  unfold fillK
  simp only [List.getElem?_toArray, List.getElem?_map, Array.getElem?_setIfInBounds, List.size_toArray, List.length_map, List.length_range]
  by_cases hj : i = j
  · subst hj
    rw [if_pos rfl, if_pos hi, List.getElem?_range hi]
    simp
  · rw [if_neg hj]
    rcases Nat.lt_or_ge j 8 with h | h
    · rw [List.getElem?_range h]
      simp only [Option.map_some]
      by_cases h2 : j < i
      · rw [if_pos h2, if_pos (by omega)]
      · rw [if_neg h2, if_neg (by omega)]
    · rw [List.getElem?_eq_none (by simpa using h)]; rfl

set_option maxHeartbeats 2000000 in
set_option maxRecDepth 100000 in
theorem kbytes_any (n s : Nat) (w : World) (hn : n ≤ 1099511627776) (hs : s ≤ 8) :
    Calls Tryd.prog 27 #[.int .i64 n, .int .i64 s] w fun e w' => e = .returned (.string (strB (beL n s))) ∧ Below w.heap.size w w' := by
  go_enter Tryd.func27, Tryd.ntmps27
  go_wp2_with fail
  obtain ⟨G, hG⟩ : ∃ G, G = w.heap.size := ⟨_, rfl⟩
  obtain ⟨w0, hw0⟩ : ∃ w0, w0 = w.alloc (.cells #[.int .u8 0, .int .u8 0, .int .u8 0, .int .u8 0, .int .u8 0, .int .u8 0, .int .u8 0, .int .u8 0] 91) := ⟨_, rfl⟩
  rw [← hG, ← hw0]
  have HB0 : Hid (Below w.heap.size w w0) := Lib.hid (by rw [hw0]; exact (Below.refl _ _).alloc (Nat.le_refl _) _)
  have HK0 : Hid (KAt w0 G (fillK n s 0)) := Lib.hid (by unfold KAt; rw [hw0, hG, heap_alloc_new]; rfl)
  have HG := Lib.hid hG
  clear hG hw0
  go_loopw [8] (fun si wr => ∃ i : Nat, i ≤ s ∧ si = .int .i64 (i : Int) ∧ Hid (KAt wr G (fillK n s i)) ∧ Hid (Below w.heap.size w wr)) (fun si _ => s - (intOf si).toNat)
  case atStart => exact ⟨0, by omega, rfl, HK0, HB0⟩
  case round =>
    obtain ⟨i, hi, rfl, HK, HB⟩ := hrel
    obtain ⟨wy, rfl⟩ : ∃ wy : World, wy = wr := ⟨_, rfl⟩
    by_cases hlt : i < s
    · have g1 : (i : Int) < (s : Int) := by omega
      have g2 : (i : Int) < 8 := by omega
      obtain ⟨d, hd⟩ : ∃ d : Nat, (s : Int) - 1 - (i : Int) = (d : Int) := ⟨s - 1 - i, by omega⟩
      have hd8 : d < 8 := by omega
      have c0 : ∃ v, wy.cell? ⟨G, i, none⟩ = some v := by
        rw [cellsOf_heap HK.out, List.getElem?_toArray, List.getElem?_map, List.getElem?_eq_getElem (by simp [fillK]; omega)]; exact ⟨_, rfl⟩
      obtain ⟨v0, c0⟩ := c0
      have f0 : wy.frozen? ⟨G, i, none⟩ = false := by have := HK.out; unfold KAt at this; simp [World.frozen?, this]
      go_wp2_with fail
      have hv : Value.int IntKind.u8 ((n : Int) / 2 ^ (8 * d) % 256) = byteV (UInt8.ofNat (n / 256 ^ (s - 1 - i) % 256)) := by
        obtain rfl : d = s - 1 - i := by omega
        unfold byteV
        rw [UInt8.toNat_ofNat']
        congr 1
        have : (256 : Nat) ^ (s - 1 - i) = 2 ^ (8 * (s - 1 - i)) := by rw [Nat.pow_mul]
        rw [this]
        norm_cast
        omega
      rw [hv]
      exact ⟨⟨i + 1, by omega, by go_num, Lib.hid (HK.out.set (by omega)), Lib.hid (HB.out.setCell (p := ⟨G, i, none⟩) (by rw [HG.out]; exact Nat.le_refl _) _)⟩, by simp [intOf]; omega⟩
    · have g1 : ¬ (i : Int) < (s : Int) := by omega
      obtain rfl : i = s := by omega
      have g2 : (i : Int) ≤ 8 := by omega
      have hcv : (convert 25 9 (.slice (some ⟨G, 0, none⟩) i 8)).run Tryd.prog wy = .ok (.string (strB (beL n i))) wy := by
        have := run_convert_bytes_back (P := Tryd.prog) wy 25 9 5 ⟨G, 0, none⟩ 8 (beL n i) (by kernel_rfl) (by kernel_rfl) (by kernel_rfl) (by
          intro q hq
          rw [beL_len] at hq
          rw [show (⟨G, 0, none⟩ : Addr).add q = ⟨G, q, none⟩ by unfold Addr.add; split <;> simp_all]
          rw [cellsOf_heap HK.out, List.getElem?_toArray, List.getElem?_map]
          have h1 := beL_get i n q hq
          rw [List.getElem?_eq_getElem (by rw [beL_len]; exact hq)] at h1
          rw [Option.some.inj h1]
          unfold fillK
          rw [List.getElem?_map, List.getElem?_range (by omega)]
          simp only [Option.map_some]
          rw [if_pos hq]
          rfl)
        rw [beL_len] at this
        exact this
      obtain ⟨X, hX⟩ : ∃ X, X = strB (beL n i) := ⟨_, rfl⟩
      rw [← hX] at hcv
      have HX := Lib.hid hX
      clear hX
      go_wp2_with fail
      go_ret
      exact ⟨by rw [← HX.out]; rfl, HB.out⟩

/-- A key of a piece, as a text. -/
def keyL (n p : Nat) : List UInt8 := beL n 8 ++ [3] ++ beL p 4
def keyV (n p : Nat) : Value := .agg #[.int .i64 n, .int .i64 3, .string ⟨#[]⟩, .int .i64 p]

set_option maxHeartbeats 2000000 in
set_option maxRecDepth 100000 in
theorem good_any (n p : Nat) (w : World) (hn : n ≤ 1099511627776) (hp : p < 4294967296) :
    Calls Tryd.prog 25 #[keyV n p] w fun e w' => e = .returned (.bool true) ∧ Below w.heap.size w w' := by
  unfold keyV
  have g1 : (n : Int) ≤ 1099511627776 := by omega
  have g2 : (p : Int) < 4294967296 := by omega
  have g3 : (0 : Int) ≤ (n : Int) := by omega
  have g4 : (0 : Int) ≤ (p : Int) := by omega
  clear hn hp
  generalize (n : Int) = N at *
  generalize (p : Int) = P at *
  have HB : Hid (Below w.heap.size w (w.alloc (.cells #[.int .i64 N, .int .i64 3, .string ⟨#[]⟩, .int .i64 P] 39))) := Lib.hid ((Below.refl _ _).alloc (Nat.le_refl _) _)
  go_enter Tryd.func25, Tryd.ntmps25
  go_wp2_with fail
  go_ret
  exact ⟨rfl, HB.out⟩

set_option maxHeartbeats 2000000 in
set_option maxRecDepth 100000 in
theorem head_any (n k : Nat) (w : World) (hn : n ≤ 1099511627776) (hk : k ≤ 255) :
    Calls Tryd.prog 26 #[.int .i64 n, .int .i64 k] w fun e w' => e = .returned (.string (strB (beL n 8 ++ [UInt8.ofNat k]))) ∧ Below w.heap.size w w' := by
  have hkb : ∀ W : World, Calls Tryd.prog 27 #[.int .i64 n, .int .i64 8] W fun e w' => e = .returned (.string (strB (beL n 8))) ∧ Below W.heap.size W w' := fun W => kbytes_any n 8 W hn (Nat.le_refl _)
  have HKB := Lib.hid hkb
  obtain ⟨X, hX⟩ : ∃ X, X = strB (beL n 8) := ⟨_, rfl⟩
  have hXs : X.size = 8 := by rw [hX, strB_size, beL_len]
  have HXS := Lib.hid hXs
  have hb9 : ¬ (9223372036854775807 < X.size + 1) := by omega
  have HXX : Hid (X ++ ⟨#[UInt8.ofNat k]⟩ = strB (beL n 8 ++ [UInt8.ofNat k])) := Lib.hid (by
    apply ByteArray.ext
    apply Array.toList_inj.1
    rw [ByteArray.data_append, Array.toList_append, hX, strB_list, strB_list])
  rw [← HXX.out]
  rw [← hX] at HKB
  have hk1 : (k : Int) % 256 = (k : Int) := by omega
  have hcv : ∀ (W : World) (g : Nat), W.cell? ⟨g, 0, none⟩ = some (.int .u8 (k : Int)) → (convert 25 9 (.slice (some ⟨g, 0, none⟩) 1 1)).run Tryd.prog W = .ok (.string ⟨#[UInt8.ofNat k]⟩) W := by
    intro W g hg
    exact run_convert_bytes_back (P := Tryd.prog) W 25 9 5 ⟨g, 0, none⟩ 1 [UInt8.ofNat k] (by kernel_rfl) (by kernel_rfl) (by kernel_rfl) (by
      intro q hq
      obtain rfl : q = 0 := by simpa using hq
      rw [show (⟨g, 0, none⟩ : Addr).add 0 = ⟨g, 0, none⟩ by unfold Addr.add; simp, hg]
      simp [UInt8.toNat_ofNat']
      omega)
  have hcA : ∀ W : World, (convert 25 9 (.slice (some ⟨W.heap.size, 0, none⟩) 1 1)).run Tryd.prog (W.alloc (.cells #[.int .u8 (k : Int)] 5)) = .ok (.string ⟨#[UInt8.ofNat k]⟩) (W.alloc (.cells #[.int .u8 (k : Int)] 5)) := fun W => hcv _ _ (by rw [cellsOf_heap (heap_alloc_new W _)]; rfl)
  have hcB : ∀ W : World, (convert 25 9 (.slice (some ⟨W.heap.size, 0, none⟩) 1 1)).run Tryd.prog (W.alloc (.cells #[.int .u8 (k : Int)] 5)).drew = .ok (.string ⟨#[UInt8.ofNat k]⟩) (W.alloc (.cells #[.int .u8 (k : Int)] 5)).drew := fun W => hcv _ _ (by
    show (W.alloc (.cells #[.int .u8 (k : Int)] 5)).cell? _ = _
    rw [cellsOf_heap (heap_alloc_new W _)]; rfl)
  have HCC : Hid (∀ W2 : World, Below (w.alloc (.cells #[.int .u8 (k : Int)] 5)).drew.heap.size (w.alloc (.cells #[.int .u8 (k : Int)] 5)).drew W2 → (convert 25 9 (.slice (some ⟨w.heap.size, 0, none⟩) 1 1)).run Tryd.prog W2 = .ok (.string ⟨#[UInt8.ofNat k]⟩) W2) := Lib.hid (fun W2 hb => hcv _ _ (by
    refine below_cell hb _ _ ?_
    show (w.alloc (.cells #[.int .u8 (k : Int)] 5)).cell? _ = _
    rw [cellsOf_heap (heap_alloc_new w _)]; rfl))
  have hk2 : IntKind.u8.wrap (k : Int) = (k : Int) := by simp [IntKind.wrap, IntKind.bits, IntKind.signed]; omega
  clear hkb hX hcv hn hk
  go_enter Tryd.func26, Tryd.ntmps26
  go_wp2_with fail
  go_region_with (go_at_call 27; refine (HKB.out _).mono ?_; rintro e w2 ⟨rfl, hb2⟩; (try have hq := HCC.out _ hb2))
  all_goals
    go_wp2_with fail
    go_ret
  all_goals
    first
    | exact ⟨rfl, below_on (Below.drew ((Below.refl _ w).alloc (Nat.le_refl _) _)) hb2⟩
    | exact ⟨rfl, (below_on (Below.drew (Below.refl _ w)) hb2).alloc ((below_on (Below.drew (Below.refl _ w)) hb2).size) _⟩

theorem keyL_size (n p : Nat) : (strB (keyL n p)).size = 13 := by rw [strB_size]; unfold keyL; simp [beL_len]
theorem keyL_join (n p : Nat) : strB (beL n 8 ++ [UInt8.ofNat 3]) ++ strB (beL p 4) = strB (keyL n p) := by
  apply ByteArray.ext
  apply Array.toList_inj.1
  rw [ByteArray.data_append, Array.toList_append, strB_list, strB_list, strB_list]; rfl

set_option maxHeartbeats 2000000 in
set_option maxRecDepth 100000 in
theorem encode_any (n p : Nat) (w : World) (hn : n ≤ 1099511627776) (hp : p < 4294967296) :
    Calls Tryd.prog 21 #[keyV n p] w fun e w' => e = .returned (.tuple #[.string (strB (keyL n p)), .bool true]) ∧ Below w.heap.size w w' := by
  have hgd := fun W => good_any n p W hn hp
  unfold keyV at *
  have HGD := Lib.hid hgd
  have hhd : ∀ W : World, Calls Tryd.prog 26 #[.int .i64 n, .int .i64 3] W fun e w' => e = .returned (.string (strB (beL n 8 ++ [UInt8.ofNat 3]))) ∧ Below W.heap.size W w' := fun W => head_any n 3 W hn (by omega)
  have hby : ∀ W : World, Calls Tryd.prog 27 #[.int .i64 p, .int .i64 4] W fun e w' => e = .returned (.string (strB (beL p 4))) ∧ Below W.heap.size W w' := fun W => kbytes_any p 4 W (by omega) (by omega)
  obtain ⟨X, hX⟩ : ∃ X, X = strB (beL n 8 ++ [UInt8.ofNat 3]) := ⟨_, rfl⟩
  obtain ⟨Y, hY⟩ : ∃ Y, Y = strB (beL p 4) := ⟨_, rfl⟩
  have HXY : Hid (X ++ Y = strB (keyL n p)) := Lib.hid (by rw [hX, hY]; exact keyL_join n p)
  have hb9 : ¬ (9223372036854775807 < X.size + Y.size) := by rw [hX, hY, strB_size, strB_size, List.length_append, beL_len, beL_len]; simp
  rw [← HXY.out]
  rw [← hX] at hhd
  rw [← hY] at hby
  have HHD := Lib.hid hhd
  have HBY := Lib.hid hby
  clear hgd hhd hby hX hY hn hp
  generalize (n : Int) = N at *
  generalize (p : Int) = P at *
  go_enter Tryd.func21, Tryd.ntmps21
  go_wp2_with fail
  obtain ⟨w0, hw0⟩ : ∃ w0, w0 = w.alloc (.cells #[.int .i64 N, .int .i64 3, .string ⟨#[]⟩, .int .i64 P] 39) := ⟨_, rfl⟩
  rw [← hw0]
  have hk0 : w0.heap[w.heap.size]? = some (.cells #[.int .i64 N, .int .i64 3, .string ⟨#[]⟩, .int .i64 P] 39 (0, 0)) := by rw [hw0]; exact heap_alloc_new _ _
  have HB0 : Hid (Below w.heap.size w w0) := Lib.hid (by rw [hw0]; exact (Below.refl _ _).alloc (Nat.le_refl _) _)
  have HK0 := Lib.hid hk0
  clear hw0 hk0
  refine (HGD.out w0).mono ?_; rintro e w1 ⟨rfl, hb1⟩
  have hk1 := (hb1.block _ (row_lt0 HK0.out)).trans HK0.out
  have a0 : w1.cell? ⟨w.heap.size, 0, none⟩ = some (.int .i64 N) := by rw [cellsOf_heap hk1]; rfl
  have a1 : w1.cell? ⟨w.heap.size, 1, none⟩ = some (.int .i64 3) := by rw [cellsOf_heap hk1]; rfl
  have a3 : w1.cell? ⟨w.heap.size, 3, none⟩ = some (.int .i64 P) := by rw [cellsOf_heap hk1]; rfl
  have HB1 := Lib.hid (below_on HB0.out hb1)
  clear hk1 hb1
  go_wp2_with fail
  go_region_held3 (fun W' => W'.cell? ⟨w.heap.size, 0, none⟩ = some (.int .i64 N) ∧ W'.cell? ⟨w.heap.size, 3, none⟩ = some (.int .i64 P))
    (first | (exact ⟨below_cell hB2 _ _ a0, below_cell hB2 _ _ a3⟩) | (exact ⟨a0, a3⟩) | go_keep)
    ((first
    | (go_at_call 26; refine (HHD.out _).mono ?_; rintro e w2 ⟨rfl, hb2⟩; have hB2 : Below w1.heap.size w1 w2 := below_on (by first | exact hB2 | exact Below.drew (Below.refl _ _)) hb2)
    | (go_at_call 27; refine (HBY.out _).mono ?_; rintro e w2 ⟨rfl, hb2⟩; have hB2 : Below w1.heap.size w1 w2 := below_on (by first | exact hB2 | exact Below.drew (Below.refl _ _)) hb2)))
  all_goals
    go_wp2_with fail
    go_ret2
    exact ⟨rfl, below_on HB1.out hB2⟩

end Go.Proofs.YthpdmgefdaegmaaDoor
