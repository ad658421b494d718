/- Keys of pieces as texts: the document's. -/
import Derived.Test.YthpdmgefdaegmaaDoorOpsR
import Derived.Deep.DeepFit
namespace Go.Proofs.YthpdmgefdaegmaaDoor
open Go.RowKit
set_option linter.unusedVariables false
set_option linter.unusedSimpArgs false

theorem conv1 (r : Nat) (hr : r ≤ 255) (W : World) (g : Nat) (hg : W.cell? ⟨g, 0, none⟩ = some (.int .u8 (r : Int))) : (convert 25 9 (.slice (some ⟨g, 0, none⟩) 1 1)).run Tryd.prog W = .ok (.string ⟨#[UInt8.ofNat r]⟩) W :=
  run_convert_bytes_back (P := Tryd.prog) W 25 9 5 ⟨g, 0, none⟩ 1 [UInt8.ofNat r] (by kernel_rfl) (by kernel_rfl) (by kernel_rfl) (by
    intro q hq
    obtain rfl : q = 0 := by simpa using hq
    rw [show (⟨g, 0, none⟩ : Addr).add 0 = ⟨g, 0, none⟩ by unfold Addr.add; simp, hg]
    simp [UInt8.toNat_ofNat']
    omega)

set_option maxHeartbeats 2000000 in
set_option maxRecDepth 100000 in
theorem rbytes_step (n s : Nat) (w : World) (hn : n ≤ 1099511627776) (hs : s ≤ 7)
    (ih : ∀ W : World, Calls Tryd.prog 44 #[.int .i64 (n / 256 : Nat), .int .i64 s] W fun e w' => e = .returned (.string (strB (beL (n / 256) s))) ∧ Below W.heap.size W w') :
    Calls Tryd.prog 44 #[.int .i64 n, .int .i64 (s + 1 : Nat)] w fun e w' => e = .returned (.string (strB (beL n (s + 1)))) ∧ Below w.heap.size w w' := by
  obtain ⟨m, hm⟩ : ∃ m, m = n / 256 := ⟨_, rfl⟩
  obtain ⟨k, hk⟩ : ∃ k, k = n % 256 := ⟨_, rfl⟩
  have hk255 : k ≤ 255 := by omega
  rw [← hm] at ih
  obtain ⟨X, hX⟩ : ∃ X, X = strB (beL m s) := ⟨_, rfl⟩
  have HXX : Hid (X ++ ⟨#[UInt8.ofNat k]⟩ = strB (beL n (s + 1))) := Lib.hid (by
    apply ByteArray.ext
    apply Array.toList_inj.1
    rw [ByteArray.data_append, Array.toList_append, hX, strB_list, strB_list, beL, ← hm, ← hk])
  rw [← HXX.out]
  rw [← hX] at ih
  have HKB := Lib.hid ih
  have hb9 : ¬ (9223372036854775807 < X.size + 1) := by rw [hX, strB_size, beL_len]; omega
  have hq1 : (n : Int) / 256 = (m : Int) := by omega
  have hq2 : (n : Int) % 256 = (k : Int) := by omega
  have hq3 : (k : Int) % 256 = (k : Int) := by omega
  have hs1 : ((s : Int) + 1 == 0) = false := by simp; omega
  have hcA : ∀ W : World, (convert 25 9 (.slice (some ⟨W.heap.size, 0, none⟩) 1 1)).run Tryd.prog (W.alloc (.cells #[.int .u8 (k : Int)] 5)) = .ok (.string ⟨#[UInt8.ofNat k]⟩) (W.alloc (.cells #[.int .u8 (k : Int)] 5)) := fun W => conv1 k hk255 _ _ (by rw [cellsOf_heap (heap_alloc_new W _)]; rfl)
  have hcB : ∀ W : World, (convert 25 9 (.slice (some ⟨W.heap.size, 0, none⟩) 1 1)).run Tryd.prog (W.alloc (.cells #[.int .u8 (k : Int)] 5)).drew = .ok (.string ⟨#[UInt8.ofNat k]⟩) (W.alloc (.cells #[.int .u8 (k : Int)] 5)).drew := fun W => conv1 k hk255 _ _ (by
    show (W.alloc (.cells #[.int .u8 (k : Int)] 5)).cell? _ = _
    rw [cellsOf_heap (heap_alloc_new W _)]; rfl)
  have HCC : Hid (∀ W2 : World, Below (w.alloc (.cells #[.int .u8 (k : Int)] 5)).drew.heap.size (w.alloc (.cells #[.int .u8 (k : Int)] 5)).drew W2 → (convert 25 9 (.slice (some ⟨w.heap.size, 0, none⟩) 1 1)).run Tryd.prog W2 = .ok (.string ⟨#[UInt8.ofNat k]⟩) W2) := Lib.hid (fun W2 hb => conv1 k hk255 _ _ (by
    refine below_cell hb _ _ ?_
    show (w.alloc (.cells #[.int .u8 (k : Int)] 5)).cell? _ = _
    rw [cellsOf_heap (heap_alloc_new w _)]; rfl))
  have hk2 : IntKind.u8.wrap (k : Int) = (k : Int) := by simp [IntKind.wrap, IntKind.bits, IntKind.signed]; omega
  have hsi : ((s + 1 : Nat) : Int) = (s : Int) + 1 := by omega
  rw [hsi]
  have g1 : (0 : Int) ≤ (n : Int) := by omega
  have g2 : (n : Int) ≤ 1099511627776 := by omega
  clear ih hX hm hk hsi hn
  generalize (n : Int) = NN at *
  have hw1 : IntKind.i64.wrap (NN.tdiv 256) = (m : Int) := by rw [Int.tdiv_eq_ediv_of_nonneg g1, hq1]; exact (IntWalk.i64_left _).trans (IntWalk.wrap64_in _ (by omega))
  have hw2 : IntKind.i64.wrap (s : Int) = (s : Int) := (IntWalk.i64_left _).trans (IntWalk.wrap64_in _ (by omega))
  have hw3 : IntKind.i64.wrap (NN.tmod 256) = (k : Int) := by rw [Int.tmod_eq_emod_of_nonneg g1, hq2]; exact (IntWalk.i64_left _).trans (IntWalk.wrap64_in _ (by omega))
  have hw4 : IntKind.u8.wrap (NN.tmod 256) = (k : Int) := by rw [Int.tmod_eq_emod_of_nonneg g1, hq2]; exact hk2
  go_enter Tryd.func44, Tryd.ntmps44
  go_upto_region 3 with fail
  go_region_with (go_at_call 44; refine (HKB.out _).mono ?_; rintro e w2 ⟨rfl, hb2⟩; (try have hq := HCC.out _ hb2))
  all_goals
    go_wp2_with fail
    go_ret
  all_goals
    first
    | exact ⟨rfl, below_on (Below.drew ((Below.refl _ w).alloc (Nat.le_refl _) _)) hb2⟩
    | exact ⟨rfl, (below_on (Below.drew (Below.refl _ w)) hb2).alloc ((below_on (Below.drew (Below.refl _ w)) hb2).size) _⟩

theorem rbytes_any : ∀ (s n : Nat) (w : World), n ≤ 1099511627776 → s ≤ 8 → Calls Tryd.prog 44 #[.int .i64 n, .int .i64 s] w fun e w' => e = .returned (.string (strB (beL n s))) ∧ Below w.heap.size w w'
  | 0, n, w, hn, hs => by
    show Calls Tryd.prog 44 #[.int .i64 n, .int .i64 0] w fun e w' => e = .returned (.string ⟨#[]⟩) ∧ Below w.heap.size w w'
    go_enter Tryd.func44, Tryd.ntmps44
    go_wp2_with fail
    go_ret
    exact ⟨rfl, Below.refl _ _⟩
  | s + 1, n, w, hn, hs => rbytes_step n s w hn (by omega) (fun W => rbytes_any s (n / 256) W (by omega) (by omega))

def rkeyV (n p : Nat) : Value := .agg #[.int .i64 n, .int .i64 3, .string ⟨#[]⟩, .int .i64 p]
set_option maxHeartbeats 2000000 in
set_option maxRecDepth 100000 in
theorem rgood_any (n p : Nat) (w : World) (hn : n ≤ 1099511627776) (hp : p < 4294967296) :
    Calls Tryd.prog 43 #[rkeyV n p] w fun e w' => e = .returned (.bool true) ∧ Below w.heap.size w w' := by
  unfold rkeyV
  have g1 : (n : Int) ≤ 1099511627776 := by omega
  have g2 : (p : Int) ≤ 4294967295 := by omega
  have g3 : (0 : Int) ≤ (n : Int) := by omega
  have g4 : (0 : Int) ≤ (p : Int) := by omega
  clear hn hp
  generalize (n : Int) = N at *
  generalize (p : Int) = P at *
  have HB : Hid (Below w.heap.size w (w.alloc (.cells #[.int .i64 N, .int .i64 3, .string ⟨#[]⟩, .int .i64 P] 90))) := Lib.hid ((Below.refl _ _).alloc (Nat.le_refl _) _)
  go_enter Tryd.func43, Tryd.ntmps43
  go_wp2_with fail
  go_ret
  exact ⟨rfl, HB.out⟩

set_option maxHeartbeats 2000000 in
set_option maxRecDepth 100000 in
theorem rencode_any (n p : Nat) (w : World) (hn : n ≤ 1099511627776) (hp : p < 4294967296) :
    Calls Tryd.prog 36 #[rkeyV n p] w fun e w' => e = .returned (.string (strB (keyL n p))) ∧ Below w.heap.size w w' := by
  have hgd := fun W => rgood_any n p W hn hp
  unfold rkeyV at *
  have HGD := Lib.hid hgd
  have h8 : ∀ W : World, Calls Tryd.prog 44 #[.int .i64 n, .int .i64 8] W fun e w' => e = .returned (.string (strB (beL n 8))) ∧ Below W.heap.size W w' := fun W => rbytes_any 8 n W hn (by omega)
  have h1 : ∀ W : World, Calls Tryd.prog 44 #[.int .i64 3, .int .i64 1] W fun e w' => e = .returned (.string ⟨#[3]⟩) ∧ Below W.heap.size W w' := fun W => rbytes_any 1 3 W (by omega) (by omega)
  have h4 : ∀ W : World, Calls Tryd.prog 44 #[.int .i64 p, .int .i64 4] W fun e w' => e = .returned (.string (strB (beL p 4))) ∧ Below W.heap.size W w' := fun W => rbytes_any 4 p W (by omega) (by omega)
  obtain ⟨X, hX⟩ : ∃ X, X = strB (beL n 8) := ⟨_, rfl⟩
  obtain ⟨Y, hY⟩ : ∃ Y : ByteArray, Y = ⟨#[3]⟩ := ⟨_, rfl⟩
  obtain ⟨Z, hZ⟩ : ∃ Z, Z = strB (beL p 4) := ⟨_, rfl⟩
  have HXY : Hid (((X ++ Y) ++ ⟨#[]⟩) ++ Z = strB (keyL n p)) := Lib.hid (by
    rw [hX, hY, hZ]
    apply ByteArray.ext
    apply Array.toList_inj.1
    simp only [ByteArray.data_append, Array.toList_append, strB_list]
    unfold keyL
    simp)
  have s1 : X.size = 8 := by rw [hX, strB_size, beL_len]
  have s2 : Y.size = 1 := by rw [hY]; rfl
  have s3 : Z.size = 4 := by rw [hZ, strB_size, beL_len]
  rw [← HXY.out]
  rw [← hX] at h8
  rw [← hY] at h1
  rw [← hZ] at h4
  have H8 := Lib.hid h8
  have H1 := Lib.hid h1
  have H4 := Lib.hid h4
  clear hgd h8 h1 h4 hX hY hZ hn hp
  generalize (n : Int) = N at *
  generalize (p : Int) = P at *
  go_enter Tryd.func36, Tryd.ntmps36
  go_wp2_with fail
  obtain ⟨w0, hw0⟩ : ∃ w0, w0 = w.alloc (.cells #[.int .i64 N, .int .i64 3, .string ⟨#[]⟩, .int .i64 P] 90) := ⟨_, rfl⟩
  rw [← hw0]
  have hk0 : w0.heap[w.heap.size]? = some (.cells #[.int .i64 N, .int .i64 3, .string ⟨#[]⟩, .int .i64 P] 90 (0, 0)) := by rw [hw0]; exact heap_alloc_new _ _
  have HB0 : Hid (Below w.heap.size w w0) := Lib.hid (by rw [hw0]; exact (Below.refl _ _).alloc (Nat.le_refl _) _)
  have HK0 := Lib.hid hk0
  clear hw0 hk0
  refine (HGD.out w0).mono ?_; rintro e w1 ⟨rfl, hb1⟩
  have hk1 := (hb1.block _ (row_lt0 HK0.out)).trans HK0.out
  have a0 : w1.cell? ⟨w.heap.size, 0, none⟩ = some (.int .i64 N) := by rw [cellsOf_heap hk1]; rfl
  have a1 : w1.cell? ⟨w.heap.size, 1, none⟩ = some (.int .i64 3) := by rw [cellsOf_heap hk1]; rfl
  have a2 : w1.cell? ⟨w.heap.size, 2, none⟩ = some (.string ⟨#[]⟩) := by rw [cellsOf_heap hk1]; rfl
  have a3 : w1.cell? ⟨w.heap.size, 3, none⟩ = some (.int .i64 P) := by rw [cellsOf_heap hk1]; rfl
  have HB1 := Lib.hid (below_on HB0.out hb1)
  clear hk1 hb1
  go_upto_region 3 with fail
  go_cut [3] (fun s3 wz => s3 = .string ((X ++ Y) ++ ⟨#[]⟩) ∧ Hid (Below w1.heap.size w1 wz))
  case first =>
    go_region_held3 (fun W' => W'.cell? ⟨w.heap.size, 0, none⟩ = some (.int .i64 N) ∧ W'.cell? ⟨w.heap.size, 1, none⟩ = some (.int .i64 3) ∧ W'.cell? ⟨w.heap.size, 2, none⟩ = some (.string ⟨#[]⟩))
      (first | (exact ⟨below_cell hB2 _ _ a0, below_cell hB2 _ _ a1, below_cell hB2 _ _ a2⟩) | (exact ⟨a0, a1, a2⟩) | go_keep)
      ((first
      | (go_at_call 44; go_fit (H8.out _); rintro e w2 ⟨rfl, hb2⟩; have hB2 : Below w1.heap.size w1 w2 := below_on (by first | exact hB2 | exact Below.drew (Below.refl _ _)) hb2)
      | (go_at_call 44; go_fit (H1.out _); rintro e w2 ⟨rfl, hb2⟩; have hB2 : Below w1.heap.size w1 w2 := below_on (by first | exact hB2 | exact Below.drew (Below.refl _ _)) hb2)))
    all_goals
      go_wp2_with fail
      go_meet
      case rel => exact ⟨rfl, Lib.hid hB2⟩
  case rest =>
    obtain ⟨rfl, HBc⟩ := hcut
    obtain ⟨w3, rfl⟩ : ∃ w3 : World, w3 = wc := ⟨_, rfl⟩
    have b1 := below_cell HBc.out _ _ a1
    have b3 := below_cell HBc.out _ _ a3
    go_wp2_with fail
    refine (H4.out _).mono ?_; rintro e w4 ⟨rfl, hb4⟩
    have HB4 := Lib.hid (below_on (below_on HB1.out HBc.out) hb4)
    clear hb4
    go_wp2_with fail
    go_ret
    exact ⟨rfl, HB4.out⟩

set_option maxHeartbeats 2000000 in
set_option maxRecDepth 100000 in
theorem rkey_any (n p : Nat) (w : World) (hn : n ≤ 1099511627776) (hp : p < 4294967296) :
    Calls Tryd.prog 24 #[.int .i64 n, .int .i64 p] w fun e w' => e = .returned (.string (strB (keyL n p))) ∧ Below w.heap.size w w' := by
  have h := rencode_any n p w hn hp
  unfold rkeyV at h
  have H := Lib.hid h
  obtain ⟨X, hX⟩ : ∃ X, X = strB (keyL n p) := ⟨_, rfl⟩
  rw [← hX] at H ⊢
  clear h hX hn hp
  generalize (n : Int) = N at *
  generalize (p : Int) = P at *
  go_enter Tryd.func24, Tryd.ntmps24
  go_wp2_with fail
  refine H.out.mono ?_; rintro e w1 ⟨rfl, hb⟩
  have HB := Lib.hid hb
  clear hb
  go_wp2_with fail
  go_ret
  exact ⟨rfl, HB.out⟩

end Go.Proofs.YthpdmgefdaegmaaDoor
