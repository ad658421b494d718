/- OpsHalves of chertlaw20. -/
import Derived.Test.YthpdmgefdaegmaaDoorOpsM
namespace Go.Proofs.YthpdmgefdaegmaaDoor
open Go.RowKit
set_option linter.unusedVariables false
set_option linter.unusedSimpArgs false

theorem row_lt {w : World} {G : Nat} {o : Obj} (h : w.heap[G]? = some o) : G < w.heap.size := by
  rcases Nat.lt_or_ge G w.heap.size with h1 | h1
  · exact h1
  · rw [Array.getElem?_eq_none h1] at h; cases h
/-- The span of what is read lies within the pieces. -/
theorem half_span (S x n : Int) (hS : 0 ≤ S) (hS2 : S ≤ 8192) (hx : 0 ≤ x) : ∃ F T : Nat, spanC x (max (min n (S - x)) 0) = ((F : Int), (T : Int)) ∧ F ≤ T ∧ T ≤ 129 := by
  unfold spanC
  by_cases h : x < 0 ∨ max (min n (S - x)) 0 < 1 ∨ 8192 < x ∨ 8192 < max (min n (S - x)) 0
  · rw [if_pos h]; exact ⟨0, 0, rfl, by omega, by omega⟩
  · rw [if_neg h]
    exact ⟨(x / 64).toNat, ((x + max (min n (S - x)) 0 - 1) / 64 + 1).toNat, by rw [Int.toNat_of_nonneg (by omega), Int.toNat_of_nonneg (by omega)], by omega, by omega⟩
structure HalfAt (w0 w : World) (B : Nat) (a b : Int) : Prop where
  box : w.heap[B]? = some (.cells #[.int .i64 a, .int .i64 b] 22 (0, 0))
  below : Below w0.heap.size w0 w

theorem HalfAt.keep {w0 w w' : World} {B : Nat} {a b : Int} (h : HalfAt w0 w B a b) (hb : Below w.heap.size w w') : HalfAt w0 w' B a b := ⟨(hb.block _ (row_lt h.box)).trans h.box, below_on h.below hb⟩
theorem HalfAt.other {w0 w : World} {B : Nat} {a b : Int} (h : HalfAt w0 w B a b) {G i : Nat} (v : Value) (hG : B < G) (hB : B = w0.heap.size) : HalfAt w0 (w.setCell ⟨G, i, none⟩ v) B a b :=
  ⟨(heap_setCell_other w ⟨G, i, none⟩ B v (by show B ≠ G; omega)).trans h.box, h.below.setCell (p := ⟨G, i, none⟩) (by show w0.heap.size ≤ G; omega) v⟩
/-- A row of texts. -/
def RowAt (w : World) (G : Nat) (l : List (List UInt8)) : Prop := w.heap[G]? = some (.cells (l.map fun x => Value.string (strB x)).toArray 9 (0, 0))
def ByteAt (w : World) (G : Nat) (l : List UInt8) : Prop := w.heap[G]? = some (.cells (l.map byteV).toArray 5 (0, 0))
def fillS (i : Nat) : List (List UInt8) := (List.range 140).map fun k => if k < i then halfP k else []
def fillB (k i : Nat) : List UInt8 := (List.range 64).map fun q => if q < i then UInt8.ofNat (k * 7 + q) else 0
theorem fillS_zero : fillS 0 = List.replicate 140 [] := by decide
theorem fillS_all : fillS 140 = halfPs := by
  unfold fillS halfPs
  refine List.map_congr_left fun k hk => ?_
  rw [if_pos (List.mem_range.1 hk)]
theorem fillB_zero (k : Nat) : fillB k 0 = List.replicate 64 0 := by unfold fillB; simp; decide
theorem fillB_all (k : Nat) : fillB k 64 = halfP k := by
  unfold fillB halfP
  refine List.map_congr_left fun q hq => ?_
  rw [if_pos (List.mem_range.1 hq)]
theorem RowAt.other {w : World} {G : Nat} {l : List (List UInt8)} (h : RowAt w G l) {G2 i : Nat} (v : Value) (hG : G ≠ G2) : RowAt (w.setCell ⟨G2, i, none⟩ v) G l :=
  (heap_setCell_other w ⟨G2, i, none⟩ G v hG).trans h
theorem RowAt.set {w : World} {G i : Nat} (h : RowAt w G (fillS i)) (hi : i < 140) : RowAt (w.setCell ⟨G, i, none⟩ (.string (strB (halfP i)))) G (fillS (i + 1)) := by
  unfold RowAt at *
  rw [heap_setCell_same w G i _ _ _ h]
  congr 2
  refine Array.ext_getElem? fun j => ?_
  unfold fillS
  simp only [List.getElem?_toArray, List.getElem?_map, Array.getElem?_setIfInBounds, List.size_toArray, List.length_map, List.length_range]
  by_cases hj : i = j
  · subst hj
    rw [if_pos rfl, if_pos hi, List.getElem?_range hi]
    simp
  · rw [if_neg hj]
    rcases Nat.lt_or_ge j 140 with h | h
    · rw [List.getElem?_range h]
      simp only [Option.map_some]
      by_cases h2 : j < i
      · rw [if_pos h2, if_pos (by omega)]
      · rw [if_neg h2, if_neg (by omega)]
    · rw [List.getElem?_eq_none (by simpa using h)]; rfl
theorem ByteAt.set {w : World} {G k i : Nat} (h : ByteAt w G (fillB k i)) (hi : i < 64) : ByteAt (w.setCell ⟨G, i, none⟩ (byteV (UInt8.ofNat (k * 7 + i)))) G (fillB k (i + 1)) := by
  unfold ByteAt at *
  rw [heap_setCell_same w G i _ _ _ h]
  congr 2
  refine Array.ext_getElem? fun j => ?_
  unfold fillB
  simp only [List.getElem?_toArray, List.getElem?_map, Array.getElem?_setIfInBounds, List.size_toArray, List.length_map, List.length_range]
  by_cases hj : i = j
  · subst hj
    rw [if_pos rfl, if_pos hi, List.getElem?_range hi]
    simp
  · rw [if_neg hj]
    rcases Nat.lt_or_ge j 64 with h | h
    · rw [List.getElem?_range h]
      simp only [Option.map_some]
      by_cases h2 : j < i
      · rw [if_pos h2, if_pos (by omega)]
      · rw [if_neg h2, if_neg (by omega)]
    · rw [List.getElem?_eq_none (by simpa using h)]; rfl

set_option maxHeartbeats 4000000 in
set_option maxRecDepth 100000 in
theorem OpsHalves_walk (S O a b : Int) (w : World) (wS : (Lit.int .i64 S).wf = true) (wO : (Lit.int .i64 O).wf = true) (wa : (Lit.int .i64 a).wf = true) (wb : (Lit.int .i64 b).wf = true) :
    Calls Tryd.prog 3 #[.int .i64 S, .int .i64 O, .agg #[.int .i64 a, .int .i64 b]] w fun e w' => e = .returned (.bool true) ∧ Below w.heap.size w w' := by
  go_enter Tryd.func3, Tryd.ntmps3
  go_wp2_with fail
  obtain ⟨B, hB⟩ : ∃ B, B = w.heap.size := ⟨_, rfl⟩
  obtain ⟨w0, hw0⟩ : ∃ w0, w0 = w.alloc (.cells #[.int .i64 a, .int .i64 b] 22) := ⟨_, rfl⟩
  rw [← hB, ← hw0]
  have hb0 : w0.heap[B]? = some (.cells #[.int .i64 a, .int .i64 b] 22 (0, 0)) := by rw [hw0, hB]; exact heap_alloc_new _ _
  have hl0 : Below w.heap.size w w0 := by rw [hw0]; exact (Below.refl _ w).alloc (Nat.le_refl _) _
  have hlt : B < w0.heap.size := by rw [hw0, hB]; simp
  refine (speaks_ok w0).mono ?_; rintro e w1 ⟨rfl, B1⟩
  have HA : Hid (HalfAt w w1 B a b) := Lib.hid ⟨(B1.block _ hlt).trans hb0, below_on hl0 B1⟩
  have HB := Lib.hid hB
  clear hb0 hl0 hlt hw0 B1 hB
  go_upto_region 3 with fail
  have HW1 := HA.out.below
  go_cut [52] (fun c wz => c = .bool (decide ¬ (0 ≤ S ∧ S ≤ 8192 ∧ 0 ≤ O ∧ O ≤ 8192 ∧ 0 ≤ a ∧ a ≤ 2000 ∧ 0 ≤ b ∧ b ≤ 2000)) ∧ wz = w1)
  case first =>
    have c0 : w1.cell? ⟨B, 0, none⟩ = some (.int .i64 a) := by rw [cellsOf_heap HA.out.box]; rfl
    have c1 : w1.cell? ⟨B, 1, none⟩ = some (.int .i64 b) := by rw [cellsOf_heap HA.out.box]; rfl
    go_wp2_with fail
    all_goals
      go_meet
      case rel => exact ⟨congrArg Value.bool (by rw [Bool.eq_iff_iff]; simp only [Bool.or_eq_true, decide_eq_true_eq, iff_true, true_iff]; omega), rfl⟩
  case rest =>
    obtain ⟨hu, hwc⟩ := hcut
    obtain ⟨wq, rfl⟩ : ∃ wq : World, wq = wc := ⟨_, rfl⟩
    subst hu
    rw [hwc]
    clear hwc
    go_upto_if 52 with fail
    go_cut [0, 1] (fun s0 s1 wz => ∃ S O a b : Int, s0 = .int .i64 S ∧ s1 = .int .i64 O ∧ 0 ≤ S ∧ S ≤ 8192 ∧ 0 ≤ O ∧ O ≤ 8192 ∧ 0 ≤ a ∧ a ≤ 2000 ∧ 0 ≤ b ∧ b ≤ 2000 ∧ Hid (HalfAt w wz B a b))
    case first =>
      by_cases hok : 0 ≤ S ∧ S ≤ 8192 ∧ 0 ≤ O ∧ O ≤ 8192 ∧ 0 ≤ a ∧ a ≤ 2000 ∧ 0 ≤ b ∧ b ≤ 2000
      · have hd : decide (¬ (0 ≤ S ∧ S ≤ 8192 ∧ 0 ≤ O ∧ O ≤ 8192 ∧ 0 ≤ a ∧ a ≤ 2000 ∧ 0 ≤ b ∧ b ≤ 2000)) = false := decide_eq_false (not_not_intro hok)
        rw [hd]
        go_wp2_with fail
        go_meet
        case rel => exact ⟨S, O, a, b, rfl, rfl, by omega, by omega, by omega, by omega, by omega, by omega, by omega, by omega, HA⟩
      · have hd : decide (¬ (0 ≤ S ∧ S ≤ 8192 ∧ 0 ≤ O ∧ O ≤ 8192 ∧ 0 ≤ a ∧ a ≤ 2000 ∧ 0 ≤ b ∧ b ≤ 2000)) = true := decide_eq_true hok
        rw [hd]
        have c0 : w1.cell? ⟨B, 0, none⟩ = some (.int .i64 a) := by rw [cellsOf_heap HA.out.box]; rfl
        have c1 : w1.cell? ⟨B, 1, none⟩ = some (.int .i64 b) := by rw [cellsOf_heap HA.out.box]; rfl
        have f0 : w1.frozen? ⟨B, 0, none⟩ = false := by simp [World.frozen?, HA.out.box]
        have f1 : w1.frozen? ⟨B, 1, none⟩ = false := by simp [World.frozen?, HA.out.box]
        have HN : Hid (HalfAt w ((w1.setCell ⟨B, 0, none⟩ (.int .i64 70)).setCell ⟨B, 1, none⟩ (.int .i64 80)) B 70 80) := Lib.hid ⟨by
          rw [heap_setCell_same _ B 1 _ _ _ (heap_setCell_same w1 B 0 _ _ _ HA.out.box)]; rfl, (HA.out.below.setCell (p := ⟨B, 0, none⟩) (by rw [HB.out]; exact Nat.le_refl _) _).setCell (p := ⟨B, 1, none⟩) (by rw [HB.out]; exact Nat.le_refl _) _⟩
        go_wp2_with fail
        go_meet
        case rel => exact ⟨300, 10, 70, 80, rfl, rfl, by omega, by omega, by omega, by omega, by omega, by omega, by omega, by omega, HN⟩
    case rest =>
      obtain ⟨S, O, a, b, rfl, rfl, h1, h2, h3, h4, h5, h6, h7, h8, HC⟩ := hcut
      clear HA HW1 wS wO wa wb
      obtain ⟨N, hN⟩ : ∃ N : Nat, N = 140 := ⟨140, rfl⟩
      obtain ⟨L, hL⟩ : ∃ L : Nat, L = 64 := ⟨64, rfl⟩
      have hmk : ∀ W : World, (Instr.makeSlice 24 (.int .i64 140) (.int .i64 140)).run Tryd.prog W = .ok (.slice (some ⟨W.heap.size, 0, none⟩) N N) (W.alloc (.cells (madeCells #[.string ⟨#[]⟩] N) 9)) := by
        intro W
        have h := run_make_row' (P := Tryd.prog) 24 9 (.string ⟨#[]⟩) 16 (by kernel_rfl) (by kernel_rfl) rfl .i64 .i64 N (by omega) (by omega) W
        have hc : ((N : Nat) : Int) = 140 := by omega
        rw [hc] at h
        exact h
      have hmb : ∀ W : World, (Instr.makeSlice 25 (.int .i64 64) (.int .i64 64)).run Tryd.prog W = .ok (.slice (some ⟨W.heap.size, 0, none⟩) L L) (W.alloc (.cells (madeCells #[.int .u8 0] L) 5)) := by
        intro W
        have h := run_make_row' (P := Tryd.prog) 25 5 (.int .u8 0) 1 (by kernel_rfl) (by kernel_rfl) rfl .i64 .i64 L (by omega) (by omega) W
        have hc : ((L : Nat) : Int) = 64 := by omega
        rw [hc] at h
        exact h
      have HN := Lib.hid hN
      have HL := Lib.hid hL
      clear hN hL
      go_wp2_with fail
      obtain ⟨G, hG⟩ : ∃ G, G = wc.heap.size := ⟨_, rfl⟩
      have hBG : B < G := by
        rw [hG]
        rcases Nat.lt_or_ge B wc.heap.size with h | h
        · exact h
        · have := HC.out.box; rw [Array.getElem?_eq_none h] at this; cases this
      rw [← hG]
      have HG := Lib.hid hG
      clear hG hmk
      go_loopw [8] (fun si wr => ∃ i : Nat, i ≤ 140 ∧ si = .int .i64 (i : Int) ∧ Hid (HalfAt w wr B a b) ∧ Hid (RowAt wr G (fillS i)))
        (fun si _ => 140 - (intOf si).toNat)
      case atStart =>
        refine ⟨0, by omega, rfl, Lib.hid (HC.out.keep ((Below.refl _ _).alloc (Nat.le_refl _) _)), Lib.hid ?_⟩
        unfold RowAt
        rw [HG.out, heap_alloc_new]
        refine congrArg (fun c => some (Obj.cells c 9 (0, 0))) (Array.toList_inj.1 ?_)
        rw [toList_madeCells_one, HN.out, fillS_zero]
        rfl
      case round =>
        obtain ⟨i, hi, rfl, HA, HR⟩ := hrel
        by_cases hlt : i < 140
        · have g1 : (i : Int) < 140 := by omega
          go_wp2_with fail
          obtain ⟨G2, hG2⟩ : ∃ G2, G2 = wr.heap.size := ⟨_, rfl⟩
          have hGG : G < G2 := by rw [hG2]; exact row_lt HR.out
          obtain ⟨wb, hwb⟩ : ∃ wb, wb = wr.alloc (.cells (madeCells #[.int .u8 0] L) 5) := ⟨_, rfl⟩
          rw [← hG2, ← hwb]
          have hbb : Below wr.heap.size wr wb := by rw [hwb]; exact (Below.refl _ _).alloc (Nat.le_refl _) _
          have HAb := Lib.hid (HA.out.keep hbb)
          have HRb : Hid (RowAt wb G (fillS i)) := Lib.hid ((hbb.block _ (row_lt HR.out)).trans HR.out)
          have HBb : Hid (ByteAt wb G2 (fillB i 0)) := Lib.hid (by
            unfold ByteAt
            rw [hwb, hG2, heap_alloc_new]
            refine congrArg (fun c => some (Obj.cells c 5 (0, 0))) (Array.toList_inj.1 ?_)
            rw [toList_madeCells_one, HL.out, fillB_zero]
            rfl)
          clear hG2 hwb hbb HA HR
          go_loopw [10] (fun sq wz => ∃ q : Nat, q ≤ 64 ∧ sq = .int .i64 (q : Int) ∧ Hid (HalfAt w wz B a b) ∧ Hid (RowAt wz G (fillS i)) ∧ Hid (ByteAt wz G2 (fillB i q)))
            (fun sq _ => 64 - (intOf sq).toNat)
          case atStart => exact ⟨0, by omega, rfl, HAb, HRb, HBb⟩
          case round =>
            obtain ⟨q, hq, rfl, HA, HR, HBy⟩ := hrel
            obtain ⟨wz, rfl⟩ : ∃ wz : World, wz = wr := ⟨_, rfl⟩
            by_cases hq2 : q < 64
            · have g2 : (q : Int) < 64 := by omega
              have g3 : (q : Int) < (L : Int) := by rw [HL.out]; omega
              have c0 : ∃ v, wz.cell? ⟨G2, q, none⟩ = some v := by
                have h9 : ((fillB i q).map byteV).toArray[q]? = some (byteV ((fillB i q)[q]'(by simp [fillB]; omega))) := by
                  rw [List.getElem?_toArray, List.getElem?_map, List.getElem?_eq_getElem (by simp [fillB]; omega)]; rfl
                exact ⟨_, (cellsOf_heap HBy.out q).trans h9⟩
              obtain ⟨v0, c0⟩ := c0
              have f0 : wz.frozen? ⟨G2, q, none⟩ = false := by have := HBy.out; unfold ByteAt at this; simp [World.frozen?, this]
              go_wp2_with fail
              have hv : Value.int IntKind.u8 (((i : Int) * 7 + (q : Int)) % 256) = byteV (UInt8.ofNat (i * 7 + q)) := by
                unfold byteV; congr 1
              rw [hv]
              exact ⟨⟨q + 1, by omega, by go_num, Lib.hid (HA.out.other _ (by omega) HB.out), Lib.hid (HR.out.other _ (by omega)), Lib.hid (HBy.out.set hq2)⟩, by simp [intOf]; omega⟩
            · have g2 : ¬ (q : Int) < 64 := by omega
              obtain rfl : q = 64 := by omega
              have hcv : (convert 25 9 (.slice (some ⟨G2, 0, none⟩) L L)).run Tryd.prog wz = .ok (.string (strB (halfP i))) wz := by
                have := run_convert_bytes_back (P := Tryd.prog) wz 25 9 5 ⟨G2, 0, none⟩ L (halfP i) (by kernel_rfl) (by kernel_rfl) (by kernel_rfl) (by
                  intro x hx
                  rw [show (⟨G2, 0, none⟩ : Addr).add x = ⟨G2, x, none⟩ by unfold Addr.add; split <;> simp_all]
                  have h9 := HBy.out
                  rw [fillB_all] at h9
                  rw [cellsOf_heap h9]
                  simp [byteV, List.getElem?_eq_getElem hx])
                rw [halfP_len, ← HL.out] at this
                exact this
              have c0 : ∃ v, wz.cell? ⟨G, i, none⟩ = some v := by
                have h9 : ((fillS i).map fun x => Value.string (strB x)).toArray[i]? = some (.string (strB ((fillS i)[i]'(by simp [fillS]; omega)))) := by
                  rw [List.getElem?_toArray, List.getElem?_map, List.getElem?_eq_getElem (by simp [fillS]; omega)]; rfl
                exact ⟨_, (cellsOf_heap HR.out i).trans h9⟩
              obtain ⟨v0, c0⟩ := c0
              have f0 : wz.frozen? ⟨G, i, none⟩ = false := by have := HR.out; unfold RowAt at this; simp [World.frozen?, this]
              have g3 : (i : Int) < (N : Int) := by rw [HN.out]; omega
              obtain ⟨X, hX⟩ : ∃ X, X = strB (halfP i) := ⟨_, rfl⟩
              rw [← hX] at hcv
              have HAN : Hid (HalfAt w (wz.setCell ⟨G, i, none⟩ (.string X)) B a b) := Lib.hid (HA.out.other _ hBG HB.out)
              have HRN : Hid (RowAt (wz.setCell ⟨G, i, none⟩ (.string X)) G (fillS (i + 1))) := Lib.hid (by rw [hX]; exact HR.out.set hlt)
              clear hX HA HR HBy
              go_wp2_with fail
              exact ⟨⟨i + 1, by omega, by go_num, HAN, HRN⟩, by simp [intOf]; omega⟩
        · have g1 : ¬ (i : Int) < 140 := by omega
          obtain rfl : i = 140 := by omega
          rw [fillS_all] at HR
          go_upto_region 16 with fail
          obtain ⟨R, hR⟩ : ∃ R, R = wr.heap.size := ⟨_, rfl⟩
          obtain ⟨wr2, hw2⟩ : ∃ wr2, wr2 = wr.alloc (.cells #[.string ⟨#[]⟩, .string ⟨#[]⟩, .string ⟨#[]⟩] 26) := ⟨_, rfl⟩
          rw [← hR, ← hw2]
          have hb2 : Below wr.heap.size wr wr2 := by rw [hw2]; exact (Below.refl _ _).alloc (Nat.le_refl _) _
          have hr2 : wr2.heap[R]? = some (.cells #[.string ⟨#[]⟩, .string ⟨#[]⟩, .string ⟨#[]⟩] 26 (0, 0)) := by rw [hw2, hR]; exact heap_alloc_new _ _
          have hGR : G < R := by rw [hR]; exact row_lt HR.out
          have HA2 := Lib.hid (HA.out.keep hb2)
          have HR2 : Hid (RowAt wr2 G halfPs) := Lib.hid ((hb2.block _ (row_lt HR.out)).trans HR.out)
          have c0 : wr2.cell? ⟨B, 0, none⟩ = some (.int .i64 a) := by rw [cellsOf_heap HA2.out.box]; rfl
          have c1 : wr2.cell? ⟨B, 1, none⟩ = some (.int .i64 b) := by rw [cellsOf_heap HA2.out.box]; rfl
          have HRR := Lib.hid hr2
          clear hR hw2 hb2 hr2 HA HR
          go_upto_region 17 with fail
          obtain ⟨A, hA⟩ : ∃ A, A = wr2.heap.size := ⟨_, rfl⟩
          obtain ⟨aO, haO⟩ : ∃ aO : Nat → Int, aO = fun i => if i = 1 then O + a else O := ⟨_, rfl⟩
          obtain ⟨aN, haN⟩ : ∃ aN : Nat → Int, aN = fun i => if i = 0 then a else if i = 1 then b else a + b := ⟨_, rfl⟩
          obtain ⟨wr3, hw3⟩ : ∃ wr3, wr3 = wr2.alloc (.cells #[.int .i64 O, .int .i64 a, .int .i64 (O + a), .int .i64 b, .int .i64 O, .int .i64 (a + b)] 27) := ⟨_, rfl⟩
          rw [← hA, ← hw3]
          have hb3 : Below wr2.heap.size wr2 wr3 := by rw [hw3]; exact (Below.refl _ _).alloc (Nat.le_refl _) _
          have hAT : wr3.heap[A]? = some (.cells #[.int .i64 (aO 0), .int .i64 (aN 0), .int .i64 (aO 1), .int .i64 (aN 1), .int .i64 (aO 2), .int .i64 (aN 2)] 27 (0, 0)) := by rw [hw3, hA, haO, haN]; exact heap_alloc_new _ _
          have hRA : R < A := by rw [hA]; exact row_lt HRR.out
          have HA3 := Lib.hid (HA2.out.keep hb3)
          have HR3 : Hid (RowAt wr3 G halfPs) := Lib.hid ((hb3.block _ (row_lt HR2.out)).trans HR2.out)
          obtain ⟨rd, hrd⟩ : ∃ rd : Nat → List UInt8, rd = fun i => readH S (aO i) (aN i) := ⟨_, rfl⟩
          obtain ⟨rs, hrs⟩ : ∃ rs : Nat → Nat → List UInt8, rs = fun i k => if k < i then rd k else [] := ⟨_, rfl⟩
          have HRR3 : Hid (wr3.heap[R]? = some (.cells #[.string (strB (rs 0 0)), .string (strB (rs 0 1)), .string (strB (rs 0 2))] 26 (0, 0))) := Lib.hid (by rw [hb3.block _ (row_lt HRR.out), HRR.out, hrs]; rfl)
          have HAT := Lib.hid hAT
          have HO := Lib.hid haO
          have HNN := Lib.hid haN
          have HRD := Lib.hid hrd
          have HRS := Lib.hid hrs
          clear hA haO haN hw3 hb3 hAT c0 c1 HA2 HR2 HRR hrd hrs hmb HC HG hi hlt
          go_wp2_with fail
          go_loopw [13] (fun si wr => ∃ i : Nat, i ≤ 3 ∧ si = .int .i64 (i : Int) ∧ Hid (HalfAt w wr B a b) ∧ Hid (RowAt wr G halfPs) ∧ Hid (wr.heap[A]? = some (.cells #[.int .i64 (aO 0), .int .i64 (aN 0), .int .i64 (aO 1), .int .i64 (aN 1), .int .i64 (aO 2), .int .i64 (aN 2)] 27 (0, 0))) ∧ Hid (wr.heap[R]? = some (.cells #[.string (strB (rs i 0)), .string (strB (rs i 1)), .string (strB (rs i 2))] 26 (0, 0))))
            (fun si _ => 3 - (intOf si).toNat)
          case atStart => exact ⟨0, by omega, rfl, HA3, HR3, HAT, HRR3⟩
          case round =>
            obtain ⟨i, hi, rfl, HA4, HR4, HAT4, HRR4⟩ := hrel
            obtain ⟨wy, rfl⟩ : ∃ wy : World, wy = wr := ⟨_, rfl⟩
            by_cases hlt : i < 3
            · have g1 : (i : Int) < 3 := by omega
              have cA0 : wy.cell? ⟨A, i * 2, none⟩ = some (.int .i64 (aO i)) := by
                rw [cellsOf_heap HAT4.out]
                rcases (by omega : i = 0 ∨ i = 1 ∨ i = 2) with rfl | rfl | rfl <;> rfl
              have cA1 : wy.cell? ⟨A, i * 2 + 1, none⟩ = some (.int .i64 (aN i)) := by
                rw [cellsOf_heap HAT4.out]
                rcases (by omega : i = 0 ∨ i = 1 ∨ i = 2) with rfl | rfl | rfl <;> rfl
              go_upto_region 20 with fail
              have b1 : 0 ≤ aO i ∧ aO i ≤ 10192 := by rw [HO.out]; dsimp only; split <;> omega
              have b2 : 0 ≤ aN i ∧ aN i ≤ 4000 := by rw [HNN.out]; dsimp only; split <;> (try split) <;> omega
              have hrdi : rd i = readH S (aO i) (aN i) := by rw [HRD.out]
              generalize aO i = x at *
              generalize aN i = n at *
              have hw1 : wrap64 (S - x) = S - x := IntWalk.wrap64_in _ (by omega)
              go_quiet (fail)
              clear hw1
              obtain ⟨F, T, hsp, hFT, hT⟩ := half_span S x n h1 h2 b1.1
              have hrd2 : rd i = readL S x n ((halfPs.drop F).take (T - F)) := by rw [hrdi]; unfold readH; simp only [hsp, Int.toNat_natCast]
              obtain ⟨m, hm⟩ : ∃ m, m = max (min n (S - x)) 0 := ⟨_, rfl⟩
              rw [← hm] at hsp ⊢
              have HRDI := Lib.hid hrd2
              clear hrdi hrd2 hm
              obtain ⟨wq, hwq⟩ : ∃ wq, wq = wy.drewN nq := ⟨_, rfl⟩
              rw [← hwq]
              have cA0' : wq.cell? ⟨A, i * 2, none⟩ = some (.int .i64 x) := by rw [hwq]; exact cA0
              have cA1' : wq.cell? ⟨A, i * 2 + 1, none⟩ = some (.int .i64 n) := by rw [hwq]; exact cA1
              have hbq : Below wy.heap.size wy wq := by rw [hwq]; exact below_drewN (Below.refl _ _) nq
              have hhq : wq.heap = wy.heap := by rw [hwq]; rfl
              have HA5 := Lib.hid (HA4.out.keep hbq)
              have HR5 : Hid (RowAt wq G halfPs) := Lib.hid (by unfold RowAt; rw [hhq]; exact HR4.out)
              have HAT5 := Lib.hid ((congrArg (fun h => h[A]?) hhq).trans HAT4.out)
              have HRR5 := Lib.hid ((congrArg (fun h => h[R]?) hhq).trans HRR4.out)
              clear hwq cA0 cA1 hbq hhq HA4 HR4 HAT4 HRR4
              have hsa := span_any x m wq
              rw [hsp] at hsa
              have HSA := Lib.hid hsa
              clear hsa hsp
              go_wp2_with fail
              refine HSA.out.mono ?_; rintro e w' ⟨rfl, rfl⟩
              go_upto_region 22 with fail
              obtain ⟨ps, hps⟩ : ∃ ps, ps = (halfPs.drop F).take (T - F) := ⟨_, rfl⟩
              have hpl : ps.length = T - F := by rw [hps, List.length_take, List.length_drop]; simp [halfPs]; omega
              have hcel : ∀ (W : World), Below wq.heap.size wq W → ∀ j u, (ps.map strV)[j]? = some u → W.cell? ((⟨G, F, none⟩ : Addr).add j) = some u := by
                intro W hW j u hu
                rw [show (⟨G, F, none⟩ : Addr).add j = ⟨G, F + j, none⟩ by unfold Addr.add; split <;> simp_all]
                rw [cellsOf_heap ((hW.block G (row_lt HR5.out)).trans HR5.out)]
                rw [hps, List.getElem?_map] at hu
                rw [List.getElem?_toArray, List.getElem?_map]
                obtain ⟨y, hy, rfl⟩ := Option.map_eq_some_iff.1 hu
                have hj : j < T - F := by
                  rcases Nat.lt_or_ge j (T - F) with h | h
                  · exact h
                  · rw [List.getElem?_eq_none (by rw [List.length_take]; omega)] at hy; cases hy
                rw [List.getElem?_take_of_lt hj, List.getElem?_drop] at hy
                rw [hy]; rfl
              have HCEL := Lib.hid hcel
              have HPS := Lib.hid hps
              rw [← hps] at HRDI
              clear hcel hps
              have cR : ∃ v, wq.cell? ⟨R, i, none⟩ = some v := by
                rw [cellsOf_heap HRR5.out]
                rcases (by omega : i = 0 ∨ i = 1 ∨ i = 2) with rfl | rfl | rfl <;> exact ⟨_, rfl⟩
              obtain ⟨vR, cR⟩ := cR
              have fR : wq.frozen? ⟨R, i, none⟩ = false := by simp [World.frozen?, HRR5.out]
              obtain ⟨i0, hi0, hz0, hz1, hz2⟩ := info_parts infoStr
              have t1 : (F : Int) ≤ (T : Int) := by omega
              have t2 : (T : Int) ≤ (N : Int) := by rw [HN.out]; omega
              have t3 : ¬ N = F := by rw [HN.out]; omega
              have hK : ∀ W, Below wq.heap.size wq W → (W.cell? ⟨A, i * 2, none⟩ = some (.int .i64 x) ∧ W.cell? ⟨A, i * 2 + 1, none⟩ = some (.int .i64 n) ∧ W.cell? ⟨R, i, none⟩ = some vR ∧ W.frozen? ⟨R, i, none⟩ = false) := fun W hW =>
                ⟨below_cell hW _ _ cA0', below_cell hW _ _ cA1', below_cell hW _ _ cR, by simp [World.frozen?, (hW.block R (row_lt HRR5.out)).trans HRR5.out]⟩
              have HK := Lib.hid hK
              have hRA3 : R ≠ A := by omega
              have HPL := Lib.hid hpl
              clear hK
              go_region_held3 (fun W' => W'.cell? ⟨A, i * 2, none⟩ = some (.int .i64 x) ∧ W'.cell? ⟨A, i * 2 + 1, none⟩ = some (.int .i64 n))
                (first | (exact ⟨(World.cell?_setCell_far _ _ _ _ hRA3).trans (HK.out _ hB4).1, (World.cell?_setCell_far _ _ _ _ hRA3).trans (HK.out _ hB4).2.1⟩) | (exact ⟨(HK.out _ hB4).1, (HK.out _ hB4).2.1⟩) | (exact ⟨(HK.out _ hB3).1, (HK.out _ hB3).2.1⟩) | (exact ⟨(HK.out _ (Below.drew ((Below.refl _ _).alloc (Nat.le_refl _) _))).1, (HK.out _ (Below.drew ((Below.refl _ _).alloc (Nat.le_refl _) _))).2.1⟩) | (exact ⟨(HK.out _ (Below.drew (Below.refl _ _))).1, (HK.out _ (Below.drew (Below.refl _ _))).2.1⟩) | go_keep)
                ((first
                | (refine step_append_own (w := (wq.alloc (.cells #[] 9)).drew) rfl _ _ 24 rfl wq.heap.size 9 i0 (.string ⟨#[]⟩) 1 16 (by kernel_rfl) hi0 hz0 hz1 hz2 rfl (by decide) (.slice (some ⟨wq.heap.size, 0, none⟩) 0 0) 0 [] rfl (World.ownsRow_made wq #[] 0 (Nat.le_refl _) (by decide) rfl) ⟨G, F, none⟩ (T - F) (N - F) (ps.map strV) rfl (by simp [HPL.out]) (HCEL.out _ (Below.drew ((Below.refl _ _).alloc (Nat.le_refl _) _))) (by intro u hu; obtain ⟨y, _, rfl⟩ := List.mem_map.1 hu; rfl) (by unfold maxLen; omega) (by omega) (by simp) ?_; intro v1 w3 hown hgrow _; have hB3 : Below wq.heap.size wq w3 := (Below.drew ((Below.refl _ _).alloc (Nat.le_refl _) _)).grown hgrow (by simp) (fun k hk => by simp [Value.ownBlock] at hk; omega); have hS3 : StrsAt w3 v1 ps := StrsAt.of_own (B := wq.heap.size) (by rw [HPL.out]; simpa using hown))
                | (go_at_call 9; refine (read_any (ps := ps) hS3 (by rw [HPL.out]; omega) _ _ _ (by omega)).mono ?_; rintro e w4 ⟨rfl, hb4⟩; have hB4 : Below wq.heap.size wq w4 := below_on hB3 hb4; have cR4 := (HK.out _ hB4).2.2.1; have fR4 := (HK.out _ hB4).2.2.2)))
              rw [← HRDI.out]
              obtain ⟨we, hwe⟩ : ∃ we, we = w4.setCell ⟨R, i, none⟩ (.string (strB (rd i))) := ⟨_, rfl⟩
              rw [← hwe]
              have HA6 : Hid (HalfAt w we B a b) := Lib.hid (by rw [hwe]; exact (HA5.out.keep hB4).other _ (by omega) HB.out)
              have HR6 : Hid (RowAt we G halfPs) := Lib.hid (by rw [hwe]; exact RowAt.other ((hB4.block _ (row_lt HR5.out)).trans HR5.out) _ (by omega))
              have HAT6 := Lib.hid ((congrArg (fun W : World => W.heap[A]?) hwe).trans ((heap_setCell_other w4 ⟨R, i, none⟩ A _ (by show A ≠ R; omega)).trans ((hB4.block _ (row_lt HAT5.out)).trans HAT5.out)))
              have HRR6 : Hid (we.heap[R]? = some (.cells #[.string (strB (rs (i + 1) 0)), .string (strB (rs (i + 1) 1)), .string (strB (rs (i + 1) 2))] 26 (0, 0))) := Lib.hid (by
                rw [hwe, heap_setCell_same w4 R i _ _ _ ((hB4.block _ (row_lt HRR5.out)).trans HRR5.out), HRS.out]
                rcases (by omega : i = 0 ∨ i = 1 ∨ i = 2) with rfl | rfl | rfl <;> rfl)
              clear hwe HA5 HR5 HAT5 HRR5 HCEL HK HRDI
              go_wp2_with fail
              exact ⟨⟨i + 1, by omega, by go_num, HA6, HR6, HAT6, HRR6⟩, by simp [intOf]; omega⟩
            · have g1 : ¬ (i : Int) < 3 := by omega
              obtain rfl : i = 3 := by omega
              have hp := halves_pure S O a b h1 h2 h3 h5 h7
              have hr0 : rs 3 0 = readH S O a := by rw [HRS.out, HRD.out, HO.out, HNN.out]; rfl
              have hr1 : rs 3 1 = readH S (O + a) b := by rw [HRS.out, HRD.out, HO.out, HNN.out]; rfl
              have hr2 : rs 3 2 = readH S O (a + b) := by rw [HRS.out, HRD.out, HO.out, HNN.out]; rfl
              obtain ⟨X, hX⟩ : ∃ X, X = strB (rs 3 0) := ⟨_, rfl⟩
              obtain ⟨Y, hY⟩ : ∃ Y, Y = strB (rs 3 1) := ⟨_, rfl⟩
              obtain ⟨Z, hZ⟩ : ∃ Z, Z = strB (rs 3 2) := ⟨_, rfl⟩
              have hXYZ : X ++ Y = Z := by
                apply ByteArray.ext
                apply Array.toList_inj.1
                rw [ByteArray.data_append, Array.toList_append, hX, hY, hZ, strB_list, strB_list, strB_list, hr0, hr1, hr2]
                exact hp.1
              have hZs : (Z.size : Int) = max (min (a + b) (S - O)) 0 := by rw [hZ, strB_size, hr2]; exact hp.2
              have r0 : wy.cell? ⟨R, 0, none⟩ = some (.string X) := by rw [cellsOf_heap HRR4.out, hX]; rfl
              have r1 : wy.cell? ⟨R, 1, none⟩ = some (.string Y) := by rw [cellsOf_heap HRR4.out, hY]; rfl
              have r2 : wy.cell? ⟨R, 2, none⟩ = some (.string Z) := by rw [cellsOf_heap HRR4.out, hZ]; rfl
              have c0 : wy.cell? ⟨B, 0, none⟩ = some (.int .i64 a) := by rw [cellsOf_heap HA4.out.box]; rfl
              have c1 : wy.cell? ⟨B, 1, none⟩ = some (.int .i64 b) := by rw [cellsOf_heap HA4.out.box]; rfl
              have z1 : ¬ 9223372036854775807 < X.size + Y.size := by
                have := congrArg ByteArray.size hXYZ
                rw [ByteArray.size_append] at this
                omega
              have z2 : (Z.toList == Z.toList) = true := by simp
              have HZS := Lib.hid hZs
              clear hp hr0 hr1 hr2 hX hY hZ hZs
              go_wp2_with fail
              go_ret
              exact ⟨by rw [HZS.out]; simp, HA4.out.below⟩

end Go.Proofs.YthpdmgefdaegmaaDoor
