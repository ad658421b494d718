/- Package ops: Cut. -/
import Derived.Test.YthpdmgefdaegmaaDoorOpsO
import Derived.Lib.SliceRun
namespace Go.Proofs.YthpdmgefdaegmaaDoor
open Go.RowKit
set_option linter.unusedVariables false
set_option linter.unusedSimpArgs false

def setAll (cs : Array Value) : Nat → List Value → Array Value
  | _, [] => cs
  | o, v :: r => setAll (cs.setIfInBounds o v) (o + 1) r
theorem setAll_get : ∀ (vs : List Value) (cs : Array Value) (o q : Nat), o + vs.length ≤ cs.size → (setAll cs o vs)[q]? = if o ≤ q ∧ q < o + vs.length then vs[q - o]? else cs[q]?
  | [], cs, o, q, _ => by
    rw [if_neg (by rw [List.length_nil]; omega)]; rfl
  | v :: r, cs, o, q, h => by
    rw [List.length_cons] at h
    rw [setAll, setAll_get r _ (o + 1) q (by rw [Array.size_setIfInBounds]; omega), List.length_cons]
    by_cases h1 : o + 1 ≤ q ∧ q < o + 1 + r.length
    · rw [if_pos h1, if_pos (by omega), show q - o = (q - (o + 1)) + 1 by omega, List.getElem?_cons_succ]
    · rw [if_neg h1, Array.getElem?_setIfInBounds]
      by_cases h2 : o = q
      · subst h2
        rw [if_pos rfl, if_pos (by omega), if_pos (by omega), Nat.sub_self]; rfl
      · rw [if_neg h2, if_neg (by omega)]
theorem setCells_row {t : TypeId} {b : Nat} : ∀ (vs : List Value) (o : Nat) (w : World) (cs : Array Value), w.heap[b]? = some (.cells cs t (0, 0)) → (w.setCells b o vs).heap[b]? = some (.cells (setAll cs o vs) t (0, 0))
  | [], _, _, _, h => h
  | v :: r, o, w, cs, h => setCells_row r (o + 1) _ _ (heap_setCell_same w b o _ _ v h)
theorem setCells_below {w0 : World} {B b : Nat} (hb : B ≤ b) : ∀ (vs : List Value) (o : Nat) (w : World), Below B w0 w → Below B w0 (w.setCells b o vs)
  | [], _, _, h => h
  | v :: r, o, w, h => setCells_below hb r (o + 1) _ (h.setCell (p := ⟨b, o, none⟩) hb v)

def cutL (n : Nat) (l : List UInt8) : List UInt8 := l.take n ++ List.replicate (64 - n) 0
theorem cutL_len {n : Nat} {l : List UInt8} (hl : l.length = 64) (hn : n ≤ 64) : (cutL n l).length = 64 := by
  unfold cutL; rw [List.length_append, List.length_take, List.length_replicate]; omega
theorem cut_cells {n : Nat} {l : List UInt8} (hl : l.length = 64) (hn : n ≤ 64) : setAll (l.map byteV).toArray n (List.replicate (64 - n) (.int .u8 0)) = ((cutL n l).map byteV).toArray := by
  apply Array.ext_getElem?
  intro q
  rw [setAll_get _ _ _ _ (by simp; omega), List.length_replicate]
  unfold cutL
  rw [List.map_append, List.map_take, List.map_replicate]
  by_cases h : n ≤ q ∧ q < n + (64 - n)
  · rw [if_pos h, List.getElem?_toArray, List.getElem?_append_right (by simp; omega), List.getElem?_replicate, List.getElem?_replicate]
    simp only [List.length_take, List.length_map]
    rw [if_pos (by omega), if_pos (by omega)]; rfl
  · rw [if_neg h, List.getElem?_toArray, List.getElem?_toArray]
    rcases Nat.lt_or_ge q n with h2 | h2
    · rw [List.getElem?_append_left (by simp; omega), List.getElem?_take_of_lt h2]
    · rw [List.getElem?_eq_none (by simp; omega), List.getElem?_eq_none (by simp; omega)]

/-- The change of the piece that is cut. -/
def CutA (t : Nat) (l : List UInt8) (c : List (Nat × List UInt8)) : Prop :=
  (t % 64 = 0 ∧ c = []) ∨ (t % 64 ≠ 0 ∧ cutL (t % 64) l = l ∧ c = []) ∨ (t % 64 ≠ 0 ∧ cutL (t % 64) l ≠ l ∧ ∃ x, c = [(t / 64, x)] ∧ ChgOf x (Lib.trimRightB (cutL (t % 64) l) 0))
theorem CutA.len {t : Nat} {l : List UInt8} {c : List (Nat × List UInt8)} (h : CutA t l c) : c.length ≤ 1 := by
  rcases h with ⟨_, rfl⟩ | ⟨_, _, rfl⟩ | ⟨_, _, x, rfl, _⟩ <;> simp
/-- The first piece that is cut off whole. -/
def cutK (t : Nat) : Nat := if t % 64 = 0 then t / 64 else t / 64 + 1
def gones (k n : Nat) : List (Nat × List UInt8) := (List.range' k n).map fun k => (k, [])
def CutQ (number : Int) (t k0 n : Nat) (l : List UInt8) (w : World) (e : Ending) (w' : World) : Prop :=
  ∃ v c, e = .returned v ∧ CutA t l c ∧ w'.ownsRow w.heap.size 41 6 v (c ++ gones k0 n).length (rowC number (c ++ gones k0 n)) ∧ Below w.heap.size w w'
def CutPost (number : Int) (size t : Nat) (last : ByteArray) (w : World) (e : Ending) (w' : World) : Prop :=
  CutQ number t (cutK t) ((size - 1) / 64 + 1 - cutK t) (pieceL last.data.toList) w e w'

set_option maxHeartbeats 2000000 in
set_option maxRecDepth 100000 in
theorem cut_any (number : Int) (size t : Nat) (last : ByteArray) (w : World) (h1 : t < size) (h2 : size ≤ 8192) :
    Calls Tryd.prog 12 #[.int .i64 number, .int .i64 size, .int .i64 t, .string last] w (CutPost number size t last w) := by
  unfold CutPost
  have g1 : (t : Int) < (size : Int) := by omega
  obtain ⟨i0, hi, hz0, hz1, hz2⟩ := info_parts infoChg
  obtain ⟨K, hK⟩ : ∃ K, K = t / 64 := ⟨_, rfl⟩
  obtain ⟨n, hn⟩ : ∃ n, n = t % 64 := ⟨_, rfl⟩
  have hq1 : (t : Int) / 64 = (K : Int) := by omega
  have hq2 : (t : Int) % 64 = (n : Int) := by omega
  have hn64 : n < 64 := by omega
  have hKb : (K : Int) ≤ 128 := by omega
  have HK := Lib.hid hK
  have HN := Lib.hid hn
  clear hK hn
  obtain ⟨l, hl⟩ : ∃ l, l = pieceL last.data.toList := ⟨_, rfl⟩
  have hll : l.length = 64 := by rw [hl]; exact pieceL_len _
  have HL := Lib.hid hl
  have HLL := Lib.hid hll
  have HOW : Hid (w.ownsRow w.heap.size 41 6 (.slice none 0 0) 0 (rowC number [])) := Lib.hid (by simpa [rowC] using World.ownsRow_nil w w.heap.size 41 6)
  rw [← hl]
  clear hl hll
  obtain ⟨E, hE⟩ : ∃ E, E = (size - 1) / 64 := ⟨_, rfl⟩
  obtain ⟨k0, hk0⟩ : ∃ k0, k0 = cutK t := ⟨_, rfl⟩
  have hk1 : k0 ≤ E + 1 := by rw [hk0]; unfold cutK; split <;> omega
  have HE1 : Hid (((size : Int) - 1) / 64 = (E : Int)) := Lib.hid (by omega)
  have hE2 : E ≤ 128 := by omega
  rw [← hE, ← hk0]
  have HK0 := Lib.hid hk0
  clear hE hk0
  go_enter Tryd.func12, Tryd.ntmps12
  go_upto_if 26 with fail
  rw [hq2]
  clear hq1 hq2
  go_cut [9, 10] (fun sv sk wz => ∃ c : List (Nat × List UInt8), sk = .int .i64 (k0 : Int) ∧ Hid (CutA t l c) ∧ Hid (wz.ownsRow w.heap.size 41 6 sv c.length (rowC number c)) ∧ Hid (Below w.heap.size w wz))
  case first =>
    by_cases h0 : n = 0
    · subst h0
      have hck : k0 = K := by rw [HK0.out]; unfold cutK; rw [if_pos HN.out.symm, HK.out]
      go_wp2_with fail
      go_meet
      case rel => exact ⟨[], by rw [hck], Lib.hid (.inl ⟨HN.out.symm, rfl⟩), HOW, Lib.hid (Below.refl _ _)⟩
    · have h0' : 0 < n := by omega
      have hck : (k0 : Int) = (K : Int) + 1 := by rw [HK0.out]; unfold cutK; rw [if_neg (by have := HN.out; omega), HK.out]; rfl
      have hn0 : t % 64 ≠ 0 := by have := HN.out; omega
      go_wp2_with fail
      refine (bytes_any last w).mono ?_; rintro e w1 ⟨rfl, hc, B1⟩
      rw [← HL.out] at hc
      have hcv : ∀ (W : World) (z : List UInt8), z.length = 64 → W.heap[w.heap.size]? = some (.cells (z.map byteV).toArray 5 (0, 0)) → (convert 25 9 (.slice (some ⟨w.heap.size, 0, none⟩) 64 64)).run Tryd.prog W = .ok (.string (strB z)) W := by
        intro W z hz hW
        have := run_convert_bytes_back (P := Tryd.prog) W 25 9 5 ⟨w.heap.size, 0, none⟩ 64 z (by kernel_rfl) (by kernel_rfl) (by kernel_rfl) (by
          intro i hi
          rw [show (⟨w.heap.size, 0, none⟩ : Addr).add i = ⟨w.heap.size, i, none⟩ by unfold Addr.add; split <;> simp_all]
          rw [cellsOf_heap hW]
          simp [byteV, List.getElem?_eq_getElem hi])
        rw [hz] at this
        exact this
      have hcv1 := hcv w1 l HLL.out hc
      have hcl : ∀ ty, (Builtin.clear_ #[25] ty #[.slice (some ⟨w.heap.size, n, none⟩) (64 - n) (64 - n)]).run Tryd.prog w1 = .ok (.tuple #[]) (w1.setCells w.heap.size n (List.replicate (64 - n) (.int .u8 0))) := fun ty =>
        Lib.run_clear_slice w1 25 5 ty (.int .u8 0) (by kernel_rfl) (fun W => Tryd.zeroValue5 W) rfl rfl w.heap.size n (64 - n) (64 - n) (by omega) (fun j hj => by rw [cellsOf_heap hc]; simp [HLL.out]; omega) (fun j hj => by simp [World.frozen?, hc])
      obtain ⟨z, hz⟩ : ∃ z, z = cutL n l := ⟨_, rfl⟩
      obtain ⟨w2, hw2⟩ : ∃ w2, w2 = w1.setCells w.heap.size n (List.replicate (64 - n) (.int .u8 0)) := ⟨_, rfl⟩
      have hr2 : w2.heap[w.heap.size]? = some (.cells (z.map byteV).toArray 5 (0, 0)) := by
        rw [hw2, setCells_row _ _ _ _ hc, cut_cells HLL.out (by omega), hz]
      have hb2 : Below w.heap.size w w2 := by rw [hw2]; exact setCells_below (Nat.le_refl _) _ _ _ B1
      have hzl : z.length = 64 := by rw [hz]; exact cutL_len HLL.out (by omega)
      rw [← hw2] at hcl
      have hcv2 := hcv w2 z hzl hr2
      have HZ := Lib.hid hz
      have HR2 := Lib.hid hr2
      have HB2 := Lib.hid hb2
      have HZL := Lib.hid hzl
      obtain ⟨was, hwas⟩ : ∃ was, was = strB l := ⟨_, rfl⟩
      obtain ⟨now, hnow⟩ : ∃ now, now = strB z := ⟨_, rfl⟩
      rw [← hwas] at hcv1
      rw [← hnow] at hcv2
      have hch := change_any number (K : Int) w.heap.size z w2 hzl hr2
      have HCH := Lib.hid hch
      have n1 : (n : Int) ≤ 64 := by omega
      have n2 : ¬ 64 = n := by omega
      have e2 : (now.toList == was.toList) = decide (z = l) := by
        rw [Go.ByteArray.toList_eq, Go.ByteArray.toList_eq, hnow, hwas, strB_list, strB_list]
        by_cases h : z = l
        · simp [h]
        · simp [h]
      have hno : n = t % 64 := HN.out
      have hcA : z = l → CutA t l [] := fun h => .inr (.inl ⟨hn0, by rw [← hno, ← hz]; exact h, rfl⟩)
      have hcB : ∀ x, z ≠ l → ChgOf x (Lib.trimRightB z 0) → CutA t l [(K, x)] := fun x h hx => .inr (.inr ⟨hn0, by rw [← hno, ← hz]; exact h, x, by rw [HK.out], by rw [← hno, ← hz]; exact hx⟩)
      have HCA := Lib.hid hcA
      have HCB := Lib.hid hcB
      clear hcv hc hz hw2 hr2 hb2 hzl hwas hnow hch hno hcA hcB B1
      by_cases heq : z = l
      · have e3 : (now.toList == was.toList) = true := by rw [e2]; simpa using heq
        have e4 : (now.toList != was.toList) = false := by simp only [bne, e3]; rfl
        clear e2
        go_wp2_with fail
        go_meet
        case rel => exact ⟨[], by rw [hck], Lib.hid (HCA.out heq), Lib.hid (ownsRow_below HOW.out HB2.out), HB2⟩
      · have e3 : (now.toList == was.toList) = false := by rw [e2]; simpa using heq
        have e4 : (now.toList != was.toList) = true := by simp only [bne, e3]; rfl
        clear e2
        go_wp2_with fail
        refine HCH.out.mono ?_; rintro e w3 ⟨x, hx, rfl, B3⟩
        have HX := Lib.hid hx
        have HB3 := Lib.hid (below_on HB2.out B3)
        have HR3 := Lib.hid (ownsRow_below HOW.out HB3.out)
        obtain ⟨Y, hY⟩ : ∃ Y, Y = strB x := ⟨_, rfl⟩
        obtain ⟨gn, hgn⟩ : ∃ gn, gn = x.isEmpty := ⟨_, rfl⟩
        have hcl2 : (chgL number (K : Int) x).toArray = #[.int .i64 number, .int .i64 3, .string ⟨#[]⟩, .int .i64 (K : Int), .string Y, .bool gn] := by rw [hY, hgn]; rfl
        rw [hcl2]
        have HCL := Lib.hid hcl2
        clear hcl2 hY hgn hx B3 hcv1 hcv2 hcl e3 e4 HCH
        go_wp2_with (at_builtin; refine wpList_append_own _ rfl _ _ 32 rfl w.heap.size 41 i0 (.agg #[.int .i64 0, .int .i64 0, .string ⟨#[]⟩, .int .i64 0, .string ⟨#[]⟩, .bool false]) 6 64 (by kernel_rfl) hi hz0 hz1 hz2 rfl (by decide) _ 0 (rowC number []) rfl (HR3.out.alloc _) ⟨w3.heap.size, 0, none⟩ 1 1 [.int .i64 number, .int .i64 3, .string ⟨#[]⟩, .int .i64 (K : Int), .string Y, .bool gn] rfl rfl ?c1 ?c2 ?c3 ?c4 ?c5 ?_)
        case c1 =>
          intro i u hu
          rw [show (⟨w3.heap.size, 0, none⟩ : Addr).add i = ⟨w3.heap.size, i, none⟩ by unfold Addr.add; split <;> simp_all]
          rw [cellsOf_heap (heap_alloc_new w3 _)]
          simpa using hu
        case c2 =>
          intro u hu
          simp only [List.mem_cons, List.not_mem_nil, or_false] at hu
          rcases hu with rfl | rfl | rfl | rfl | rfl | rfl <;> rfl
        case c3 => unfold maxLen; omega
        case c4 => omega
        case c5 => have h6 := HB3.out.size; simp; omega
        intro v' w4 hown' hgrow hnn
        have HR4 : Hid (w4.ownsRow w.heap.size 41 6 v' [(K, x)].length (rowC number [(K, x)])) := Lib.hid (by
          have : rowC number [(K, x)] = [] ++ [.int .i64 number, .int .i64 3, .string ⟨#[]⟩, .int .i64 (K : Int), .string Y, .bool gn] := by
            have h7 := congrArg Array.toList HCL.out
            simpa [rowC] using h7
          rw [this]
          simpa [rowC] using hown')
        have HB4 : Hid (Below w.heap.size w w4) := Lib.hid ((HB3.out.alloc HB3.out.size _).grown hgrow (by have := HB3.out.size; simp; omega) (fun k hk => (HR3.out.lt k hk).1))
        clear hown' hgrow hnn HR3 HCL
        go_wp2
        go_meet
        case rel => exact ⟨[(K, x)], by rw [hck], Lib.hid (HCB.out x heq HX.out), HR4, HB4⟩
  case rest =>
    obtain ⟨c, rfl, HA, HO, HB⟩ := hcut
    have hE1 := HE1.out
    have s0 : (0 : Int) ≤ (size : Int) - 1 := by omega
    go_wp2_with fail
    go_loopw [9, 10] (fun sv sk wr => ∃ j : Nat, k0 + j ≤ E + 1 ∧ sk = .int .i64 ((k0 + j : Nat) : Int) ∧ Hid (wr.ownsRow w.heap.size 41 6 sv (c ++ gones k0 j).length (rowC number (c ++ gones k0 j))) ∧ Hid (Below w.heap.size w wr)) (fun _ sk _ => E + 1 - (intOf sk).toNat)
    case atStart => exact ⟨0, by omega, by simp, by simpa [gones] using HO, HB⟩
    case round =>
      obtain ⟨j, hj, rfl, HR, HB2⟩ := hrel
      obtain ⟨wy, rfl⟩ : ∃ wy : World, wy = wr := ⟨_, rfl⟩
      by_cases hlt : k0 + j < E + 1
      · have g2 : ((k0 + j : Nat) : Int) < (E : Int) + 1 := by omega
        obtain ⟨C, hC⟩ : ∃ C, C = c ++ gones k0 j := ⟨_, rfl⟩
        rw [← hC] at HR
        have hCl : C.length ≤ 1 + j := by rw [hC, List.length_append]; have := HA.out.len; simp [gones]; omega
        have HC : Hid (c ++ gones k0 (j + 1) = C ++ [(k0 + j, [])]) := Lib.hid (by rw [hC, List.append_assoc]; congr 1; unfold gones; rw [List.range'_concat, List.map_append]; simp)
        clear hC
        have HCL : Hid ((chgL number ((k0 + j : Nat) : Int) []).toArray = #[.int .i64 number, .int .i64 3, .string ⟨#[]⟩, .int .i64 ((k0 : Int) + (j : Int)), .string ⟨#[]⟩, .bool true]) := Lib.hid rfl
        go_wp2_with (at_builtin; refine wpList_append_own _ rfl _ _ 32 rfl w.heap.size 41 i0 (.agg #[.int .i64 0, .int .i64 0, .string ⟨#[]⟩, .int .i64 0, .string ⟨#[]⟩, .bool false]) 6 64 (by kernel_rfl) hi hz0 hz1 hz2 rfl (by decide) _ C.length (rowC number C) rfl (HR.out.alloc _) ⟨wy.heap.size, 0, none⟩ 1 1 [.int .i64 number, .int .i64 3, .string ⟨#[]⟩, .int .i64 ((k0 : Int) + (j : Int)), .string ⟨#[]⟩, .bool true] rfl rfl ?c1 ?c2 ?c3 ?c4 ?c5 ?_)
        case c1 =>
          intro i u hu
          rw [show (⟨wy.heap.size, 0, none⟩ : Addr).add i = ⟨wy.heap.size, i, none⟩ by unfold Addr.add; split <;> simp_all]
          rw [cellsOf_heap (heap_alloc_new wy _)]
          simpa using hu
        case c2 =>
          intro u hu
          simp only [List.mem_cons, List.not_mem_nil, or_false] at hu
          rcases hu with rfl | rfl | rfl | rfl | rfl | rfl <;> rfl
        case c3 => unfold maxLen; omega
        case c4 => omega
        case c5 => have h6 := HB2.out.size; simp; omega
        intro v' w4 hown' hgrow hnn
        have HR4 : Hid (w4.ownsRow w.heap.size 41 6 v' (c ++ gones k0 (j + 1)).length (rowC number (c ++ gones k0 (j + 1)))) := Lib.hid (by
          rw [HC.out, List.length_append]
          have : rowC number (C ++ [(k0 + j, [])]) = rowC number C ++ [.int .i64 number, .int .i64 3, .string ⟨#[]⟩, .int .i64 ((k0 : Int) + (j : Int)), .string ⟨#[]⟩, .bool true] := by
            unfold rowC
            rw [List.flatMap_append]
            congr 1
          rw [this]
          exact hown')
        have HB4 : Hid (Below w.heap.size w w4) := Lib.hid ((HB2.out.alloc HB2.out.size _).grown hgrow (by have := HB2.out.size; simp; omega) (fun k hk => (HR.out.lt k hk).1))
        clear hown' hgrow hnn HR HC HCL
        go_wp2
        go_roundw
        case rel => exact ⟨j + 1, by omega, by go_num, HR4, HB4⟩
        case measure => simp [intOf]; omega
      · have g2 : ¬ ((k0 + j : Nat) : Int) < (E : Int) + 1 := by omega
        obtain rfl : j = E + 1 - k0 := by omega
        go_wp2_with fail
        go_ret
        exact ⟨_, c, rfl, HA.out, HR.out, HB2.out⟩

end Go.Proofs.YthpdmgefdaegmaaDoor
