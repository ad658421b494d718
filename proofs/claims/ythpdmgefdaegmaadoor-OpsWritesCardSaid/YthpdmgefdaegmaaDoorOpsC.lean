/- Package ops: Read. -/
import Derived.Test.YthpdmgefdaegmaaDoorOpsB
import Derived.Laws.BytesString
namespace Go.Proofs.YthpdmgefdaegmaaDoor
open Go.RowKit
set_option linter.unusedVariables false
set_option linter.unusedSimpArgs false

theorem info_parts {o : Option TypeInfo} {z : Value} {n b : Nat} (h : o.map (fun i => (i.zero, i.size, i.bytes)) = some (some z, n, b)) : ∃ i, o = some i ∧ i.zero = some z ∧ i.size = n ∧ i.bytes = b := by
  cases o with
  | none => cases h
  | some i => simp at h; exact ⟨i, rfl, h.1, h.2.1, h.2.2⟩
theorem infoByte : (Tryd.prog.info? 5).map (fun i => (i.zero, i.size, i.bytes)) = some (some (.int .u8 0), 1, 1) := by kernel_rfl
theorem ownsRow_below {B : Nat} {e : TypeId} {k : Nat} {v : Value} {n : Nat} {xs : List Value} {w w' : World} (h : w.ownsRow B e k v n xs) (hb : Below w.heap.size w w') : w'.ownsRow B e k v n xs :=
  ⟨h.1, h.2.imp id fun ⟨g, cap, cur, h1, h2, h3, h4⟩ => ⟨g, cap, cur, h1, h2, (hb.block g (by
    rcases Nat.lt_or_ge g w.heap.size with h | h
    · exact h
    · rw [Array.getElem?_eq_none h] at h3; cases h3)).trans h3, h4⟩⟩
/-- The bytes of the pieces from .. from+n of a list. -/
def rowL (ps : List (List UInt8)) : Nat → List UInt8
  | 0 => []
  | n + 1 => rowL ps n ++ pieceL (atL ps n)
theorem rowL_len (ps : List (List UInt8)) (n : Nat) : (rowL ps n).length = n * 64 := by
  induction n with
  | zero => rfl
  | succ n ih => rw [rowL, List.length_append, ih, pieceL_len]; omega
/-- Read, in plain Lean. -/
def readL (size offset n : Int) (ps : List (List UInt8)) : List UInt8 :=
  if offset < 0 ∨ n < 1 ∨ size ≤ offset then [] else
    let m := min n (size - offset)
    let s := spanC offset m
    let all := rowL ps (s.2 - s.1).toNat
    if all = [] then [] else (all.drop (offset - s.1 * 64).toNat).take m.toNat

/-- The span's bounds, for bytes that are there. -/
theorem span_form (offset m : Int) (h : 0 ≤ offset) (h2 : 1 ≤ m) : ∃ F T : Nat, spanC offset m = ((F : Int), (T : Int)) ∧ F ≤ T ∧ T ≤ 257 ∧ (F < T → 0 ≤ offset - (F : Int) * 64 ∧ offset - (F : Int) * 64 + m ≤ ((T - F : Nat) : Int) * 64 ∧ m ≤ 8192 ∧ offset ≤ 8192) := by
  unfold spanC
  by_cases hc : offset < 0 ∨ m < 1 ∨ 8192 < offset ∨ 8192 < m
  · rw [if_pos hc]
    exact ⟨0, 0, rfl, by omega, by omega, by omega⟩
  · rw [if_neg hc]
    refine ⟨(offset / 64).toNat, ((offset + m - 1) / 64 + 1).toNat, ?_, by omega, by omega, fun hlt => by omega⟩
    rw [Int.toNat_of_nonneg (by omega), Int.toNat_of_nonneg (by omega)]

set_option maxHeartbeats 800000 in
set_option maxRecDepth 100000 in
theorem read_any {w : World} {v : Value} {ps : List (List UInt8)} (h : StrsAt w v ps) (hN : ps.length ≤ 9223372036854775807) (size offset n : Int) (hs : size ≤ 9223372036854775807) :
    Calls Tryd.prog 9 #[.int .i64 size, .int .i64 offset, .int .i64 n, v] w fun e w' => e = .returned (.string (strB (readL size offset n ps))) ∧ Below w.heap.size w w' := by
  by_cases h1 : offset < 0
  · have hv : readL size offset n ps = [] := if_pos (.inl h1)
    have HV := Lib.hid hv
    clear hv h
    go_enter Tryd.func9, Tryd.ntmps9
    go_wp2_with fail
    go_ret
    exact ⟨by rw [HV.out]; rfl, Below.refl _ _⟩
  by_cases h2 : n < 1
  · have hv : readL size offset n ps = [] := if_pos (.inr (.inl h2))
    have HV := Lib.hid hv
    clear hv h
    go_enter Tryd.func9, Tryd.ntmps9
    go_wp2_with fail
    go_ret
    exact ⟨by rw [HV.out]; rfl, Below.refl _ _⟩
  by_cases h3 : size ≤ offset
  · have hv : readL size offset n ps = [] := if_pos (.inr (.inr h3))
    have HV := Lib.hid hv
    clear hv h
    go_enter Tryd.func9, Tryd.ntmps9
    go_wp2_with fail
    go_ret
    exact ⟨by rw [HV.out]; rfl, Below.refl _ _⟩
  have h3' : ¬ offset ≥ size := h3
  have hw1 : wrap64 (size - offset) = size - offset := IntWalk.wrap64_in _ (by omega)
  obtain ⟨m, hm⟩ : ∃ m, m = min n (size - offset) := ⟨_, rfl⟩
  obtain ⟨F, T, hsp, hFT, hT, hin⟩ := span_form offset m (by omega) (by omega)
  have hv : readL size offset n ps = if rowL ps (T - F) = [] then [] else ((rowL ps (T - F)).drop (offset - F * 64).toNat).take m.toNat := by
    unfold readL
    rw [if_neg (by omega), ← hm]
    simp only [hsp]
    rw [show ((T : Int) - (F : Int)).toNat = T - F by omega]
  have HV := Lib.hid hv
  clear hv
  have HS := Lib.hid h
  clear h
  have HIN := Lib.hid hin
  clear hin
  have hsa := span_any offset m w
  rw [hsp] at hsa
  have hm1 : 1 ≤ m := by omega
  have HM := Lib.hid hm
  clear hm
  obtain ⟨i0, hi, hz0, hz1, hz2⟩ := info_parts infoByte
  go_enter Tryd.func9, Tryd.ntmps9
  go_wp2_with fail
  rw [← HM.out]
  refine hsa.mono ?_; rintro e w' ⟨rfl, rfl⟩
  clear hsa
  go_wp2_with fail
  go_loopw [11, 12] (fun sa sk wr => ∃ j : Nat, F + j ≤ T ∧ sk = .int .i64 ((F + j : Nat) : Int) ∧ Hid (wr.ownsRow w.heap.size 5 1 sa (j * 64) ((rowL ps j).map byteV)) ∧ Hid (Below w.heap.size w wr)) (fun _ k _ => T - (intOf k).toNat)
  case atStart => exact ⟨0, by omega, by simp, Lib.hid (by simpa [rowL] using World.ownsRow_nil w w.heap.size 5 1), Lib.hid (Below.refl _ _)⟩
  case round =>
    obtain ⟨j, hj, rfl, HO, HB⟩ := hrel
    by_cases hlt : F + j < T
    · have g1 : ((F + j : Nat) : Int) < (T : Int) := by omega
      have g2 : wrap64 (((F + j : Nat) : Int) - (F : Int)) = (j : Int) := by rw [IntWalk.wrap64_in _ (by omega)]; omega
      go_wp2_with fail
      rw [show (F : Int) + (j : Int) - (F : Int) = (j : Int) by omega]
      refine (at_any (HS.out.below HB.out) hN j).mono ?_; rintro e w1 ⟨rfl, rfl⟩
      generalize hX : strB (atL ps j) = X
      have HX := Lib.hid hX
      clear hX
      go_wp2_with fail
      refine (bytes_any _ _).mono ?_; rintro e w1 ⟨rfl, hc, B1⟩
      have hc2 := Lib.hid hc
      have HB1 := Lib.hid (below_on HB.out B1)
      have HO1 := Lib.hid (ownsRow_below HO.out B1)
      have hlt1 : wr.heap.size < w1.heap.size := World.block_lt_of_cell? w1 ⟨wr.heap.size, 0, none⟩ (u := byteV ((pieceL X.data.toList)[0]'(by rw [pieceL_len]; omega))) (by rw [cell_of_row _ _ _ _ _ _ hc, List.getElem?_toArray, List.getElem?_map, List.getElem?_eq_getElem (by rw [pieceL_len]; omega)]; rfl)
      clear hc B1
      obtain ⟨ys, hys⟩ : ∃ ys, ys = pieceL X.data.toList := ⟨_, rfl⟩
      have hyl : ys.length = 64 := by rw [hys, pieceL_len]
      rw [← hys] at hc2
      have HYS := Lib.hid hys
      clear hys
      have hn : j * 64 + 64 ≤ maxLen := by unfold maxLen; omega
      have hbd : (j * 64 + 64) * 1 ≤ 140737488355328 := by omega
      go_wp2_with (at_builtin; refine wpList_append_own _ rfl _ _ 25 rfl w.heap.size 5 i0 (.int .u8 0) 1 1 (by kernel_rfl) hi hz0 hz1 hz2 rfl (by decide) _ (j * 64) ((rowL ps j).map byteV) rfl HO1.out ⟨wr.heap.size, 0, none⟩ 64 64 (ys.map byteV) rfl (by rw [List.length_map, hyl]) ?c1 ?c2 hn hbd ?c5 ?_)
      case c1 =>
        intro i u hu
        rw [show (⟨wr.heap.size, 0, none⟩ : Addr).add i = ⟨wr.heap.size, i, none⟩ by unfold Addr.add; split <;> simp_all]
        rw [cell_of_row _ _ _ _ _ _ hc2.out]
        simpa using hu
      case c2 =>
        intro u hu
        obtain ⟨x, _, rfl⟩ := List.mem_map.1 hu
        simp [byteV, Value.oneCell']
      case c5 => have := HB1.out.size; omega
      intro v2 w2 hown2 hgrow _
      have HB2 := Lib.hid (HB1.out.grown hgrow (by have := HB1.out.size; omega) (fun k hk => (HO1.out.lt k hk).1))
      have HO2 : Hid (w2.ownsRow w.heap.size 5 1 v2 ((j + 1) * 64) ((rowL ps (j + 1)).map byteV)) := Lib.hid (by
        rw [rowL, List.map_append, show (j + 1) * 64 = j * 64 + 64 by omega]
        rw [HYS.out, ← HX.out, strB_list] at hown2
        exact hown2)
      clear hown2 hgrow
      go_wp2
      go_roundw
      case rel => exact ⟨j + 1, by omega, by go_num, HO2, HB2⟩
      case measure => simp [intOf]; omega
    · have g1 : ¬ ((F + j : Nat) : Int) < (T : Int) := by omega
      obtain rfl : T = F + j := by omega
      rw [show F + j - F = j by omega] at HV HIN
      by_cases hj0 : j = 0
      · subst hj0
        have HV2 : Hid (readL size offset n ps = []) := Lib.hid (by rw [HV.out]; rfl)
        have e0 : ∃ a c, u11 = .slice a 0 c := by
          rcases HO.out.2 with ⟨h, _⟩ | ⟨g, cap, cur, h, _⟩
          · exact ⟨_, _, h⟩
          · exact ⟨_, _, by simpa using h⟩
        obtain ⟨a, c, rfl⟩ := e0
        clear HV
        go_wp2_with fail
        go_ret
        exact ⟨by rw [HV2.out]; rfl, HB.out⟩
      · have hin := HIN.out (by omega)
        obtain ⟨st, hst⟩ : ∃ st : Nat, offset - (F : Int) * 64 = (st : Int) := ⟨(offset - (F : Int) * 64).toNat, by omega⟩
        obtain ⟨mm, rfl⟩ : ∃ mm : Nat, m = (mm : Int) := ⟨m.toNat, by omega⟩
        have e0 : ∃ g c, u11 = .slice (some ⟨g, 0, none⟩) (j * 64) c ∧ j * 64 ≤ c := by
          rcases HO.out.2 with ⟨_, h⟩ | ⟨g, cap, cur, h, _, _, h2, _⟩
          · omega
          · exact ⟨_, _, h, h2⟩
        obtain ⟨g, c, rfl, hjc⟩ := e0
        generalize hL : j * 64 = L at *
        obtain ⟨zs, hzs⟩ : ∃ zs, zs = ((rowL ps j).drop st).take mm := ⟨_, rfl⟩
        have hzl : zs.length = mm := by rw [hzs, List.length_take, List.length_drop, rowL_len]; omega
        have HVV : Hid (readL size offset n ps = zs) := Lib.hid (by
          rw [HV.out, if_neg (by intro e; have := rowL_len ps j; rw [e] at this; simp at this; omega), hst, hzs]
          rfl)
        have hcv : (convert 25 9 (.slice (some ⟨g, st, none⟩) mm (c - st))).run Tryd.prog wr = .ok (.string (strB zs)) wr := by
          have := run_convert_bytes_back (P := Tryd.prog) wr 25 9 5 ⟨g, st, none⟩ (c - st) zs (by kernel_rfl) (by kernel_rfl) (by kernel_rfl) (by
            intro i hi
            rw [show (⟨g, st, none⟩ : Addr).add i = ⟨g, st + i, none⟩ by unfold Addr.add; split <;> simp_all]
            rw [HO.out.cellAt (st + i) (by omega)]
            subst hzs
            rw [List.getElem?_map, List.getElem_take, List.getElem_drop, List.getElem?_eq_getElem]
            rfl)
          rw [hzl] at this
          exact this
        clear HV HIN hzs hsp hw1 HM
        have q5 : (st : Int) + (mm : Int) ≤ (L : Int) := by omega
        have q6 : (L : Int) ≤ (c : Int) := by omega
        have q8 : ¬ c = st := by omega
        have Q7 : ((L : Int) == 0) = false := by simp; omega
        have q1 : (F : Int) * 64 ≤ 9223372036854775807 := by omega
        have q2 : (st : Int) ≤ 16448 := by omega
        have q3 : (mm : Int) ≤ 8192 := by omega
        have q9 : (st : Int) + (mm : Int) ≤ 32768 := by omega
        have q10 : (F : Int) ≤ 257 := by omega
        have q11 : (st : Int) ≤ (st : Int) + (mm : Int) := by omega
        have q12 : (L : Int) ≤ 16448 := by omega
        clear hin hT hFT hm1
        go_wp2_with fail
        go_ret
        exact ⟨by rw [HVV.out]; rfl, HB.out⟩

end Go.Proofs.YthpdmgefdaegmaaDoor
