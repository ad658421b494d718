/- Slices of strings that are read: strings.Join, slices.Equal and the law's own comparison. -/
import Derived.Test.YtgpknilmfkcneaaDoorRSplit
import Derived.Deep.QuietTactic
import Derived.BigQuiet
import Derived.Deep.Draws
namespace Go.Proofs.YtgpknilmfkcneaaDoor
open Go.RowKit
set_option linter.unusedVariables false
set_option linter.unusedSimpArgs false

/-- The slice v reads as these parts. -/
def StrsAt (w : World) (v : Value) (ps : List (List UInt8)) : Prop :=
  ∃ a c, v = .slice a ps.length c ∧ ps.length ≤ c ∧ (ps = [] ∨ ∃ b o, a = some ⟨b, o, none⟩ ∧ ∀ j (hj : j < ps.length), w.cell? ⟨b, o + j, none⟩ = some (strV ps[j]))
theorem StrsAt.of_parts {w : World} {B : Nat} {v : Value} {ps : List (List UInt8)} (h : Parts w B v ps) : StrsAt w v ps := by
  rcases h.2 with ⟨rfl, h0⟩ | ⟨g, cap, cur, rfl, hb, hh, hle, hm, hs, ht⟩
  · have : ps = [] := List.length_eq_zero_iff.1 h0
    subst this
    exact ⟨none, 0, rfl, Nat.le_refl _, .inl rfl⟩
  · refine ⟨_, cap, rfl, hle, .inr ⟨g, 0, rfl, fun j hj => ?_⟩⟩
    rw [Nat.zero_add, World.ownsRow.cellAt h j (by omega)]
    simp [hj]
theorem StrsAt.keep {w w' : World} {v : Value} {ps : List (List UInt8)} (h : StrsAt w v ps) (hw : ∀ a u, w.cell? a = some u → w'.cell? a = some u) : StrsAt w' v ps := by
  obtain ⟨a, c, rfl, hc, h | ⟨b, o, rfl, h⟩⟩ := h
  · exact ⟨a, c, rfl, hc, .inl h⟩
  · exact ⟨_, c, rfl, hc, .inr ⟨b, o, rfl, fun j hj => hw _ _ (h j hj)⟩⟩
theorem below_cell {w w' : World} (h : Below w.heap.size w w') (a : Addr) (u : Value) (ha : w.cell? a = some u) : w'.cell? a = some u :=
  (h.cell (p := a) (World.block_lt_of_cell? _ _ ha)).trans ha
theorem StrsAt.below {w w' : World} {v : Value} {ps : List (List UInt8)} (h : StrsAt w v ps) (hb : Below w.heap.size w w') : StrsAt w' v ps := h.keep (below_cell hb)
theorem StrsAt.drewN {w : World} {v : Value} {ps : List (List UInt8)} (h : StrsAt w v ps) (n : Nat) : StrsAt (w.drewN n) v ps := h.keep (fun _ _ h => h)

theorem strs_bytes (ps : List (List UInt8)) : (ps.map (fun p => (⟨p.toArray⟩ : ByteArray))).map (·.data.toList) = ps := by
  rw [List.map_map]
  refine (List.map_congr_left (fun p _ => ?_)).trans (List.map_id ps)
  simp

theorem joins_any {w : World} {v : Value} {ps : List (List UInt8)} (h : StrsAt w v ps) (hN : ps.length ≤ 140737488355328) (hlen : ([47].intercalate ps).length ≤ 140737488355328) :
    Calls Tryd.prog 19 #[v, .string ⟨#[47]⟩] w fun e w' => e = .returned (.string ⟨([47].intercalate ps).toArray⟩) ∧ Below w.heap.size w w' := by
  obtain ⟨a, c, rfl, hc, rfl | ⟨b, o, rfl, h⟩⟩ := h
  · exact (Tryd.strings_Join_none a c ⟨#[47]⟩ w).mono fun e w' ⟨he, hw⟩ => ⟨he, hw ▸ Below.refl _ _⟩
  · cases ps with
    | nil => exact (Tryd.strings_Join_none _ c ⟨#[47]⟩ w).mono fun e w' ⟨he, hw⟩ => ⟨he, hw ▸ Below.refl _ _⟩
    | cons p0 ps0 =>
      generalize hps : p0 :: ps0 = ps at *
      have hbk : b < w.heap.size := World.block_lt_of_cell? _ _ (h 0 (by rw [← hps]; simp))
      have h1 := Tryd.strings_Join b o c (ps.map (fun p => (⟨p.toArray⟩ : ByteArray))) ⟨#[47]⟩ w (fun j x hx => by
        rw [List.getElem?_map] at hx
        cases hj : ps[j]? with
        | none => rw [hj] at hx; cases hx
        | some p =>
          rw [hj] at hx
          obtain ⟨hj2, hj3⟩ := List.getElem?_eq_some_iff.1 hj
          rw [h j hj2, hj3]
          simp at hx
          rw [← hx]; rfl) hbk (by simpa using hN) (by simpa using hc) (by rw [strs_bytes]; exact hlen)
      rw [strs_bytes, List.length_map] at h1
      exact h1

theorem getD_str (ps : List (List UInt8)) (j : Nat) (hj : j < ps.length) : Value.string ((ps.map (fun p => (⟨p.toArray⟩ : ByteArray))).getD j ByteArray.empty) = strV ps[j] := by
  rw [List.getD_eq_getElem?_getD, List.getElem?_map, List.getElem?_eq_getElem hj]; rfl
theorem map_inj (ps qs : List (List UInt8)) : (ps.map (fun p => (⟨p.toArray⟩ : ByteArray)) = qs.map (fun p => (⟨p.toArray⟩ : ByteArray))) = (ps = qs) :=
  propext ⟨fun h => by
    have := congrArg (List.map (fun x : ByteArray => x.data.toList)) h
    rwa [strs_bytes, strs_bytes] at this, fun h => by rw [h]⟩

theorem equals_any {w : World} {v u : Value} {ps qs : List (List UInt8)} (h : StrsAt w v ps) (k : StrsAt w u qs) (hN : ps.length ≤ 140737488355328) (hM : qs.length ≤ 140737488355328) :
    Calls Tryd.prog 15 #[v, u] w fun e w' => e = .returned (.bool (decide (ps = qs))) ∧ ∃ n, w' = w.drewN n := by
  obtain ⟨a, c, rfl, hc, h⟩ := h
  obtain ⟨a', c', rfl, hc', k⟩ := k
  by_cases hl : ps.length = qs.length
  · rcases h with h | ⟨b, o, rfl, h⟩
    · subst h
      have : qs = [] := List.length_eq_zero_iff.1 hl.symm
      subst this
      exact (Tryd.slices_Equal_string_empty a a' c 0 c' w (by omega)).mono fun e w' ⟨he, hw⟩ => ⟨he, 0, hw⟩
    · rcases k with k | ⟨b', o', rfl, k⟩
      · subst k
        have : ps = [] := List.length_eq_zero_iff.1 hl
        subst this
        exact (Tryd.slices_Equal_string_empty (some ⟨b, o, none⟩) a' c 0 c' w (by omega)).mono fun e w' ⟨he, hw⟩ => ⟨he, 0, hw⟩
      · have h1 := Tryd.slices_Equal_string b o ps.length c b' o' qs.length c' (ps.map (fun p => (⟨p.toArray⟩ : ByteArray))) (qs.map (fun p => (⟨p.toArray⟩ : ByteArray))) w (by simp) (by simp) (by omega) (by omega)
          (fun j hj => by rw [getD_str _ _ (by simpa using hj)]; exact h j (by simpa using hj)) (fun j hj => by rw [getD_str _ _ (by simpa using hj)]; exact k j (by simpa using hj))
        rw [List.take_of_length_le (by simp), List.take_of_length_le (by simp)] at h1
        simp only [map_inj] at h1
        exact h1
  · have : decide (ps = qs) = false := decide_eq_false (fun e => hl (by rw [e]))
    rw [this]
    exact (Tryd.slices_Equal_string_lens a a' ps.length c qs.length c' w hl).mono fun e w' ⟨he, hw⟩ => ⟨he, 0, hw⟩

set_option maxHeartbeats 800000 in
theorem texts_any {w : World} {v u : Value} {ps qs : List (List UInt8)} (h : StrsAt w v ps) (k : StrsAt w u qs) (hN : ps.length ≤ 140737488355328) (hM : qs.length ≤ 140737488355328) :
    Calls Tryd.prog 9 #[v, u] w fun e w' => e = .returned (.bool (decide (ps = qs))) ∧ ∃ n, w' = w.drewN n := by
  obtain ⟨a, c, rfl, hc, h⟩ := h
  obtain ⟨a', c', rfl, hc', k⟩ := k
  by_cases hl : ps.length = qs.length
  · have bl : ((ps.length : Int) != (qs.length : Int)) = false := by simp; omega
    rw [← hl]
    have HLL := Lib.hid hl
    have bl : ((ps.length : Int) != (ps.length : Int)) = false := by simp
    clear hl
    go_enter Tryd.func9, Tryd.ntmps9
    go_wp2_with fail
    go_loopw [5] (fun i wr => ∃ j n : Nat, j ≤ ps.length ∧ i = .int .i64 j ∧ wr = w.drewN n ∧ Hid (ps.take j = qs.take j)) (fun i _ => ps.length - (intOf i).toNat)
    case atStart => exact ⟨0, 0, by omega, rfl, rfl, Lib.hid rfl⟩
    case round =>
      obtain ⟨j, n, hj, rfl, rfl, HE⟩ := hrel
      by_cases hlt : j < ps.length
      · have hlq : j < qs.length := by have := HLL.out; omega
        obtain ⟨b, o, rfl, h2⟩ := h.resolve_left (by intro e; rw [e] at hlt; simp at hlt)
        obtain ⟨b', o', rfl, k2⟩ := k.resolve_left (by intro e; rw [e] at hlq; simp at hlq)
        have hc1 : w.cell? ⟨b, o + j, none⟩ = some (strV ps[j]) := h2 j hlt
        have hc2 : w.cell? ⟨b', o' + j, none⟩ = some (strV qs[j]) := k2 j (by have := HLL.out; omega)
        have HT : Hid (ps[j] = qs[j] → ps.take (j + 1) = qs.take (j + 1)) := Lib.hid (fun e => by
          rw [List.take_succ_eq_append_getElem hlt, List.take_succ_eq_append_getElem hlq, HE.out, e])
        have HF : Hid (¬ ps[j] = qs[j] → ¬ ps = qs) := Lib.hid (fun e e2 => e (by simp [e2]))
        generalize ps[j] = x at *
        generalize qs[j] = y at *
        unfold strV at hc1 hc2
        obtain ⟨X, hX⟩ : ∃ X : ByteArray, X = ⟨x.toArray⟩ := ⟨_, rfl⟩
        obtain ⟨Y, hY⟩ : ∃ Y : ByteArray, Y = ⟨y.toArray⟩ := ⟨_, rfl⟩
        rw [← hX] at hc1
        rw [← hY] at hc2
        have HX2 : Hid (X.toList = Y.toList ↔ x = y) := Lib.hid (by rw [hX, hY, ByteArray.toList_eq, ByteArray.toList_eq])
        clear hX hY h k h2 k2
        have h0 : (0 : Int) ≤ (j : Int) := by omega
        have h1 : (j : Int) < (ps.length : Int) := by omega
        by_cases hxy : X.toList = Y.toList
        · have e1 : (X.toList == Y.toList) = true := by simpa using hxy
          have e2 : (X.toList != Y.toList) = false := by simpa using hxy
          have HE2 := Lib.hid (HT.out (HX2.out.1 hxy))
          clear hxy
          go_upto_region 6 with fail
          go_quiet (fail)
          go_wp2_with fail
          go_roundw
          case rel => exact ⟨j + 1, _, by omega, by go_num, rfl, HE2⟩
          case measure => simp [intOf]; omega
        · have e1 : (X.toList == Y.toList) = false := by simpa using hxy
          have e2 : (X.toList != Y.toList) = true := by simpa using hxy
          have HE2 := Lib.hid (HF.out (fun e => hxy (HX2.out.2 e)))
          clear hxy
          go_upto_region 6 with fail
          go_quiet (fail)
          go_wp2_with fail
          go_ret
          exact ⟨by rw [decide_eq_false HE2.out]; rfl, _, World.drewN_drewN _ _ _⟩
      · have HQ : Hid (ps = qs) := Lib.hid (by
          have := HE.out
          rwa [List.take_of_length_le (by omega), List.take_of_length_le (by have := HLL.out; omega)] at this)
        go_wp2_with fail
        go_ret
        exact ⟨by rw [decide_eq_true HQ.out]; rfl, n, rfl⟩
  · have bl : ((ps.length : Int) != (qs.length : Int)) = true := by simp; omega
    have HD : Hid (decide (ps = qs) = false) := Lib.hid (decide_eq_false (fun e => hl (by rw [e])))
    clear hl
    go_enter Tryd.func9, Tryd.ntmps9
    go_wp2_with fail
    go_ret
    exact ⟨by rw [HD.out]; rfl, 0, rfl⟩

end Go.Proofs.YtgpknilmfkcneaaDoor
