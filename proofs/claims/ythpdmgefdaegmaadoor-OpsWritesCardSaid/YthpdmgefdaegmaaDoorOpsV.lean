/- The laws of ops: same. -/
import Derived.Test.YthpdmgefdaegmaaDoorOpsU
import Derived.Deep.QuietTactic
import Derived.BigQuiet
namespace Go.Proofs.YthpdmgefdaegmaaDoor
open Go.RowKit
set_option linter.unusedVariables false
set_option linter.unusedSimpArgs false

/-- The program's changes are the document's. -/
structure Alike (cs ws : List (Nat × List UInt8)) : Prop where
  len : cs.length = ws.length
  all : ∀ i (h : i < cs.length) (h2 : i < ws.length), cs[i].1 = ws[i].1 ∧ ChgOf cs[i].2 ws[i].2 ∧ ws[i].1 < 4294967296 ∧ ws[i].2.length ≤ 64
theorem rowW_get (n : Nat) (cs : List (Nat × List UInt8)) (i q : Nat) (hi : i < cs.length) (hq : q < 3) : (rowW n cs)[i * 3 + q]? = (madeL n (cs[i]'hi).1 (cs[i]'hi).2)[q]? := by
  unfold rowW
  induction cs generalizing i with
  | nil => simp at hi
  | cons x cs ih =>
    rw [List.flatMap_cons]
    cases i with
    | zero => rw [List.getElem?_append_left (by simp [madeL]; omega), Nat.zero_mul, Nat.zero_add]; rfl
    | succ i =>
      rw [List.getElem?_append_right (by simp [madeL]; omega)]
      have := ih i (by simpa using hi)
      rw [show (i + 1) * 3 + q - (madeL n x.1 x.2).length = i * 3 + q by simp [madeL]; omega, this]
      rfl
theorem own_cells {w : World} {B k : Nat} {e : TypeId} {v : Value} {n : Nat} {xs : List Value} (h : w.ownsRow B e k v n xs) (hn : 0 < n) :
    ∃ g cap, v = .slice (some ⟨g, 0, none⟩) n cap ∧ n ≤ cap ∧ cap ≤ maxLen ∧ ∀ i, i < n * k → w.cell? ⟨g, i, none⟩ = xs[i]? := by
  rcases h.2 with ⟨_, h0⟩ | ⟨g, cap, cur, rfl, h1, h2, h3, h4, h5, h6⟩
  · omega
  · exact ⟨g, cap, rfl, h3, h4, fun i hi => h.cellAt i hi⟩
theorem own_shape {w : World} {B k : Nat} {e : TypeId} {v : Value} {n : Nat} {xs : List Value} (h : w.ownsRow B e k v n xs) : ∃ a cap, v = .slice a n cap := by
  rcases h.2 with ⟨h, h0⟩ | ⟨g, cap, cur, hv, _⟩
  · exact ⟨_, _, by rw [h, h0]⟩
  · exact ⟨_, cap, hv⟩

set_option maxHeartbeats 4000000 in
set_option maxRecDepth 100000 in
theorem same_law {w : World} {v1 v2 : Value} {B1 B2 n : Nat} {cs ws : List (Nat × List UInt8)} (hn : n ≤ 1099511627776) (h1 : w.ownsRow B1 41 6 v1 cs.length (rowC n cs)) (h2 : w.ownsRow B2 59 3 v2 ws.length (rowW n ws)) (ha : Alike cs ws) :
    Calls Tryd.prog 14 #[v1, v2] w fun e w' => e = .returned (.bool true) ∧ Below w.heap.size w w' := by
  obtain ⟨a1, c1, rfl⟩ := own_shape h1
  obtain ⟨a2, c2, rfl⟩ := own_shape h2
  have hlen := ha.len
  have HA := Lib.hid ha
  have HO1 := Lib.hid h1
  have HO2 := Lib.hid h2
  obtain ⟨L, hL⟩ : ∃ L, L = cs.length := ⟨_, rfl⟩
  rw [← hlen, ← hL]
  have HL := Lib.hid hL
  have HLL := Lib.hid hlen
  have hLm : (L : Int) ≤ 9223372036854775807 := by
    rcases Nat.eq_zero_or_pos L with h | h
    · omega
    · obtain ⟨g, cap, _, h3, h4, _⟩ := own_cells h1 (by omega)
      unfold maxLen at h4
      omega
  clear ha h1 h2 hlen hL
  go_enter Tryd.func14, Tryd.ntmps14
  go_wp2_with fail
  go_loopw [5] (fun si wr => ∃ i : Nat, i ≤ L ∧ si = .int .i64 (i : Int) ∧ Hid (Below w.heap.size w wr)) (fun si _ => L - (intOf si).toNat)
  case atStart => exact ⟨0, by omega, rfl, Lib.hid (Below.refl _ _)⟩
  case round =>
    obtain ⟨i, hi, rfl, HB⟩ := hrel
    obtain ⟨wy, rfl⟩ : ∃ wy : World, wy = wr := ⟨_, rfl⟩
    by_cases hlt : i < L
    · have g1 : (i : Int) < (L : Int) := by omega
      have hc1 : i < cs.length := by rw [← HL.out]; exact hlt
      have hc2 : i < ws.length := by rw [← HLL.out]; exact hc1
      obtain ⟨g, cap, hva, hq1, hq2, hcell⟩ := own_cells HO1.out (by omega)
      obtain ⟨rfl, rfl⟩ : a1 = some ⟨g, 0, none⟩ ∧ c1 = cap := by simpa using hva
      obtain ⟨g', cap', hva', hq1', hq2', hcell'⟩ := own_cells HO2.out (by omega)
      obtain ⟨rfl, rfl⟩ : a2 = some ⟨g', 0, none⟩ ∧ c2 = cap' := by simpa using hva'
      obtain ⟨hk1, hct, hk2, hul⟩ := HA.out.all i hc1 hc2
      obtain ⟨k, hk⟩ : ∃ k, k = (cs[i]).1 := ⟨_, rfl⟩
      obtain ⟨t, ht⟩ : ∃ t, t = (cs[i]).2 := ⟨_, rfl⟩
      obtain ⟨u, hu⟩ : ∃ u, u = (ws[i]).2 := ⟨_, rfl⟩
      rw [← ht, ← hu] at hct
      rw [← hu] at hul
      rw [← hk1, ← hk] at hk2
      have hwk : (ws[i]).1 = k := by rw [← hk1, hk]
      have x0 : w.cell? ⟨g, i * 6, none⟩ = some (.int .i64 (n : Int)) := by have := hcell (i * 6 + 0) (by omega); rw [rowC_get _ _ _ _ hc1 (by omega)] at this; exact this
      have x1 : w.cell? ⟨g, i * 6 + 1, none⟩ = some (.int .i64 3) := by rw [hcell _ (by omega), rowC_get _ _ _ _ hc1 (by omega)]; rfl
      have x2 : w.cell? ⟨g, i * 6 + 2, none⟩ = some (.string ⟨#[]⟩) := by rw [hcell _ (by omega), rowC_get _ _ _ _ hc1 (by omega)]; rfl
      have x3 : w.cell? ⟨g, i * 6 + 3, none⟩ = some (.int .i64 (k : Int)) := by rw [hcell _ (by omega), rowC_get _ _ _ _ hc1 (by omega), hk]; rfl
      have x4 : w.cell? ⟨g, i * 6 + 4, none⟩ = some (.string (strB t)) := by rw [hcell _ (by omega), rowC_get _ _ _ _ hc1 (by omega), ht]; rfl
      have x5 : w.cell? ⟨g, i * 6 + 5, none⟩ = some (.bool t.isEmpty) := by rw [hcell _ (by omega), rowC_get _ _ _ _ hc1 (by omega), ht]; rfl
      have y0 : w.cell? ⟨g', i * 3, none⟩ = some (.string (strB (keyL n k))) := by have := hcell' (i * 3 + 0) (by omega); rw [rowW_get _ _ _ _ hc2 (by omega), hwk] at this; exact this
      have y1 : w.cell? ⟨g', i * 3 + 1, none⟩ = some (.string (strB u)) := by rw [hcell' _ (by omega), rowW_get _ _ _ _ hc2 (by omega), hu]; rfl
      have y2 : w.cell? ⟨g', i * 3 + 2, none⟩ = some (.bool u.isEmpty) := by rw [hcell' _ (by omega), rowW_get _ _ _ _ hc2 (by omega), hu]; rfl
      have hen := fun W => encode_any n k W hn hk2
      unfold keyV at hen
      have HP := Lib.hid (fun W => plain_any t u W hct hul)
      obtain ⟨X, hX⟩ : ∃ X, X = strB (keyL n k) := ⟨_, rfl⟩
      obtain ⟨Y, hY⟩ : ∃ Y, Y = strB t := ⟨_, rfl⟩
      obtain ⟨Z, hZ⟩ : ∃ Z, Z = strB u := ⟨_, rfl⟩
      rw [← hX] at hen y0
      rw [← hY] at HP x4
      rw [← hZ] at HP y1
      have HEN := Lib.hid hen
      have sX : (X.toList == X.toList) = true := by simp
      have sX2 : (X.toList != X.toList) = false := by simp
      have sZ : (Z.toList == Z.toList) = true := by simp
      have sZ2 : (Z.toList != Z.toList) = false := by simp
      have z0 := below_cell HB.out _ _ x0
      have z1 := below_cell HB.out _ _ x1
      have z2 := below_cell HB.out _ _ x2
      have z3 := below_cell HB.out _ _ x3
      have z4 := below_cell HB.out _ _ x4
      have z5 := below_cell HB.out _ _ x5
      have v0 := below_cell HB.out _ _ y0
      have v1 := below_cell HB.out _ _ y1
      have v2 := below_cell HB.out _ _ y2
      by_cases hu0 : u = []
      · have htt : t = [] := by
          rcases hct with ⟨_, h⟩ | ⟨h, _⟩
          · exact h
          · exact absurd hu0 h
        have hYZ : Y = Z := by rw [hY, hZ, htt, hu0]
        rw [htt] at z5 x5
        rw [hu0] at v2 y2
        rw [show ([] : List UInt8).isEmpty = true from rfl] at z5 v2
        rw [hYZ] at z4
        clear hva hva' hcell hcell' hct hk1 hk ht hu hwk hen hX hY hZ HP x0 x1 x2 x3 x4 x5 y0 y1 y2 hu0 htt hYZ
        go_wp2_with fail
        refine (HEN.out _).mono ?_; rintro e w1 ⟨rfl, hb1⟩
        have z1' := below_cell hb1 _ _ z1
        have z4' := below_cell hb1 _ _ z4
        have z5' := below_cell hb1 _ _ z5
        have v0' := below_cell hb1 _ _ v0
        have v1' := below_cell hb1 _ _ v1
        have v2' := below_cell hb1 _ _ v2
        have HB1 := Lib.hid (below_on HB.out hb1)
        clear hb1 z0 z1 z2 z3 z4 z5 v0 v1 v2
        go_wp2_with fail
        go_quiet (fail)
        obtain ⟨wq, hwq⟩ : ∃ wq, wq = w1.drewN nq := ⟨_, rfl⟩
        have hbq : Below w1.heap.size w1 wq := by rw [hwq]; exact below_drewN (Below.refl _ _) nq
        have z1 := below_cell hbq _ _ z1'
        have z4 := below_cell hbq _ _ z4'
        have z5 := below_cell hbq _ _ z5'
        have v1 := below_cell hbq _ _ v1'
        have HBQ := Lib.hid (below_on HB1.out hbq)
        rw [← hwq]
        clear hwq hbq z1' z4' z5' v0' v1' v2'
        go_wp2_with fail
        exact ⟨⟨i + 1, by omega, by go_num, HBQ⟩, by simp [intOf]; omega⟩
      · have htt : t ≠ [] := hct.some hu0
        have ht1 : t.isEmpty = false := by simpa using htt
        have hu1 : u.isEmpty = false := by simpa using hu0
        have hd : decide (u ≠ []) = true := by simpa using hu0
        rw [ht1] at z5
        rw [hu1] at v2
        rw [hd] at HP
        clear hva hva' hcell hcell' hct hk1 hk ht hu hwk hen hX hY hZ x0 x1 x2 x3 x4 x5 y0 y1 y2 hu0 htt ht1 hu1 hd
        go_wp2_with fail
        refine (HEN.out _).mono ?_; rintro e w1 ⟨rfl, hb1⟩
        have z1' := below_cell hb1 _ _ z1
        have z4' := below_cell hb1 _ _ z4
        have z5' := below_cell hb1 _ _ z5
        have v0' := below_cell hb1 _ _ v0
        have v1' := below_cell hb1 _ _ v1
        have v2' := below_cell hb1 _ _ v2
        have HB1 := Lib.hid (below_on HB.out hb1)
        clear hb1 z0 z1 z2 z3 z4 z5 v0 v1 v2
        go_wp2_with fail
        go_quiet (fail)
        obtain ⟨wq, hwq⟩ : ∃ wq, wq = w1.drewN nq := ⟨_, rfl⟩
        have hbq : Below w1.heap.size w1 wq := by rw [hwq]; exact below_drewN (Below.refl _ _) nq
        have z1 := below_cell hbq _ _ z1'
        have z4 := below_cell hbq _ _ z4'
        have z5 := below_cell hbq _ _ z5'
        have v1 := below_cell hbq _ _ v1'
        have HBQ := Lib.hid (below_on HB1.out hbq)
        rw [← hwq]
        clear hwq hbq z1' z4' z5' v0' v1' v2'
        go_wp2_with fail
        refine (HP.out _).mono ?_; rintro e w3 ⟨rfl, hb3⟩
        have v1' := below_cell hb3 _ _ v1
        have HB3 := Lib.hid (below_on HBQ.out hb3)
        clear hb3 v1 z1 z4 z5
        go_wp2_with fail
        exact ⟨⟨i + 1, by omega, by go_num, HB3⟩, by simp [intOf]; omega⟩
    · have g1 : ¬ (i : Int) < (L : Int) := by omega
      go_wp2_with fail
      go_ret
      exact ⟨rfl, HB.out⟩

end Go.Proofs.YthpdmgefdaegmaaDoor
