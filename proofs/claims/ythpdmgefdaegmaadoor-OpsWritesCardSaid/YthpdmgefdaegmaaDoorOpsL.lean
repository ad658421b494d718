/- The laws of ops: speaks. -/
import Derived.Test.YthpdmgefdaegmaaDoorOpsK
namespace Go.Proofs.YthpdmgefdaegmaaDoor
open Go.RowKit
set_option linter.unusedVariables false
set_option linter.unusedSimpArgs false

theorem strsAt_none (w : World) : StrsAt w (.slice none 0 0) [] := ⟨none, 0, rfl, Nat.le_refl _, .inl rfl⟩
theorem speaks_pure {cs : List (Nat × List UInt8)} {sz er : Int} (h : WriteR 0 62 [97, 98, 99, 100] [] cs sz er) : ∃ t0 t1, cs = [(0, t0), (1, t1)] ∧ t1 ≠ [] ∧ sz = 66 ∧ er = 0 := by
  unfold WriteR at h
  rw [if_neg (by decide), if_neg (by decide), if_neg (by decide)] at h
  obtain ⟨h1, h2, h3⟩ := h
  have h3' : WrTo 62 [97, 98, 99, 100] [] 0 2 cs := h3
  have inv : ∀ {j : Nat} {cs : List (Nat × List UInt8)}, WrTo 62 [97, 98, 99, 100] [] 0 (j + 1) cs → wrL 62 [97, 98, 99, 100] (0 + j) (atL [] j) ≠ pieceL (atL [] j) → ∃ cs' t, cs = cs' ++ [(0 + j, t)] ∧ WrTo 62 [97, 98, 99, 100] [] 0 j cs' ∧ ChgOf t (Lib.trimRightB (wrL 62 [97, 98, 99, 100] (0 + j) (atL [] j)) 0) := by
    intro j cs h hne
    cases h with
    | same _ he => exact absurd he hne
    | put hw _ hc => exact ⟨_, _, rfl, hw, hc⟩
  obtain ⟨c1, t1, rfl, h4, h5⟩ := inv h3' (by decide)
  obtain ⟨c0, t0, rfl, h6, h7⟩ := inv h4 (by decide)
  cases h6
  exact ⟨t0, t1, rfl, h5.some (by decide), h1, h2⟩

theorem own_cell {w : World} {B : Nat} {v : Value} {n : Nat} {xs : List Value} (h : w.ownsRow B 41 6 v n xs) (hn : 0 < n) :
    ∃ g cap, v = .slice (some ⟨g, 0, none⟩) n cap ∧ B ≤ g ∧ n ≤ cap ∧ cap ≤ maxLen ∧ ∀ i, i < n * 6 → w.cell? ⟨g, i, none⟩ = xs[i]? := by
  rcases h.2 with ⟨_, h0⟩ | ⟨g, cap, cur, rfl, h1, h2, h3, h4, h5, h6⟩
  · omega
  · refine ⟨g, cap, rfl, h1, h3, h4, fun i hi => ?_⟩
    exact h.cellAt i hi

set_option maxHeartbeats 1000000 in
set_option maxRecDepth 100000 in
theorem speaks_ok (w : World) : Calls Tryd.prog 7 #[] w fun e w' => e = .returned (.bool true) ∧ Below w.heap.size w w' := by
  have h := write_any (strsAt_none w) (by simp) 3 0 62 ⟨#[97, 98, 99, 100]⟩ (by decide)
  unfold WritePost at h
  have H := Lib.hid h
  clear h
  go_enter Tryd.func7, Tryd.ntmps7
  go_wp2_with fail
  refine H.out.mono ?_; rintro e w1 ⟨v, cs, sz, er, rfl, hr, hown, hb⟩
  obtain ⟨t0, t1, rfl, ht1, rfl, rfl⟩ := speaks_pure hr
  obtain ⟨g, cap, rfl, hg, hc1, hc2, hcell⟩ := own_cell hown (by simp)
  have a9 : w1.cell? ⟨g, 9, none⟩ = some (.int .i64 1) := hcell 9 (by simp)
  have a11 : w1.cell? ⟨g, 11, none⟩ = some (.bool false) := by
    have := hcell 11 (by simp)
    rw [this]
    cases t1 with
    | nil => exact absurd rfl ht1
    | cons x l => rfl
  have HB := Lib.hid hb
  clear hcell hown hr hb
  rw [show ([(0, t0), (1, t1)] : List (Nat × List UInt8)).length = 2 from rfl]
  go_wp2_with fail
  go_ret
  exact ⟨rfl, HB.out⟩

end Go.Proofs.YthpdmgefdaegmaaDoor
