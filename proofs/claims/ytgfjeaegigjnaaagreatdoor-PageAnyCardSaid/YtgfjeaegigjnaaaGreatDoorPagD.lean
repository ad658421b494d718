/- A law's geometry; is a page as if erased: the walks. -/
import Derived.Test.YtgfjeaegigjnaaaGreatDoorPagC
namespace Go.Proofs.YtgfjeaegigjnaaaGreatDoor
open Go.RowKit
set_option linter.unusedVariables false
set_option linter.unusedSimpArgs false

set_option maxHeartbeats 1600000 in
set_option maxRecDepth 100000 in
theorem geometry_any (g : Geo) (w : World) : Calls Tryz.prog 10 #[g.v] w fun e w' => e = .returned (.tuple #[g.v, g.v]) ∧ Below w.heap.size w w' := by
  obtain ⟨b, p, c, k, t⟩ := g
  unfold Geo.v
  go_enter Tryz.func10, Tryz.ntmps10
  go_wp2_with fail
  go_region_held3 (fun W' => W'.cell? ⟨w.heap.size, 0, none⟩ = some (.int .i64 b) ∧ W'.cell? ⟨w.heap.size, 1, none⟩ = some (.int .i64 p) ∧ W'.cell? ⟨w.heap.size, 2, none⟩ = some (.int .i64 c) ∧ W'.cell? ⟨w.heap.size, 3, none⟩ = some (.int .i64 k) ∧ W'.cell? ⟨w.heap.size, 4, none⟩ = some (.int .i64 t))
    (first | go_keep | (refine ⟨?_, ?_, ?_, ?_, ?_⟩ <;> go_simp)) (fail)
  go_wp2_with fail
  refine bodyPost_ret (v := .tuple #[.agg #[.int .i64 b, .int .i64 p, .int .i64 c, .int .i64 k, .int .i64 t], .agg #[.int .i64 b, .int .i64 p, .int .i64 c, .int .i64 k, .int .i64 t]]) (by simp [results, Tryz.results10, go_sem]) rfl ⟨rfl, (((Below.refl _ _).alloc (Nat.le_refl _) _).alloc (by simp) _).alloc (by simp; omega) _ |>.drew⟩
end Go.Proofs.YtgfjeaegigjnaaaGreatDoor
