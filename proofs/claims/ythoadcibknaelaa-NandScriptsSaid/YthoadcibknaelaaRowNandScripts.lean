/- NandScripts holds for every input: a chip through every script, beside the document's: each answer, the counts, the power. -/
import Derived.Test.YthoadcibknaelaaRows
import Derived.Test.YthoadcibknaelaaLScripts
import Derived.Test.YthoadcibknaelaaOpen
import Derived.WalkKit
import Derived.ProofKit
import Derived.OpenShut
import Derived.ShutString
import Derived.ChangeOld
import Derived.Below
import Derived.SizedLaws
import Derived.Carry
import Derived.ChangeSlices
namespace Go.Proofs.Ythoadcibknaelaa.nandScripts
open Go.ChangeShapes Go.WideShapes Go.ChangeAt Go.RowKit
open Go.ChangeMaps (open_string shut_string)
set_option linter.unusedVariables false
theorem own : ownKnob Try.prog.godebug = none := by kernel_rfl
theorem laidOut : laidOutB Try.prog = true := by kernel_rfl
set_option maxRecDepth 100000 in
theorem lifted (os : Os) (started : os.Started) (H : Type) (enc : TypeId × Value → H) :
    ReturnsInHanded {} Try.checked os 9 .any (Rows.nandScriptsSpec.pre6 enc Try.prog Try.f9 Rows.nandScriptsRow.domain false) (Rows.nandScriptsSpec.post enc Try.prog Try.f9 false true false false) := by
  refine returnsInHanded_of_change_sized (C := Try.checked) own started (by kernel_rfl) Try.func9
    (ChangeSpec.witness6 (enc := enc) (C := Try.checked) false ⟨#[], #[.agg #[.int .i64 0, .int .i64 0, .int .i64 0], .slice none 0 0], []⟩ 8 (by kernel_rfl) (by kernel_rfl) (by kernel_rfl) (by kernel_rfl)) ?_
  intro W base args ds gs before hval0 hW hcnd hsz0 _
  have hsz : (DataW.weightsEach Try.prog (Try.f9.params.toList ++ Rows.nandScriptsSpec.plain.varTypes Try.prog) (ds ++ gs)).all (· ≤ reachBytes) = true := hsz0
  have hval : ∀ (j : Nat) t v, Try.f9.params[j]? = some t → args[j]? = some v → Value.okWide Try.prog W .any base t v := hval0
  have hW' := hW
  obtain ⟨p, q, hA0, hV, rfl, hfz, hnd⟩ := hW
  have hA : DataW.TrodAll enc Try.prog W 0 (fun _ => true) true Try.f9.params.toList args.toList ds p := hA0
  rw [Try.params9] at hA hval hsz
  obtain ⟨v0, vs0, d0, ds0, p0, q0, hargs, rfl, rfl, h0, r0⟩ := trodAll_cons hA
  obtain ⟨v1, vs1, d1, ds1, p1, q1, rfl, rfl, rfl, h1, r1⟩ := trodAll_cons r0
  obtain ⟨rfl, rfl, rfl⟩ := trodAll_nil r1
  obtain rfl : args = #[v0, v1] := by cases args; simp_all
  obtain ⟨rfl, rfl⟩ := trodVars_none hV
  obtain ⟨x0, y0, z0, rfl⟩ := okWide_arr3 Try.underlying51 (by kernel_rfl) (hval 0 51 v0 rfl rfl)
  have k0 := h0
  have lt0 : ∀ x ∈ p0, x.block < W.heap.size := by obtain ⟨m, hm⟩ := k0; exact DataW.trod_lt m _ _ _ hm
  obtain ⟨a0, b0, c0, rfl, rfl, rfl, wa0, wb0, wc0⟩ := open_arr3 Try.underlying51 Try.underlying3 (by kernel_rfl) h0
  obtain ⟨a1, len1, cap1, rfl⟩ := okWide_slice Try.underlying39 (hval 1 39 v1 rfl rfl)
  have k1 := h1
  have lt1 : ∀ x ∈ p1, x.block < W.heap.size := by obtain ⟨m, hm⟩ := k1; exact DataW.trod_lt m _ _ _ hm
  have w1 : CellRow W a1 len1 cap1 5 (FieldOk [.int .i64, .int .i64, .int .i64, .int .i64, .int .u8]) := by
    obtain ⟨fuel, hf⟩ := h1
    refine open_cells Try.underlying39 Try.underlying41 (by kernel_rfl) (by kernel_rfl) hf ?_
    intro j f hj n v y hy
    match j, hj with
    | 0, hj =>
      obtain rfl : _ = f := by simpa using hj
      exact ⟨_, rfl, field_int Try.underlying3 hy⟩
    | 1, hj =>
      obtain rfl : _ = f := by simpa using hj
      exact ⟨_, rfl, field_int Try.underlying3 hy⟩
    | 2, hj =>
      obtain rfl : _ = f := by simpa using hj
      exact ⟨_, rfl, field_int Try.underlying3 hy⟩
    | 3, hj =>
      obtain rfl : _ = f := by simpa using hj
      exact ⟨_, rfl, field_int Try.underlying3 hy⟩
    | 4, hj =>
      obtain rfl : _ = f := by simpa using hj
      exact ⟨_, rfl, field_int Try.underlying5 hy⟩
    | n' + 5, hj => simp at hj
  clear hA0 hval0 hsz0 hsz
  refine (NandScripts_walk a0 b0 c0 a1 len1 cap1 W wa0 wb0 wc0 w1).mono fun e W' ⟨he, bel⟩ => ?_
  subst he
  exact ⟨_, rfl, _, _, _, [], _, [], hW', trodAll_mk1 (shut_bool Try.underlying4 _), (trodAll_cons_mk (Below.trod laidOut (by kernel_rfl) (of_decide_eq_true (by kernel_rfl)) k0 bel lt0) (trodAll_cons_mk (Below.trod laidOut (by kernel_rfl) (of_decide_eq_true (by kernel_rfl)) k1 bel lt1) trodAll_mk0)), rfl, bel.frame _, fun h => by cases h⟩
theorem over : Rows.nandScriptsRow.holds Try.pinned (OpenSpec.ofChange Rows.nandScriptsSpec) :=
  OpenClaim.holds_of_wide 9 Try.f9 rfl rfl rfl rfl rfl rfl rfl ⟨rfl, rfl, rfl, rfl, rfl⟩ rfl rfl rfl rfl rfl (by kernel_rfl) Try.func9 (by kernel_rfl)
    (of_decide_eq_true (by kernel_rfl)) (by unfold Func.isWrapper; first | (rw [if_pos (by decide +kernel)]; kernel_rfl) | (rw [if_neg (by decide +kernel)]; exact ⟨rfl, rfl⟩))
    (fun os started H enc _ => lifted os started H enc)
theorem proved : Rows.NandScriptsSaid := over
#print axioms proved
end Go.Proofs.Ythoadcibknaelaa.nandScripts
