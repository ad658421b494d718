/- The walk of the law NandNil. -/
import Derived.Test.YthoadcibknaelaaSpeaks
namespace Go.Proofs.Ythoadcibknaelaa
open Go.RowKit
set_option linter.unusedVariables false
set_option linter.unusedSimpArgs false

set_option maxHeartbeats 3200000 in
theorem NandNil_walk (a0 a1 : Int) (w0 : (Lit.int .i64 a0).wf = true) (w1 : (Lit.int .i64 a1).wf = true) (w : World) :
    Calls Try.prog 8 #[.int .i64 a0, .int .i64 a1] w fun e w' => e = .returned (.bool true) ∧ Below w.heap.size w w' := by
  clear w0 w1
  go_enter Try.func8, Try.ntmps8
  go_wp2_with fail
  refine (speaks_ok _).mono ?_; rintro e w1 ⟨rfl, hb⟩
  go_wp2_with (first
    | (go_at_call 18; refine (noise_nil _ _ _ _).mono ?_; rintro e w' ⟨rfl, rfl⟩)
    | (go_at_call 14; refine (cut_nil _ _ _).mono ?_; rintro e w' ⟨rfl, rfl⟩)
    | (go_at_call 16; refine (on_nil _).mono ?_; rintro e w' ⟨rfl, rfl⟩)
    | (go_at_call 17; refine (read_nil _ _ _).mono ?_; rintro e w' ⟨rfl, rfl⟩)
    | (go_at_call 20; refine (counts_nil _ _).mono ?_; rintro e w' ⟨rfl, rfl⟩)
    | (go_at_call 19; refine (erase_nil _ _).mono ?_; rintro e w' ⟨rfl, rfl⟩)
    | (go_at_call 13; refine (program_nil _ _ _ _).mono ?_; rintro e w' ⟨rfl, rfl⟩)
    | (go_at_call 22; refine (spoil_nil _ _ _).mono ?_; rintro e w' ⟨rfl, rfl⟩)
    | (go_at_call 23; refine (wear_nil _ _).mono ?_; rintro e w' ⟨rfl, rfl⟩)
    | (go_at_call 15; refine (off_nil _).mono ?_; rintro e w' ⟨rfl, rfl⟩)
    | (go_at_call 21; refine (changes_nil _).mono ?_; rintro e w' ⟨rfl, rfl⟩))
  go_ret
  exact ⟨rfl, hb⟩

end Go.Proofs.Ythoadcibknaelaa
