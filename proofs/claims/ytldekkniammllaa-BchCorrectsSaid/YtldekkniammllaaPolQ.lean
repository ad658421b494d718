/- The generators, as numbers: decided in plain Lean. -/
import Derived.Test.YtldekkniammllaaPolP
import Derived.Test.YtldekkniammllaaPolB
namespace Go.Proofs.Ytldekkniammllaa
set_option linter.unusedVariables false
set_option linter.unusedSimpArgs false

def mkA (j : Nat) : Nat := [8219, 9905, 10643, 10063, 12769, 9123, 12409, 8895].getD j 0
def genA (j : Nat) : Nat := [1, 8219, 81073483, 802986049005, 5719866781435563, 70802422373250291595, 600861845307791167304061, 2475918012808473855665188261, 22023288022493040599844014848803].getD j 0
theorem mk_rootz {j : Nat} (h : j < 8) : Rootz (2 * j + 1) (rootz (2 * j + 1)) := .of ((by decide +kernel : ∀ j, j < 8 → rootzB (2 * j + 1) (rootz (2 * j + 1)) = true) j h)
theorem mk_ones {j : Nat} (h : j < 8) : ones (cfs (rootz (2 * j + 1)) 13) 14 = terms (mkA j) := (by decide +kernel : ∀ j, j < 8 → ones (cfs (rootz (2 * j + 1)) 13) 14 = terms (mkA j)) j h
theorem gen_step {j : Nat} (h : j < 8) : clmul (genA j) (mkA j) = genA (j + 1) := (by decide +kernel : ∀ j, j < 8 → clmul (genA j) (mkA j) = genA (j + 1)) j h
theorem gen_ne {j : Nat} (h : j < 9) : genA j ≠ 0 := (by decide +kernel : ∀ j, j < 9 → genA j ≠ 0) j h
theorem mk_ne {j : Nat} (h : j < 8) : mkA j ≠ 0 := (by decide +kernel : ∀ j, j < 8 → mkA j ≠ 0) j h
theorem gen_log {j : Nat} (h : j < 9) : (genA j).log2 = 13 * j := (by decide +kernel : ∀ j, j < 9 → (genA j).log2 = 13 * j) j h
theorem mk_log {j : Nat} (h : j < 8) : (mkA j).log2 = 13 := (by decide +kernel : ∀ j, j < 8 → (mkA j).log2 = 13) j h
theorem mk_apart {i j : Nat} (hi : i < j) (hj : j < 8) : terms (mkA i) ≠ terms (mkA j) := fun e => by
  have h := congrArg (sumL 0) e
  rw [terms_sum, terms_sum] at h
  exact (by decide +kernel : ∀ j, j < 8 → ∀ i, i < j → mkA i ≠ mkA j) j hj i hi h
theorem gen_zero : terms (genA 0) = [0] := by decide +kernel
end Go.Proofs.Ytldekkniammllaa
