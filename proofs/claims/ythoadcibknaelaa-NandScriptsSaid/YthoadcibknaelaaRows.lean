/-
  No cell of these rows narrows 'for every input' (looked for: loops, veiled, ifaces, maps, wideKeys, modest, calm, conditions, laid).
  DERIVED. THE GIVEN ROWS OF THIS SEAT. 7 by the template 'for every input the law returns true; each argument reads behind the call as it read before'; 0 by the template 'total and deterministic' (their statements: YthoadcibknaelaaTotals.lean).
  GIVEN WITH THE SEED: the statements are not yours to turn. If you find one false, say at which input.
  Laid BY PROGRAM, IN A SANDBOX (cutbox-rows.mjs): the forced cells as the released guide's own fill.sh prints them over the translation 9e5f7a50f05b8841… (all of the seat's roots in one cut). By AI agents, Wed Nov 11 2026. No macro, syntax, notation, axiom, sorry.
-/
import Derived.Test.YthoadcibknaelaaChecked
import GoSem.Claim
import GoSem.ClaimJoined
import GoSem.ClaimMapViews
import Derived.JoinedTies
import Derived.KernelRfl
namespace Go.Proofs.Ythoadcibknaelaa
/- THE CELL 'sum', in the pinned program and in every row, IS THE sha256 OF THE DUMP (.gsa) THAT YthoadcibknaelaaProg.lean LOADS. Nothing in Lean hashes anything: it is a label: what it is worth is what the hold of that sum in a sandbox is worth. -/
noncomputable def Try.pinned : Pinned := { name := "ythoadcibknaelaa", sum := "9e5f7a50f05b8841e29521b49157e9c42ce49cb844e1c1f0fc198eaf3fd4b927", checked := Try.checked }
namespace Rows
def none {H : Type} : Left H := { results := [], args := [] }

/-- 'chertlaw05.NandPairs': WHATEVER THE INPUT: true; the input reads as it did. -/
def nandPairsSpec : ChangeSpec := { name := "nandPairs", fn := fun _ => fun
  | [d] => { results := [.lit (.bool true)], args := [d] }
  | _ => none }
def nandPairsRow : OpenClaim := { program := "ythoadcibknaelaa", sum := "9e5f7a50f05b8841e29521b49157e9c42ce49cb844e1c1f0fc198eaf3fd4b927", func := "chert/chertlaw05.NandPairs", spec := "nandPairs", inPlace := ["internal/abi.NoEscape", "internal/bytealg.MakeNoZero"], apart := false }
def NandPairsSaid : Prop := nandPairsRow.holds Try.pinned (OpenSpec.ofChange nandPairsSpec)

/-- ITS FALSE NEIGHBOUR: 'it returns false'. Refute it at one input. -/
def nandPairsWrong : ChangeSpec := { name := "nandPairs", fn := fun _ => fun
  | [d] => { results := [.lit (.bool false)], args := [d] }
  | _ => none }
def NandPairsWrongFalsely : Prop := nandPairsRow.holds Try.pinned (OpenSpec.ofChange nandPairsWrong)

/-- 'chertlaw05.NandTorn': WHATEVER THE INPUT: true; the input reads as it did. -/
def nandTornSpec : ChangeSpec := { name := "nandTorn", fn := fun _ => fun
  | [d1, d2] => { results := [.lit (.bool true)], args := [d1, d2] }
  | _ => none }
def nandTornRow : OpenClaim := { program := "ythoadcibknaelaa", sum := "9e5f7a50f05b8841e29521b49157e9c42ce49cb844e1c1f0fc198eaf3fd4b927", func := "chert/chertlaw05.NandTorn", spec := "nandTorn", inPlace := ["internal/abi.NoEscape", "internal/bytealg.MakeNoZero"], apart := false }
def NandTornSaid : Prop := nandTornRow.holds Try.pinned (OpenSpec.ofChange nandTornSpec)

/-- ITS FALSE NEIGHBOUR: 'it returns false'. Refute it at one input. -/
def nandTornWrong : ChangeSpec := { name := "nandTorn", fn := fun _ => fun
  | [d1, d2] => { results := [.lit (.bool false)], args := [d1, d2] }
  | _ => none }
def NandTornWrongFalsely : Prop := nandTornRow.holds Try.pinned (OpenSpec.ofChange nandTornWrong)

/-- 'chertlaw05.NandNoise': WHATEVER THE INPUT: true; the input reads as it did. -/
def nandNoiseSpec : ChangeSpec := { name := "nandNoise", fn := fun _ => fun
  | [d1, d2, d3] => { results := [.lit (.bool true)], args := [d1, d2, d3] }
  | _ => none }
def nandNoiseRow : OpenClaim := { program := "ythoadcibknaelaa", sum := "9e5f7a50f05b8841e29521b49157e9c42ce49cb844e1c1f0fc198eaf3fd4b927", func := "chert/chertlaw05.NandNoise", spec := "nandNoise", inPlace := ["internal/abi.NoEscape", "internal/bytealg.MakeNoZero"], apart := false }
def NandNoiseSaid : Prop := nandNoiseRow.holds Try.pinned (OpenSpec.ofChange nandNoiseSpec)

/-- ITS FALSE NEIGHBOUR: 'it returns false'. Refute it at one input. -/
def nandNoiseWrong : ChangeSpec := { name := "nandNoise", fn := fun _ => fun
  | [d1, d2, d3] => { results := [.lit (.bool false)], args := [d1, d2, d3] }
  | _ => none }
def NandNoiseWrongFalsely : Prop := nandNoiseRow.holds Try.pinned (OpenSpec.ofChange nandNoiseWrong)

/-- 'chertlaw05.NandOnce': WHATEVER THE INPUT: true; the input reads as it did. -/
def nandOnceSpec : ChangeSpec := { name := "nandOnce", fn := fun _ => fun
  | [d1, d2] => { results := [.lit (.bool true)], args := [d1, d2] }
  | _ => none }
def nandOnceRow : OpenClaim := { program := "ythoadcibknaelaa", sum := "9e5f7a50f05b8841e29521b49157e9c42ce49cb844e1c1f0fc198eaf3fd4b927", func := "chert/chertlaw05.NandOnce", spec := "nandOnce", inPlace := ["internal/abi.NoEscape", "internal/bytealg.MakeNoZero"], apart := false }
def NandOnceSaid : Prop := nandOnceRow.holds Try.pinned (OpenSpec.ofChange nandOnceSpec)

/-- ITS FALSE NEIGHBOUR: 'it returns false'. Refute it at one input. -/
def nandOnceWrong : ChangeSpec := { name := "nandOnce", fn := fun _ => fun
  | [d1, d2] => { results := [.lit (.bool false)], args := [d1, d2] }
  | _ => none }
def NandOnceWrongFalsely : Prop := nandOnceRow.holds Try.pinned (OpenSpec.ofChange nandOnceWrong)

/-- 'chertlaw05.NandCounts': WHATEVER THE INPUT: true; the input reads as it did. -/
def nandCountsSpec : ChangeSpec := { name := "nandCounts", fn := fun _ => fun
  | [d1, d2] => { results := [.lit (.bool true)], args := [d1, d2] }
  | _ => none }
def nandCountsRow : OpenClaim := { program := "ythoadcibknaelaa", sum := "9e5f7a50f05b8841e29521b49157e9c42ce49cb844e1c1f0fc198eaf3fd4b927", func := "chert/chertlaw05.NandCounts", spec := "nandCounts", inPlace := ["internal/abi.NoEscape", "internal/bytealg.MakeNoZero"], apart := false }
def NandCountsSaid : Prop := nandCountsRow.holds Try.pinned (OpenSpec.ofChange nandCountsSpec)

/-- ITS FALSE NEIGHBOUR: 'it returns false'. Refute it at one input. -/
def nandCountsWrong : ChangeSpec := { name := "nandCounts", fn := fun _ => fun
  | [d1, d2] => { results := [.lit (.bool false)], args := [d1, d2] }
  | _ => none }
def NandCountsWrongFalsely : Prop := nandCountsRow.holds Try.pinned (OpenSpec.ofChange nandCountsWrong)

/-- 'chertlaw05.NandNil': WHATEVER THE INPUT: true; the input reads as it did. -/
def nandNilSpec : ChangeSpec := { name := "nandNil", fn := fun _ => fun
  | [d1, d2] => { results := [.lit (.bool true)], args := [d1, d2] }
  | _ => none }
def nandNilRow : OpenClaim := { program := "ythoadcibknaelaa", sum := "9e5f7a50f05b8841e29521b49157e9c42ce49cb844e1c1f0fc198eaf3fd4b927", func := "chert/chertlaw05.NandNil", spec := "nandNil", inPlace := ["internal/abi.NoEscape", "internal/bytealg.MakeNoZero"], apart := false }
def NandNilSaid : Prop := nandNilRow.holds Try.pinned (OpenSpec.ofChange nandNilSpec)

/-- ITS FALSE NEIGHBOUR: 'it returns false'. Refute it at one input. -/
def nandNilWrong : ChangeSpec := { name := "nandNil", fn := fun _ => fun
  | [d1, d2] => { results := [.lit (.bool false)], args := [d1, d2] }
  | _ => none }
def NandNilWrongFalsely : Prop := nandNilRow.holds Try.pinned (OpenSpec.ofChange nandNilWrong)

/-- 'chertlaw05.NandScripts': WHATEVER THE INPUT: true; the input reads as it did. -/
def nandScriptsSpec : ChangeSpec := { name := "nandScripts", fn := fun _ => fun
  | [d1, d2] => { results := [.lit (.bool true)], args := [d1, d2] }
  | _ => none }
def nandScriptsRow : OpenClaim := { program := "ythoadcibknaelaa", sum := "9e5f7a50f05b8841e29521b49157e9c42ce49cb844e1c1f0fc198eaf3fd4b927", func := "chert/chertlaw05.NandScripts", spec := "nandScripts", inPlace := ["internal/abi.NoEscape", "internal/bytealg.MakeNoZero"], apart := false }
def NandScriptsSaid : Prop := nandScriptsRow.holds Try.pinned (OpenSpec.ofChange nandScriptsSpec)

/-- ITS FALSE NEIGHBOUR: 'it returns false'. Refute it at one input. -/
def nandScriptsWrong : ChangeSpec := { name := "nandScripts", fn := fun _ => fun
  | [d1, d2] => { results := [.lit (.bool false)], args := [d1, d2] }
  | _ => none }
def NandScriptsWrongFalsely : Prop := nandScriptsRow.holds Try.pinned (OpenSpec.ofChange nandScriptsWrong)

/- THE SECOND FORM. 'bulk': how many values and letters a reading holds, each counted each time it is reached (what is shared counts as often as it is met; a slice's spare places count too). A statement '..UptoSaid' is the law's where the arguments, and the package variables that the reading takes, are together of bulk at most 1048576: NARROWER than '..Said'. Prove '..Said' where nothing that the law and all that it calls make is longer than what came in: it says more and counts as full. Else prove '..UptoSaid'. A law counts once. -/
mutual
def uptoBulk {H : Type} : DataW H → Nat
  | .lit (.string bytes) => bytes.length + 1
  | .lit _ => 1
  | .nil => 1
  | .ptr d => uptoBulk d + 1
  | .slice elems spare => uptoBulkAll elems + uptoBulkAll spare + 1
  | .agg parts => uptoBulkAll parts + 1
  | .iface _ d => uptoBulk d + 1
  | .map entries => uptoBulkEntries entries + 1
  | .held _ => 1
def uptoBulkAll {H : Type} : List (DataW H) → Nat
  | [] => 0
  | d :: r => uptoBulk d + uptoBulkAll r
def uptoBulkEntries {H : Type} : List (Lit × DataW H) → Nat
  | [] => 0
  | x :: r => uptoBulkEntry x + uptoBulkEntries r
def uptoBulkEntry {H : Type} : Lit × DataW H → Nat
  | (.string bytes, d) => bytes.length + uptoBulk d + 1
  | (_, d) => uptoBulk d + 1
 end
def uptoSmall : (H : Type) → List (DataW H) → Bool := fun _ ds => decide (uptoBulkAll ds ≤ 1048576)
def OpenSpec.upto (s : _root_.Go.ChangeSpec) : _root_.Go.OpenSpec := { _root_.Go.OpenSpec.ofChange s with cond := some uptoSmall }

/-- 'chertlaw05.NandPairs', WHERE WHAT IT READS IS OF BULK AT MOST 1048576: true; the input reads as it did. -/
def nandPairsUptoRow : OpenClaim := { program := "ythoadcibknaelaa", sum := "9e5f7a50f05b8841e29521b49157e9c42ce49cb844e1c1f0fc198eaf3fd4b927", func := "chert/chertlaw05.NandPairs", spec := "nandPairs", inPlace := ["internal/abi.NoEscape", "internal/bytealg.MakeNoZero"], apart := false, narrowed := true }
def NandPairsUptoSaid : Prop := nandPairsUptoRow.holds Try.pinned (OpenSpec.upto nandPairsSpec)

/-- 'chertlaw05.NandTorn', WHERE WHAT IT READS IS OF BULK AT MOST 1048576: true; the input reads as it did. -/
def nandTornUptoRow : OpenClaim := { program := "ythoadcibknaelaa", sum := "9e5f7a50f05b8841e29521b49157e9c42ce49cb844e1c1f0fc198eaf3fd4b927", func := "chert/chertlaw05.NandTorn", spec := "nandTorn", inPlace := ["internal/abi.NoEscape", "internal/bytealg.MakeNoZero"], apart := false, narrowed := true }
def NandTornUptoSaid : Prop := nandTornUptoRow.holds Try.pinned (OpenSpec.upto nandTornSpec)

/-- 'chertlaw05.NandNoise', WHERE WHAT IT READS IS OF BULK AT MOST 1048576: true; the input reads as it did. -/
def nandNoiseUptoRow : OpenClaim := { program := "ythoadcibknaelaa", sum := "9e5f7a50f05b8841e29521b49157e9c42ce49cb844e1c1f0fc198eaf3fd4b927", func := "chert/chertlaw05.NandNoise", spec := "nandNoise", inPlace := ["internal/abi.NoEscape", "internal/bytealg.MakeNoZero"], apart := false, narrowed := true }
def NandNoiseUptoSaid : Prop := nandNoiseUptoRow.holds Try.pinned (OpenSpec.upto nandNoiseSpec)

/-- 'chertlaw05.NandOnce', WHERE WHAT IT READS IS OF BULK AT MOST 1048576: true; the input reads as it did. -/
def nandOnceUptoRow : OpenClaim := { program := "ythoadcibknaelaa", sum := "9e5f7a50f05b8841e29521b49157e9c42ce49cb844e1c1f0fc198eaf3fd4b927", func := "chert/chertlaw05.NandOnce", spec := "nandOnce", inPlace := ["internal/abi.NoEscape", "internal/bytealg.MakeNoZero"], apart := false, narrowed := true }
def NandOnceUptoSaid : Prop := nandOnceUptoRow.holds Try.pinned (OpenSpec.upto nandOnceSpec)

/-- 'chertlaw05.NandCounts', WHERE WHAT IT READS IS OF BULK AT MOST 1048576: true; the input reads as it did. -/
def nandCountsUptoRow : OpenClaim := { program := "ythoadcibknaelaa", sum := "9e5f7a50f05b8841e29521b49157e9c42ce49cb844e1c1f0fc198eaf3fd4b927", func := "chert/chertlaw05.NandCounts", spec := "nandCounts", inPlace := ["internal/abi.NoEscape", "internal/bytealg.MakeNoZero"], apart := false, narrowed := true }
def NandCountsUptoSaid : Prop := nandCountsUptoRow.holds Try.pinned (OpenSpec.upto nandCountsSpec)

/-- 'chertlaw05.NandNil', WHERE WHAT IT READS IS OF BULK AT MOST 1048576: true; the input reads as it did. -/
def nandNilUptoRow : OpenClaim := { program := "ythoadcibknaelaa", sum := "9e5f7a50f05b8841e29521b49157e9c42ce49cb844e1c1f0fc198eaf3fd4b927", func := "chert/chertlaw05.NandNil", spec := "nandNil", inPlace := ["internal/abi.NoEscape", "internal/bytealg.MakeNoZero"], apart := false, narrowed := true }
def NandNilUptoSaid : Prop := nandNilUptoRow.holds Try.pinned (OpenSpec.upto nandNilSpec)

/-- 'chertlaw05.NandScripts', WHERE WHAT IT READS IS OF BULK AT MOST 1048576: true; the input reads as it did. -/
def nandScriptsUptoRow : OpenClaim := { program := "ythoadcibknaelaa", sum := "9e5f7a50f05b8841e29521b49157e9c42ce49cb844e1c1f0fc198eaf3fd4b927", func := "chert/chertlaw05.NandScripts", spec := "nandScripts", inPlace := ["internal/abi.NoEscape", "internal/bytealg.MakeNoZero"], apart := false, narrowed := true }
def NandScriptsUptoSaid : Prop := nandScriptsUptoRow.holds Try.pinned (OpenSpec.upto nandScriptsSpec)

end Rows
end Go.Proofs.Ythoadcibknaelaa
