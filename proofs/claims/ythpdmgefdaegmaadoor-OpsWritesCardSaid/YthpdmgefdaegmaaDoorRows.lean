/-
  NARROWER THAN 'FOR EVERY INPUT', by the rows' own cells (each row's printed sentence says how): OpsHalves: laid · OpsNothing: laid · OpsWrites: laid · OpsFile: laid.
  DERIVED. THE GIVEN ROWS OF THIS SEAT. 4 by the template 'for every input the law returns true; each argument reads behind the call as it read before'; 0 by the template 'total and deterministic' (their statements: YthpdmgefdaegmaaDoorTotals.lean).
  GIVEN WITH THE SEED: the statements are not yours to turn. If you find one false, say at which input.
  Laid BY PROGRAM, IN A SANDBOX (cutbox-rows.mjs): the forced cells as the released guide's own fill.sh prints them over the translation 607a845a4f8e4e0f… (all of the seat's roots in one cut). By AI agents, Wed Nov 11 2026. No macro, syntax, notation, axiom, sorry.
-/
import Derived.Test.YthpdmgefdaegmaaDoorChecked
import GoSem.PinnedTables
import GoSem.Claim
import GoSem.ClaimJoined
import GoSem.ClaimMapViews
import Derived.JoinedTies
import Derived.KernelRfl
namespace Go.Proofs.YthpdmgefdaegmaaDoor
/- THE CELL 'sum', in the pinned program and in every row, IS THE sha256 OF THE DUMP (.gsa) THAT YthpdmgefdaegmaaDoorProg.lean LOADS. Nothing in Lean hashes anything: it is a label: what it is worth is what the hold of that sum in a sandbox is worth. -/
noncomputable def Tryd.pinned : Pinned := { name := "ythpdmgefdaegmaadoor", sum := "607a845a4f8e4e0f3850cd2392c3f72065dde0fce9ffdcf23ac450748138e81b", checked := Tryd.checked }
namespace Rows
def none {H : Type} : Left H := { results := [], args := [] }

/- WHAT THE LISTED PACKAGE-LEVEL VARIABLES READ AS WHEN THE CALL BEGINS. Each datum BY PROGRAM (the guide's laid-datum.mjs) off the statement by which the dump's own 'gosem.cut.vars' lays the variable. In a bare row this is a premise. The card (YthpdmgefdaegmaaDoorCards.lean) ties it to the program's text. -/
def laid_unicode_utf8_acceptRanges {H : Type} : DataW H := .agg [.agg [.lit (.int .u8 128), .lit (.int .u8 191)], .agg [.lit (.int .u8 160), .lit (.int .u8 191)], .agg [.lit (.int .u8 128), .lit (.int .u8 159)], .agg [.lit (.int .u8 144), .lit (.int .u8 191)], .agg [.lit (.int .u8 128), .lit (.int .u8 143)], .agg [.lit (.int .u8 0), .lit (.int .u8 0)], .agg [.lit (.int .u8 0), .lit (.int .u8 0)], .agg [.lit (.int .u8 0), .lit (.int .u8 0)], .agg [.lit (.int .u8 0), .lit (.int .u8 0)], .agg [.lit (.int .u8 0), .lit (.int .u8 0)], .agg [.lit (.int .u8 0), .lit (.int .u8 0)], .agg [.lit (.int .u8 0), .lit (.int .u8 0)], .agg [.lit (.int .u8 0), .lit (.int .u8 0)], .agg [.lit (.int .u8 0), .lit (.int .u8 0)], .agg [.lit (.int .u8 0), .lit (.int .u8 0)], .agg [.lit (.int .u8 0), .lit (.int .u8 0)]]
/-- One of Go's own tables, pinned by name: the form's constant. -/
def laid_unicode_utf8_first : DataW Unit := Go.Pinned.utf8First

/-- 'chertlaw20.OpsHalves': WHATEVER THE INPUT: true; the input reads as it did. -/
def opsHalvesSpec : ChangeSpec := { name := "opsHalves", fn := fun _ => fun
  | [d1, d2, d3] => { results := [.lit (.bool true)], args := [d1, d2, d3] }
  | _ => none }
def opsHalvesRow : OpenClaim := { program := "ythpdmgefdaegmaadoor", sum := "607a845a4f8e4e0f3850cd2392c3f72065dde0fce9ffdcf23ac450748138e81b", func := "chert/chertlaw20.OpsHalves", spec := "opsHalves", inPlace := ["internal/bytealg.IndexByteString", "internal/bytealg.IndexString", "internal/abi.NoEscape"], named := ["unicode/utf8.first", "unicode/utf8.acceptRanges", "internal/bytealg.MaxLen"], plainKeys := false, apart := false, laid := [("unicode/utf8.acceptRanges", laid_unicode_utf8_acceptRanges), ("unicode/utf8.first", laid_unicode_utf8_first)] }
def OpsHalvesSaid : Prop := opsHalvesRow.holds Tryd.pinned (OpenSpec.ofChange opsHalvesSpec)

/-- ITS FALSE NEIGHBOUR: 'it returns false'. Refute it at one input. -/
def opsHalvesWrong : ChangeSpec := { name := "opsHalves", fn := fun _ => fun
  | [d1, d2, d3] => { results := [.lit (.bool false)], args := [d1, d2, d3] }
  | _ => none }
def OpsHalvesWrongFalsely : Prop := opsHalvesRow.holds Tryd.pinned (OpenSpec.ofChange opsHalvesWrong)

/-- 'chertlaw20.OpsNothing': WHATEVER THE INPUT: true; the input reads as it did. -/
def opsNothingSpec : ChangeSpec := { name := "opsNothing", fn := fun _ => fun
  | [d1, d2] => { results := [.lit (.bool true)], args := [d1, d2] }
  | _ => none }
def opsNothingRow : OpenClaim := { program := "ythpdmgefdaegmaadoor", sum := "607a845a4f8e4e0f3850cd2392c3f72065dde0fce9ffdcf23ac450748138e81b", func := "chert/chertlaw20.OpsNothing", spec := "opsNothing", inPlace := ["internal/bytealg.IndexByteString", "internal/bytealg.IndexString", "internal/abi.NoEscape"], named := ["unicode/utf8.first", "unicode/utf8.acceptRanges", "internal/bytealg.MaxLen"], plainKeys := false, apart := false, laid := [("unicode/utf8.acceptRanges", laid_unicode_utf8_acceptRanges), ("unicode/utf8.first", laid_unicode_utf8_first)] }
def OpsNothingSaid : Prop := opsNothingRow.holds Tryd.pinned (OpenSpec.ofChange opsNothingSpec)

/-- ITS FALSE NEIGHBOUR: 'it returns false'. Refute it at one input. -/
def opsNothingWrong : ChangeSpec := { name := "opsNothing", fn := fun _ => fun
  | [d1, d2] => { results := [.lit (.bool false)], args := [d1, d2] }
  | _ => none }
def OpsNothingWrongFalsely : Prop := opsNothingRow.holds Tryd.pinned (OpenSpec.ofChange opsNothingWrong)

/-- 'chertlaw20.OpsWrites': WHATEVER THE INPUT: true; the input reads as it did. -/
def opsWritesSpec : ChangeSpec := { name := "opsWrites", fn := fun _ => fun
  | [d1, d2, d3] => { results := [.lit (.bool true)], args := [d1, d2, d3] }
  | _ => none }
def opsWritesRow : OpenClaim := { program := "ythpdmgefdaegmaadoor", sum := "607a845a4f8e4e0f3850cd2392c3f72065dde0fce9ffdcf23ac450748138e81b", func := "chert/chertlaw20.OpsWrites", spec := "opsWrites", inPlace := ["internal/bytealg.IndexByteString", "internal/bytealg.IndexString", "internal/abi.NoEscape"], recurses := true, named := ["unicode/utf8.first", "unicode/utf8.acceptRanges", "internal/bytealg.MaxLen"], plainKeys := false, apart := false, laid := [("unicode/utf8.acceptRanges", laid_unicode_utf8_acceptRanges), ("unicode/utf8.first", laid_unicode_utf8_first)] }
def OpsWritesSaid : Prop := opsWritesRow.holds Tryd.pinned (OpenSpec.ofChange opsWritesSpec)

/-- ITS FALSE NEIGHBOUR: 'it returns false'. Refute it at one input. -/
def opsWritesWrong : ChangeSpec := { name := "opsWrites", fn := fun _ => fun
  | [d1, d2, d3] => { results := [.lit (.bool false)], args := [d1, d2, d3] }
  | _ => none }
def OpsWritesWrongFalsely : Prop := opsWritesRow.holds Tryd.pinned (OpenSpec.ofChange opsWritesWrong)

/-- 'chertlaw20.OpsFile': WHATEVER THE INPUT: true; the input reads as it did. -/
def opsFileSpec : ChangeSpec := { name := "opsFile", fn := fun _ => fun
  | [d1, d2] => { results := [.lit (.bool true)], args := [d1, d2] }
  | _ => none }
def opsFileRow : OpenClaim := { program := "ythpdmgefdaegmaadoor", sum := "607a845a4f8e4e0f3850cd2392c3f72065dde0fce9ffdcf23ac450748138e81b", func := "chert/chertlaw20.OpsFile", spec := "opsFile", inPlace := ["internal/bytealg.IndexByteString", "internal/bytealg.IndexString", "internal/abi.NoEscape"], named := ["unicode/utf8.first", "unicode/utf8.acceptRanges", "internal/bytealg.MaxLen"], plainKeys := false, apart := false, laid := [("unicode/utf8.acceptRanges", laid_unicode_utf8_acceptRanges), ("unicode/utf8.first", laid_unicode_utf8_first)] }
def OpsFileSaid : Prop := opsFileRow.holds Tryd.pinned (OpenSpec.ofChange opsFileSpec)

/-- ITS FALSE NEIGHBOUR: 'it returns false'. Refute it at one input. -/
def opsFileWrong : ChangeSpec := { name := "opsFile", fn := fun _ => fun
  | [d1, d2] => { results := [.lit (.bool false)], args := [d1, d2] }
  | _ => none }
def OpsFileWrongFalsely : Prop := opsFileRow.holds Tryd.pinned (OpenSpec.ofChange opsFileWrong)

/- THE SECOND FORM. 'bulk': how many values and letters a reading holds, each counted each time it is reached (what is shared counts as often as it is met; a slice's spare places count too). A statement '..UptoSaid' is the law's where the arguments, and the package variables that the reading takes, are together of bulk at most 1048576: NARROWER than '..Said'. Prove '..Said' where nothing that the law and all that it calls make is longer than what came in: it says more and counts as full. Else prove '..UptoSaid'. A law counts once. -/
mutual
def uptoBulk {H : Type} : DataW H → Nat
  | .lit (.string bytes) => bytes.length + 1
  | .lit _ => 1
  | .nil => 1
  | .ptr d => uptoBulk d + 1
  | .slice elems spare => uptoBulkAll elems + uptoBulkAll spare + 1
  | .agg parts => uptoBulkAll parts + 1
  | .iface _ d => uptoBulk d + 1
  | .map entries => uptoBulkEntries entries + 1
  | .held _ => 1
def uptoBulkAll {H : Type} : List (DataW H) → Nat
  | [] => 0
  | d :: r => uptoBulk d + uptoBulkAll r
def uptoBulkEntries {H : Type} : List (Lit × DataW H) → Nat
  | [] => 0
  | x :: r => uptoBulkEntry x + uptoBulkEntries r
def uptoBulkEntry {H : Type} : Lit × DataW H → Nat
  | (.string bytes, d) => bytes.length + uptoBulk d + 1
  | (_, d) => uptoBulk d + 1
 end
def uptoSmall : (H : Type) → List (DataW H) → Bool := fun _ ds => decide (uptoBulkAll ds ≤ 1048576)
def OpenSpec.upto (s : _root_.Go.ChangeSpec) : _root_.Go.OpenSpec := { _root_.Go.OpenSpec.ofChange s with cond := some uptoSmall }

/-- 'chertlaw20.OpsHalves', WHERE WHAT IT READS IS OF BULK AT MOST 1048576: true; the input reads as it did. -/
def opsHalvesUptoRow : OpenClaim := { program := "ythpdmgefdaegmaadoor", sum := "607a845a4f8e4e0f3850cd2392c3f72065dde0fce9ffdcf23ac450748138e81b", func := "chert/chertlaw20.OpsHalves", spec := "opsHalves", inPlace := ["internal/bytealg.IndexByteString", "internal/bytealg.IndexString", "internal/abi.NoEscape"], named := ["unicode/utf8.first", "unicode/utf8.acceptRanges", "internal/bytealg.MaxLen"], plainKeys := false, apart := false, laid := [("unicode/utf8.acceptRanges", laid_unicode_utf8_acceptRanges), ("unicode/utf8.first", laid_unicode_utf8_first)], narrowed := true }
def OpsHalvesUptoSaid : Prop := opsHalvesUptoRow.holds Tryd.pinned (OpenSpec.upto opsHalvesSpec)

/-- 'chertlaw20.OpsNothing', WHERE WHAT IT READS IS OF BULK AT MOST 1048576: true; the input reads as it did. -/
def opsNothingUptoRow : OpenClaim := { program := "ythpdmgefdaegmaadoor", sum := "607a845a4f8e4e0f3850cd2392c3f72065dde0fce9ffdcf23ac450748138e81b", func := "chert/chertlaw20.OpsNothing", spec := "opsNothing", inPlace := ["internal/bytealg.IndexByteString", "internal/bytealg.IndexString", "internal/abi.NoEscape"], named := ["unicode/utf8.first", "unicode/utf8.acceptRanges", "internal/bytealg.MaxLen"], plainKeys := false, apart := false, laid := [("unicode/utf8.acceptRanges", laid_unicode_utf8_acceptRanges), ("unicode/utf8.first", laid_unicode_utf8_first)], narrowed := true }
def OpsNothingUptoSaid : Prop := opsNothingUptoRow.holds Tryd.pinned (OpenSpec.upto opsNothingSpec)

/-- 'chertlaw20.OpsWrites', WHERE WHAT IT READS IS OF BULK AT MOST 1048576: true; the input reads as it did. -/
def opsWritesUptoRow : OpenClaim := { program := "ythpdmgefdaegmaadoor", sum := "607a845a4f8e4e0f3850cd2392c3f72065dde0fce9ffdcf23ac450748138e81b", func := "chert/chertlaw20.OpsWrites", spec := "opsWrites", inPlace := ["internal/bytealg.IndexByteString", "internal/bytealg.IndexString", "internal/abi.NoEscape"], recurses := true, named := ["unicode/utf8.first", "unicode/utf8.acceptRanges", "internal/bytealg.MaxLen"], plainKeys := false, apart := false, laid := [("unicode/utf8.acceptRanges", laid_unicode_utf8_acceptRanges), ("unicode/utf8.first", laid_unicode_utf8_first)], narrowed := true }
def OpsWritesUptoSaid : Prop := opsWritesUptoRow.holds Tryd.pinned (OpenSpec.upto opsWritesSpec)

/-- 'chertlaw20.OpsFile', WHERE WHAT IT READS IS OF BULK AT MOST 1048576: true; the input reads as it did. -/
def opsFileUptoRow : OpenClaim := { program := "ythpdmgefdaegmaadoor", sum := "607a845a4f8e4e0f3850cd2392c3f72065dde0fce9ffdcf23ac450748138e81b", func := "chert/chertlaw20.OpsFile", spec := "opsFile", inPlace := ["internal/bytealg.IndexByteString", "internal/bytealg.IndexString", "internal/abi.NoEscape"], named := ["unicode/utf8.first", "unicode/utf8.acceptRanges", "internal/bytealg.MaxLen"], plainKeys := false, apart := false, laid := [("unicode/utf8.acceptRanges", laid_unicode_utf8_acceptRanges), ("unicode/utf8.first", laid_unicode_utf8_first)], narrowed := true }
def OpsFileUptoSaid : Prop := opsFileUptoRow.holds Tryd.pinned (OpenSpec.upto opsFileSpec)

end Rows
end Go.Proofs.YthpdmgefdaegmaaDoor
