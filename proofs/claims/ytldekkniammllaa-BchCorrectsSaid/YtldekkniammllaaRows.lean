/-
  No cell of these rows narrows 'for every input' (looked for: loops, veiled, ifaces, maps, wideKeys, modest, calm, conditions, laid).
  DERIVED. THE GIVEN ROWS OF THIS SEAT. 5 by the template 'for every input the law returns true; each argument reads behind the call as it read before'; 0 by the template 'total and deterministic' (their statements: YtldekkniammllaaTotals.lean).
  GIVEN WITH THE SEED: the statements are not yours to turn. If you find one false, say at which input.
  Laid BY PROGRAM, IN A SANDBOX (cutbox-rows.mjs): the forced cells as the released guide's own fill.sh prints them over the translation 5ff54f4eda8a3491… (all of the seat's roots in one cut). By AI agents, Wed Nov 11 2026. No macro, syntax, notation, axiom, sorry.
-/
import Derived.Test.YtldekkniammllaaChecked
import GoSem.Claim
import GoSem.ClaimJoined
import GoSem.ClaimMapViews
import Derived.JoinedTies
import Derived.KernelRfl
namespace Go.Proofs.Ytldekkniammllaa
/- THE CELL 'sum', in the pinned program and in every row, IS THE sha256 OF THE DUMP (.gsa) THAT YtldekkniammllaaProg.lean LOADS. Nothing in Lean hashes anything: it is a label: what it is worth is what the hold of that sum in a sandbox is worth. -/
noncomputable def Try.pinned : Pinned := { name := "ytldekkniammllaa", sum := "5ff54f4eda8a349103323f3aa961c19db6042d48ed66e7ce872d18a9b2ccbfc8", checked := Try.checked }
namespace Rows
def none {H : Type} : Left H := { results := [], args := [] }

/-- 'chertlaw04.BchEncodes': WHATEVER THE INPUT: true; the input reads as it did. -/
def bchEncodesSpec : ChangeSpec := { name := "bchEncodes", fn := fun _ => fun
  | [d1, d2, d3] => { results := [.lit (.bool true)], args := [d1, d2, d3] }
  | _ => none }
def bchEncodesRow : OpenClaim := { program := "ytldekkniammllaa", sum := "5ff54f4eda8a349103323f3aa961c19db6042d48ed66e7ce872d18a9b2ccbfc8", func := "chert/chertlaw04.BchEncodes", spec := "bchEncodes", inPlace := ["sync/atomic.LoadUint32", "(*internal/sync.Mutex).Lock", "internal/race.Disable", "sync/atomic.CompareAndSwapInt32", "internal/race.Enable", "internal/race.Acquire", "(*internal/sync.Mutex).lockSlow", "internal/sync.runtime_canSpin", "internal/sync.runtime_doSpin", "internal/sync.throw", "internal/sync.runtime_nanotime", "internal/sync.runtime_SemacquireMutex", "sync/atomic.AddInt32", "(*internal/sync.Mutex).Unlock", "internal/race.ReleaseMerge", "(*internal/sync.Mutex).unlockSlow", "internal/sync.fatal", "internal/sync.runtime_Semrelease", "sync/atomic.StoreUint32", "sync/atomic.AddInt64"], unfollowed := true, recurses := true, apart := false }
def BchEncodesSaid : Prop := bchEncodesRow.holds Try.pinned (OpenSpec.ofChange bchEncodesSpec)

/-- ITS FALSE NEIGHBOUR: 'it returns false'. Refute it at one input. -/
def bchEncodesWrong : ChangeSpec := { name := "bchEncodes", fn := fun _ => fun
  | [d1, d2, d3] => { results := [.lit (.bool false)], args := [d1, d2, d3] }
  | _ => none }
def BchEncodesWrongFalsely : Prop := bchEncodesRow.holds Try.pinned (OpenSpec.ofChange bchEncodesWrong)

/-- 'chertlaw04.BchCorrects': WHATEVER THE INPUT: true; the input reads as it did. -/
def bchCorrectsSpec : ChangeSpec := { name := "bchCorrects", fn := fun _ => fun
  | [d1, d2, d3] => { results := [.lit (.bool true)], args := [d1, d2, d3] }
  | _ => none }
def bchCorrectsRow : OpenClaim := { program := "ytldekkniammllaa", sum := "5ff54f4eda8a349103323f3aa961c19db6042d48ed66e7ce872d18a9b2ccbfc8", func := "chert/chertlaw04.BchCorrects", spec := "bchCorrects", inPlace := ["sync/atomic.LoadUint32", "(*internal/sync.Mutex).Lock", "internal/race.Disable", "sync/atomic.CompareAndSwapInt32", "internal/race.Enable", "internal/race.Acquire", "(*internal/sync.Mutex).lockSlow", "internal/sync.runtime_canSpin", "internal/sync.runtime_doSpin", "internal/sync.throw", "internal/sync.runtime_nanotime", "internal/sync.runtime_SemacquireMutex", "sync/atomic.AddInt32", "(*internal/sync.Mutex).Unlock", "internal/race.ReleaseMerge", "(*internal/sync.Mutex).unlockSlow", "internal/sync.fatal", "internal/sync.runtime_Semrelease", "sync/atomic.StoreUint32", "sync/atomic.AddInt64"], unfollowed := true, recurses := true, apart := false }
def BchCorrectsSaid : Prop := bchCorrectsRow.holds Try.pinned (OpenSpec.ofChange bchCorrectsSpec)

/-- ITS FALSE NEIGHBOUR: 'it returns false'. Refute it at one input. -/
def bchCorrectsWrong : ChangeSpec := { name := "bchCorrects", fn := fun _ => fun
  | [d1, d2, d3] => { results := [.lit (.bool false)], args := [d1, d2, d3] }
  | _ => none }
def BchCorrectsWrongFalsely : Prop := bchCorrectsRow.holds Try.pinned (OpenSpec.ofChange bchCorrectsWrong)

/-- 'chertlaw04.BchAny': WHATEVER THE INPUT: true; the input reads as it did. -/
def bchAnySpec : ChangeSpec := { name := "bchAny", fn := fun _ => fun
  | [d1, d2, d3] => { results := [.lit (.bool true)], args := [d1, d2, d3] }
  | _ => none }
def bchAnyRow : OpenClaim := { program := "ytldekkniammllaa", sum := "5ff54f4eda8a349103323f3aa961c19db6042d48ed66e7ce872d18a9b2ccbfc8", func := "chert/chertlaw04.BchAny", spec := "bchAny", inPlace := ["sync/atomic.LoadUint32", "(*internal/sync.Mutex).Lock", "internal/race.Disable", "sync/atomic.CompareAndSwapInt32", "internal/race.Enable", "internal/race.Acquire", "(*internal/sync.Mutex).lockSlow", "internal/sync.runtime_canSpin", "internal/sync.runtime_doSpin", "internal/sync.throw", "internal/sync.runtime_nanotime", "internal/sync.runtime_SemacquireMutex", "sync/atomic.AddInt32", "(*internal/sync.Mutex).Unlock", "internal/race.ReleaseMerge", "(*internal/sync.Mutex).unlockSlow", "internal/sync.fatal", "internal/sync.runtime_Semrelease", "sync/atomic.StoreUint32", "sync/atomic.AddInt64"], unfollowed := true, recurses := true, apart := false }
def BchAnySaid : Prop := bchAnyRow.holds Try.pinned (OpenSpec.ofChange bchAnySpec)

/-- ITS FALSE NEIGHBOUR: 'it returns false'. Refute it at one input. -/
def bchAnyWrong : ChangeSpec := { name := "bchAny", fn := fun _ => fun
  | [d1, d2, d3] => { results := [.lit (.bool false)], args := [d1, d2, d3] }
  | _ => none }
def BchAnyWrongFalsely : Prop := bchAnyRow.holds Try.pinned (OpenSpec.ofChange bchAnyWrong)

/-- 'chertlaw04.BchSpare': WHATEVER THE INPUT: true; the input reads as it did. -/
def bchSpareSpec : ChangeSpec := { name := "bchSpare", fn := fun _ => fun
  | [d1, d2, d3] => { results := [.lit (.bool true)], args := [d1, d2, d3] }
  | _ => none }
def bchSpareRow : OpenClaim := { program := "ytldekkniammllaa", sum := "5ff54f4eda8a349103323f3aa961c19db6042d48ed66e7ce872d18a9b2ccbfc8", func := "chert/chertlaw04.BchSpare", spec := "bchSpare", inPlace := ["sync/atomic.LoadUint32", "(*internal/sync.Mutex).Lock", "internal/race.Disable", "sync/atomic.CompareAndSwapInt32", "internal/race.Enable", "internal/race.Acquire", "(*internal/sync.Mutex).lockSlow", "internal/sync.runtime_canSpin", "internal/sync.runtime_doSpin", "internal/sync.throw", "internal/sync.runtime_nanotime", "internal/sync.runtime_SemacquireMutex", "sync/atomic.AddInt32", "(*internal/sync.Mutex).Unlock", "internal/race.ReleaseMerge", "(*internal/sync.Mutex).unlockSlow", "internal/sync.fatal", "internal/sync.runtime_Semrelease", "sync/atomic.StoreUint32", "sync/atomic.AddInt64"], unfollowed := true, recurses := true, apart := false }
def BchSpareSaid : Prop := bchSpareRow.holds Try.pinned (OpenSpec.ofChange bchSpareSpec)

/-- ITS FALSE NEIGHBOUR: 'it returns false'. Refute it at one input. -/
def bchSpareWrong : ChangeSpec := { name := "bchSpare", fn := fun _ => fun
  | [d1, d2, d3] => { results := [.lit (.bool false)], args := [d1, d2, d3] }
  | _ => none }
def BchSpareWrongFalsely : Prop := bchSpareRow.holds Try.pinned (OpenSpec.ofChange bchSpareWrong)

/-- 'chertlaw04.BchTurns': WHATEVER THE INPUT: true; the input reads as it did. -/
def bchTurnsSpec : ChangeSpec := { name := "bchTurns", fn := fun _ => fun
  | [d1, d2, d3] => { results := [.lit (.bool true)], args := [d1, d2, d3] }
  | _ => none }
def bchTurnsRow : OpenClaim := { program := "ytldekkniammllaa", sum := "5ff54f4eda8a349103323f3aa961c19db6042d48ed66e7ce872d18a9b2ccbfc8", func := "chert/chertlaw04.BchTurns", spec := "bchTurns", inPlace := ["sync/atomic.LoadUint32", "(*internal/sync.Mutex).Lock", "internal/race.Disable", "sync/atomic.CompareAndSwapInt32", "internal/race.Enable", "internal/race.Acquire", "(*internal/sync.Mutex).lockSlow", "internal/sync.runtime_canSpin", "internal/sync.runtime_doSpin", "internal/sync.throw", "internal/sync.runtime_nanotime", "internal/sync.runtime_SemacquireMutex", "sync/atomic.AddInt32", "(*internal/sync.Mutex).Unlock", "internal/race.ReleaseMerge", "(*internal/sync.Mutex).unlockSlow", "internal/sync.fatal", "internal/sync.runtime_Semrelease", "sync/atomic.StoreUint32", "sync/atomic.AddInt64"], unfollowed := true, recurses := true, apart := false }
def BchTurnsSaid : Prop := bchTurnsRow.holds Try.pinned (OpenSpec.ofChange bchTurnsSpec)

/-- ITS FALSE NEIGHBOUR: 'it returns false'. Refute it at one input. -/
def bchTurnsWrong : ChangeSpec := { name := "bchTurns", fn := fun _ => fun
  | [d1, d2, d3] => { results := [.lit (.bool false)], args := [d1, d2, d3] }
  | _ => none }
def BchTurnsWrongFalsely : Prop := bchTurnsRow.holds Try.pinned (OpenSpec.ofChange bchTurnsWrong)

/- THE SECOND FORM. 'bulk': how many values and letters a reading holds, each counted each time it is reached (what is shared counts as often as it is met; a slice's spare places count too). A statement '..UptoSaid' is the law's where the arguments, and the package variables that the reading takes, are together of bulk at most 1048576: NARROWER than '..Said'. Prove '..Said' where nothing that the law and all that it calls make is longer than what came in: it says more and counts as full. Else prove '..UptoSaid'. A law counts once. -/
mutual
def uptoBulk {H : Type} : DataW H → Nat
  | .lit (.string bytes) => bytes.length + 1
  | .lit _ => 1
  | .nil => 1
  | .ptr d => uptoBulk d + 1
  | .slice elems spare => uptoBulkAll elems + uptoBulkAll spare + 1
  | .agg parts => uptoBulkAll parts + 1
  | .iface _ d => uptoBulk d + 1
  | .map entries => uptoBulkEntries entries + 1
  | .held _ => 1
def uptoBulkAll {H : Type} : List (DataW H) → Nat
  | [] => 0
  | d :: r => uptoBulk d + uptoBulkAll r
def uptoBulkEntries {H : Type} : List (Lit × DataW H) → Nat
  | [] => 0
  | x :: r => uptoBulkEntry x + uptoBulkEntries r
def uptoBulkEntry {H : Type} : Lit × DataW H → Nat
  | (.string bytes, d) => bytes.length + uptoBulk d + 1
  | (_, d) => uptoBulk d + 1
 end
def uptoSmall : (H : Type) → List (DataW H) → Bool := fun _ ds => decide (uptoBulkAll ds ≤ 1048576)
def OpenSpec.upto (s : _root_.Go.ChangeSpec) : _root_.Go.OpenSpec := { _root_.Go.OpenSpec.ofChange s with cond := some uptoSmall }

/-- 'chertlaw04.BchEncodes', WHERE WHAT IT READS IS OF BULK AT MOST 1048576: true; the input reads as it did. -/
def bchEncodesUptoRow : OpenClaim := { program := "ytldekkniammllaa", sum := "5ff54f4eda8a349103323f3aa961c19db6042d48ed66e7ce872d18a9b2ccbfc8", func := "chert/chertlaw04.BchEncodes", spec := "bchEncodes", inPlace := ["sync/atomic.LoadUint32", "(*internal/sync.Mutex).Lock", "internal/race.Disable", "sync/atomic.CompareAndSwapInt32", "internal/race.Enable", "internal/race.Acquire", "(*internal/sync.Mutex).lockSlow", "internal/sync.runtime_canSpin", "internal/sync.runtime_doSpin", "internal/sync.throw", "internal/sync.runtime_nanotime", "internal/sync.runtime_SemacquireMutex", "sync/atomic.AddInt32", "(*internal/sync.Mutex).Unlock", "internal/race.ReleaseMerge", "(*internal/sync.Mutex).unlockSlow", "internal/sync.fatal", "internal/sync.runtime_Semrelease", "sync/atomic.StoreUint32", "sync/atomic.AddInt64"], unfollowed := true, recurses := true, apart := false, narrowed := true }
def BchEncodesUptoSaid : Prop := bchEncodesUptoRow.holds Try.pinned (OpenSpec.upto bchEncodesSpec)

/-- 'chertlaw04.BchCorrects', WHERE WHAT IT READS IS OF BULK AT MOST 1048576: true; the input reads as it did. -/
def bchCorrectsUptoRow : OpenClaim := { program := "ytldekkniammllaa", sum := "5ff54f4eda8a349103323f3aa961c19db6042d48ed66e7ce872d18a9b2ccbfc8", func := "chert/chertlaw04.BchCorrects", spec := "bchCorrects", inPlace := ["sync/atomic.LoadUint32", "(*internal/sync.Mutex).Lock", "internal/race.Disable", "sync/atomic.CompareAndSwapInt32", "internal/race.Enable", "internal/race.Acquire", "(*internal/sync.Mutex).lockSlow", "internal/sync.runtime_canSpin", "internal/sync.runtime_doSpin", "internal/sync.throw", "internal/sync.runtime_nanotime", "internal/sync.runtime_SemacquireMutex", "sync/atomic.AddInt32", "(*internal/sync.Mutex).Unlock", "internal/race.ReleaseMerge", "(*internal/sync.Mutex).unlockSlow", "internal/sync.fatal", "internal/sync.runtime_Semrelease", "sync/atomic.StoreUint32", "sync/atomic.AddInt64"], unfollowed := true, recurses := true, apart := false, narrowed := true }
def BchCorrectsUptoSaid : Prop := bchCorrectsUptoRow.holds Try.pinned (OpenSpec.upto bchCorrectsSpec)

/-- 'chertlaw04.BchAny', WHERE WHAT IT READS IS OF BULK AT MOST 1048576: true; the input reads as it did. -/
def bchAnyUptoRow : OpenClaim := { program := "ytldekkniammllaa", sum := "5ff54f4eda8a349103323f3aa961c19db6042d48ed66e7ce872d18a9b2ccbfc8", func := "chert/chertlaw04.BchAny", spec := "bchAny", inPlace := ["sync/atomic.LoadUint32", "(*internal/sync.Mutex).Lock", "internal/race.Disable", "sync/atomic.CompareAndSwapInt32", "internal/race.Enable", "internal/race.Acquire", "(*internal/sync.Mutex).lockSlow", "internal/sync.runtime_canSpin", "internal/sync.runtime_doSpin", "internal/sync.throw", "internal/sync.runtime_nanotime", "internal/sync.runtime_SemacquireMutex", "sync/atomic.AddInt32", "(*internal/sync.Mutex).Unlock", "internal/race.ReleaseMerge", "(*internal/sync.Mutex).unlockSlow", "internal/sync.fatal", "internal/sync.runtime_Semrelease", "sync/atomic.StoreUint32", "sync/atomic.AddInt64"], unfollowed := true, recurses := true, apart := false, narrowed := true }
def BchAnyUptoSaid : Prop := bchAnyUptoRow.holds Try.pinned (OpenSpec.upto bchAnySpec)

/-- 'chertlaw04.BchSpare', WHERE WHAT IT READS IS OF BULK AT MOST 1048576: true; the input reads as it did. -/
def bchSpareUptoRow : OpenClaim := { program := "ytldekkniammllaa", sum := "5ff54f4eda8a349103323f3aa961c19db6042d48ed66e7ce872d18a9b2ccbfc8", func := "chert/chertlaw04.BchSpare", spec := "bchSpare", inPlace := ["sync/atomic.LoadUint32", "(*internal/sync.Mutex).Lock", "internal/race.Disable", "sync/atomic.CompareAndSwapInt32", "internal/race.Enable", "internal/race.Acquire", "(*internal/sync.Mutex).lockSlow", "internal/sync.runtime_canSpin", "internal/sync.runtime_doSpin", "internal/sync.throw", "internal/sync.runtime_nanotime", "internal/sync.runtime_SemacquireMutex", "sync/atomic.AddInt32", "(*internal/sync.Mutex).Unlock", "internal/race.ReleaseMerge", "(*internal/sync.Mutex).unlockSlow", "internal/sync.fatal", "internal/sync.runtime_Semrelease", "sync/atomic.StoreUint32", "sync/atomic.AddInt64"], unfollowed := true, recurses := true, apart := false, narrowed := true }
def BchSpareUptoSaid : Prop := bchSpareUptoRow.holds Try.pinned (OpenSpec.upto bchSpareSpec)

/-- 'chertlaw04.BchTurns', WHERE WHAT IT READS IS OF BULK AT MOST 1048576: true; the input reads as it did. -/
def bchTurnsUptoRow : OpenClaim := { program := "ytldekkniammllaa", sum := "5ff54f4eda8a349103323f3aa961c19db6042d48ed66e7ce872d18a9b2ccbfc8", func := "chert/chertlaw04.BchTurns", spec := "bchTurns", inPlace := ["sync/atomic.LoadUint32", "(*internal/sync.Mutex).Lock", "internal/race.Disable", "sync/atomic.CompareAndSwapInt32", "internal/race.Enable", "internal/race.Acquire", "(*internal/sync.Mutex).lockSlow", "internal/sync.runtime_canSpin", "internal/sync.runtime_doSpin", "internal/sync.throw", "internal/sync.runtime_nanotime", "internal/sync.runtime_SemacquireMutex", "sync/atomic.AddInt32", "(*internal/sync.Mutex).Unlock", "internal/race.ReleaseMerge", "(*internal/sync.Mutex).unlockSlow", "internal/sync.fatal", "internal/sync.runtime_Semrelease", "sync/atomic.StoreUint32", "sync/atomic.AddInt64"], unfollowed := true, recurses := true, apart := false, narrowed := true }
def BchTurnsUptoSaid : Prop := bchTurnsUptoRow.holds Try.pinned (OpenSpec.upto bchTurnsSpec)

end Rows
end Go.Proofs.Ytldekkniammllaa
