/- Package ops, the small calls: the bytes of a piece, a piece of a list, Span. -/
import Derived.Test.YthpdmgefdaegmaaDoorProg
import Derived.WalkKit
import Derived.Below
import Derived.Lib.Hide
import Derived.Outline
import Derived.Laws.OwnMore
import Derived.Laws.CopyOwn
import Derived.Lib.BufferWrite
import Derived.Lib.SlBuf
import Derived.Deep.OwnRows
namespace Go.Proofs.YthpdmgefdaegmaaDoor
open Go.RowKit
set_option linter.unusedVariables false
set_option linter.unusedSimpArgs false

def byteV (b : UInt8) : Value := .int .u8 (b.toNat : Int)
/-- The 64 bytes of a piece. -/
def pieceL (l : List UInt8) : List UInt8 := l.take 64 ++ List.replicate (64 - l.length) 0
theorem pieceL_len (l : List UInt8) : (pieceL l).length = 64 := by
  unfold pieceL
  rw [List.length_append, List.length_take, List.length_replicate]; omega

/-- 'copy(dst, s)', s a string of whatever length. -/
theorem run_copy_str {P : Program} (w : World) (dT sT ty elem : TypeId) (g o dLen dCap : Nat) (s : ByteArray) (cur : Array Value) (t : TypeId)
    (hu : P.underlying dT = some (.slice elem)) (hs : (P.info? elem).map (·.size) = some 1) (hg : w.heap[g]? = some (.cells cur t (0, 0))) (n : Nat) (hn : n = min s.size dLen) (hfit : o + n ≤ cur.size) :
    (Builtin.copy_ #[dT, sT] ty #[.slice (some ⟨g, o, none⟩) dLen dCap, .string s]).run P w =
      .ok (goInt n) (w.setRow g (cur.toList.take o ++ Lib.byteCells (s.data.toList.take n) ++ cur.toList.drop (o + n)).toArray) := by
  have hlen : (Lib.byteCells (s.data.toList.take n)).length = n := by
    have : s.data.toList.length = s.size := by simp
    rw [Lib.byteCells_length, List.length_take]; omega
  have hst := run_storeCells_at P g o t (Lib.byteCells (s.data.toList.take n)) 0 cur w hg (by rw [hlen]; simpa using hfit) (Lib.byteCells_one _)
  have hmin : Nat.min s.size dLen = n := hn.symm
  have htk : List.take n (List.map (fun b : UInt8 => Value.int IntKind.u8 (b.toNat : Int)) s.data.toList) = Lib.byteCells (s.data.toList.take n) := by
    rw [← List.map_take]; rfl
  rw [hlen] at hst
  simp only [Nat.add_zero] at hst
  cases hq : P.info? elem with
  | none => simp [hq] at hs
  | some i =>
    simp [Builtin.copy_, run_underlying hu, Builtin.lenOf, Builtin.firstCells, sizeOf, typeInfo, hq, hmin]
    rw [htk, hst]
    simp [Result.andThen]

theorem made_size (v : Value) (n : Nat) : (madeCells #[v] n).size = n := by simp [madeCells]
/-- A slice made since B holds these bytes. -/
def BytesIn (w : World) (B g : Nat) (l : List UInt8) : Prop := w.ownsRow B 5 1 (.slice (some ⟨g, 0, none⟩) l.length l.length) l.length (l.map byteV)

set_option maxHeartbeats 800000 in
set_option maxRecDepth 100000 in
theorem bytes_any (s : ByteArray) (w : World) : Calls Tryd.prog 15 #[.string s] w fun e w' =>
    e = .returned (.slice (some ⟨w.heap.size, 0, none⟩) 64 64) ∧ w'.heap[w.heap.size]? = some (.cells ((pieceL s.data.toList).map byteV).toArray 5 (0, 0)) ∧ Below w.heap.size w w' := by
  obtain ⟨N, hN⟩ : ∃ N : Nat, N = 64 := ⟨64, rfl⟩
  have hmk : ∀ W : World, (Instr.makeSlice 25 (.int .i64 64) (.int .i64 64)).run Tryd.prog W = .ok (.slice (some ⟨W.heap.size, 0, none⟩) N N) (W.alloc (.cells (madeCells #[.int .u8 0] N) 5)) := by
    intro W
    have h := run_make_row' (P := Tryd.prog) 25 5 (.int .u8 0) 1 (by kernel_rfl) (by kernel_rfl) rfl .i64 .i64 N (by omega) (by omega) W
    have hc : ((N : Nat) : Int) = 64 := by omega
    rw [hc] at h
    exact h
  have hsl : s.data.toList.length = s.size := by simp
  have hcp := run_copy_str (P := Tryd.prog) (w.alloc (.cells (madeCells #[.int .u8 0] N) 5)) 25 9 3 5 w.heap.size 0 N N s (madeCells #[.int .u8 0] N) 5 (by kernel_rfl) (by kernel_rfl) (heap_alloc_new w _) (min s.size N) rfl (Nat.le_trans (show 0 + min s.size N ≤ N by omega) (Nat.le_of_eq (made_size _ _).symm))
  have hres : ((madeCells #[Value.int .u8 0] N).toList.take 0 ++ Lib.byteCells (s.data.toList.take (min s.size N)) ++ (madeCells #[Value.int .u8 0] N).toList.drop (0 + min s.size N)).toArray = ((pieceL s.data.toList).map byteV).toArray := by
    refine congrArg List.toArray ?_
    rw [toList_madeCells_one]
    unfold pieceL Lib.byteCells
    rw [List.take_zero, List.nil_append, List.map_append, List.drop_replicate, List.map_replicate, hsl, ← hN]
    congr 1
    · rcases Nat.le_total s.size N with h | h
      · rw [Nat.min_eq_left h, List.take_of_length_le (by omega), List.take_of_length_le (by omega)]; rfl
      · rw [Nat.min_eq_right h]; rfl
    · show List.replicate _ _ = List.replicate _ _
      congr 1
      omega
  rw [hres] at hcp
  have hnew := heap_alloc_new w (.cells (madeCells #[.int .u8 0] N) 5)
  have HRW := Lib.hid (setRow_heap (w.alloc (.cells (madeCells #[.int .u8 0] N) 5)) w.heap.size _ ((pieceL s.data.toList).map byteV).toArray _ _ hnew)
  have HBL : Hid (Below w.heap.size w ((w.alloc (.cells (madeCells #[.int .u8 0] N) 5)).setRow w.heap.size ((pieceL s.data.toList).map byteV).toArray)) := Lib.hid (below_setRow ((Below.refl _ _).alloc (Nat.le_refl _) _) (Nat.le_refl _) _)
  have HN := Lib.hid hN
  clear hres hnew hsl hN
  go_enter Tryd.func15, Tryd.ntmps15
  go_wp2_with fail
  go_ret
  exact ⟨by rw [HN.out]; rfl, HRW.out, HBL.out⟩

end Go.Proofs.YthpdmgefdaegmaaDoor
