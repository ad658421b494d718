/- Package ops: at, Span, Read. -/
import Derived.Test.YthpdmgefdaegmaaDoorOpsA
import Derived.Deep.Draws
import Derived.Deep.DeepCutAuto
import Derived.Deep.CutBlock
import Derived.Laws.IdiomStrings
namespace Go.Proofs.YthpdmgefdaegmaaDoor
open Go.RowKit
set_option linter.unusedVariables false
set_option linter.unusedSimpArgs false

def strB (l : List UInt8) : ByteArray := ⟨l.toArray⟩
theorem strB_size (l : List UInt8) : (strB l).size = l.length := by unfold strB; show l.toArray.size = _; simp
theorem strB_list (l : List UInt8) : (strB l).data.toList = l := by unfold strB; simp
/-- The slice v reads as these texts. -/
def StrsAt (w : World) (v : Value) (ps : List (List UInt8)) : Prop :=
  ∃ a c, v = .slice a ps.length c ∧ ps.length ≤ c ∧ (ps = [] ∨ ∃ b o, a = some ⟨b, o, none⟩ ∧ ∀ j (hj : j < ps.length), w.cell? ⟨b, o + j, none⟩ = some (.string (strB ps[j])))
theorem StrsAt.keep {w w' : World} {v : Value} {ps : List (List UInt8)} (h : StrsAt w v ps) (hw : ∀ a u, w.cell? a = some u → w'.cell? a = some u) : StrsAt w' v ps := by
  obtain ⟨a, c, rfl, hc, h | ⟨b, o, rfl, h⟩⟩ := h
  · exact ⟨a, c, rfl, hc, .inl h⟩
  · exact ⟨_, c, rfl, hc, .inr ⟨b, o, rfl, fun j hj => hw _ _ (h j hj)⟩⟩
theorem below_cell {w w' : World} (h : Below w.heap.size w w') (a : Addr) (u : Value) (ha : w.cell? a = some u) : w'.cell? a = some u :=
  (h.cell (p := a) (World.block_lt_of_cell? _ _ ha)).trans ha
theorem StrsAt.below {w w' : World} {v : Value} {ps : List (List UInt8)} (h : StrsAt w v ps) (hb : Below w.heap.size w w') : StrsAt w' v ps := h.keep (below_cell hb)
theorem below_on {a b c : World} (hb : Below a.heap.size a b) (hc : Below b.heap.size b c) : Below a.heap.size a c := hb.trans (hc.mono hb.size)
theorem below_drewN {B : Nat} {w w' : World} (h : Below B w w') (n : Nat) : Below B w (w'.drewN n) := ⟨h.os, h.tape, h.output, h.size, h.block⟩

def atL (ps : List (List UInt8)) (i : Nat) : List UInt8 := ps.getD i []
set_option maxHeartbeats 400000 in
theorem at_any {w : World} {v : Value} {ps : List (List UInt8)} (h : StrsAt w v ps) (hN : ps.length ≤ 9223372036854775807) (i : Nat) :
    Calls Tryd.prog 16 #[v, .int .i64 i] w fun e w' => e = .returned (.string (strB (atL ps i))) ∧ w = w' := by
  obtain ⟨a, c, rfl, hc, h⟩ := h
  by_cases hlt : i < ps.length
  · obtain ⟨b, o, rfl, h2⟩ := h.resolve_left (by intro e; rw [e] at hlt; simp at hlt)
    have hcell := h2 i hlt
    have hv : Hid (atL ps i = ps[i]) := Lib.hid (by unfold atL; rw [List.getD_eq_getElem?_getD, List.getElem?_eq_getElem hlt]; rfl)
    have h1 : (i : Int) < (ps.length : Int) := by omega
    clear h h2
    obtain ⟨X, hX⟩ : ∃ X, X = strB (atL ps i) := ⟨_, rfl⟩
    rw [← hX]
    rw [← hv.out, ← hX] at hcell
    clear hX hv
    go_enter Tryd.func16, Tryd.ntmps16
    go_wp2_with fail
    go_ret
    exact ⟨rfl, rfl⟩
  · have hv : Hid (atL ps i = []) := Lib.hid (by unfold atL; rw [List.getD_eq_getElem?_getD, List.getElem?_eq_none (by omega)]; rfl)
    have h1 : ¬ (i : Int) < (ps.length : Int) := by omega
    clear h
    go_enter Tryd.func16, Tryd.ntmps16
    go_wp2_with fail
    go_ret
    exact ⟨by rw [hv.out]; rfl, rfl⟩

/-- The pieces that bytes of a file lie in. -/
def spanC (offset size : Int) : Int × Int := if offset < 0 ∨ size < 1 ∨ 8192 < offset ∨ 8192 < size then (0, 0) else (offset / 64, (offset + size - 1) / 64 + 1)
set_option maxHeartbeats 400000 in
theorem span_any (offset size : Int) (w : World) : Calls Tryd.prog 8 #[.int .i64 offset, .int .i64 size] w fun e w' => e = .returned (.tuple #[.int .i64 (spanC offset size).1, .int .i64 (spanC offset size).2]) ∧ w = w' := by
  by_cases h1 : offset < 0
  · have hv : spanC offset size = (0, 0) := if_pos (.inl h1)
    have HV := Lib.hid hv
    clear hv
    go_enter Tryd.func8, Tryd.ntmps8
    go_wp2_with fail
    go_ret2
    exact ⟨by rw [HV.out]; rfl, rfl⟩
  by_cases h2 : size < 1
  · have hv : spanC offset size = (0, 0) := if_pos (.inr (.inl h2))
    have HV := Lib.hid hv
    clear hv
    go_enter Tryd.func8, Tryd.ntmps8
    go_wp2_with fail
    go_ret2
    exact ⟨by rw [HV.out]; rfl, rfl⟩
  by_cases h3 : 8192 < offset
  · have hv : spanC offset size = (0, 0) := if_pos (.inr (.inr (.inl h3)))
    have HV := Lib.hid hv
    clear hv
    go_enter Tryd.func8, Tryd.ntmps8
    go_wp2_with fail
    go_ret2
    exact ⟨by rw [HV.out]; rfl, rfl⟩
  by_cases h4 : 8192 < size
  · have hv : spanC offset size = (0, 0) := if_pos (.inr (.inr (.inr h4)))
    have HV := Lib.hid hv
    clear hv
    go_enter Tryd.func8, Tryd.ntmps8
    go_wp2_with fail
    go_ret2
    exact ⟨by rw [HV.out]; rfl, rfl⟩
  · have hv : spanC offset size = (offset / 64, (offset + size - 1) / 64 + 1) := if_neg (by omega)
    have HV := Lib.hid hv
    clear hv
    go_enter Tryd.func8, Tryd.ntmps8
    go_wp2_with fail
    go_ret2
    exact ⟨by rw [HV.out]; rfl, rfl⟩

end Go.Proofs.YthpdmgefdaegmaaDoor
