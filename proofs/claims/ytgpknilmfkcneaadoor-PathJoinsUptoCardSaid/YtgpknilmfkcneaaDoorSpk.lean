/- 'speaks' of chertlaw18: two parts. And small words for the laws. -/
import Derived.Test.YtgpknilmfkcneaaDoorPathJoin
namespace Go.Proofs.YtgpknilmfkcneaaDoor
open Go.RowKit
set_option linter.unusedVariables false
set_option linter.unusedSimpArgs false

/-- The library's own number (internal/bytealg.MaxLen) lies there. -/
def MaxAt (w : World) : Prop := ∃ m, w.cell? ⟨0, 0, none⟩ = some (.int .i64 m)
theorem MaxAt.below {w w' : World} (h : MaxAt w) (hb : Below w.heap.size w w') : MaxAt w' := by
  obtain ⟨m, hm⟩ := h
  exact ⟨m, below_cell hb _ _ hm⟩
theorem MaxAt.trans {a b c : World} (h : MaxAt a) (hb : Below a.heap.size a b) (hc : Below b.heap.size b c) : Below a.heap.size a c := hb.trans (hc.mono hb.size)
theorem below_on {a b c : World} (hb : Below a.heap.size a b) (hc : Below b.heap.size b c) : Below a.heap.size a c := hb.trans (hc.mono hb.size)

def Ret1 (w : World) (v : Value) (e : Ending) (w' : World) : Prop := e = .returned v ∧ Below w.heap.size w w'
theorem within_w (p q : ByteArray) {w : World} (h : MaxAt w) (hp : p.size ≤ 140737488351232) (hq : q.size ≤ 140737488351232) :
    Calls Tryd.prog 10 #[.string p, .string q] w (Ret1 w (.bool (withinP p.data.toList q.data.toList))) := by
  obtain ⟨m, hm⟩ := h
  exact within_any p q m w hm hp hq

set_option maxHeartbeats 800000 in
theorem speaks_ok (w : World) (h : MaxAt w) : Calls Tryd.prog 7 #[] w fun e w' => e = .returned (.bool true) ∧ Below w.heap.size w w' := by
  obtain ⟨m, hm⟩ := h
  have hv : splitP (⟨#[47, 97, 47, 98]⟩ : ByteArray).data.toList = ([[97], [98]], 0) := by decide +kernel
  have h1 := psplit_any ⟨#[47, 97, 47, 98]⟩ m w hm (by decide)
  unfold SplitPost tup2 at h1
  rw [hv] at h1
  have H1 := Lib.hid h1
  clear hv h1
  go_enter Tryd.func7, Tryd.ntmps7
  go_wp2_with fail
  refine H1.out.mono ?_; rintro e w1 ⟨v, rfl, P1, B1⟩
  obtain ⟨a, c, rfl, hc, h4⟩ := StrsAt.of_parts P1
  obtain ⟨b, o, rfl, h5⟩ := h4.resolve_left (by simp)
  have hcell : w1.cell? ⟨b, o + 1, none⟩ = some (.string ⟨#[98]⟩) := h5 1 (by decide)
  have HB := Lib.hid B1
  clear h4 h5 P1 B1
  rw [show ([[97], [98]] : List (List UInt8)).length = 2 from rfl]
  go_wp2_with fail
  go_ret
  exact ⟨rfl, HB.out⟩

end Go.Proofs.YtgpknilmfkcneaaDoor
