/- Package lz: the packer; the strings.Builder within it. -/
import Derived.Test.YthpdmgefdaegmaaDoorOpsC
import Derived.Lib.Builder
import Derived.Lib.OthersKept
namespace Go.Proofs.YthpdmgefdaegmaaDoor
open Go.RowKit
set_option linter.unusedVariables false
set_option linter.unusedSimpArgs false

/-- The packer in block b (made since B), and what it has told. -/
structure PkAt (w : World) (B b : Nat) (txt : ByteArray) (adr : Value) (out : List UInt8) (pl : Int) (mp : Value) : Prop where
  old : B ≤ b
  cells : ∃ v, w.heap[b]? = some (.cells #[.string txt, adr, v, .int .i64 pl, mp] 78 (0, 0)) ∧ w.ownsRow B 5 1 v out.length (out.map byteV) ∧ v.ownBlock ≠ some b

theorem cellsOf_heap {w : World} {b : Nat} {cs : Array Value} {t : TypeId} {fz : Nat × Nat} (h : w.heap[b]? = some (.cells cs t fz)) (o : Nat) : w.cell? ⟨b, o, none⟩ = cs[o]? := by
  simp [World.cell?, h]

set_option maxHeartbeats 1000000 in
set_option maxRecDepth 100000 in
theorem copyCheck_fresh {w : World} {b : Nat} (h0 : w.cell? ⟨b, 1, none⟩ = some (.pointer none)) (hsh : w.shape? b = some (78, 5)) (hfz : w.frozen? ⟨b, 1, none⟩ = false) :
    Calls Tryd.prog 42 #[.pointer (some ⟨b, 1, none⟩)] w fun e w' => e = .returned (.tuple #[]) ∧ w' = w.setCell ⟨b, 1, none⟩ (.pointer (some ⟨b, 1, none⟩)) := by
  obtain ⟨j, hj, hjs⟩ := Option.map_eq_some_iff.1 (show (Tryd.prog.info? 76).map (·.size) = some 2 by kernel_rfl)
  go_enter Tryd.func42, Tryd.ntmps42
  go_wp2_with fail
  rw [Lib.run_to_unsafe w ⟨b, 1, none⟩ (P := Tryd.prog) (src := 74) (dst := 101) (by kernel_rfl) (by kernel_rfl) hj (by rw [hjs]; decide) hsh (show 1 < 5 by decide)]
  simp only [Result.andThen]
  rw [Oper.upon_value]
  go_wp2_with fail
  rw [run_callFunc_extern (P := Tryd.prog) Tryd.func48 (by kernel_rfl) (by kernel_rfl) (by kernel_rfl) (e := Extern.AbiNoEscape.same) (by kernel_rfl)]
  rw [Lib.run_noEscape]
  simp only [Result.andThen]
  rw [Oper.upon_value]
  go_wp2_with fail
  rw [Lib.run_from_unsafe w ⟨b, 1, none⟩ (P := Tryd.prog) (src := 101) (dst := 74) (by kernel_rfl) (by kernel_rfl) hj hsh (by kernel_rfl)]
  simp only [Result.andThen]
  rw [Oper.upon_value]
  go_wp2_with fail
  go_end0
  exact ⟨rfl, rfl⟩

set_option maxHeartbeats 1000000 in
set_option maxRecDepth 100000 in
theorem copyCheck_used {w : World} {b : Nat} (h0 : w.cell? ⟨b, 1, none⟩ = some (.pointer (some ⟨b, 1, none⟩))) :
    Calls Tryd.prog 42 #[.pointer (some ⟨b, 1, none⟩)] w fun e w' => e = .returned (.tuple #[]) ∧ w' = w := by
  obtain ⟨j, hj, hjs⟩ := Option.map_eq_some_iff.1 (show (Tryd.prog.info? 76).map (·.size) = some 2 by kernel_rfl)
  go_enter Tryd.func42, Tryd.ntmps42
  go_wp2_with fail
  rw [Lib.run_neq_ptr_same (P := Tryd.prog) (tp := 74) w _ (by kernel_rfl) hj]
  go_wp2_with fail
  go_end0
  exact ⟨rfl, rfl⟩

/-- Either nothing was written yet, or the builder holds its own address. -/
def AdrOk (b : Nat) (adr : Value) : Prop := adr = .pointer none ∨ adr = .pointer (some ⟨b, 1, none⟩)
def Adr (b : Nat) : Value := .pointer (some ⟨b, 1, none⟩)
variable {w : World} {B b : Nat} {txt : ByteArray} {adr : Value} {out : List UInt8} {pl : Int} {mp : Value}
theorem PkAt.lt (h : PkAt w B b txt adr out pl mp) : b < w.heap.size := by
  obtain ⟨v, h1, _⟩ := h.cells
  rcases Nat.lt_or_ge b w.heap.size with h | h
  · exact h
  · rw [Array.getElem?_eq_none h] at h1; cases h1

theorem copyCheck_any (h : PkAt w B b txt adr out pl mp) (ha : AdrOk b adr) :
    Calls Tryd.prog 42 #[.pointer (some ⟨b, 1, none⟩)] w fun e w' => e = .returned (.tuple #[]) ∧ PkAt w' B b txt (Adr b) out pl mp ∧ Below B w w' ∧ Lib.OthersKept 5 (some b) w w' := by
  obtain ⟨v, h1, h2, h3⟩ := h.cells
  have c1 : w.cell? ⟨b, 1, none⟩ = some adr := by rw [cellsOf_heap h1]; rfl
  rcases ha with rfl | rfl
  · refine (copyCheck_fresh c1 (by simp [World.shape?, h1]) (by simp [World.frozen?, h1])).mono ?_
    rintro e w' ⟨rfl, rfl⟩
    refine ⟨rfl, ⟨h.old, v, ?_, ?_, h3⟩, (Below.refl B w).setCell (p := ⟨b, 1, none⟩) h.old _, (Lib.OthersKept.refl _ _ w).setCell ⟨b, 1, none⟩ rfl _⟩
    · rw [heap_setCell_same w b 1 _ _ _ h1]; rfl
    · exact h2.kept (row := some b) ⟨rfl, rfl, rfl, by simp, fun k _ hk => heap_setCell_other w ⟨b, 1, none⟩ k _ (fun e => hk (by simp [e]))⟩ (.inr h3)
  · refine (copyCheck_used c1).mono ?_
    rintro e w' ⟨rfl, rfl⟩
    exact ⟨rfl, ⟨h.old, v, h1, h2, h3⟩, Below.refl _ _, Lib.OthersKept.refl _ _ _⟩

end Go.Proofs.YthpdmgefdaegmaaDoor
