/- What a call may change; bits of numbers. -/
import Derived.Test.YtgfjeaegigjnaaaGreatDoorPgF
import Derived.WalkKit
import Derived.Below
import Derived.Deep.Draws
import Derived.Lib.Hide
import Derived.Laws.OwnMore
import Derived.Outline
import Derived.IntWalk
import Derived.Test.YtgfjeaegigjnaaaGreatDoorProg
import Derived.Laws.BitsLemmas
import Derived.Laws.Bits64
import Derived.Test.YtgfjeaegigjnaaaGreatDoorPgZ
namespace Go.Proofs.YtgfjeaegigjnaaaGreatDoor
open Go.RowKit
set_option linter.unusedVariables false
set_option linter.unusedSimpArgs false

section
variable {S S' : Nat → Prop} {a b c : World}
theorem Stays.setNew (h : Stays S a b) {p : Addr} (hp : a.heap.size ≤ p.block) (v : Value) : Stays S a (b.setCell p v) :=
  ⟨h.os, h.tape, h.output, Nat.le_trans h.size (by simp [World.setCell]), fun i hi hn => (Below.heap_setCell b p v i (fun e => by omega)).trans (h.block i hi hn)⟩
end

/-- Only the cells lo to hi of block b, and new blocks, may differ. -/
structure Only (b lo hi : Nat) (w w' : World) : Prop where
  st : Stays (· = b) w w'
  cl : ∀ o, ¬ (lo ≤ o ∧ o < hi) → w'.cell? ⟨b, o, none⟩ = w.cell? ⟨b, o, none⟩
  fz : ∀ o, w'.frozen? ⟨b, o, none⟩ = w.frozen? ⟨b, o, none⟩
section
variable {b lo hi lo' hi' : Nat} {x y z : World}
theorem Only.refl (b lo hi : Nat) (w : World) : Only b lo hi w w := ⟨Stays.refl _ _, fun _ _ => rfl, fun _ => rfl⟩
theorem Only.trans (h : Only b lo hi x y) (k : Only b lo hi y z) : Only b lo hi x z :=
  ⟨h.st.trans k.st, fun o ho => (k.cl o ho).trans (h.cl o ho), fun o => (k.fz o).trans (h.fz o)⟩
theorem Only.mono (h : Only b lo hi x y) (h1 : lo' ≤ lo) (h2 : hi ≤ hi') : Only b lo' hi' x y := ⟨h.st, fun o ho => h.cl o (by omega), h.fz⟩
theorem Only.setCell (h : Only b lo hi x y) {o : Nat} (h1 : lo ≤ o) (h2 : o < hi) (v : Value) : Only b lo hi x (y.setCell ⟨b, o, none⟩ v) :=
  ⟨h.st.setCell rfl v, fun o' ho => (World.cell?_setCell_other _ _ _ _ (addr_ne_off (by omega))).trans (h.cl o' ho), fun o' => (World.frozen?_setCell _ _ _ _).trans (h.fz o')⟩
theorem Only.setNew (h : Only b lo hi x y) {g o : Nat} (hg : x.heap.size ≤ g) (hb : g ≠ b) (v : Value) : Only b lo hi x (y.setCell ⟨g, o, none⟩ v) :=
  ⟨h.st.setNew hg v, fun o' ho => (World.cell?_setCell_other _ _ _ _ (addr_ne_block hb)).trans (h.cl o' ho), fun o' => (World.frozen?_setCell _ _ _ _).trans (h.fz o')⟩
theorem Only.drew (h : Only b lo hi x y) : Only b lo hi x y.drew :=
  ⟨h.st.drew, fun o' ho => (World.cell?_drew _ _).trans (h.cl o' ho), fun o' => (World.frozen?_drew _ _).trans (h.fz o')⟩
theorem Only.drewN (h : Only b lo hi x y) (n : Nat) : Only b lo hi x (y.drewN n) := ⟨h.st.drewN n, fun o' ho => h.cl o' ho, fun o' => h.fz o'⟩
theorem Only.alloc (h : Only b lo hi x y) (hb : b < x.heap.size) (o : Obj) : Only b lo hi x (y.alloc o) := by
  have := h.st.size
  refine ⟨h.st.alloc o, fun o' ho => (World.cell?_alloc_lt _ _ _ ?_).trans (h.cl o' ho), fun o' => (World.frozen?_alloc_old _ _ _ ?_).trans (h.fz o')⟩
  · show b < _; omega
  · show b ≠ _; omega
theorem Only.of_below (h : Below x.heap.size x y) (hb : b < x.heap.size) : Only b lo hi x y := by
  refine ⟨Stays.of_below h, fun o _ => ?_, fun o => ?_⟩
  · simp only [World.cell?, h.block b hb]
  · simp only [World.frozen?, h.block b hb]
theorem Only.below (h : Only b lo hi x y) (k : Below y.heap.size y z) (hb : b < x.heap.size) : Only b lo hi x z :=
  h.trans (Only.of_below k (by have := h.st.size; omega))
/-- Writes into blocks that are new since x. -/
theorem Only.new {S : Nat → Prop} (h : Only b lo hi x y) (k : Stays S y z) (hS : ∀ q, S q → x.heap.size ≤ q) (hb : b < x.heap.size) : Only b lo hi x z := by
  have hsz := h.st.size
  have hn : ¬ S b := fun q => by have := hS b q; omega
  refine ⟨⟨k.os.trans h.st.os, k.tape.trans h.st.tape, k.output.trans h.st.output, Nat.le_trans hsz k.size, fun i hi hn2 => (k.block i (by omega) (fun q => by have := hS i q; omega)).trans (h.st.block i hi hn2)⟩, fun o ho => ?_, fun o => ?_⟩
  · refine Eq.trans ?_ (h.cl o ho)
    simp only [World.cell?, k.block b (by omega) hn]
  · refine Eq.trans ?_ (h.fz o)
    simp only [World.frozen?, k.block b (by omega) hn]
/-- A cell elsewhere. -/
theorem Only.cell (h : Only b lo hi x y) {g o : Nat} {v : Value} (hv : x.cell? ⟨g, o, none⟩ = some v) (hg : g = b → ¬ (lo ≤ o ∧ o < hi)) : y.cell? ⟨g, o, none⟩ = some v := by
  by_cases hb : g = b
  · subst hb; rw [h.cl o (hg rfl)]; exact hv
  · exact h.st.cell hv hb
theorem Only.frozen (h : Only b lo hi x y) {g o : Nat} (hg : g < x.heap.size) : y.frozen? ⟨g, o, none⟩ = x.frozen? ⟨g, o, none⟩ := by
  by_cases hb : g = b
  · subst hb; exact h.fz o
  · exact h.st.frozen (p := ⟨g, o, none⟩) hb hg
end

/-- A row of n cells of block g. -/
structure Row (w : World) (g n : Nat) (E : Nat → Value) : Prop where
  cell : ∀ j, j < n → w.cell? ⟨g, j, none⟩ = some (E j)
  free : ∀ j, w.frozen? ⟨g, j, none⟩ = false
theorem Row.set {w : World} {g n : Nat} {E : Nat → Value} (h : Row w g n E) (i : Nat) (v : Value) : Row (w.setCell ⟨g, i, none⟩ v) g n (upd E i v) := by
  refine ⟨fun j hj => ?_, fun j => (World.frozen?_setCell _ _ _ _).trans (h.free j)⟩
  by_cases e : j = i
  · subst e; rw [upd_same]; exact World.cell?_setCell_same _ _ _ (h.cell j hj)
  · rw [upd_other _ _ e]; exact (World.cell?_setCell_other _ _ _ _ (addr_ne_off (Ne.symm e))).trans (h.cell j hj)
theorem Row.other {w : World} {g n : Nat} {E : Nat → Value} (h : Row w g n E) {k : Nat} (i : Nat) (v : Value) (hk : k ≠ g) : Row (w.setCell ⟨k, i, none⟩ v) g n E :=
  ⟨fun j hj => (World.cell?_setCell_other _ _ _ _ (addr_ne_block hk)).trans (h.cell j hj), fun j => (World.frozen?_setCell _ _ _ _).trans (h.free j)⟩
theorem Row.drew {w : World} {g n : Nat} {E : Nat → Value} (h : Row w g n E) : Row w.drew g n E :=
  ⟨fun j hj => (World.cell?_drew _ _).trans (h.cell j hj), fun j => (World.frozen?_drew _ _).trans (h.free j)⟩
theorem Row.drewN {w : World} {g n : Nat} {E : Nat → Value} (h : Row w g n E) (k : Nat) : Row (w.drewN k) g n E := ⟨h.cell, h.free⟩
theorem Row.alloc {w : World} {g n : Nat} {E : Nat → Value} (h : Row w g n E) (hg : g < w.heap.size) (o : Obj) : Row (w.alloc o) g n E :=
  ⟨fun j hj => (World.cell?_alloc_lt _ _ _ hg).trans (h.cell j hj), fun j => (World.frozen?_alloc_old _ _ _ (by show g ≠ _; omega)).trans (h.free j)⟩
theorem Row.only {w w' : World} {g n b lo hi : Nat} {E : Nat → Value} (h : Row w g n E) (k : Only b lo hi w w') (hg : g < w.heap.size) (hb : g ≠ b) : Row w' g n E :=
  ⟨fun j hj => k.cell (h.cell j hj) (fun e => absurd e hb), fun j => (k.frozen hg).trans (h.free j)⟩
theorem Row.stays {w w' : World} {g n : Nat} {S : Nat → Prop} {E : Nat → Value} (h : Row w g n E) (k : Stays S w w') (hg : g < w.heap.size) (hb : ¬ S g) : Row w' g n E :=
  ⟨fun j hj => k.cell (h.cell j hj) hb, fun j => (k.frozen (p := ⟨g, j, none⟩) hb hg).trans (h.free j)⟩
theorem Row.made (w : World) (c : Array Value) (t : TypeId) (n : Nat) (E : Nat → Value) (h : ∀ j, j < n → c[j]? = some (E j)) : Row (w.alloc (.cells c t)) w.heap.size n E :=
  ⟨fun j hj => (World.cell?_alloc_new _ _ _ _).trans (h j hj), fun j => World.frozen?_alloc_new _ _ _ _⟩
theorem madeCells_getN (z : Value) (n j : Nat) (h : j < n) : (madeCells #[z] n)[j]? = some z := by
  have h1 := toList_madeCells_one z n
  have h2 : (madeCells #[z] n).toList[j]? = some z := by
    rw [h1]; simp [h]
  simpa using h2
theorem Row.mono {w : World} {g n m : Nat} {E : Nat → Value} (h : Row w g n E) (hm : m ≤ n) : Row w g m E := ⟨fun j hj => h.cell j (by omega), h.free⟩
theorem Row.congr {w : World} {g n : Nat} {E E' : Nat → Value} (h : Row w g n E) (hE : ∀ j, j < n → E j = E' j) : Row w g n E' := ⟨fun j hj => by rw [h.cell j hj, hE j hj], h.free⟩
end Go.Proofs.YtgfjeaegigjnaaaGreatDoor

namespace Go.Proofs.YtgfjeaegigjnaaaGreatDoor
set_option linter.unusedVariables false
set_option linter.unusedSimpArgs false

theorem ofInt_toNat (n a : Nat) (h : a < 2 ^ n) : (BitVec.ofInt n (a : Int)).toNat = a := by
  rw [BitVec.ofInt_natCast, BitVec.toNat_ofNat]; exact Nat.mod_eq_of_lt h
theorem xor_i64 (a b : Nat) (ha : a < 9223372036854775808) (hb : b < 9223372036854775808) : bits .xor .i64 (a : Int) (b : Int) = ((a ^^^ b : Nat) : Int) := by
  have hx : a ^^^ b < 2 ^ 63 := Nat.xor_lt_two_pow (by omega) (by omega)
  have h1 : (BitVec.ofInt 64 (a : Int)).toNat = a := ofInt_toNat 64 a (by omega)
  have h2 : (BitVec.ofInt 64 (b : Int)).toNat = b := ofInt_toNat 64 b (by omega)
  show IntKind.i64.wrap ((BitVec.ofInt 64 (a : Int) ^^^ BitVec.ofInt 64 (b : Int)).toNat : Int) = _
  rw [BitVec.toNat_xor, h1, h2, IntKind.wrap_i64]
  omega
theorem and_i64 (a b : Nat) (ha : a < 9223372036854775808) (hb : b < 9223372036854775808) : bits .and .i64 (a : Int) (b : Int) = ((a &&& b : Nat) : Int) := by
  have hx : a &&& b < 2 ^ 63 := Nat.and_lt_two_pow _ (by omega)
  have h1 : (BitVec.ofInt 64 (a : Int)).toNat = a := ofInt_toNat 64 a (by omega)
  have h2 : (BitVec.ofInt 64 (b : Int)).toNat = b := ofInt_toNat 64 b (by omega)
  show IntKind.i64.wrap ((BitVec.ofInt 64 (a : Int) &&& BitVec.ofInt 64 (b : Int)).toNat : Int) = _
  rw [BitVec.toNat_and, h1, h2, IntKind.wrap_i64]
  omega
theorem xor_u8N (a b : Nat) (ha : a < 256) (hb : b < 256) : bits .xor .u8 (a : Int) (b : Int) = ((a ^^^ b : Nat) : Int) := by
  have hx : a ^^^ b < 2 ^ 8 := Nat.xor_lt_two_pow (by omega) (by omega)
  have h1 : (BitVec.ofInt 8 (a : Int)).toNat = a := ofInt_toNat 8 a (by omega)
  have h2 : (BitVec.ofInt 8 (b : Int)).toNat = b := ofInt_toNat 8 b (by omega)
  show IntKind.u8.wrap ((BitVec.ofInt 8 (a : Int) ^^^ BitVec.ofInt 8 (b : Int)).toNat : Int) = _
  rw [BitVec.toNat_xor, h1, h2, IntKind.wrap_u8]
  omega
theorem or_u8 (a b : Nat) (ha : a < 256) (hb : b < 256) : bits .or .u8 (a : Int) (b : Int) = ((a ||| b : Nat) : Int) := by
  have hx : a ||| b < 2 ^ 8 := Nat.or_lt_two_pow (by omega) (by omega)
  have h1 : (BitVec.ofInt 8 (a : Int)).toNat = a := ofInt_toNat 8 a (by omega)
  have h2 : (BitVec.ofInt 8 (b : Int)).toNat = b := ofInt_toNat 8 b (by omega)
  show IntKind.u8.wrap ((BitVec.ofInt 8 (a : Int) ||| BitVec.ofInt 8 (b : Int)).toNat : Int) = _
  rw [BitVec.toNat_or, h1, h2, IntKind.wrap_u8]
  omega
theorem and_u8 (a b : Nat) (ha : a < 256) (hb : b < 256) : bits .and .u8 (a : Int) (b : Int) = ((a &&& b : Nat) : Int) := by
  have hx : a &&& b < 2 ^ 8 := Nat.and_lt_two_pow _ (by omega)
  have h1 : (BitVec.ofInt 8 (a : Int)).toNat = a := ofInt_toNat 8 a (by omega)
  have h2 : (BitVec.ofInt 8 (b : Int)).toNat = b := ofInt_toNat 8 b (by omega)
  show IntKind.u8.wrap ((BitVec.ofInt 8 (a : Int) &&& BitVec.ofInt 8 (b : Int)).toNat : Int) = _
  rw [BitVec.toNat_and, h1, h2, IntKind.wrap_u8]
  omega
end Go.Proofs.YtgfjeaegigjnaaaGreatDoor

