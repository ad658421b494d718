/- What a call leaves as it was; one place of a function changed. -/
import Derived.Test.YtgfjeaegigjnaaaGreatDoorProg
import Derived.WalkKit
import Derived.Below
import Derived.Deep.Draws
namespace Go.Proofs.YtgfjeaegigjnaaaGreatDoor
open Go.RowKit
set_option linter.unusedVariables false
set_option linter.unusedSimpArgs false

/-- One place of a function changed. -/
def upd {α : Type} (f : Nat → α) (i : Nat) (v : α) : Nat → α := fun j => if j = i then v else f j
theorem upd_same {α : Type} (f : Nat → α) (i : Nat) (v : α) : upd f i v i = v := by simp [upd]
theorem upd_other {α : Type} (f : Nat → α) {i j : Nat} (v : α) (h : j ≠ i) : upd f i v j = f j := by simp [upd, h]
/-- But for the blocks of S, and what is new, the world is as it was. -/
structure Stays (S : Nat → Prop) (w w' : World) : Prop where
  os : w'.os = w.os
  tape : w'.tape = w.tape
  output : w'.output = w.output
  size : w.heap.size ≤ w'.heap.size
  block : ∀ k, k < w.heap.size → ¬ S k → w'.heap[k]? = w.heap[k]?
section
variable {S S' : Nat → Prop} {a b c : World}
theorem Stays.refl (S : Nat → Prop) (w : World) : Stays S w w := ⟨rfl, rfl, rfl, Nat.le_refl _, fun _ _ _ => rfl⟩
theorem Stays.trans (h : Stays S a b) (k : Stays S b c) : Stays S a c :=
  ⟨k.os.trans h.os, k.tape.trans h.tape, k.output.trans h.output, Nat.le_trans h.size k.size, fun i hi hn => (k.block i (Nat.lt_of_lt_of_le hi h.size) hn).trans (h.block i hi hn)⟩
theorem Stays.mono (h : Stays S a b) (hs : ∀ k, S k → S' k) : Stays S' a b := ⟨h.os, h.tape, h.output, h.size, fun i hi hn => h.block i hi (fun hk => hn (hs i hk))⟩
theorem Stays.setCell (h : Stays S a b) {p : Addr} (hp : S p.block) (v : Value) : Stays S a (b.setCell p v) :=
  h.trans ⟨rfl, rfl, rfl, by simp [World.setCell], fun i _ hn => Below.heap_setCell b p v i (fun e => hn (e ▸ hp))⟩
theorem Stays.alloc (h : Stays S a b) (o : Obj) : Stays S a (b.alloc o) :=
  h.trans ⟨rfl, rfl, rfl, by simp, fun i hi _ => Below.heap_alloc b o i hi⟩
theorem Stays.drew (h : Stays S a b) : Stays S a b.drew := h.trans ⟨rfl, rfl, rfl, Nat.le_refl _, fun _ _ _ => rfl⟩
theorem Stays.drewN (h : Stays S a b) (n : Nat) : Stays S a (b.drewN n) := h.trans ⟨rfl, rfl, rfl, Nat.le_refl _, fun _ _ _ => rfl⟩
/-- What is written in a block that is new since is no change of what there was. -/
theorem Stays.fresh {g : Nat} (h : Stays S a b) (k : Stays (· = g) b c) (hg : a.heap.size ≤ g) : Stays S a c :=
  ⟨k.os.trans h.os, k.tape.trans h.tape, k.output.trans h.output, Nat.le_trans h.size k.size, fun i hi hn => (k.block i (Nat.lt_of_lt_of_le hi h.size) (fun e : i = g => by omega)).trans (h.block i hi hn)⟩
theorem Stays.of_below (h : Below a.heap.size a b) : Stays S a b := ⟨h.os, h.tape, h.output, h.size, fun i hi _ => h.block i hi⟩
theorem Stays.below (h : Stays S a b) (hk : Below b.heap.size b c) : Stays S a c := h.trans (Stays.of_below hk)
/-- What lies below B stays, if S lies above. -/
theorem Below.stays {B : Nat} (h : Below B a b) (hk : Stays S b c) (hS : ∀ k, S k → B ≤ k) (hB : B ≤ b.heap.size) : Below B a c :=
  ⟨hk.os.trans h.os, hk.tape.trans h.tape, hk.output.trans h.output, Nat.le_trans h.size hk.size, fun i hi => (hk.block i (by omega) (fun hs => by have := hS i hs; omega)).trans (h.block i hi)⟩
theorem Stays.cell (h : Stays S a b) {p : Addr} {v : Value} (hv : a.cell? p = some v) (hp : ¬ S p.block) : b.cell? p = some v := by
  have := h.block p.block (World.block_lt_of_cell? a p hv) hp
  rw [← hv]
  simp only [World.cell?, this]
theorem Stays.frozen (h : Stays S a b) {p : Addr} (hp : ¬ S p.block) (hb : p.block < a.heap.size) : b.frozen? p = a.frozen? p := by
  simp only [World.frozen?, h.block p.block hb hp]
end

theorem addr_ne_off {b o o' : Nat} (h : o ≠ o') : (⟨b, o, none⟩ : Addr) ≠ ⟨b, o', none⟩ := fun e => h (by injection e)
theorem addr_ne_block {b b' o o' : Nat} (h : b ≠ b') : (⟨b, o, none⟩ : Addr) ≠ ⟨b', o', none⟩ := fun e => h (by injection e)
end Go.Proofs.YtgfjeaegigjnaaaGreatDoor

