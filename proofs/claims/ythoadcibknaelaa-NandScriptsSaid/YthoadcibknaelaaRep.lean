/- The chip of package nand as it lies in memory: plain data, where it stands, and what stores into it make of it. -/
import Derived.Test.YthoadcibknaelaaProg
import Derived.WalkKit
import Derived.Below
import Derived.Deep.Draws
namespace Go.Proofs.Ythoadcibknaelaa
open Go.RowKit
set_option linter.unusedVariables false
set_option linter.unusedSimpArgs false

structure Pg where
  st : Int
  data : ByteArray
  touched : Bool

structure Chp where
  nb : Nat
  np : Nat
  pg : Nat → Nat → Pg
  er : Nat → Int
  rd : Nat → Int
  worn : Nat → Bool
  bytes : Int
  seed : Int
  most : Int
  piece : Int
  left : Int
  mode : Int
  off : Bool
  changes : Int

/-- One place of a function changed. -/
def upd {α : Type} (f : Nat → α) (i : Nat) (v : α) : Nat → α := fun j => if j = i then v else f j
theorem upd_same {α : Type} (f : Nat → α) (i : Nat) (v : α) : upd f i v i = v := by simp [upd]
theorem upd_other {α : Type} (f : Nat → α) {i j : Nat} (v : α) (h : j ≠ i) : upd f i v j = f j := by simp [upd, h]
def upd2 {α : Type} (f : Nat → Nat → α) (i j : Nat) (v : α) : Nat → Nat → α := fun x y => if x = i ∧ y = j then v else f x y

/-- Where a chip lies: its own block, the row of its blocks (with so much room), each block's row of pages. -/
structure Lay where
  a : Nat
  arr : Nat
  cap : Nat
  pg : Nat → Nat

/-- The memory blocks that a chip takes. -/
def Foot (L : Lay) (n : Nat) (k : Nat) : Prop := k = L.a ∨ k = L.arr ∨ ∃ i, i < n ∧ k = L.pg i

structure ChipAt (w : World) (L : Lay) (c : Chp) : Prop where
  c0 : w.cell? ⟨L.a, 0, none⟩ = some (.slice (some ⟨L.arr, 0, none⟩) c.nb L.cap)
  c1 : w.cell? ⟨L.a, 1, none⟩ = some (.int .i64 c.bytes)
  c2 : w.cell? ⟨L.a, 2, none⟩ = some (.int .i64 c.seed)
  c3 : w.cell? ⟨L.a, 3, none⟩ = some (.int .i64 c.most)
  c4 : w.cell? ⟨L.a, 4, none⟩ = some (.int .i64 c.piece)
  c5 : w.cell? ⟨L.a, 5, none⟩ = some (.int .i64 c.left)
  c6 : w.cell? ⟨L.a, 6, none⟩ = some (.int .i64 c.mode)
  c7 : w.cell? ⟨L.a, 7, none⟩ = some (.bool c.off)
  c8 : w.cell? ⟨L.a, 8, none⟩ = some (.int .i64 c.changes)
  b0 : ∀ i, i < c.nb → w.cell? ⟨L.arr, i * 4, none⟩ = some (.slice (some ⟨L.pg i, 0, none⟩) c.np c.np)
  b1 : ∀ i, i < c.nb → w.cell? ⟨L.arr, i * 4 + 1, none⟩ = some (.int .i64 (c.er i))
  b2 : ∀ i, i < c.nb → w.cell? ⟨L.arr, i * 4 + 2, none⟩ = some (.int .i64 (c.rd i))
  b3 : ∀ i, i < c.nb → w.cell? ⟨L.arr, i * 4 + 3, none⟩ = some (.bool (c.worn i))
  p0 : ∀ i, i < c.nb → ∀ j, j < c.np → w.cell? ⟨L.pg i, j * 3, none⟩ = some (.int .i64 (c.pg i j).st)
  p1 : ∀ i, i < c.nb → ∀ j, j < c.np → w.cell? ⟨L.pg i, j * 3 + 1, none⟩ = some (.string (c.pg i j).data)
  p2 : ∀ i, i < c.nb → ∀ j, j < c.np → w.cell? ⟨L.pg i, j * 3 + 2, none⟩ = some (.bool (c.pg i j).touched)
  fa : ∀ o, w.frozen? ⟨L.a, o, none⟩ = false
  fb : ∀ o, w.frozen? ⟨L.arr, o, none⟩ = false
  fp : ∀ i, i < c.nb → ∀ o, w.frozen? ⟨L.pg i, o, none⟩ = false
  ab : L.a ≠ L.arr
  ap : ∀ i, i < c.nb → L.a ≠ L.pg i
  bp : ∀ i, i < c.nb → L.arr ≠ L.pg i
  pp : ∀ i j, i < c.nb → j < c.nb → L.pg i = L.pg j → i = j
  nbn : c.nb ≤ 64
  npn : c.np ≤ 64
  np0 : 0 < c.np
  nb0 : 0 < c.nb
  l0 : 0 ≤ c.left
  l1 : c.left ≤ 9223372036854775807
  m0 : -9223372036854775808 ≤ c.mode
  m1 : c.mode ≤ 9223372036854775807
  y0 : 1 ≤ c.bytes
  y1 : c.bytes ≤ 2048

/-- But for the blocks of S, and what is new, the world is as it was. -/
structure Stays (S : Nat → Prop) (w w' : World) : Prop where
  os : w'.os = w.os
  tape : w'.tape = w.tape
  output : w'.output = w.output
  size : w.heap.size ≤ w'.heap.size
  block : ∀ k, k < w.heap.size → ¬ S k → w'.heap[k]? = w.heap[k]?

section
variable {S S' : Nat → Prop} {a b c : World}
theorem Stays.refl (S : Nat → Prop) (w : World) : Stays S w w := ⟨rfl, rfl, rfl, Nat.le_refl _, fun _ _ _ => rfl⟩
theorem Stays.trans (h : Stays S a b) (k : Stays S b c) : Stays S a c :=
  ⟨k.os.trans h.os, k.tape.trans h.tape, k.output.trans h.output, Nat.le_trans h.size k.size, fun i hi hn => (k.block i (Nat.lt_of_lt_of_le hi h.size) hn).trans (h.block i hi hn)⟩
theorem Stays.mono (h : Stays S a b) (hs : ∀ k, S k → S' k) : Stays S' a b := ⟨h.os, h.tape, h.output, h.size, fun i hi hn => h.block i hi (fun hk => hn (hs i hk))⟩
theorem Stays.setCell (h : Stays S a b) {p : Addr} (hp : S p.block) (v : Value) : Stays S a (b.setCell p v) :=
  h.trans ⟨rfl, rfl, rfl, by simp [World.setCell], fun i _ hn => Below.heap_setCell b p v i (fun e => hn (e ▸ hp))⟩
theorem Stays.alloc (h : Stays S a b) (o : Obj) : Stays S a (b.alloc o) :=
  h.trans ⟨rfl, rfl, rfl, by simp, fun i hi _ => Below.heap_alloc b o i hi⟩
theorem Stays.drew (h : Stays S a b) : Stays S a b.drew := h.trans ⟨rfl, rfl, rfl, Nat.le_refl _, fun _ _ _ => rfl⟩
theorem Stays.drewN (h : Stays S a b) (n : Nat) : Stays S a (b.drewN n) := h.trans ⟨rfl, rfl, rfl, Nat.le_refl _, fun _ _ _ => rfl⟩
/-- What is written in a block that is new since is no change of what there was. -/
theorem Stays.fresh {g : Nat} (h : Stays S a b) (k : Stays (· = g) b c) (hg : a.heap.size ≤ g) : Stays S a c :=
  ⟨k.os.trans h.os, k.tape.trans h.tape, k.output.trans h.output, Nat.le_trans h.size k.size, fun i hi hn => (k.block i (Nat.lt_of_lt_of_le hi h.size) (fun e : i = g => by omega)).trans (h.block i hi hn)⟩
theorem Stays.of_below (h : Below a.heap.size a b) : Stays S a b := ⟨h.os, h.tape, h.output, h.size, fun i hi _ => h.block i hi⟩
theorem Stays.below (h : Stays S a b) (hk : Below b.heap.size b c) : Stays S a c := h.trans (Stays.of_below hk)
/-- What lies below B stays, if S lies above. -/
theorem Below.stays {B : Nat} (h : Below B a b) (hk : Stays S b c) (hS : ∀ k, S k → B ≤ k) (hB : B ≤ b.heap.size) : Below B a c :=
  ⟨hk.os.trans h.os, hk.tape.trans h.tape, hk.output.trans h.output, Nat.le_trans h.size hk.size, fun i hi => (hk.block i (by omega) (fun hs => by have := hS i hs; omega)).trans (h.block i hi)⟩
theorem Stays.cell (h : Stays S a b) {p : Addr} {v : Value} (hv : a.cell? p = some v) (hp : ¬ S p.block) : b.cell? p = some v := by
  have := h.block p.block (World.block_lt_of_cell? a p hv) hp
  rw [← hv]
  simp only [World.cell?, this]
theorem Stays.frozen (h : Stays S a b) {p : Addr} (hp : ¬ S p.block) (hb : p.block < a.heap.size) : b.frozen? p = a.frozen? p := by
  simp only [World.frozen?, h.block p.block hb hp]
end

theorem addr_ne_off {b o o' : Nat} (h : o ≠ o') : (⟨b, o, none⟩ : Addr) ≠ ⟨b, o', none⟩ := fun e => h (by injection e)
theorem addr_ne_block {b b' o o' : Nat} (h : b ≠ b') : (⟨b, o, none⟩ : Addr) ≠ ⟨b', o', none⟩ := fun e => h (by injection e)

/-- A chip stays in a world in which its blocks stay. -/
theorem ChipAt.stays {w w' : World} {L : Lay} {c : Chp} {S : Nat → Prop} (h : ChipAt w L c) (hk : Stays S w w') (hS : ∀ k, Foot L c.nb k → ¬ S k) : ChipAt w' L c := by
  have na : ¬ S L.a := hS _ (.inl rfl)
  have nb : ¬ S L.arr := hS _ (.inr (.inl rfl))
  have np : ∀ i, i < c.nb → ¬ S (L.pg i) := fun i hi => hS _ (.inr (.inr ⟨i, hi, rfl⟩))
  have la := World.block_lt_of_cell? _ _ h.c0
  have lb := World.block_lt_of_cell? _ _ (h.b0 0 h.nb0)
  have lp : ∀ i, i < c.nb → L.pg i < w.heap.size := fun i hi => World.block_lt_of_cell? _ _ (h.p0 i hi 0 h.np0)
  exact ⟨hk.cell h.c0 na, hk.cell h.c1 na, hk.cell h.c2 na, hk.cell h.c3 na, hk.cell h.c4 na, hk.cell h.c5 na, hk.cell h.c6 na, hk.cell h.c7 na, hk.cell h.c8 na,
    fun i hi => hk.cell (h.b0 i hi) nb, fun i hi => hk.cell (h.b1 i hi) nb, fun i hi => hk.cell (h.b2 i hi) nb, fun i hi => hk.cell (h.b3 i hi) nb,
    fun i hi j hj => hk.cell (h.p0 i hi j hj) (np i hi), fun i hi j hj => hk.cell (h.p1 i hi j hj) (np i hi), fun i hi j hj => hk.cell (h.p2 i hi j hj) (np i hi),
    fun o => (hk.frozen (p := ⟨L.a, o, none⟩) na la).trans (h.fa o), fun o => (hk.frozen (p := ⟨L.arr, o, none⟩) nb lb).trans (h.fb o), fun i hi o => (hk.frozen (p := ⟨L.pg i, o, none⟩) (np i hi) (lp i hi)).trans (h.fp i hi o),
    h.ab, h.ap, h.bp, h.pp, h.nbn, h.npn, h.np0, h.nb0, h.l0, h.l1, h.m0, h.m1, h.y0, h.y1⟩

theorem ChipAt.drewN {w : World} {L : Lay} {c : Chp} (h : ChipAt w L c) (n : Nat) : ChipAt (w.drewN n) L c := h.stays (S := fun _ => False) (Stays.drewN (Stays.refl _ _) n) (fun _ _ => id)
theorem ChipAt.alloc {w : World} {L : Lay} {c : Chp} (h : ChipAt w L c) (o : Obj) : ChipAt (w.alloc o) L c := h.stays (S := fun _ => False) (Stays.alloc (Stays.refl _ _) o) (fun _ _ => id)

section
variable {w : World} {L : Lay} {c : Chp}
/-- A store into the chip's own block: the other blocks' cells read as they did. -/
theorem ChipAt.keepB (h : ChipAt w L c) (o : Nat) (v : Value) (i : Nat) (f : Nat) : (w.setCell ⟨L.a, o, none⟩ v).cell? ⟨L.arr, i * 4 + f, none⟩ = w.cell? ⟨L.arr, i * 4 + f, none⟩ :=
  World.cell?_setCell_other _ _ _ _ (addr_ne_block h.ab)
theorem set_a (h : ChipAt w L c) (o : Nat) (v : Value) (c' : Chp)
    (g0 : 0 ≤ c'.left) (g1 : c'.left ≤ 9223372036854775807) (g2 : -9223372036854775808 ≤ c'.mode) (g3 : c'.mode ≤ 9223372036854775807)
    (e0 : c'.nb = c.nb) (e1 : c'.np = c.np) (e2 : c'.pg = c.pg) (e3 : c'.er = c.er) (e4 : c'.rd = c.rd) (e5 : c'.worn = c.worn) (e6 : c'.bytes = c.bytes)
    (k0 : (w.setCell ⟨L.a, o, none⟩ v).cell? ⟨L.a, 0, none⟩ = some (.slice (some ⟨L.arr, 0, none⟩) c.nb L.cap))
    (k1 : (w.setCell ⟨L.a, o, none⟩ v).cell? ⟨L.a, 1, none⟩ = some (.int .i64 c'.bytes))
    (k2 : (w.setCell ⟨L.a, o, none⟩ v).cell? ⟨L.a, 2, none⟩ = some (.int .i64 c'.seed))
    (k3 : (w.setCell ⟨L.a, o, none⟩ v).cell? ⟨L.a, 3, none⟩ = some (.int .i64 c'.most))
    (k4 : (w.setCell ⟨L.a, o, none⟩ v).cell? ⟨L.a, 4, none⟩ = some (.int .i64 c'.piece))
    (k5 : (w.setCell ⟨L.a, o, none⟩ v).cell? ⟨L.a, 5, none⟩ = some (.int .i64 c'.left))
    (k6 : (w.setCell ⟨L.a, o, none⟩ v).cell? ⟨L.a, 6, none⟩ = some (.int .i64 c'.mode))
    (k7 : (w.setCell ⟨L.a, o, none⟩ v).cell? ⟨L.a, 7, none⟩ = some (.bool c'.off))
    (k8 : (w.setCell ⟨L.a, o, none⟩ v).cell? ⟨L.a, 8, none⟩ = some (.int .i64 c'.changes)) : ChipAt (w.setCell ⟨L.a, o, none⟩ v) L c' := by
  obtain ⟨n, m, pg, er, rd, wn, by', _, _, _, _, _, _, _⟩ := c'
  dsimp only at e0 e1 e2 e3 e4 e5 e6
  subst e0 e1 e2 e3 e4 e5 e6
  have ob : ∀ x, (w.setCell ⟨L.a, o, none⟩ v).cell? ⟨L.arr, x, none⟩ = w.cell? ⟨L.arr, x, none⟩ := fun x => World.cell?_setCell_other _ _ _ _ (addr_ne_block h.ab)
  have op : ∀ i, i < c.nb → ∀ x, (w.setCell ⟨L.a, o, none⟩ v).cell? ⟨L.pg i, x, none⟩ = w.cell? ⟨L.pg i, x, none⟩ := fun i hi x => World.cell?_setCell_other _ _ _ _ (addr_ne_block (h.ap i hi))
  exact ⟨k0, k1, k2, k3, k4, k5, k6, k7, k8, fun i hi => (ob _).trans (h.b0 i hi), fun i hi => (ob _).trans (h.b1 i hi), fun i hi => (ob _).trans (h.b2 i hi), fun i hi => (ob _).trans (h.b3 i hi),
    fun i hi j hj => (op i hi _).trans (h.p0 i hi j hj), fun i hi j hj => (op i hi _).trans (h.p1 i hi j hj), fun i hi j hj => (op i hi _).trans (h.p2 i hi j hj),
    fun o' => by rw [World.frozen?_setCell]; exact h.fa o', fun o' => by rw [World.frozen?_setCell]; exact h.fb o', fun i hi o' => by rw [World.frozen?_setCell]; exact h.fp i hi o',
    h.ab, h.ap, h.bp, h.pp, h.nbn, h.npn, h.np0, h.nb0, g0, g1, g2, g3, h.y0, h.y1⟩

theorem setA_same (w : World) (b o : Nat) (u v : Value) (h : w.cell? ⟨b, o, none⟩ = some u) : (w.setCell ⟨b, o, none⟩ v).cell? ⟨b, o, none⟩ = some v := World.cell?_setCell_same _ _ _ h
theorem setA_other (w : World) (b o o' : Nat) (v : Value) (h : o ≠ o') : (w.setCell ⟨b, o, none⟩ v).cell? ⟨b, o', none⟩ = w.cell? ⟨b, o', none⟩ := World.cell?_setCell_other _ _ _ _ (addr_ne_off h)

theorem ChipAt.s2 (h : ChipAt w L c) (n : Int) : ChipAt (w.setCell ⟨L.a, 2, none⟩ (.int .i64 n)) L { c with seed := n } :=
  set_a h 2 _ _ h.l0 h.l1 h.m0 h.m1 rfl rfl rfl rfl rfl rfl rfl (by rw [setA_other _ _ _ _ _ (by decide)]; exact h.c0) (by rw [setA_other _ _ _ _ _ (by decide)]; exact h.c1) (setA_same _ _ _ _ _ h.c2) (by rw [setA_other _ _ _ _ _ (by decide)]; exact h.c3) (by rw [setA_other _ _ _ _ _ (by decide)]; exact h.c4) (by rw [setA_other _ _ _ _ _ (by decide)]; exact h.c5) (by rw [setA_other _ _ _ _ _ (by decide)]; exact h.c6) (by rw [setA_other _ _ _ _ _ (by decide)]; exact h.c7) (by rw [setA_other _ _ _ _ _ (by decide)]; exact h.c8)
theorem ChipAt.s3 (h : ChipAt w L c) (n : Int) : ChipAt (w.setCell ⟨L.a, 3, none⟩ (.int .i64 n)) L { c with most := n } :=
  set_a h 3 _ _ h.l0 h.l1 h.m0 h.m1 rfl rfl rfl rfl rfl rfl rfl (by rw [setA_other _ _ _ _ _ (by decide)]; exact h.c0) (by rw [setA_other _ _ _ _ _ (by decide)]; exact h.c1) (by rw [setA_other _ _ _ _ _ (by decide)]; exact h.c2) (setA_same _ _ _ _ _ h.c3) (by rw [setA_other _ _ _ _ _ (by decide)]; exact h.c4) (by rw [setA_other _ _ _ _ _ (by decide)]; exact h.c5) (by rw [setA_other _ _ _ _ _ (by decide)]; exact h.c6) (by rw [setA_other _ _ _ _ _ (by decide)]; exact h.c7) (by rw [setA_other _ _ _ _ _ (by decide)]; exact h.c8)
theorem ChipAt.s4 (h : ChipAt w L c) (n : Int) : ChipAt (w.setCell ⟨L.a, 4, none⟩ (.int .i64 n)) L { c with piece := n } :=
  set_a h 4 _ _ h.l0 h.l1 h.m0 h.m1 rfl rfl rfl rfl rfl rfl rfl (by rw [setA_other _ _ _ _ _ (by decide)]; exact h.c0) (by rw [setA_other _ _ _ _ _ (by decide)]; exact h.c1) (by rw [setA_other _ _ _ _ _ (by decide)]; exact h.c2) (by rw [setA_other _ _ _ _ _ (by decide)]; exact h.c3) (setA_same _ _ _ _ _ h.c4) (by rw [setA_other _ _ _ _ _ (by decide)]; exact h.c5) (by rw [setA_other _ _ _ _ _ (by decide)]; exact h.c6) (by rw [setA_other _ _ _ _ _ (by decide)]; exact h.c7) (by rw [setA_other _ _ _ _ _ (by decide)]; exact h.c8)
theorem ChipAt.s5 (h : ChipAt w L c) (n : Int) (g0 : 0 ≤ n) (g1 : n ≤ 9223372036854775807) : ChipAt (w.setCell ⟨L.a, 5, none⟩ (.int .i64 n)) L { c with left := n } :=
  set_a h 5 _ _ g0 g1 h.m0 h.m1 rfl rfl rfl rfl rfl rfl rfl (by rw [setA_other _ _ _ _ _ (by decide)]; exact h.c0) (by rw [setA_other _ _ _ _ _ (by decide)]; exact h.c1) (by rw [setA_other _ _ _ _ _ (by decide)]; exact h.c2) (by rw [setA_other _ _ _ _ _ (by decide)]; exact h.c3) (by rw [setA_other _ _ _ _ _ (by decide)]; exact h.c4) (setA_same _ _ _ _ _ h.c5) (by rw [setA_other _ _ _ _ _ (by decide)]; exact h.c6) (by rw [setA_other _ _ _ _ _ (by decide)]; exact h.c7) (by rw [setA_other _ _ _ _ _ (by decide)]; exact h.c8)
theorem ChipAt.s6 (h : ChipAt w L c) (n : Int) (g0 : -9223372036854775808 ≤ n) (g1 : n ≤ 9223372036854775807) : ChipAt (w.setCell ⟨L.a, 6, none⟩ (.int .i64 n)) L { c with mode := n } :=
  set_a h 6 _ _ h.l0 h.l1 g0 g1 rfl rfl rfl rfl rfl rfl rfl (by rw [setA_other _ _ _ _ _ (by decide)]; exact h.c0) (by rw [setA_other _ _ _ _ _ (by decide)]; exact h.c1) (by rw [setA_other _ _ _ _ _ (by decide)]; exact h.c2) (by rw [setA_other _ _ _ _ _ (by decide)]; exact h.c3) (by rw [setA_other _ _ _ _ _ (by decide)]; exact h.c4) (by rw [setA_other _ _ _ _ _ (by decide)]; exact h.c5) (setA_same _ _ _ _ _ h.c6) (by rw [setA_other _ _ _ _ _ (by decide)]; exact h.c7) (by rw [setA_other _ _ _ _ _ (by decide)]; exact h.c8)
theorem ChipAt.s7 (h : ChipAt w L c) (n : Bool) : ChipAt (w.setCell ⟨L.a, 7, none⟩ (.bool n)) L { c with off := n } :=
  set_a h 7 _ _ h.l0 h.l1 h.m0 h.m1 rfl rfl rfl rfl rfl rfl rfl (by rw [setA_other _ _ _ _ _ (by decide)]; exact h.c0) (by rw [setA_other _ _ _ _ _ (by decide)]; exact h.c1) (by rw [setA_other _ _ _ _ _ (by decide)]; exact h.c2) (by rw [setA_other _ _ _ _ _ (by decide)]; exact h.c3) (by rw [setA_other _ _ _ _ _ (by decide)]; exact h.c4) (by rw [setA_other _ _ _ _ _ (by decide)]; exact h.c5) (by rw [setA_other _ _ _ _ _ (by decide)]; exact h.c6) (setA_same _ _ _ _ _ h.c7) (by rw [setA_other _ _ _ _ _ (by decide)]; exact h.c8)
theorem ChipAt.s8 (h : ChipAt w L c) (n : Int) : ChipAt (w.setCell ⟨L.a, 8, none⟩ (.int .i64 n)) L { c with changes := n } :=
  set_a h 8 _ _ h.l0 h.l1 h.m0 h.m1 rfl rfl rfl rfl rfl rfl rfl (by rw [setA_other _ _ _ _ _ (by decide)]; exact h.c0) (by rw [setA_other _ _ _ _ _ (by decide)]; exact h.c1) (by rw [setA_other _ _ _ _ _ (by decide)]; exact h.c2) (by rw [setA_other _ _ _ _ _ (by decide)]; exact h.c3) (by rw [setA_other _ _ _ _ _ (by decide)]; exact h.c4) (by rw [setA_other _ _ _ _ _ (by decide)]; exact h.c5) (by rw [setA_other _ _ _ _ _ (by decide)]; exact h.c6) (by rw [setA_other _ _ _ _ _ (by decide)]; exact h.c7) (setA_same _ _ _ _ _ h.c8)

theorem upd_cell {α : Type} {w : World} {b s f f' : Nat} {v u : Value} {enc : α → Value} {g : Nat → α} {n i : Nat} {x : α} (hv : v = enc x)
    (hg : ∀ j, j < n → w.cell? ⟨b, j * s + f, none⟩ = some (enc (g j))) (hf : f < s) (hu : w.cell? ⟨b, i * s + f, none⟩ = some u) (e : f' = f) :
    ∀ j, j < n → (w.setCell ⟨b, i * s + f', none⟩ v).cell? ⟨b, j * s + f, none⟩ = some (enc (upd g i x j)) := by
  intro j hj
  subst e hv
  by_cases e : j = i
  · subst e; rw [upd_same]; exact setA_same _ _ _ _ _ hu
  · rw [upd_other _ _ e, setA_other]
    · exact hg j hj
    · intro h; exact e (by
        have h2 : i * s = j * s := by omega
        exact (Nat.eq_of_mul_eq_mul_right (by omega) h2).symm)

theorem off_cell {w : World} {b s f f' : Nat} {v u : Value} {i j : Nat} (hf : f < s) (hf' : f' < s) (hne : f' ≠ f) (h : w.cell? ⟨b, j * s + f, none⟩ = some u) :
    (w.setCell ⟨b, i * s + f', none⟩ v).cell? ⟨b, j * s + f, none⟩ = some u := by
  rw [setA_other]
  · exact h
  · intro e
    have h1 : (i * s + f') % s = (j * s + f) % s := by rw [e]
    rw [Nat.mul_comm i, Nat.mul_comm j, Nat.mul_add_mod, Nat.mul_add_mod, Nat.mod_eq_of_lt hf, Nat.mod_eq_of_lt hf'] at h1
    exact hne h1

theorem upd_cell0 {α : Type} {w : World} {b s : Nat} {v u : Value} {enc : α → Value} {g : Nat → α} {n i : Nat} {x : α} (hv : v = enc x) (hs : 0 < s)
    (hg : ∀ j, j < n → w.cell? ⟨b, j * s, none⟩ = some (enc (g j))) (hu : w.cell? ⟨b, i * s, none⟩ = some u) :
    ∀ j, j < n → (w.setCell ⟨b, i * s, none⟩ v).cell? ⟨b, j * s, none⟩ = some (enc (upd g i x j)) := by
  intro j hj
  subst hv
  by_cases e : j = i
  · subst e; rw [upd_same]; exact setA_same _ _ _ _ _ hu
  · rw [upd_other _ _ e, setA_other]
    · exact hg j hj
    · intro h; exact e (Nat.eq_of_mul_eq_mul_right hs h).symm
theorem off_cell0 {w : World} {b s f' : Nat} {v u : Value} {i j : Nat} (hf' : f' < s) (hne : f' ≠ 0) (h : w.cell? ⟨b, j * s, none⟩ = some u) :
    (w.setCell ⟨b, i * s + f', none⟩ v).cell? ⟨b, j * s, none⟩ = some u := by
  have h' : w.cell? ⟨b, j * s + 0, none⟩ = some u := h
  exact off_cell (f := 0) (by omega) hf' hne h'
theorem off_cell1 {w : World} {b s f : Nat} {v u : Value} {i j : Nat} (hf : f < s) (hne : f ≠ 0) (h : w.cell? ⟨b, j * s + f, none⟩ = some u) :
    (w.setCell ⟨b, i * s, none⟩ v).cell? ⟨b, j * s + f, none⟩ = some u := by
  have h' := off_cell (i := i) (f' := 0) (v := v) hf (by omega) (Ne.symm hne) h
  exact h'

/-- A store into the row of blocks. -/
theorem set_b (h : ChipAt w L c) (i f : Nat) (hf : f < 4) (v : Value) (er' rd' : Nat → Int) (wn' : Nat → Bool) (hne : f ≠ 0)
    (k1 : ∀ j, j < c.nb → (w.setCell ⟨L.arr, i * 4 + f, none⟩ v).cell? ⟨L.arr, j * 4 + 1, none⟩ = some (.int .i64 (er' j)))
    (k2 : ∀ j, j < c.nb → (w.setCell ⟨L.arr, i * 4 + f, none⟩ v).cell? ⟨L.arr, j * 4 + 2, none⟩ = some (.int .i64 (rd' j)))
    (k3 : ∀ j, j < c.nb → (w.setCell ⟨L.arr, i * 4 + f, none⟩ v).cell? ⟨L.arr, j * 4 + 3, none⟩ = some (.bool (wn' j))) :
    ChipAt (w.setCell ⟨L.arr, i * 4 + f, none⟩ v) L { c with er := er', rd := rd', worn := wn' } := by
  have oa : ∀ x, (w.setCell ⟨L.arr, i * 4 + f, none⟩ v).cell? ⟨L.a, x, none⟩ = w.cell? ⟨L.a, x, none⟩ := fun x => World.cell?_setCell_other _ _ _ _ (addr_ne_block h.ab.symm)
  have op : ∀ i', i' < c.nb → ∀ x, (w.setCell ⟨L.arr, i * 4 + f, none⟩ v).cell? ⟨L.pg i', x, none⟩ = w.cell? ⟨L.pg i', x, none⟩ := fun i' hi x => World.cell?_setCell_other _ _ _ _ (addr_ne_block (h.bp i' hi))
  exact ⟨(oa _).trans h.c0, (oa _).trans h.c1, (oa _).trans h.c2, (oa _).trans h.c3, (oa _).trans h.c4, (oa _).trans h.c5, (oa _).trans h.c6, (oa _).trans h.c7, (oa _).trans h.c8,
    fun j hj => off_cell0 hf hne (h.b0 j hj), k1, k2, k3,
    fun i hi j hj => (op i hi _).trans (h.p0 i hi j hj), fun i hi j hj => (op i hi _).trans (h.p1 i hi j hj), fun i hi j hj => (op i hi _).trans (h.p2 i hi j hj),
    fun o' => by rw [World.frozen?_setCell]; exact h.fa o', fun o' => by rw [World.frozen?_setCell]; exact h.fb o', fun i hi o' => by rw [World.frozen?_setCell]; exact h.fp i hi o',
    h.ab, h.ap, h.bp, h.pp, h.nbn, h.npn, h.np0, h.nb0, h.l0, h.l1, h.m0, h.m1, h.y0, h.y1⟩

theorem ChipAt.sEr (h : ChipAt w L c) (i : Nat) (hi : i < c.nb) (n : Int) : ChipAt (w.setCell ⟨L.arr, i * 4 + 1, none⟩ (.int .i64 n)) L { c with er := upd c.er i n } :=
  set_b h i 1 (by omega) _ _ _ _ (by omega) (upd_cell (enc := fun x => .int .i64 x) rfl h.b1 (by omega) (h.b1 i hi) rfl) (fun j hj => off_cell (by omega) (by omega) (by omega) (h.b2 j hj)) (fun j hj => off_cell (by omega) (by omega) (by omega) (h.b3 j hj))
theorem ChipAt.sRd (h : ChipAt w L c) (i : Nat) (hi : i < c.nb) (n : Int) : ChipAt (w.setCell ⟨L.arr, i * 4 + 2, none⟩ (.int .i64 n)) L { c with rd := upd c.rd i n } :=
  set_b h i 2 (by omega) _ _ _ _ (by omega) (fun j hj => off_cell (by omega) (by omega) (by omega) (h.b1 j hj)) (upd_cell (enc := fun x => .int .i64 x) rfl h.b2 (by omega) (h.b2 i hi) rfl) (fun j hj => off_cell (by omega) (by omega) (by omega) (h.b3 j hj))
theorem ChipAt.sWn (h : ChipAt w L c) (i : Nat) (hi : i < c.nb) (n : Bool) : ChipAt (w.setCell ⟨L.arr, i * 4 + 3, none⟩ (.bool n)) L { c with worn := upd c.worn i n } :=
  set_b h i 3 (by omega) _ _ _ _ (by omega) (fun j hj => off_cell (by omega) (by omega) (by omega) (h.b1 j hj)) (fun j hj => off_cell (by omega) (by omega) (by omega) (h.b2 j hj)) (upd_cell (enc := fun x => .bool x) rfl h.b3 (by omega) (h.b3 i hi) rfl)

/-- A store into a page. -/
theorem set_p (h : ChipAt w L c) (i : Nat) (hi : i < c.nb) (x : Nat) (v : Value) (pg' : Nat → Nat → Pg)
    (hpg : ∀ i', i' ≠ i → pg' i' = c.pg i')
    (k0 : ∀ j, j < c.np → (w.setCell ⟨L.pg i, x, none⟩ v).cell? ⟨L.pg i, j * 3, none⟩ = some (.int .i64 (pg' i j).st))
    (k1 : ∀ j, j < c.np → (w.setCell ⟨L.pg i, x, none⟩ v).cell? ⟨L.pg i, j * 3 + 1, none⟩ = some (.string (pg' i j).data))
    (k2 : ∀ j, j < c.np → (w.setCell ⟨L.pg i, x, none⟩ v).cell? ⟨L.pg i, j * 3 + 2, none⟩ = some (.bool (pg' i j).touched)) :
    ChipAt (w.setCell ⟨L.pg i, x, none⟩ v) L { c with pg := pg' } := by
  have oa : ∀ y, (w.setCell ⟨L.pg i, x, none⟩ v).cell? ⟨L.a, y, none⟩ = w.cell? ⟨L.a, y, none⟩ := fun y => World.cell?_setCell_other _ _ _ _ (addr_ne_block (h.ap i hi).symm)
  have ob : ∀ y, (w.setCell ⟨L.pg i, x, none⟩ v).cell? ⟨L.arr, y, none⟩ = w.cell? ⟨L.arr, y, none⟩ := fun y => World.cell?_setCell_other _ _ _ _ (addr_ne_block (h.bp i hi).symm)
  have op : ∀ i', i' < c.nb → i' ≠ i → ∀ y, (w.setCell ⟨L.pg i, x, none⟩ v).cell? ⟨L.pg i', y, none⟩ = w.cell? ⟨L.pg i', y, none⟩ := fun i' hi' hne y => World.cell?_setCell_other _ _ _ _ (addr_ne_block (fun e => hne (h.pp _ _ hi hi' e).symm))
  refine ⟨(oa _).trans h.c0, (oa _).trans h.c1, (oa _).trans h.c2, (oa _).trans h.c3, (oa _).trans h.c4, (oa _).trans h.c5, (oa _).trans h.c6, (oa _).trans h.c7, (oa _).trans h.c8,
    fun j hj => (ob _).trans (h.b0 j hj), fun j hj => (ob _).trans (h.b1 j hj), fun j hj => (ob _).trans (h.b2 j hj), fun j hj => (ob _).trans (h.b3 j hj), ?_, ?_, ?_,
    fun o' => by rw [World.frozen?_setCell]; exact h.fa o', fun o' => by rw [World.frozen?_setCell]; exact h.fb o', fun i hi o' => by rw [World.frozen?_setCell]; exact h.fp i hi o',
    h.ab, h.ap, h.bp, h.pp, h.nbn, h.npn, h.np0, h.nb0, h.l0, h.l1, h.m0, h.m1, h.y0, h.y1⟩
  · intro i' hi' j hj
    by_cases e : i' = i
    · subst e; exact k0 j hj
    · rw [op i' hi' e]; dsimp only; rw [hpg i' e]; exact h.p0 i' hi' j hj
  · intro i' hi' j hj
    by_cases e : i' = i
    · subst e; exact k1 j hj
    · rw [op i' hi' e]; dsimp only; rw [hpg i' e]; exact h.p1 i' hi' j hj
  · intro i' hi' j hj
    by_cases e : i' = i
    · subst e; exact k2 j hj
    · rw [op i' hi' e]; dsimp only; rw [hpg i' e]; exact h.p2 i' hi' j hj

theorem upd2_at {α : Type} (f : Nat → Nat → α) (i j : Nat) (v : α) : upd2 f i j v i = upd (f i) j v := by
  funext y; unfold upd2 upd; by_cases h : y = j <;> simp [h]
theorem upd2_off {α : Type} (f : Nat → Nat → α) (i j : Nat) (v : α) {i' : Nat} (h : i' ≠ i) : upd2 f i j v i' = f i' := by
  funext y; unfold upd2; simp [h]
theorem upd_map {α β : Type} (g : α → β) (f : Nat → α) (i : Nat) (v : α) (j : Nat) : g (upd f i v j) = upd (fun x => g (f x)) i (g v) j := by
  unfold upd; split <;> rfl
theorem upd_self {β : Type} (f : Nat → β) (i : Nat) (x : β) (h : x = f i) (j : Nat) : upd f i x j = f j := by
  unfold upd; split
  · rename_i e; rw [h, e]
  · rfl

theorem ChipAt.sSt (h : ChipAt w L c) (i : Nat) (hi : i < c.nb) (j : Nat) (hj : j < c.np) (n : Int) :
    ChipAt (w.setCell ⟨L.pg i, j * 3, none⟩ (.int .i64 n)) L { c with pg := upd2 c.pg i j { c.pg i j with st := n } } := by
  refine set_p h i hi (j * 3) _ _ (fun i' e => upd2_off _ _ _ _ e) ?_ ?_ ?_ <;> rw [upd2_at]
  · intro y hy
    rw [upd_map (fun p : Pg => p.st)]
    exact upd_cell0 (enc := fun x => .int .i64 x) rfl (by omega) (h.p0 i hi) (h.p0 i hi j hj) y hy
  · intro y hy
    rw [upd_map (fun p : Pg => p.data), upd_self (fun x => (c.pg i x).data) j _ rfl]
    exact off_cell1 (by omega) (by omega) (h.p1 i hi y hy)
  · intro y hy
    rw [upd_map (fun p : Pg => p.touched), upd_self (fun x => (c.pg i x).touched) j _ rfl]
    exact off_cell1 (by omega) (by omega) (h.p2 i hi y hy)
theorem ChipAt.sDt (h : ChipAt w L c) (i : Nat) (hi : i < c.nb) (j : Nat) (hj : j < c.np) (n : ByteArray) :
    ChipAt (w.setCell ⟨L.pg i, j * 3 + 1, none⟩ (.string n)) L { c with pg := upd2 c.pg i j { c.pg i j with data := n } } := by
  refine set_p h i hi (j * 3 + 1) _ _ (fun i' e => upd2_off _ _ _ _ e) ?_ ?_ ?_ <;> rw [upd2_at]
  · intro y hy
    rw [upd_map (fun p : Pg => p.st), upd_self (fun x => (c.pg i x).st) j _ rfl]
    exact off_cell0 (by omega) (by omega) (h.p0 i hi y hy)
  · intro y hy
    rw [upd_map (fun p : Pg => p.data)]
    exact upd_cell (enc := fun x => .string x) rfl (h.p1 i hi) (by omega) (h.p1 i hi j hj) rfl y hy
  · intro y hy
    rw [upd_map (fun p : Pg => p.touched), upd_self (fun x => (c.pg i x).touched) j _ rfl]
    exact off_cell (by omega) (by omega) (by omega) (h.p2 i hi y hy)
theorem ChipAt.sTc (h : ChipAt w L c) (i : Nat) (hi : i < c.nb) (j : Nat) (hj : j < c.np) (n : Bool) :
    ChipAt (w.setCell ⟨L.pg i, j * 3 + 2, none⟩ (.bool n)) L { c with pg := upd2 c.pg i j { c.pg i j with touched := n } } := by
  refine set_p h i hi (j * 3 + 2) _ _ (fun i' e => upd2_off _ _ _ _ e) ?_ ?_ ?_ <;> rw [upd2_at]
  · intro y hy
    rw [upd_map (fun p : Pg => p.st), upd_self (fun x => (c.pg i x).st) j _ rfl]
    exact off_cell0 (by omega) (by omega) (h.p0 i hi y hy)
  · intro y hy
    rw [upd_map (fun p : Pg => p.data), upd_self (fun x => (c.pg i x).data) j _ rfl]
    exact off_cell (by omega) (by omega) (by omega) (h.p1 i hi y hy)
  · intro y hy
    rw [upd_map (fun p : Pg => p.touched)]
    exact upd_cell (enc := fun x => .bool x) rfl (h.p2 i hi) (by omega) (h.p2 i hi j hj) rfl y hy
end

theorem Stays.inA {A o : Nat} {a b : World} (h : Stays (fun x => x = A) a b) (v : Value) : Stays (fun x => x = A) a (b.setCell ⟨A, o, none⟩ v) := h.setCell (p := ⟨A, o, none⟩) rfl v

theorem upd2_twice {α : Type} (f : Nat → Nat → α) (i j : Nat) (a b : α) : upd2 (upd2 f i j a) i j b = upd2 f i j b := by
  funext x y; unfold upd2; split <;> rfl
theorem upd2_val {α : Type} (f : Nat → Nat → α) (i j : Nat) (a : α) : upd2 f i j a i j = a := by simp [upd2]
/-- A whole page is stored. -/
theorem ChipAt.sPg {w : World} {L : Lay} {c : Chp} (h : ChipAt w L c) (i : Nat) (hi : i < c.nb) (j : Nat) (hj : j < c.np) (p : Pg) :
    ChipAt (((w.setCell ⟨L.pg i, j * 3, none⟩ (.int .i64 p.st)).setCell ⟨L.pg i, j * 3 + 1, none⟩ (.string p.data)).setCell ⟨L.pg i, j * 3 + 2, none⟩ (.bool p.touched)) L { c with pg := upd2 c.pg i j p } := by
  have h1 := h.sSt i hi j hj p.st
  have h2 := h1.sDt i hi j hj p.data
  have h3 := h2.sTc i hi j hj p.touched
  simp only [upd2_twice, upd2_val] at h3
  exact h3

theorem foot_a (L : Lay) (n : Nat) : Foot L n L.a := .inl rfl
theorem foot_b (L : Lay) (n : Nat) : Foot L n L.arr := .inr (.inl rfl)
theorem foot_p (L : Lay) (n i : Nat) (h : i < n) : Foot L n (L.pg i) := .inr (.inr ⟨i, h, rfl⟩)

end Go.Proofs.Ythoadcibknaelaa
