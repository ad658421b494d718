/- The chip of package nand as it lies in memory; what its small functions do. -/
import Derived.Test.YtgfjeaegigjnaaaGreatDoorProg
import Derived.WalkKit
import Derived.Below
import Derived.Deep.Draws
import Derived.Lib.Hide
import Derived.Deep.QuietTactic
import Derived.BigQuiet
import Derived.Test.YtgfjeaegigjnaaaGreatDoorPgZ
namespace Go.Proofs.YtgfjeaegigjnaaaGreatDoor
open Go.RowKit
set_option linter.unusedVariables false
set_option linter.unusedSimpArgs false

structure Pg where
  st : Int
  data : ByteArray
  touched : Bool
structure Chp where
  nb : Nat
  np : Nat
  pg : Nat → Nat → Pg
  er : Nat → Int
  rd : Nat → Int
  worn : Nat → Bool
  bytes : Int
  seed : Int
  most : Int
  piece : Int
  left : Int
  mode : Int
  off : Bool
  changes : Int
def upd2 {α : Type} (f : Nat → Nat → α) (i j : Nat) (v : α) : Nat → Nat → α := fun x y => if x = i ∧ y = j then v else f x y
/-- Where a chip lies: its own block, the row of its blocks (with so much room), each block's row of pages. -/
structure Lay where
  a : Nat
  arr : Nat
  cap : Nat
  pg : Nat → Nat
/-- The memory blocks that a chip takes. -/
def Foot (L : Lay) (n : Nat) (k : Nat) : Prop := k = L.a ∨ k = L.arr ∨ ∃ i, i < n ∧ k = L.pg i
structure ChipAt (w : World) (L : Lay) (c : Chp) : Prop where
  c0 : w.cell? ⟨L.a, 0, none⟩ = some (.slice (some ⟨L.arr, 0, none⟩) c.nb L.cap)
  c1 : w.cell? ⟨L.a, 1, none⟩ = some (.int .i64 c.bytes)
  c2 : w.cell? ⟨L.a, 2, none⟩ = some (.int .i64 c.seed)
  c3 : w.cell? ⟨L.a, 3, none⟩ = some (.int .i64 c.most)
  c4 : w.cell? ⟨L.a, 4, none⟩ = some (.int .i64 c.piece)
  c5 : w.cell? ⟨L.a, 5, none⟩ = some (.int .i64 c.left)
  c6 : w.cell? ⟨L.a, 6, none⟩ = some (.int .i64 c.mode)
  c7 : w.cell? ⟨L.a, 7, none⟩ = some (.bool c.off)
  c8 : w.cell? ⟨L.a, 8, none⟩ = some (.int .i64 c.changes)
  b0 : ∀ i, i < c.nb → w.cell? ⟨L.arr, i * 4, none⟩ = some (.slice (some ⟨L.pg i, 0, none⟩) c.np c.np)
  b1 : ∀ i, i < c.nb → w.cell? ⟨L.arr, i * 4 + 1, none⟩ = some (.int .i64 (c.er i))
  b2 : ∀ i, i < c.nb → w.cell? ⟨L.arr, i * 4 + 2, none⟩ = some (.int .i64 (c.rd i))
  b3 : ∀ i, i < c.nb → w.cell? ⟨L.arr, i * 4 + 3, none⟩ = some (.bool (c.worn i))
  p0 : ∀ i, i < c.nb → ∀ j, j < c.np → w.cell? ⟨L.pg i, j * 3, none⟩ = some (.int .i64 (c.pg i j).st)
  p1 : ∀ i, i < c.nb → ∀ j, j < c.np → w.cell? ⟨L.pg i, j * 3 + 1, none⟩ = some (.string (c.pg i j).data)
  p2 : ∀ i, i < c.nb → ∀ j, j < c.np → w.cell? ⟨L.pg i, j * 3 + 2, none⟩ = some (.bool (c.pg i j).touched)
  fa : ∀ o, w.frozen? ⟨L.a, o, none⟩ = false
  fb : ∀ o, w.frozen? ⟨L.arr, o, none⟩ = false
  fp : ∀ i, i < c.nb → ∀ o, w.frozen? ⟨L.pg i, o, none⟩ = false
  ab : L.a ≠ L.arr
  ap : ∀ i, i < c.nb → L.a ≠ L.pg i
  bp : ∀ i, i < c.nb → L.arr ≠ L.pg i
  pp : ∀ i j, i < c.nb → j < c.nb → L.pg i = L.pg j → i = j
  nbn : c.nb ≤ 64
  npn : c.np ≤ 64
  np0 : 0 < c.np
  nb0 : 0 < c.nb
  l0 : 0 ≤ c.left
  l1 : c.left ≤ 9223372036854775807
  m0 : -9223372036854775808 ≤ c.mode
  m1 : c.mode ≤ 9223372036854775807
  y0 : 1 ≤ c.bytes
  y1 : c.bytes ≤ 2048
section
variable {S S' : Nat → Prop} {a b c : World}
end

/-- A chip stays in a world in which its blocks stay. -/
theorem ChipAt.stays {w w' : World} {L : Lay} {c : Chp} {S : Nat → Prop} (h : ChipAt w L c) (hk : Stays S w w') (hS : ∀ k, Foot L c.nb k → ¬ S k) : ChipAt w' L c := by
  have na : ¬ S L.a := hS _ (.inl rfl)
  have nb : ¬ S L.arr := hS _ (.inr (.inl rfl))
  have np : ∀ i, i < c.nb → ¬ S (L.pg i) := fun i hi => hS _ (.inr (.inr ⟨i, hi, rfl⟩))
  have la := World.block_lt_of_cell? _ _ h.c0
  have lb := World.block_lt_of_cell? _ _ (h.b0 0 h.nb0)
  have lp : ∀ i, i < c.nb → L.pg i < w.heap.size := fun i hi => World.block_lt_of_cell? _ _ (h.p0 i hi 0 h.np0)
  exact ⟨hk.cell h.c0 na, hk.cell h.c1 na, hk.cell h.c2 na, hk.cell h.c3 na, hk.cell h.c4 na, hk.cell h.c5 na, hk.cell h.c6 na, hk.cell h.c7 na, hk.cell h.c8 na,
    fun i hi => hk.cell (h.b0 i hi) nb, fun i hi => hk.cell (h.b1 i hi) nb, fun i hi => hk.cell (h.b2 i hi) nb, fun i hi => hk.cell (h.b3 i hi) nb,
    fun i hi j hj => hk.cell (h.p0 i hi j hj) (np i hi), fun i hi j hj => hk.cell (h.p1 i hi j hj) (np i hi), fun i hi j hj => hk.cell (h.p2 i hi j hj) (np i hi),
    fun o => (hk.frozen (p := ⟨L.a, o, none⟩) na la).trans (h.fa o), fun o => (hk.frozen (p := ⟨L.arr, o, none⟩) nb lb).trans (h.fb o), fun i hi o => (hk.frozen (p := ⟨L.pg i, o, none⟩) (np i hi) (lp i hi)).trans (h.fp i hi o),
    h.ab, h.ap, h.bp, h.pp, h.nbn, h.npn, h.np0, h.nb0, h.l0, h.l1, h.m0, h.m1, h.y0, h.y1⟩
theorem ChipAt.drewN {w : World} {L : Lay} {c : Chp} (h : ChipAt w L c) (n : Nat) : ChipAt (w.drewN n) L c := h.stays (S := fun _ => False) (Stays.drewN (Stays.refl _ _) n) (fun _ _ => id)
theorem ChipAt.alloc {w : World} {L : Lay} {c : Chp} (h : ChipAt w L c) (o : Obj) : ChipAt (w.alloc o) L c := h.stays (S := fun _ => False) (Stays.alloc (Stays.refl _ _) o) (fun _ _ => id)
section
variable {w : World} {L : Lay} {c : Chp}
/-- A store into the chip's own block: the other blocks' cells read as they did. -/
theorem ChipAt.keepB (h : ChipAt w L c) (o : Nat) (v : Value) (i : Nat) (f : Nat) : (w.setCell ⟨L.a, o, none⟩ v).cell? ⟨L.arr, i * 4 + f, none⟩ = w.cell? ⟨L.arr, i * 4 + f, none⟩ :=
  World.cell?_setCell_other _ _ _ _ (addr_ne_block h.ab)
theorem set_a (h : ChipAt w L c) (o : Nat) (v : Value) (c' : Chp)
    (g0 : 0 ≤ c'.left) (g1 : c'.left ≤ 9223372036854775807) (g2 : -9223372036854775808 ≤ c'.mode) (g3 : c'.mode ≤ 9223372036854775807)
    (e0 : c'.nb = c.nb) (e1 : c'.np = c.np) (e2 : c'.pg = c.pg) (e3 : c'.er = c.er) (e4 : c'.rd = c.rd) (e5 : c'.worn = c.worn) (e6 : c'.bytes = c.bytes)
    (k0 : (w.setCell ⟨L.a, o, none⟩ v).cell? ⟨L.a, 0, none⟩ = some (.slice (some ⟨L.arr, 0, none⟩) c.nb L.cap))
    (k1 : (w.setCell ⟨L.a, o, none⟩ v).cell? ⟨L.a, 1, none⟩ = some (.int .i64 c'.bytes))
    (k2 : (w.setCell ⟨L.a, o, none⟩ v).cell? ⟨L.a, 2, none⟩ = some (.int .i64 c'.seed))
    (k3 : (w.setCell ⟨L.a, o, none⟩ v).cell? ⟨L.a, 3, none⟩ = some (.int .i64 c'.most))
    (k4 : (w.setCell ⟨L.a, o, none⟩ v).cell? ⟨L.a, 4, none⟩ = some (.int .i64 c'.piece))
    (k5 : (w.setCell ⟨L.a, o, none⟩ v).cell? ⟨L.a, 5, none⟩ = some (.int .i64 c'.left))
    (k6 : (w.setCell ⟨L.a, o, none⟩ v).cell? ⟨L.a, 6, none⟩ = some (.int .i64 c'.mode))
    (k7 : (w.setCell ⟨L.a, o, none⟩ v).cell? ⟨L.a, 7, none⟩ = some (.bool c'.off))
    (k8 : (w.setCell ⟨L.a, o, none⟩ v).cell? ⟨L.a, 8, none⟩ = some (.int .i64 c'.changes)) : ChipAt (w.setCell ⟨L.a, o, none⟩ v) L c' := by
  obtain ⟨n, m, pg, er, rd, wn, by', _, _, _, _, _, _, _⟩ := c'
  dsimp only at e0 e1 e2 e3 e4 e5 e6
  subst e0 e1 e2 e3 e4 e5 e6
  have ob : ∀ x, (w.setCell ⟨L.a, o, none⟩ v).cell? ⟨L.arr, x, none⟩ = w.cell? ⟨L.arr, x, none⟩ := fun x => World.cell?_setCell_other _ _ _ _ (addr_ne_block h.ab)
  have op : ∀ i, i < c.nb → ∀ x, (w.setCell ⟨L.a, o, none⟩ v).cell? ⟨L.pg i, x, none⟩ = w.cell? ⟨L.pg i, x, none⟩ := fun i hi x => World.cell?_setCell_other _ _ _ _ (addr_ne_block (h.ap i hi))
  exact ⟨k0, k1, k2, k3, k4, k5, k6, k7, k8, fun i hi => (ob _).trans (h.b0 i hi), fun i hi => (ob _).trans (h.b1 i hi), fun i hi => (ob _).trans (h.b2 i hi), fun i hi => (ob _).trans (h.b3 i hi),
    fun i hi j hj => (op i hi _).trans (h.p0 i hi j hj), fun i hi j hj => (op i hi _).trans (h.p1 i hi j hj), fun i hi j hj => (op i hi _).trans (h.p2 i hi j hj),
    fun o' => by rw [World.frozen?_setCell]; exact h.fa o', fun o' => by rw [World.frozen?_setCell]; exact h.fb o', fun i hi o' => by rw [World.frozen?_setCell]; exact h.fp i hi o',
    h.ab, h.ap, h.bp, h.pp, h.nbn, h.npn, h.np0, h.nb0, g0, g1, g2, g3, h.y0, h.y1⟩
theorem setA_same (w : World) (b o : Nat) (u v : Value) (h : w.cell? ⟨b, o, none⟩ = some u) : (w.setCell ⟨b, o, none⟩ v).cell? ⟨b, o, none⟩ = some v := World.cell?_setCell_same _ _ _ h
theorem setA_other (w : World) (b o o' : Nat) (v : Value) (h : o ≠ o') : (w.setCell ⟨b, o, none⟩ v).cell? ⟨b, o', none⟩ = w.cell? ⟨b, o', none⟩ := World.cell?_setCell_other _ _ _ _ (addr_ne_off h)
theorem ChipAt.s2 (h : ChipAt w L c) (n : Int) : ChipAt (w.setCell ⟨L.a, 2, none⟩ (.int .i64 n)) L { c with seed := n } :=
  set_a h 2 _ _ h.l0 h.l1 h.m0 h.m1 rfl rfl rfl rfl rfl rfl rfl (by rw [setA_other _ _ _ _ _ (by decide)]; exact h.c0) (by rw [setA_other _ _ _ _ _ (by decide)]; exact h.c1) (setA_same _ _ _ _ _ h.c2) (by rw [setA_other _ _ _ _ _ (by decide)]; exact h.c3) (by rw [setA_other _ _ _ _ _ (by decide)]; exact h.c4) (by rw [setA_other _ _ _ _ _ (by decide)]; exact h.c5) (by rw [setA_other _ _ _ _ _ (by decide)]; exact h.c6) (by rw [setA_other _ _ _ _ _ (by decide)]; exact h.c7) (by rw [setA_other _ _ _ _ _ (by decide)]; exact h.c8)
theorem ChipAt.s3 (h : ChipAt w L c) (n : Int) : ChipAt (w.setCell ⟨L.a, 3, none⟩ (.int .i64 n)) L { c with most := n } :=
  set_a h 3 _ _ h.l0 h.l1 h.m0 h.m1 rfl rfl rfl rfl rfl rfl rfl (by rw [setA_other _ _ _ _ _ (by decide)]; exact h.c0) (by rw [setA_other _ _ _ _ _ (by decide)]; exact h.c1) (by rw [setA_other _ _ _ _ _ (by decide)]; exact h.c2) (setA_same _ _ _ _ _ h.c3) (by rw [setA_other _ _ _ _ _ (by decide)]; exact h.c4) (by rw [setA_other _ _ _ _ _ (by decide)]; exact h.c5) (by rw [setA_other _ _ _ _ _ (by decide)]; exact h.c6) (by rw [setA_other _ _ _ _ _ (by decide)]; exact h.c7) (by rw [setA_other _ _ _ _ _ (by decide)]; exact h.c8)
theorem ChipAt.s4 (h : ChipAt w L c) (n : Int) : ChipAt (w.setCell ⟨L.a, 4, none⟩ (.int .i64 n)) L { c with piece := n } :=
  set_a h 4 _ _ h.l0 h.l1 h.m0 h.m1 rfl rfl rfl rfl rfl rfl rfl (by rw [setA_other _ _ _ _ _ (by decide)]; exact h.c0) (by rw [setA_other _ _ _ _ _ (by decide)]; exact h.c1) (by rw [setA_other _ _ _ _ _ (by decide)]; exact h.c2) (by rw [setA_other _ _ _ _ _ (by decide)]; exact h.c3) (setA_same _ _ _ _ _ h.c4) (by rw [setA_other _ _ _ _ _ (by decide)]; exact h.c5) (by rw [setA_other _ _ _ _ _ (by decide)]; exact h.c6) (by rw [setA_other _ _ _ _ _ (by decide)]; exact h.c7) (by rw [setA_other _ _ _ _ _ (by decide)]; exact h.c8)
theorem ChipAt.s5 (h : ChipAt w L c) (n : Int) (g0 : 0 ≤ n) (g1 : n ≤ 9223372036854775807) : ChipAt (w.setCell ⟨L.a, 5, none⟩ (.int .i64 n)) L { c with left := n } :=
  set_a h 5 _ _ g0 g1 h.m0 h.m1 rfl rfl rfl rfl rfl rfl rfl (by rw [setA_other _ _ _ _ _ (by decide)]; exact h.c0) (by rw [setA_other _ _ _ _ _ (by decide)]; exact h.c1) (by rw [setA_other _ _ _ _ _ (by decide)]; exact h.c2) (by rw [setA_other _ _ _ _ _ (by decide)]; exact h.c3) (by rw [setA_other _ _ _ _ _ (by decide)]; exact h.c4) (setA_same _ _ _ _ _ h.c5) (by rw [setA_other _ _ _ _ _ (by decide)]; exact h.c6) (by rw [setA_other _ _ _ _ _ (by decide)]; exact h.c7) (by rw [setA_other _ _ _ _ _ (by decide)]; exact h.c8)
theorem ChipAt.s6 (h : ChipAt w L c) (n : Int) (g0 : -9223372036854775808 ≤ n) (g1 : n ≤ 9223372036854775807) : ChipAt (w.setCell ⟨L.a, 6, none⟩ (.int .i64 n)) L { c with mode := n } :=
  set_a h 6 _ _ h.l0 h.l1 g0 g1 rfl rfl rfl rfl rfl rfl rfl (by rw [setA_other _ _ _ _ _ (by decide)]; exact h.c0) (by rw [setA_other _ _ _ _ _ (by decide)]; exact h.c1) (by rw [setA_other _ _ _ _ _ (by decide)]; exact h.c2) (by rw [setA_other _ _ _ _ _ (by decide)]; exact h.c3) (by rw [setA_other _ _ _ _ _ (by decide)]; exact h.c4) (by rw [setA_other _ _ _ _ _ (by decide)]; exact h.c5) (setA_same _ _ _ _ _ h.c6) (by rw [setA_other _ _ _ _ _ (by decide)]; exact h.c7) (by rw [setA_other _ _ _ _ _ (by decide)]; exact h.c8)
theorem ChipAt.s7 (h : ChipAt w L c) (n : Bool) : ChipAt (w.setCell ⟨L.a, 7, none⟩ (.bool n)) L { c with off := n } :=
  set_a h 7 _ _ h.l0 h.l1 h.m0 h.m1 rfl rfl rfl rfl rfl rfl rfl (by rw [setA_other _ _ _ _ _ (by decide)]; exact h.c0) (by rw [setA_other _ _ _ _ _ (by decide)]; exact h.c1) (by rw [setA_other _ _ _ _ _ (by decide)]; exact h.c2) (by rw [setA_other _ _ _ _ _ (by decide)]; exact h.c3) (by rw [setA_other _ _ _ _ _ (by decide)]; exact h.c4) (by rw [setA_other _ _ _ _ _ (by decide)]; exact h.c5) (by rw [setA_other _ _ _ _ _ (by decide)]; exact h.c6) (setA_same _ _ _ _ _ h.c7) (by rw [setA_other _ _ _ _ _ (by decide)]; exact h.c8)
theorem ChipAt.s8 (h : ChipAt w L c) (n : Int) : ChipAt (w.setCell ⟨L.a, 8, none⟩ (.int .i64 n)) L { c with changes := n } :=
  set_a h 8 _ _ h.l0 h.l1 h.m0 h.m1 rfl rfl rfl rfl rfl rfl rfl (by rw [setA_other _ _ _ _ _ (by decide)]; exact h.c0) (by rw [setA_other _ _ _ _ _ (by decide)]; exact h.c1) (by rw [setA_other _ _ _ _ _ (by decide)]; exact h.c2) (by rw [setA_other _ _ _ _ _ (by decide)]; exact h.c3) (by rw [setA_other _ _ _ _ _ (by decide)]; exact h.c4) (by rw [setA_other _ _ _ _ _ (by decide)]; exact h.c5) (by rw [setA_other _ _ _ _ _ (by decide)]; exact h.c6) (by rw [setA_other _ _ _ _ _ (by decide)]; exact h.c7) (setA_same _ _ _ _ _ h.c8)
theorem upd_cell {α : Type} {w : World} {b s f f' : Nat} {v u : Value} {enc : α → Value} {g : Nat → α} {n i : Nat} {x : α} (hv : v = enc x)
    (hg : ∀ j, j < n → w.cell? ⟨b, j * s + f, none⟩ = some (enc (g j))) (hf : f < s) (hu : w.cell? ⟨b, i * s + f, none⟩ = some u) (e : f' = f) :
    ∀ j, j < n → (w.setCell ⟨b, i * s + f', none⟩ v).cell? ⟨b, j * s + f, none⟩ = some (enc (upd g i x j)) := by
  intro j hj
  subst e hv
  by_cases e : j = i
  · subst e; rw [upd_same]; exact setA_same _ _ _ _ _ hu
  · rw [upd_other _ _ e, setA_other]
    · exact hg j hj
    · intro h; exact e (by
        have h2 : i * s = j * s := by omega
        exact (Nat.eq_of_mul_eq_mul_right (by omega) h2).symm)
theorem off_cell {w : World} {b s f f' : Nat} {v u : Value} {i j : Nat} (hf : f < s) (hf' : f' < s) (hne : f' ≠ f) (h : w.cell? ⟨b, j * s + f, none⟩ = some u) :
    (w.setCell ⟨b, i * s + f', none⟩ v).cell? ⟨b, j * s + f, none⟩ = some u := by
  rw [setA_other]
  · exact h
  · intro e
    have h1 : (i * s + f') % s = (j * s + f) % s := by rw [e]
    rw [Nat.mul_comm i, Nat.mul_comm j, Nat.mul_add_mod, Nat.mul_add_mod, Nat.mod_eq_of_lt hf, Nat.mod_eq_of_lt hf'] at h1
    exact hne h1
theorem upd_cell0 {α : Type} {w : World} {b s : Nat} {v u : Value} {enc : α → Value} {g : Nat → α} {n i : Nat} {x : α} (hv : v = enc x) (hs : 0 < s)
    (hg : ∀ j, j < n → w.cell? ⟨b, j * s, none⟩ = some (enc (g j))) (hu : w.cell? ⟨b, i * s, none⟩ = some u) :
    ∀ j, j < n → (w.setCell ⟨b, i * s, none⟩ v).cell? ⟨b, j * s, none⟩ = some (enc (upd g i x j)) := by
  intro j hj
  subst hv
  by_cases e : j = i
  · subst e; rw [upd_same]; exact setA_same _ _ _ _ _ hu
  · rw [upd_other _ _ e, setA_other]
    · exact hg j hj
    · intro h; exact e (Nat.eq_of_mul_eq_mul_right hs h).symm
theorem off_cell0 {w : World} {b s f' : Nat} {v u : Value} {i j : Nat} (hf' : f' < s) (hne : f' ≠ 0) (h : w.cell? ⟨b, j * s, none⟩ = some u) :
    (w.setCell ⟨b, i * s + f', none⟩ v).cell? ⟨b, j * s, none⟩ = some u := by
  have h' : w.cell? ⟨b, j * s + 0, none⟩ = some u := h
  exact off_cell (f := 0) (by omega) hf' hne h'
theorem off_cell1 {w : World} {b s f : Nat} {v u : Value} {i j : Nat} (hf : f < s) (hne : f ≠ 0) (h : w.cell? ⟨b, j * s + f, none⟩ = some u) :
    (w.setCell ⟨b, i * s, none⟩ v).cell? ⟨b, j * s + f, none⟩ = some u := by
  have h' := off_cell (i := i) (f' := 0) (v := v) hf (by omega) (Ne.symm hne) h
  exact h'
/-- A store into the row of blocks. -/
theorem set_b (h : ChipAt w L c) (i f : Nat) (hf : f < 4) (v : Value) (er' rd' : Nat → Int) (wn' : Nat → Bool) (hne : f ≠ 0)
    (k1 : ∀ j, j < c.nb → (w.setCell ⟨L.arr, i * 4 + f, none⟩ v).cell? ⟨L.arr, j * 4 + 1, none⟩ = some (.int .i64 (er' j)))
    (k2 : ∀ j, j < c.nb → (w.setCell ⟨L.arr, i * 4 + f, none⟩ v).cell? ⟨L.arr, j * 4 + 2, none⟩ = some (.int .i64 (rd' j)))
    (k3 : ∀ j, j < c.nb → (w.setCell ⟨L.arr, i * 4 + f, none⟩ v).cell? ⟨L.arr, j * 4 + 3, none⟩ = some (.bool (wn' j))) :
    ChipAt (w.setCell ⟨L.arr, i * 4 + f, none⟩ v) L { c with er := er', rd := rd', worn := wn' } := by
  have oa : ∀ x, (w.setCell ⟨L.arr, i * 4 + f, none⟩ v).cell? ⟨L.a, x, none⟩ = w.cell? ⟨L.a, x, none⟩ := fun x => World.cell?_setCell_other _ _ _ _ (addr_ne_block h.ab.symm)
  have op : ∀ i', i' < c.nb → ∀ x, (w.setCell ⟨L.arr, i * 4 + f, none⟩ v).cell? ⟨L.pg i', x, none⟩ = w.cell? ⟨L.pg i', x, none⟩ := fun i' hi x => World.cell?_setCell_other _ _ _ _ (addr_ne_block (h.bp i' hi))
  exact ⟨(oa _).trans h.c0, (oa _).trans h.c1, (oa _).trans h.c2, (oa _).trans h.c3, (oa _).trans h.c4, (oa _).trans h.c5, (oa _).trans h.c6, (oa _).trans h.c7, (oa _).trans h.c8,
    fun j hj => off_cell0 hf hne (h.b0 j hj), k1, k2, k3,
    fun i hi j hj => (op i hi _).trans (h.p0 i hi j hj), fun i hi j hj => (op i hi _).trans (h.p1 i hi j hj), fun i hi j hj => (op i hi _).trans (h.p2 i hi j hj),
    fun o' => by rw [World.frozen?_setCell]; exact h.fa o', fun o' => by rw [World.frozen?_setCell]; exact h.fb o', fun i hi o' => by rw [World.frozen?_setCell]; exact h.fp i hi o',
    h.ab, h.ap, h.bp, h.pp, h.nbn, h.npn, h.np0, h.nb0, h.l0, h.l1, h.m0, h.m1, h.y0, h.y1⟩
theorem ChipAt.sEr (h : ChipAt w L c) (i : Nat) (hi : i < c.nb) (n : Int) : ChipAt (w.setCell ⟨L.arr, i * 4 + 1, none⟩ (.int .i64 n)) L { c with er := upd c.er i n } :=
  set_b h i 1 (by omega) _ _ _ _ (by omega) (upd_cell (enc := fun x => .int .i64 x) rfl h.b1 (by omega) (h.b1 i hi) rfl) (fun j hj => off_cell (by omega) (by omega) (by omega) (h.b2 j hj)) (fun j hj => off_cell (by omega) (by omega) (by omega) (h.b3 j hj))
theorem ChipAt.sRd (h : ChipAt w L c) (i : Nat) (hi : i < c.nb) (n : Int) : ChipAt (w.setCell ⟨L.arr, i * 4 + 2, none⟩ (.int .i64 n)) L { c with rd := upd c.rd i n } :=
  set_b h i 2 (by omega) _ _ _ _ (by omega) (fun j hj => off_cell (by omega) (by omega) (by omega) (h.b1 j hj)) (upd_cell (enc := fun x => .int .i64 x) rfl h.b2 (by omega) (h.b2 i hi) rfl) (fun j hj => off_cell (by omega) (by omega) (by omega) (h.b3 j hj))
theorem ChipAt.sWn (h : ChipAt w L c) (i : Nat) (hi : i < c.nb) (n : Bool) : ChipAt (w.setCell ⟨L.arr, i * 4 + 3, none⟩ (.bool n)) L { c with worn := upd c.worn i n } :=
  set_b h i 3 (by omega) _ _ _ _ (by omega) (fun j hj => off_cell (by omega) (by omega) (by omega) (h.b1 j hj)) (fun j hj => off_cell (by omega) (by omega) (by omega) (h.b2 j hj)) (upd_cell (enc := fun x => .bool x) rfl h.b3 (by omega) (h.b3 i hi) rfl)
/-- A store into a page. -/
theorem set_p (h : ChipAt w L c) (i : Nat) (hi : i < c.nb) (x : Nat) (v : Value) (pg' : Nat → Nat → Pg)
    (hpg : ∀ i', i' ≠ i → pg' i' = c.pg i')
    (k0 : ∀ j, j < c.np → (w.setCell ⟨L.pg i, x, none⟩ v).cell? ⟨L.pg i, j * 3, none⟩ = some (.int .i64 (pg' i j).st))
    (k1 : ∀ j, j < c.np → (w.setCell ⟨L.pg i, x, none⟩ v).cell? ⟨L.pg i, j * 3 + 1, none⟩ = some (.string (pg' i j).data))
    (k2 : ∀ j, j < c.np → (w.setCell ⟨L.pg i, x, none⟩ v).cell? ⟨L.pg i, j * 3 + 2, none⟩ = some (.bool (pg' i j).touched)) :
    ChipAt (w.setCell ⟨L.pg i, x, none⟩ v) L { c with pg := pg' } := by
  have oa : ∀ y, (w.setCell ⟨L.pg i, x, none⟩ v).cell? ⟨L.a, y, none⟩ = w.cell? ⟨L.a, y, none⟩ := fun y => World.cell?_setCell_other _ _ _ _ (addr_ne_block (h.ap i hi).symm)
  have ob : ∀ y, (w.setCell ⟨L.pg i, x, none⟩ v).cell? ⟨L.arr, y, none⟩ = w.cell? ⟨L.arr, y, none⟩ := fun y => World.cell?_setCell_other _ _ _ _ (addr_ne_block (h.bp i hi).symm)
  have op : ∀ i', i' < c.nb → i' ≠ i → ∀ y, (w.setCell ⟨L.pg i, x, none⟩ v).cell? ⟨L.pg i', y, none⟩ = w.cell? ⟨L.pg i', y, none⟩ := fun i' hi' hne y => World.cell?_setCell_other _ _ _ _ (addr_ne_block (fun e => hne (h.pp _ _ hi hi' e).symm))
  refine ⟨(oa _).trans h.c0, (oa _).trans h.c1, (oa _).trans h.c2, (oa _).trans h.c3, (oa _).trans h.c4, (oa _).trans h.c5, (oa _).trans h.c6, (oa _).trans h.c7, (oa _).trans h.c8,
    fun j hj => (ob _).trans (h.b0 j hj), fun j hj => (ob _).trans (h.b1 j hj), fun j hj => (ob _).trans (h.b2 j hj), fun j hj => (ob _).trans (h.b3 j hj), ?_, ?_, ?_,
    fun o' => by rw [World.frozen?_setCell]; exact h.fa o', fun o' => by rw [World.frozen?_setCell]; exact h.fb o', fun i hi o' => by rw [World.frozen?_setCell]; exact h.fp i hi o',
    h.ab, h.ap, h.bp, h.pp, h.nbn, h.npn, h.np0, h.nb0, h.l0, h.l1, h.m0, h.m1, h.y0, h.y1⟩
  · intro i' hi' j hj
    by_cases e : i' = i
    · subst e; exact k0 j hj
    · rw [op i' hi' e]; dsimp only; rw [hpg i' e]; exact h.p0 i' hi' j hj
  · intro i' hi' j hj
    by_cases e : i' = i
    · subst e; exact k1 j hj
    · rw [op i' hi' e]; dsimp only; rw [hpg i' e]; exact h.p1 i' hi' j hj
  · intro i' hi' j hj
    by_cases e : i' = i
    · subst e; exact k2 j hj
    · rw [op i' hi' e]; dsimp only; rw [hpg i' e]; exact h.p2 i' hi' j hj
theorem upd2_at {α : Type} (f : Nat → Nat → α) (i j : Nat) (v : α) : upd2 f i j v i = upd (f i) j v := by
  funext y; unfold upd2 upd; by_cases h : y = j <;> simp [h]
theorem upd2_off {α : Type} (f : Nat → Nat → α) (i j : Nat) (v : α) {i' : Nat} (h : i' ≠ i) : upd2 f i j v i' = f i' := by
  funext y; unfold upd2; simp [h]
theorem upd_map {α β : Type} (g : α → β) (f : Nat → α) (i : Nat) (v : α) (j : Nat) : g (upd f i v j) = upd (fun x => g (f x)) i (g v) j := by
  unfold upd; split <;> rfl
theorem upd_self {β : Type} (f : Nat → β) (i : Nat) (x : β) (h : x = f i) (j : Nat) : upd f i x j = f j := by
  unfold upd; split
  · rename_i e; rw [h, e]
  · rfl
theorem ChipAt.sSt (h : ChipAt w L c) (i : Nat) (hi : i < c.nb) (j : Nat) (hj : j < c.np) (n : Int) :
    ChipAt (w.setCell ⟨L.pg i, j * 3, none⟩ (.int .i64 n)) L { c with pg := upd2 c.pg i j { c.pg i j with st := n } } := by
  refine set_p h i hi (j * 3) _ _ (fun i' e => upd2_off _ _ _ _ e) ?_ ?_ ?_ <;> rw [upd2_at]
  · intro y hy
    rw [upd_map (fun p : Pg => p.st)]
    exact upd_cell0 (enc := fun x => .int .i64 x) rfl (by omega) (h.p0 i hi) (h.p0 i hi j hj) y hy
  · intro y hy
    rw [upd_map (fun p : Pg => p.data), upd_self (fun x => (c.pg i x).data) j _ rfl]
    exact off_cell1 (by omega) (by omega) (h.p1 i hi y hy)
  · intro y hy
    rw [upd_map (fun p : Pg => p.touched), upd_self (fun x => (c.pg i x).touched) j _ rfl]
    exact off_cell1 (by omega) (by omega) (h.p2 i hi y hy)
theorem ChipAt.sDt (h : ChipAt w L c) (i : Nat) (hi : i < c.nb) (j : Nat) (hj : j < c.np) (n : ByteArray) :
    ChipAt (w.setCell ⟨L.pg i, j * 3 + 1, none⟩ (.string n)) L { c with pg := upd2 c.pg i j { c.pg i j with data := n } } := by
  refine set_p h i hi (j * 3 + 1) _ _ (fun i' e => upd2_off _ _ _ _ e) ?_ ?_ ?_ <;> rw [upd2_at]
  · intro y hy
    rw [upd_map (fun p : Pg => p.st), upd_self (fun x => (c.pg i x).st) j _ rfl]
    exact off_cell0 (by omega) (by omega) (h.p0 i hi y hy)
  · intro y hy
    rw [upd_map (fun p : Pg => p.data)]
    exact upd_cell (enc := fun x => .string x) rfl (h.p1 i hi) (by omega) (h.p1 i hi j hj) rfl y hy
  · intro y hy
    rw [upd_map (fun p : Pg => p.touched), upd_self (fun x => (c.pg i x).touched) j _ rfl]
    exact off_cell (by omega) (by omega) (by omega) (h.p2 i hi y hy)
theorem ChipAt.sTc (h : ChipAt w L c) (i : Nat) (hi : i < c.nb) (j : Nat) (hj : j < c.np) (n : Bool) :
    ChipAt (w.setCell ⟨L.pg i, j * 3 + 2, none⟩ (.bool n)) L { c with pg := upd2 c.pg i j { c.pg i j with touched := n } } := by
  refine set_p h i hi (j * 3 + 2) _ _ (fun i' e => upd2_off _ _ _ _ e) ?_ ?_ ?_ <;> rw [upd2_at]
  · intro y hy
    rw [upd_map (fun p : Pg => p.st), upd_self (fun x => (c.pg i x).st) j _ rfl]
    exact off_cell0 (by omega) (by omega) (h.p0 i hi y hy)
  · intro y hy
    rw [upd_map (fun p : Pg => p.data), upd_self (fun x => (c.pg i x).data) j _ rfl]
    exact off_cell (by omega) (by omega) (by omega) (h.p1 i hi y hy)
  · intro y hy
    rw [upd_map (fun p : Pg => p.touched)]
    exact upd_cell (enc := fun x => .bool x) rfl (h.p2 i hi) (by omega) (h.p2 i hi j hj) rfl y hy
end

theorem Stays.inA {A o : Nat} {a b : World} (h : Stays (fun x => x = A) a b) (v : Value) : Stays (fun x => x = A) a (b.setCell ⟨A, o, none⟩ v) := h.setCell (p := ⟨A, o, none⟩) rfl v
theorem upd2_twice {α : Type} (f : Nat → Nat → α) (i j : Nat) (a b : α) : upd2 (upd2 f i j a) i j b = upd2 f i j b := by
  funext x y; unfold upd2; split <;> rfl
theorem upd2_val {α : Type} (f : Nat → Nat → α) (i j : Nat) (a : α) : upd2 f i j a i j = a := by simp [upd2]
/-- A whole page is stored. -/
theorem ChipAt.sPg {w : World} {L : Lay} {c : Chp} (h : ChipAt w L c) (i : Nat) (hi : i < c.nb) (j : Nat) (hj : j < c.np) (p : Pg) :
    ChipAt (((w.setCell ⟨L.pg i, j * 3, none⟩ (.int .i64 p.st)).setCell ⟨L.pg i, j * 3 + 1, none⟩ (.string p.data)).setCell ⟨L.pg i, j * 3 + 2, none⟩ (.bool p.touched)) L { c with pg := upd2 c.pg i j p } := by
  have h1 := h.sSt i hi j hj p.st
  have h2 := h1.sDt i hi j hj p.data
  have h3 := h2.sTc i hi j hj p.touched
  simp only [upd2_twice, upd2_val] at h3
  exact h3
theorem foot_a (L : Lay) (n : Nat) : Foot L n L.a := .inl rfl
theorem foot_b (L : Lay) (n : Nat) : Foot L n L.arr := .inr (.inl rfl)
theorem foot_p (L : Lay) (n i : Nat) (h : i < n) : Foot L n (L.pg i) := .inr (.inr ⟨i, h, rfl⟩)
end Go.Proofs.YtgfjeaegigjnaaaGreatDoor

namespace Go.Proofs.YtgfjeaegigjnaaaGreatDoor
open Go.RowKit
set_option linter.unusedVariables false
set_option linter.unusedSimpArgs false

/-! ### Pair -/
def upperB (p : Int) : Bool := decide (2 ≤ p.tmod 4)
set_option maxRecDepth 100000 in
set_option maxHeartbeats 400000 in
theorem upper_any (p : Int) (w : World) : Calls Tryz.prog 62 #[.int .i64 p] w fun e w' => e = .returned (.bool (upperB p)) ∧ w = w' := by
  go_enter Tryz.func62, Tryz.ntmps62
  go_wp2
  go_ret
  exact ⟨rfl, rfl⟩
def pairC (p : Int) : Int × Bool := if p < 0 then (0, false) else if 2 ≤ p % 4 then (p - 2, true) else (wrap64 (p + 2), false)
set_option maxRecDepth 100000 in
set_option maxHeartbeats 800000 in
theorem pair_any (p : Int) (w : World) (hmax : p ≤ 9223372036854775807) : Calls Tryz.prog 41 #[.int .i64 p] w fun e w' => e = .returned (.tuple #[.int .i64 (pairC p).1, .bool (pairC p).2]) ∧ w = w' := by
  by_cases h : p < 0
  · have hv : pairC p = (0, false) := if_pos h
    have HV := Lib.hid hv
    clear hv
    go_enter Tryz.func41, Tryz.ntmps41
    go_wp2
    go_ret2
    exact ⟨by rw [HV.out]; rfl, rfl⟩
  · have hu : upperB p = decide (2 ≤ p % 4) := by unfold upperB; rw [Int.tmod_eq_emod_of_nonneg (by omega)]
    by_cases h2 : 2 ≤ p % 4
    · have hu' : upperB p = true := by simp [hu, h2]
      have hv : pairC p = (p - 2, true) := by rw [pairC, if_neg h, if_pos h2]
      have HV := Lib.hid hv
      clear hu hv
      go_enter Tryz.func41, Tryz.ntmps41
      go_wp2_with (go_at_call 62; refine (upper_any _ _).mono ?_; rintro e w' ⟨rfl, rfl⟩)
      go_ret2
      exact ⟨by rw [HV.out]; rfl, rfl⟩
    · have hu' : upperB p = false := by simp [hu, h2]
      have hv : pairC p = (wrap64 (p + 2), false) := by rw [pairC, if_neg h, if_neg h2]
      have HV := Lib.hid hv
      clear hu hv
      by_cases hb : p ≤ 9223372036854775805
      · have hw := IntWalk.wrap64_in (p + 2) ⟨by omega, by omega⟩
        have HW := Lib.hid hw
        clear hw
        go_enter Tryz.func41, Tryz.ntmps41
        go_wp2_with (go_at_call 62; refine (upper_any _ _).mono ?_; rintro e w' ⟨rfl, rfl⟩)
        go_ret2
        exact ⟨by rw [HV.out, HW.out]; rfl, rfl⟩
      · exfalso; omega
/-! ### has, hasPage -/
def hasB (c : Chp) (b : Int) : Bool := decide (0 ≤ b) && decide (b < (c.nb : Int))
def hasPB (c : Chp) (b p : Int) : Bool := hasB c b && decide (0 ≤ p) && decide (p < (c.np : Int))
variable {L : Lay} {c : Chp} {w : World}

set_option maxRecDepth 100000 in
set_option maxHeartbeats 400000 in
theorem has_nil (b : Int) (w : World) : Calls Tryz.prog 51 #[.pointer none, .int .i64 b] w fun e w' => e = .returned (.bool false) ∧ w = w' := by
  go_enter Tryz.func51, Tryz.ntmps51
  go_wp2
  go_ret
  exact ⟨rfl, rfl⟩
set_option maxRecDepth 100000 in
set_option maxHeartbeats 400000 in
theorem has_any (h : ChipAt w L c) (b : Int) : Calls Tryz.prog 51 #[.pointer (some ⟨L.a, 0, none⟩), .int .i64 b] w fun e w' => e = .returned (.bool (hasB c b)) ∧ w = w' := by
  have hc0 := h.c0
  by_cases h0 : 0 ≤ b
  · have e1 : decide (0 ≤ b) = true := by simpa using h0
    go_enter Tryz.func51, Tryz.ntmps51
    go_wp2
    go_ret
    exact ⟨by simp [hasB, h0], rfl⟩
  · have e1 : decide (0 ≤ b) = false := by simpa using h0
    go_enter Tryz.func51, Tryz.ntmps51
    go_wp2
    go_ret
    exact ⟨by simp [hasB]; omega, rfl⟩
set_option maxRecDepth 100000 in
set_option maxHeartbeats 400000 in
theorem hasPage_nil (b p : Int) (w : World) : Calls Tryz.prog 30 #[.pointer none, .int .i64 b, .int .i64 p] w fun e w' => e = .returned (.bool false) ∧ w = w' := by
  go_enter Tryz.func30, Tryz.ntmps30
  go_wp2_with (go_at_call 51; refine (has_nil _ _).mono ?_; rintro e w' ⟨rfl, rfl⟩)
  go_ret
  exact ⟨rfl, rfl⟩
set_option maxRecDepth 100000 in
set_option maxHeartbeats 400000 in
theorem hasPage_any (h : ChipAt w L c) (b p : Int) : Calls Tryz.prog 30 #[.pointer (some ⟨L.a, 0, none⟩), .int .i64 b, .int .i64 p] w fun e w' => e = .returned (.bool (hasPB c b p)) ∧ w = w' := by
  have hc0 := h.c0
  by_cases hb : hasB c b = true
  · obtain ⟨n, rfl, hn⟩ : ∃ n : Nat, b = n ∧ n < c.nb := ⟨b.toNat, by simp [hasB] at hb; omega, by simp [hasB] at hb; omega⟩
    have hb0 := h.b0 n hn
    by_cases h0 : 0 ≤ p
    · have e1 : decide (0 ≤ p) = true := by simpa using h0
      go_enter Tryz.func30, Tryz.ntmps30
      go_wp2_with (go_at_call 51; refine (has_any h _).mono ?_; rintro e w' ⟨rfl, rfl⟩)
      go_ret
      exact ⟨by simp [hasPB, hb, h0], rfl⟩
    · have e1 : decide (0 ≤ p) = false := by simpa using h0
      go_enter Tryz.func30, Tryz.ntmps30
      go_wp2_with (go_at_call 51; refine (has_any h _).mono ?_; rintro e w' ⟨rfl, rfl⟩)
      go_ret
      exact ⟨by simp [hasPB, hb]; omega, rfl⟩
  · have hb' : hasB c b = false := by simpa using hb
    go_enter Tryz.func30, Tryz.ntmps30
    go_wp2_with (go_at_call 51; refine (has_any h _).mono ?_; rintro e w' ⟨rfl, rfl⟩)
    go_ret
    exact ⟨by simp [hasPB, hb'], rfl⟩
/-! ### may -/
def mayC (c : Chp) (b : Nat) : Int := if c.off then 20 else if c.worn b then 22 else 0
set_option maxRecDepth 100000 in
set_option maxHeartbeats 400000 in
theorem may_any (h : ChipAt w L c) (b : Nat) (hb : b < c.nb) : Calls Tryz.prog 39 #[.pointer (some ⟨L.a, 0, none⟩), .int .i64 b] w fun e w' => e = .returned (.int .i64 (mayC c b)) ∧ w = w' := by
  have hc0 := h.c0
  have hc7 := h.c7
  have hb3 := h.b3 b hb
  have hnb := h.nbn
  cases ho : c.off with
  | true =>
    rw [ho] at hc7
    go_enter Tryz.func39, Tryz.ntmps39
    go_wp2
    go_ret
    exact ⟨by simp [mayC, ho], rfl⟩
  | false =>
    rw [ho] at hc7
    cases hw : c.worn b with
    | true =>
      rw [hw] at hb3
      go_enter Tryz.func39, Tryz.ntmps39
      go_wp2
      go_ret
      exact ⟨by simp [mayC, ho, hw], rfl⟩
    | false =>
      rw [hw] at hb3
      go_enter Tryz.func39, Tryz.ntmps39
      go_wp2
      go_ret
      exact ⟨by simp [mayC, ho, hw], rfl⟩
end Go.Proofs.YtgfjeaegigjnaaaGreatDoor

namespace Go.Proofs.YtgfjeaegigjnaaaGreatDoor
open Go.RowKit
set_option linter.unusedVariables false
set_option linter.unusedSimpArgs false
variable {L : Lay} {c : Chp} {w : World}

def modeC (m : Int) : Int := (if m < 0 then -(m + 1) else m) % 8
theorem modeC_neg (m : Int) (h : m < 0) : -((m + 1).tmod 8) = modeC m := by
  rw [modeC, if_pos h, ← Int.neg_tmod, Int.tmod_eq_emod_of_nonneg (by omega)]
def tornC (c : Chp) : (Int × Bool) × Chp :=
  if c.left = 0 then ((0, false), { c with changes := wrap64 (c.changes + 1) })
  else if 1 < c.left then ((0, false), { c with changes := wrap64 (c.changes + 1), left := c.left - 1 })
  else ((modeC c.mode, true), { c with changes := wrap64 (c.changes + 1), left := c.left - 1, off := true })
set_option maxRecDepth 100000 in
set_option maxHeartbeats 400000 in
theorem torn_any (h : ChipAt w L c) : Calls Tryz.prog 40 #[.pointer (some ⟨L.a, 0, none⟩)] w fun e w' =>
    e = .returned (.tuple #[.int .i64 (tornC c).1.1, .bool (tornC c).1.2]) ∧ ChipAt w' L (tornC c).2 ∧ Stays (· = L.a) w w' := by
  have hc5 := h.c5
  have hc6 := h.c6
  have hc7 := h.c7
  have hc8 := h.c8
  have hf := h.fa
  have l0 := h.l0
  have l1 := h.l1
  have m0 := h.m0
  have m1 := h.m1
  by_cases e0 : c.left = 0
  · have e0b : (c.left == 0) = true := by simpa using e0
    have HH := Lib.hid e0
    clear e0
    go_enter Tryz.func40, Tryz.ntmps40
    go_wp2
    go_ret2
    exact ⟨by rw [tornC, if_pos HH.out]; rfl, by rw [tornC, if_pos HH.out]; exact h.s8 _, (Stays.refl _ _).inA _⟩
  · have e0b : (c.left == 0) = false := by simpa using e0
    by_cases e1 : 1 < c.left
    · have e1b : decide (0 < c.left - 1) = true := by simp; omega
      go_enter Tryz.func40, Tryz.ntmps40
      go_wp2
      go_ret2
      exact ⟨by rw [tornC, if_neg (by omega), if_pos (by omega)]; rfl, by rw [tornC, if_neg (by omega), if_pos (by omega)]; exact (h.s8 _).s5 _ (by omega) (by omega), ((Stays.refl _ _).inA _).inA _⟩
    · have e1b : decide (0 < c.left - 1) = false := by simp; omega
      by_cases e2 : c.mode < 0
      · go_enter Tryz.func40, Tryz.ntmps40
        go_wp2
        go_ret2
        exact ⟨by rw [tornC, if_neg (by omega), if_neg (by omega), ← modeC_neg _ e2]; rfl, by rw [tornC, if_neg (by omega), if_neg (by omega)]; exact ((h.s8 _).s5 _ (by omega) (by omega)).s7 _, (((Stays.refl _ _).inA _).inA _).inA _⟩
      · go_enter Tryz.func40, Tryz.ntmps40
        go_wp2
        go_ret2
        exact ⟨by rw [tornC, if_neg (by omega), if_neg (by omega), modeC, if_neg (by omega)]; rfl, by rw [tornC, if_neg (by omega), if_neg (by omega)]; exact ((h.s8 _).s5 _ (by omega) (by omega)).s7 _, (((Stays.refl _ _).inA _).inA _).inA _⟩
/-! ### Off, On, Cut, Noise, Changes -/
set_option maxRecDepth 100000 in
set_option maxHeartbeats 400000 in
theorem cut_any (h : ChipAt w L c) (n m : Int) (n0 : n ≤ 9223372036854775807) (m0 : -9223372036854775808 ≤ m) (m1 : m ≤ 9223372036854775807) : Calls Tryz.prog 24 #[.pointer (some ⟨L.a, 0, none⟩), .int .i64 n, .int .i64 m] w fun e w' =>
    e = .returned (.tuple #[]) ∧ ChipAt w' L { c with left := max n 1, mode := m } ∧ Stays (· = L.a) w w' := by
  have hc5 := h.c5
  have hc6 := h.c6
  have hf := h.fa
  have H := Lib.hid h
  clear h
  by_cases hn : 1 ≤ n
  · go_enter Tryz.func24, Tryz.ntmps24
    go_wp2
    go_end0
    exact ⟨rfl, by rw [show max n 1 = n from by omega]; exact ((H.out.s5 _ (by omega) (by omega)).s6 _ (by omega) (by omega)), ((Stays.refl _ _).inA _).inA _⟩
  · go_enter Tryz.func24, Tryz.ntmps24
    go_wp2
    go_end0
    exact ⟨rfl, by rw [show max n 1 = 1 from by omega]; exact ((H.out.s5 _ (by omega) (by omega)).s6 _ (by omega) (by omega)), ((Stays.refl _ _).inA _).inA _⟩
set_option maxRecDepth 100000 in
set_option maxHeartbeats 400000 in
theorem cut_nil (n m : Int) (w : World) : Calls Tryz.prog 24 #[.pointer none, .int .i64 n, .int .i64 m] w fun e w' => e = .returned (.tuple #[]) ∧ w = w' := by
  go_enter Tryz.func24, Tryz.ntmps24
  go_wp2
  go_end0
  exact ⟨rfl, rfl⟩
set_option maxRecDepth 100000 in
set_option maxHeartbeats 400000 in
theorem noise_any (h : ChipAt w L c) (s m p : Int) : Calls Tryz.prog 25 #[.pointer (some ⟨L.a, 0, none⟩), .int .i64 s, .int .i64 m, .int .i64 p] w fun e w' =>
    e = .returned (.tuple #[]) ∧ ChipAt w' L { c with seed := s, most := m, piece := p } ∧ Stays (· = L.a) w w' := by
  have hc2 := h.c2
  have hc3 := h.c3
  have hc4 := h.c4
  have hf := h.fa
  go_enter Tryz.func25, Tryz.ntmps25
  go_wp2
  go_end0
  exact ⟨rfl, ((h.s2 _).s3 _).s4 _, (((Stays.refl _ _).inA _).inA _).inA _⟩
set_option maxRecDepth 100000 in
set_option maxHeartbeats 400000 in
theorem noise_nil (s m p : Int) (w : World) : Calls Tryz.prog 25 #[.pointer none, .int .i64 s, .int .i64 m, .int .i64 p] w fun e w' => e = .returned (.tuple #[]) ∧ w = w' := by
  go_enter Tryz.func25, Tryz.ntmps25
  go_wp2
  go_end0
  exact ⟨rfl, rfl⟩
end Go.Proofs.YtgfjeaegigjnaaaGreatDoor

namespace Go.Proofs.YtgfjeaegigjnaaaGreatDoor
open Go.RowKit
set_option linter.unusedVariables false
set_option linter.unusedSimpArgs false
variable {L : Lay} {c : Chp} {w : World}

theorem hasB_nat {b : Int} (h : hasB c b = true) : ∃ n : Nat, b = n ∧ n < c.nb := by
  simp [hasB] at h
  exact ⟨b.toNat, by omega, by omega⟩
theorem hasPB_nat {b p : Int} (h : hasPB c b p = true) : ∃ n m : Nat, b = n ∧ p = m ∧ n < c.nb ∧ m < c.np := by
  simp [hasPB, hasB] at h
  exact ⟨b.toNat, p.toNat, by omega, by omega, by omega, by omega⟩
def countsC (c : Chp) (b : Int) : Int × Int := if hasB c b = true then (c.er b.toNat, c.rd b.toNat) else (0, 0)
def wearC (c : Chp) (b : Int) : Int × Chp := if hasB c b = true then (0, { c with worn := upd c.worn b.toNat true }) else (1, c)
def spoilC (c : Chp) (b p : Int) : Int × Chp :=
  if hasPB c b p = true then (0, if (c.pg b.toNat p.toNat).st = 1 then { c with pg := upd2 c.pg b.toNat p.toNat { c.pg b.toNat p.toNat with st := 2 } } else c) else (1, c)
set_option maxRecDepth 100000 in
set_option maxHeartbeats 400000 in
theorem spoil_any (h : ChipAt w L c) (b p : Int) : Calls Tryz.prog 26 #[.pointer (some ⟨L.a, 0, none⟩), .int .i64 b, .int .i64 p] w fun e w' =>
    e = .returned (.int .i64 (spoilC c b p).1) ∧ ChipAt w' L (spoilC c b p).2 ∧ Stays (Foot L c.nb) w w' := by
  have hc0 := h.c0
  have hnb := h.nbn
  have hnp := h.npn
  by_cases hb : hasPB c b p = true
  · have hv : spoilC c b p = (0, if (c.pg b.toNat p.toNat).st = 1 then { c with pg := upd2 c.pg b.toNat p.toNat { c.pg b.toNat p.toNat with st := 2 } } else c) := if_pos hb
    have HV := Lib.hid hv
    clear hv
    obtain ⟨n, m, rfl, rfl, hn, hm⟩ := hasPB_nat hb
    have hb0 := h.b0 n hn
    have hp0 := h.p0 n hn m hm
    have hfp := h.fp n hn
    by_cases e1 : (c.pg n m).st = 1
    · have e1b : ((c.pg n m).st == 1) = true := by simpa using e1
      have E1 := Lib.hid e1
      clear e1
      go_enter Tryz.func26, Tryz.ntmps26
      go_wp2_with (go_at_call 30; refine (hasPage_any h _ _).mono ?_; rintro e w' ⟨rfl, rfl⟩)
      go_ret
      rw [HV.out]
      simp only [Int.toNat_natCast]
      rw [if_pos E1.out]
      exact ⟨rfl, h.sSt n hn m hm 2, (Stays.refl _ _).setCell (foot_p _ _ n hn) _⟩
    · have e1b : ((c.pg n m).st == 1) = false := by simpa using e1
      go_enter Tryz.func26, Tryz.ntmps26
      go_wp2_with (go_at_call 30; refine (hasPage_any h _ _).mono ?_; rintro e w' ⟨rfl, rfl⟩)
      go_ret
      rw [HV.out]
      simp only [Int.toNat_natCast]
      rw [if_neg e1]
      exact ⟨rfl, h, Stays.refl _ _⟩
  · have hb' : hasPB c b p = false := by simpa using hb
    have hv : spoilC c b p = (1, c) := if_neg hb
    have HV := Lib.hid hv
    clear hv hb
    go_enter Tryz.func26, Tryz.ntmps26
    go_wp2_with (go_at_call 30; refine (hasPage_any h _ _).mono ?_; rintro e w' ⟨rfl, rfl⟩)
    go_ret
    rw [HV.out]
    exact ⟨rfl, h, Stays.refl _ _⟩
set_option maxRecDepth 100000 in
set_option maxHeartbeats 400000 in
theorem spoil_nil (b p : Int) (w : World) : Calls Tryz.prog 26 #[.pointer none, .int .i64 b, .int .i64 p] w fun e w' => e = .returned (.int .i64 1) ∧ w = w' := by
  go_enter Tryz.func26, Tryz.ntmps26
  go_wp2_with (go_at_call 30; refine (hasPage_nil _ _ _).mono ?_; rintro e w' ⟨rfl, rfl⟩)
  go_ret
  exact ⟨rfl, rfl⟩
def isB (c : Chp) (x y z : Int) : Bool := ((c.nb : Int) == x) && (((c.np : Int) == y) && (c.bytes == z))
end Go.Proofs.YtgfjeaegigjnaaaGreatDoor

