/- The document's chip as it lies in memory: the same plain data as the chip of package nand. -/
import Derived.Test.YthoadcibknaelaaRep
namespace Go.Proofs.Ythoadcibknaelaa
open Go.RowKit
set_option linter.unusedVariables false
set_option linter.unusedSimpArgs false

/-- A row of cells. -/
def Row (w : World) (b n : Nat) (f : Nat → Value) : Prop := ∀ i, i < n → w.cell? ⟨b, i, none⟩ = some (f i)
theorem Row.keep {w w' : World} {b n : Nat} {f : Nat → Value} (h : Row w b n f) {S : Nat → Prop} (hs : Stays S w w') (hn : ¬ S b) : Row w' b n f := fun i hi => hs.cell (h i hi) hn
theorem Row.set {w : World} {b n : Nat} {f : Nat → Value} (h : Row w b n f) {i : Nat} (hi : i < n) (v : Value) : Row (w.setCell ⟨b, i, none⟩ v) b n (upd f i v) := by
  intro j hj
  by_cases e : j = i
  · subst e; rw [upd_same]; exact setA_same _ _ _ _ _ (h j hj)
  · rw [upd_other _ _ e, setA_other _ _ _ _ _ (Ne.symm e)]; exact h j hj
theorem Row.congr {w : World} {b n : Nat} {f g : Nat → Value} (h : Row w b n f) (e : ∀ i, i < n → f i = g i) : Row w b n g := fun i hi => e i hi ▸ h i hi

structure RLay where
  a : Nat
  pp : Nat
  ee : Nat
  rr : Nat
  ww : Nat
  md : Int

def RFoot (R : RLay) (k : Nat) : Prop := k = R.a ∨ k = R.pp ∨ k = R.ee ∨ k = R.rr ∨ k = R.ww

def acell (R : RLay) (c : Chp) : Nat → Value
  | 0 => .int .i64 c.nb
  | 1 => .int .i64 c.np
  | 2 => .int .i64 c.bytes
  | 3 => .slice (some ⟨R.pp, 0, none⟩) (c.nb * c.np) (c.nb * c.np)
  | 4 => .slice (some ⟨R.ee, 0, none⟩) c.nb c.nb
  | 5 => .slice (some ⟨R.rr, 0, none⟩) c.nb c.nb
  | 6 => .slice (some ⟨R.ww, 0, none⟩) c.nb c.nb
  | 7 => .int .i64 c.seed
  | 8 => .int .i64 c.most
  | 9 => .int .i64 c.piece
  | 10 => .int .i64 c.left
  | 11 => .int .i64 R.md
  | 12 => .bool c.off
  | _ => .int .i64 c.changes
def fcell (p : Pg) : Nat → Value
  | 0 => .int .i64 p.st
  | 1 => .string p.data
  | _ => .bool p.touched
def pcell (c : Chp) (k : Nat) : Value := fcell (c.pg (k / 3 / c.np) (k / 3 % c.np)) (k % 3)

structure RefAt (w : World) (R : RLay) (c : Chp) : Prop where
  ca : Row w R.a 14 (acell R c)
  cp : Row w R.pp (c.nb * c.np * 3) (pcell c)
  ce : Row w R.ee c.nb (fun i => .int .i64 (c.er i))
  cr : Row w R.rr c.nb (fun i => .int .i64 (c.rd i))
  cw : Row w R.ww c.nb (fun i => .bool (c.worn i))
  fz : ∀ k, RFoot R k → ∀ o, w.frozen? ⟨k, o, none⟩ = false
  n1 : R.a ≠ R.pp
  n2 : R.a ≠ R.ee
  n3 : R.a ≠ R.rr
  n4 : R.a ≠ R.ww
  n5 : R.pp ≠ R.ee
  n6 : R.pp ≠ R.rr
  n7 : R.pp ≠ R.ww
  n8 : R.ee ≠ R.rr
  n9 : R.ee ≠ R.ww
  n10 : R.rr ≠ R.ww
  nbn : c.nb ≤ 64
  npn : c.np ≤ 64
  np0 : 0 < c.np
  nb0 : 0 < c.nb
  l0 : 0 ≤ c.left
  l1 : c.left ≤ 9223372036854775807
  m0 : -9223372036854775808 ≤ R.md
  m1 : R.md ≤ 9223372036854775807
  y0 : 1 ≤ c.bytes
  y1 : c.bytes ≤ 2048
  hm : c.left = 0 ∨ R.md = c.mode

section
variable {w w' : World} {R : RLay} {c : Chp}
theorem RefAt.lt (h : RefAt w R c) : ∀ k, RFoot R k → k < w.heap.size := by
  have hn := h.nb0
  have hp := Nat.mul_pos h.nb0 h.np0
  rintro k (rfl | rfl | rfl | rfl | rfl)
  · exact World.block_lt_of_cell? _ _ (h.ca 0 (by omega))
  · exact World.block_lt_of_cell? _ _ (h.cp 0 (by omega))
  · exact World.block_lt_of_cell? _ _ (h.ce 0 hn)
  · exact World.block_lt_of_cell? _ _ (h.cr 0 hn)
  · exact World.block_lt_of_cell? _ _ (h.cw 0 hn)
theorem RefAt.stays (h : RefAt w R c) {S : Nat → Prop} (hk : Stays S w w') (hS : ∀ k, RFoot R k → ¬ S k) : RefAt w' R c :=
  ⟨h.ca.keep hk (hS _ (.inl rfl)), h.cp.keep hk (hS _ (.inr (.inl rfl))), h.ce.keep hk (hS _ (.inr (.inr (.inl rfl)))), h.cr.keep hk (hS _ (.inr (.inr (.inr (.inl rfl))))), h.cw.keep hk (hS _ (.inr (.inr (.inr (.inr rfl))))),
    fun k hf o => (hk.frozen (p := ⟨k, o, none⟩) (hS k hf) (h.lt k hf)).trans (h.fz k hf o),
    h.n1, h.n2, h.n3, h.n4, h.n5, h.n6, h.n7, h.n8, h.n9, h.n10, h.nbn, h.npn, h.np0, h.nb0, h.l0, h.l1, h.m0, h.m1, h.y0, h.y1, h.hm⟩
theorem RefAt.drewN (h : RefAt w R c) (n : Nat) : RefAt (w.drewN n) R c := h.stays (S := fun _ => False) (Stays.drewN (Stays.refl _ _) n) (fun _ _ => id)
theorem RefAt.alloc (h : RefAt w R c) (o : Obj) : RefAt (w.alloc o) R c := h.stays (S := fun _ => False) (Stays.alloc (Stays.refl _ _) o) (fun _ _ => id)
/-- The place of a page in the flat row. -/
theorem RefAt.flat (h : RefAt w R c) {i j : Nat} (hi : i < c.nb) (hj : j < c.np) : i * c.np + j < c.nb * c.np := by
  have := Nat.mul_le_mul_right c.np (show i + 1 ≤ c.nb by omega)
  rw [Nat.succ_mul] at this; omega
theorem pcell_at (c : Chp) {i j f : Nat} (hj : j < c.np) (hf : f < 3) : pcell c ((i * c.np + j) * 3 + f) = fcell (c.pg i j) f := by
  unfold pcell
  rw [show ((i * c.np + j) * 3 + f) / 3 = i * c.np + j by omega, show ((i * c.np + j) * 3 + f) % 3 = f by omega, Nat.mul_comm i, Nat.mul_add_div (by omega), Nat.mul_add_mod, Nat.div_eq_of_lt hj, Nat.mod_eq_of_lt hj, Nat.add_zero]
theorem RefAt.page (h : RefAt w R c) {i j f : Nat} (hi : i < c.nb) (hj : j < c.np) (hf : f < 3) : w.cell? ⟨R.pp, (i * c.np + j) * 3 + f, none⟩ = some (fcell (c.pg i j) f) := by
  rw [← pcell_at c hj hf]
  exact h.cp _ (by have := h.flat hi hj; omega)
/-- A store into the chip's own block. -/
theorem RefAt.setA (h : RefAt w R c) {o : Nat} (ho : o < 14) (v : Value) (R' : RLay) (c' : Chp) (ea : R'.a = R.a) (ep : R'.pp = R.pp) (ee : R'.ee = R.ee) (er : R'.rr = R.rr) (ew : R'.ww = R.ww)
    (e0 : c'.nb = c.nb) (e1 : c'.np = c.np) (e2 : c'.pg = c.pg) (e3 : c'.er = c.er) (e4 : c'.rd = c.rd) (e5 : c'.worn = c.worn) (e6 : c'.bytes = c.bytes)
    (hc : ∀ i, i < 14 → upd (acell R c) o v i = acell R' c' i) (g0 : 0 ≤ c'.left) (g1 : c'.left ≤ 9223372036854775807) (g2 : -9223372036854775808 ≤ R'.md) (g3 : R'.md ≤ 9223372036854775807) (g4 : c'.left = 0 ∨ R'.md = c'.mode) :
    RefAt (w.setCell ⟨R.a, o, none⟩ v) R' c' := by
  obtain ⟨a', pp', ee', rr', ww', md'⟩ := R'
  obtain ⟨n, m, pg, er', rd, wn, by', _, _, _, _, _, _, _⟩ := c'
  dsimp only at ea ep ee er ew e0 e1 e2 e3 e4 e5 e6 g0 g1 g2 g3 g4
  subst ea ep ee er ew e0 e1 e2 e3 e4 e5 e6
  have hs : Stays (fun x => x = R.a) w (w.setCell ⟨R.a, o, none⟩ v) := Stays.inA (Stays.refl _ _) v
  exact ⟨(h.ca.set ho v).congr hc, h.cp.keep hs h.n1.symm, h.ce.keep hs h.n2.symm, h.cr.keep hs h.n3.symm, h.cw.keep hs h.n4.symm,
    fun k hf o => by rw [World.frozen?_setCell]; exact h.fz k hf o,
    h.n1, h.n2, h.n3, h.n4, h.n5, h.n6, h.n7, h.n8, h.n9, h.n10, h.nbn, h.npn, h.np0, h.nb0, g0, g1, g2, g3, h.y0, h.y1, g4⟩
end

theorem fourteen {P : Nat → Prop} (h : ∀ i : Fin 14, P i.val) : ∀ i, i < 14 → P i := fun i hi => h ⟨i, hi⟩
section
variable {w : World} {R : RLay} {c : Chp}
theorem RefAt.sSeed (h : RefAt w R c) (n : Int) : RefAt (w.setCell ⟨R.a, 7, none⟩ (.int .i64 n)) R { c with seed := n } :=
  h.setA (by decide) _ R _ rfl rfl rfl rfl rfl rfl rfl rfl rfl rfl rfl rfl (by (intro i hi; match i, hi with | 0, _ => rfl | 1, _ => rfl | 2, _ => rfl | 3, _ => rfl | 4, _ => rfl | 5, _ => rfl | 6, _ => rfl | 7, _ => rfl | 8, _ => rfl | 9, _ => rfl | 10, _ => rfl | 11, _ => rfl | 12, _ => rfl | 13, _ => rfl)) h.l0 h.l1 h.m0 h.m1 h.hm
theorem RefAt.sMost (h : RefAt w R c) (n : Int) : RefAt (w.setCell ⟨R.a, 8, none⟩ (.int .i64 n)) R { c with most := n } :=
  h.setA (by decide) _ R _ rfl rfl rfl rfl rfl rfl rfl rfl rfl rfl rfl rfl (by (intro i hi; match i, hi with | 0, _ => rfl | 1, _ => rfl | 2, _ => rfl | 3, _ => rfl | 4, _ => rfl | 5, _ => rfl | 6, _ => rfl | 7, _ => rfl | 8, _ => rfl | 9, _ => rfl | 10, _ => rfl | 11, _ => rfl | 12, _ => rfl | 13, _ => rfl)) h.l0 h.l1 h.m0 h.m1 h.hm
theorem RefAt.sPiece (h : RefAt w R c) (n : Int) : RefAt (w.setCell ⟨R.a, 9, none⟩ (.int .i64 n)) R { c with piece := n } :=
  h.setA (by decide) _ R _ rfl rfl rfl rfl rfl rfl rfl rfl rfl rfl rfl rfl (by (intro i hi; match i, hi with | 0, _ => rfl | 1, _ => rfl | 2, _ => rfl | 3, _ => rfl | 4, _ => rfl | 5, _ => rfl | 6, _ => rfl | 7, _ => rfl | 8, _ => rfl | 9, _ => rfl | 10, _ => rfl | 11, _ => rfl | 12, _ => rfl | 13, _ => rfl)) h.l0 h.l1 h.m0 h.m1 h.hm
/-- Left and Mode, stored one behind the other. -/
theorem RefAt.sCut (h : RefAt w R c) (n m : Int) (n0 : 0 ≤ n) (n1 : n ≤ 9223372036854775807) (m0 : -9223372036854775808 ≤ m) (m1 : m ≤ 9223372036854775807) :
    RefAt ((w.setCell ⟨R.a, 10, none⟩ (.int .i64 n)).setCell ⟨R.a, 11, none⟩ (.int .i64 m)) { R with md := m } { c with left := n, mode := m } := by
  have h1 : RefAt (w.setCell ⟨R.a, 10, none⟩ (.int .i64 n)) R { c with left := n, mode := R.md } :=
    h.setA (by decide) _ R _ rfl rfl rfl rfl rfl rfl rfl rfl rfl rfl rfl rfl (by (intro i hi; match i, hi with | 0, _ => rfl | 1, _ => rfl | 2, _ => rfl | 3, _ => rfl | 4, _ => rfl | 5, _ => rfl | 6, _ => rfl | 7, _ => rfl | 8, _ => rfl | 9, _ => rfl | 10, _ => rfl | 11, _ => rfl | 12, _ => rfl | 13, _ => rfl)) n0 n1 h.m0 h.m1 (.inr rfl)
  exact h1.setA (o := 11) (by decide) _ { R with md := m } _ rfl rfl rfl rfl rfl rfl rfl rfl rfl rfl rfl rfl (by (intro i hi; match i, hi with | 0, _ => rfl | 1, _ => rfl | 2, _ => rfl | 3, _ => rfl | 4, _ => rfl | 5, _ => rfl | 6, _ => rfl | 7, _ => rfl | 8, _ => rfl | 9, _ => rfl | 10, _ => rfl | 11, _ => rfl | 12, _ => rfl | 13, _ => rfl)) n0 n1 m0 m1 (.inr rfl)
theorem RefAt.sOn (h : RefAt w R c) (m : Int) : RefAt ((w.setCell ⟨R.a, 12, none⟩ (.bool false)).setCell ⟨R.a, 10, none⟩ (.int .i64 0)) R { c with off := false, left := 0, mode := m } := by
  have h1 : RefAt (w.setCell ⟨R.a, 12, none⟩ (.bool false)) R { c with off := false } :=
    h.setA (by decide) _ R _ rfl rfl rfl rfl rfl rfl rfl rfl rfl rfl rfl rfl (by (intro i hi; match i, hi with | 0, _ => rfl | 1, _ => rfl | 2, _ => rfl | 3, _ => rfl | 4, _ => rfl | 5, _ => rfl | 6, _ => rfl | 7, _ => rfl | 8, _ => rfl | 9, _ => rfl | 10, _ => rfl | 11, _ => rfl | 12, _ => rfl | 13, _ => rfl)) h.l0 h.l1 h.m0 h.m1 h.hm
  exact h1.setA (o := 10) (by decide) _ R _ rfl rfl rfl rfl rfl rfl rfl rfl rfl rfl rfl rfl (by (intro i hi; match i, hi with | 0, _ => rfl | 1, _ => rfl | 2, _ => rfl | 3, _ => rfl | 4, _ => rfl | 5, _ => rfl | 6, _ => rfl | 7, _ => rfl | 8, _ => rfl | 9, _ => rfl | 10, _ => rfl | 11, _ => rfl | 12, _ => rfl | 13, _ => rfl)) (by show (0 : Int) ≤ 0; decide) (by show (0 : Int) ≤ _; decide) h.m0 h.m1 (.inl rfl)
theorem RefAt.sLeft (h : RefAt w R c) (n : Int) (n0 : 0 ≤ n) (n1 : n ≤ 9223372036854775807) (hm : n = 0 ∨ R.md = c.mode) : RefAt (w.setCell ⟨R.a, 10, none⟩ (.int .i64 n)) R { c with left := n } :=
  h.setA (by decide) _ R _ rfl rfl rfl rfl rfl rfl rfl rfl rfl rfl rfl rfl (by (intro i hi; match i, hi with | 0, _ => rfl | 1, _ => rfl | 2, _ => rfl | 3, _ => rfl | 4, _ => rfl | 5, _ => rfl | 6, _ => rfl | 7, _ => rfl | 8, _ => rfl | 9, _ => rfl | 10, _ => rfl | 11, _ => rfl | 12, _ => rfl | 13, _ => rfl)) n0 n1 h.m0 h.m1 hm
theorem RefAt.sOff (h : RefAt w R c) (b : Bool) : RefAt (w.setCell ⟨R.a, 12, none⟩ (.bool b)) R { c with off := b } :=
  h.setA (by decide) _ R _ rfl rfl rfl rfl rfl rfl rfl rfl rfl rfl rfl rfl (by (intro i hi; match i, hi with | 0, _ => rfl | 1, _ => rfl | 2, _ => rfl | 3, _ => rfl | 4, _ => rfl | 5, _ => rfl | 6, _ => rfl | 7, _ => rfl | 8, _ => rfl | 9, _ => rfl | 10, _ => rfl | 11, _ => rfl | 12, _ => rfl | 13, _ => rfl)) h.l0 h.l1 h.m0 h.m1 h.hm
theorem RefAt.sChanges (h : RefAt w R c) (n : Int) : RefAt (w.setCell ⟨R.a, 13, none⟩ (.int .i64 n)) R { c with changes := n } :=
  h.setA (by decide) _ R _ rfl rfl rfl rfl rfl rfl rfl rfl rfl rfl rfl rfl (by (intro i hi; match i, hi with | 0, _ => rfl | 1, _ => rfl | 2, _ => rfl | 3, _ => rfl | 4, _ => rfl | 5, _ => rfl | 6, _ => rfl | 7, _ => rfl | 8, _ => rfl | 9, _ => rfl | 10, _ => rfl | 11, _ => rfl | 12, _ => rfl | 13, _ => rfl)) h.l0 h.l1 h.m0 h.m1 h.hm
/-- A store into a page. -/
theorem RefAt.setP (h : RefAt w R c) {i j f : Nat} (hi : i < c.nb) (hj : j < c.np) (hf : f < 3) (v : Value) (p : Pg) (hp : ∀ g, g < 3 → fcell p g = if g = f then v else fcell (c.pg i j) g) :
    RefAt (w.setCell ⟨R.pp, (i * c.np + j) * 3 + f, none⟩ v) R { c with pg := upd2 c.pg i j p } := by
  have hs : Stays (fun x => x = R.pp) w (w.setCell ⟨R.pp, (i * c.np + j) * 3 + f, none⟩ v) := Stays.inA (Stays.refl _ _) v
  have hfl := h.flat hi hj
  refine ⟨h.ca.keep hs h.n1, (h.cp.set (by omega) v).congr ?_, h.ce.keep hs h.n5.symm, h.cr.keep hs h.n6.symm, h.cw.keep hs h.n7.symm,
    fun k hf o => by rw [World.frozen?_setCell]; exact h.fz k hf o,
    h.n1, h.n2, h.n3, h.n4, h.n5, h.n6, h.n7, h.n8, h.n9, h.n10, h.nbn, h.npn, h.np0, h.nb0, h.l0, h.l1, h.m0, h.m1, h.y0, h.y1, h.hm⟩
  intro k hk
  have hk3 : k / 3 / c.np < c.nb := by
    rw [Nat.div_lt_iff_lt_mul h.np0, Nat.div_lt_iff_lt_mul (by omega)]; exact hk
  have hm3 : k / 3 % c.np < c.np := Nat.mod_lt _ h.np0
  obtain ⟨i', j', f', hi', hj', hf', rfl⟩ : ∃ i' j' f', i' < c.nb ∧ j' < c.np ∧ f' < 3 ∧ k = (i' * c.np + j') * 3 + f' := by
    refine ⟨k / 3 / c.np, k / 3 % c.np, k % 3, hk3, hm3, by omega, ?_⟩
    have h1 := Nat.div_add_mod (k / 3) c.np
    rw [Nat.mul_comm] at h1; rw [h1]; omega
  rw [pcell_at { c with pg := upd2 c.pg i j p } hj' hf']
  by_cases e : i' = i ∧ j' = j
  · obtain ⟨rfl, rfl⟩ := e
    show _ = fcell (upd2 c.pg i' j' p i' j') f'
    rw [upd2_val, hp f' hf']
    by_cases e2 : f' = f
    · subst e2; rw [upd_same, if_pos rfl]
    · rw [upd_other _ _ (by omega), if_neg e2, pcell_at c hj' hf']
  · have hx : upd2 c.pg i j p i' j' = c.pg i' j' := by unfold upd2; rw [if_neg e]
    show _ = fcell (upd2 c.pg i j p i' j') f'
    rw [hx, upd_other, pcell_at c hj' hf']
    intro e3
    apply e
    have h1 : i' * c.np + j' = i * c.np + j := by omega
    have h2 : (i' * c.np + j') / c.np = (i * c.np + j) / c.np := by rw [h1]
    rw [Nat.mul_comm, Nat.mul_add_div h.np0, Nat.mul_comm i, Nat.mul_add_div h.np0, Nat.div_eq_of_lt hj, Nat.div_eq_of_lt hj'] at h2
    have h3 : i' = i := by omega
    subst h3
    exact ⟨rfl, by omega⟩
theorem RefAt.sSt (h : RefAt w R c) {i j : Nat} (hi : i < c.nb) (hj : j < c.np) (n : Int) : RefAt (w.setCell ⟨R.pp, (i * c.np + j) * 3, none⟩ (.int .i64 n)) R { c with pg := upd2 c.pg i j { c.pg i j with st := n } } :=
  h.setP (f := 0) hi hj (by omega) _ _ (fun g hg => by match g, hg with | 0, _ => rfl | 1, _ => rfl | 2, _ => rfl)
theorem RefAt.sDt (h : RefAt w R c) {i j : Nat} (hi : i < c.nb) (hj : j < c.np) (n : ByteArray) : RefAt (w.setCell ⟨R.pp, (i * c.np + j) * 3 + 1, none⟩ (.string n)) R { c with pg := upd2 c.pg i j { c.pg i j with data := n } } :=
  h.setP (f := 1) hi hj (by omega) _ _ (fun g hg => by match g, hg with | 0, _ => rfl | 1, _ => rfl | 2, _ => rfl)
theorem RefAt.sTc (h : RefAt w R c) {i j : Nat} (hi : i < c.nb) (hj : j < c.np) (n : Bool) : RefAt (w.setCell ⟨R.pp, (i * c.np + j) * 3 + 2, none⟩ (.bool n)) R { c with pg := upd2 c.pg i j { c.pg i j with touched := n } } :=
  h.setP (f := 2) hi hj (by omega) _ _ (fun g hg => by match g, hg with | 0, _ => rfl | 1, _ => rfl | 2, _ => rfl)
/-- A whole page is stored. -/
theorem RefAt.sPg (h : RefAt w R c) {i j : Nat} (hi : i < c.nb) (hj : j < c.np) (p : Pg) :
    RefAt (((w.setCell ⟨R.pp, (i * c.np + j) * 3, none⟩ (.int .i64 p.st)).setCell ⟨R.pp, (i * c.np + j) * 3 + 1, none⟩ (.string p.data)).setCell ⟨R.pp, (i * c.np + j) * 3 + 2, none⟩ (.bool p.touched)) R { c with pg := upd2 c.pg i j p } := by
  have h3 := ((h.sSt hi hj p.st).sDt hi hj p.data).sTc hi hj p.touched
  simp only [upd2_val, upd2_twice] at h3
  exact h3
theorem RefAt.sEr (h : RefAt w R c) {i : Nat} (hi : i < c.nb) (n : Int) : RefAt (w.setCell ⟨R.ee, i, none⟩ (.int .i64 n)) R { c with er := upd c.er i n } := by
  have hs : Stays (fun x => x = R.ee) w (w.setCell ⟨R.ee, i, none⟩ (.int .i64 n)) := Stays.inA (Stays.refl _ _) _
  exact ⟨h.ca.keep hs h.n2, h.cp.keep hs h.n5, (h.ce.set hi _).congr (fun k _ => (upd_map (fun x => Value.int .i64 x) c.er i n k).symm), h.cr.keep hs h.n8.symm, h.cw.keep hs h.n9.symm,
    fun k hf o => by rw [World.frozen?_setCell]; exact h.fz k hf o,
    h.n1, h.n2, h.n3, h.n4, h.n5, h.n6, h.n7, h.n8, h.n9, h.n10, h.nbn, h.npn, h.np0, h.nb0, h.l0, h.l1, h.m0, h.m1, h.y0, h.y1, h.hm⟩
theorem RefAt.sRd (h : RefAt w R c) {i : Nat} (hi : i < c.nb) (n : Int) : RefAt (w.setCell ⟨R.rr, i, none⟩ (.int .i64 n)) R { c with rd := upd c.rd i n } := by
  have hs : Stays (fun x => x = R.rr) w (w.setCell ⟨R.rr, i, none⟩ (.int .i64 n)) := Stays.inA (Stays.refl _ _) _
  exact ⟨h.ca.keep hs h.n3, h.cp.keep hs h.n6, h.ce.keep hs h.n8, (h.cr.set hi _).congr (fun k _ => (upd_map (fun x => Value.int .i64 x) c.rd i n k).symm), h.cw.keep hs h.n10.symm,
    fun k hf o => by rw [World.frozen?_setCell]; exact h.fz k hf o,
    h.n1, h.n2, h.n3, h.n4, h.n5, h.n6, h.n7, h.n8, h.n9, h.n10, h.nbn, h.npn, h.np0, h.nb0, h.l0, h.l1, h.m0, h.m1, h.y0, h.y1, h.hm⟩
theorem RefAt.sWn (h : RefAt w R c) {i : Nat} (hi : i < c.nb) (n : Bool) : RefAt (w.setCell ⟨R.ww, i, none⟩ (.bool n)) R { c with worn := upd c.worn i n } := by
  have hs : Stays (fun x => x = R.ww) w (w.setCell ⟨R.ww, i, none⟩ (.bool n)) := Stays.inA (Stays.refl _ _) _
  exact ⟨h.ca.keep hs h.n4, h.cp.keep hs h.n7, h.ce.keep hs h.n9, h.cr.keep hs h.n10, (h.cw.set hi _).congr (fun k _ => (upd_map (fun x => Value.bool x) c.worn i n k).symm),
    fun k hf o => by rw [World.frozen?_setCell]; exact h.fz k hf o,
    h.n1, h.n2, h.n3, h.n4, h.n5, h.n6, h.n7, h.n8, h.n9, h.n10, h.nbn, h.npn, h.np0, h.nb0, h.l0, h.l1, h.m0, h.m1, h.y0, h.y1, h.hm⟩
end

end Go.Proofs.Ythoadcibknaelaa
