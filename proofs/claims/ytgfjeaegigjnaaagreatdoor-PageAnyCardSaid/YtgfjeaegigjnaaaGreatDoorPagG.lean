/- The block of a call's named result beside a pager. -/
import Derived.Test.YtgfjeaegigjnaaaGreatDoorPagB
namespace Go.Proofs.YtgfjeaegigjnaaaGreatDoor
open Go.RowKit
set_option linter.unusedVariables false
set_option linter.unusedSimpArgs false
section
variable {w W W' : World} {L : Lay} {c : Chp} {a q B0 R r : Nat} {g : Geo} {l l' : List UInt8}
/-- A store into a block that bears a text in its second cell and lies above the chip keeps the pager. -/
theorem PagAt.res (h : PagAt w W L c a q g) {s : ByteArray} (hs : W.cell? ⟨r, 1, none⟩ = some (.string s)) (hf : ∀ k, Foot L c.nb k → k < r) (hr : w.heap.size ≤ r) (k : Stays (· = r) W W') : PagAt w W' L c a q g := by
  have na : a ≠ r := fun e => by
    have := h.cells.p1
    rw [e, hs] at this; cases this
  have nq : q ≠ r := fun e => by
    have := h.code.h1
    rw [e, hs] at this; cases this
  have nt : ∀ be bl, FieldReady W q 5 be bl → be ≠ r ∧ bl ≠ r := by
    intro be bl t
    constructor
    · intro e
      have := t.tab.exps 1 (by decide)
      rw [e, hs] at this; cases this
    · intro e
      have := t.tab.logs 1 (by decide) (by decide)
      rw [e, hs] at this; cases this
  refine ⟨⟨h.holds.at_.stays k (fun x hx e => by have := hf x hx; omega), h.holds.good, Below.stays h.holds.below k (fun x e => e ▸ hr) h.holds.below.size, h.holds.new⟩, ?_, h.cells.stays k na, h.an, h.qn, h.ok⟩
  rcases h.code with hc | ⟨gl, be, bl, hc⟩
  · exact .inl (hc.stays k nq nt)
  · refine .inr ⟨gl, be, bl, hc.stays k nq ?_ (nt _ _ hc.field).1 (nt _ _ hc.field).2⟩
    intro e
    have hp : 2 ≤ parN g.T.toNat := by have := h.ok; unfold Geo.ok at this; unfold parN; omega
    have := Row.cell hc.low 1 (by omega)
    rw [e, hs] at this; cases this
theorem PagAt.res3 (h : PagAt w W L c a q g) {s : ByteArray} (hs : W.cell? ⟨r, 1, none⟩ = some (.string s)) (hf : ∀ k, Foot L c.nb k → k < r) (hr : w.heap.size ≤ r) (x y z : Value) :
    PagAt w (((W.setCell ⟨r, 0, none⟩ x).setCell ⟨r, 1, none⟩ y).setCell ⟨r, 2, none⟩ z) L c a q g :=
  h.res hs hf hr ((((Stays.refl (· = r) W).setCell (p := ⟨r, 0, none⟩) rfl x).setCell (p := ⟨r, 1, none⟩) rfl y).setCell (p := ⟨r, 2, none⟩) rfl z)
theorem PagAt.read2 (h : PagAt w W L c a q g) (b p : Int) : Calls Tryz.prog 16 #[.pointer (some ⟨L.a, 0, none⟩), .int .i64 b, .int .i64 p] W fun e W' =>
    e = .returned (.tuple #[.string (readC c b p).1, .int .i64 (readC c b p).2.1]) ∧ PagAt w W' L (readC c b p).2.2 a q g ∧ Stays (Foot L c.nb) W W' :=
  (read_any h.holds.at_ b p h.holds.good).mono fun _ _ ⟨he, hc, hs⟩ => ⟨he, h.chip hc (good_readC h.holds.good b p) (like_readC c b p) hs, hs⟩
theorem PagAt.foot_lt (h : PagAt w W L c a q g) : ∀ k, Foot L c.nb k → k < W.heap.size := fun k hk => by
  rcases hk with rfl | rfl | ⟨i, hi, rfl⟩
  · exact World.block_lt_of_cell? _ _ h.holds.at_.c0
  · exact World.block_lt_of_cell? _ _ (h.holds.at_.b0 0 h.holds.at_.nb0)
  · exact World.block_lt_of_cell? _ _ (h.holds.at_.p0 i hi 0 h.holds.at_.np0)
/-- A builder made where the code is ready. -/
theorem WStR.new (h : PagAt w W L c a q g) (hr : ∃ gl be bl, CodeReady W q g.T.toNat g.K.toNat gl be bl) : WStR w L c a q g W.heap.size W.heap.size (W.alloc (.cells #[.pointer none, .slice none 0 0] 92)) [] := by
  obtain ⟨gl, be, bl, hr⟩ := hr
  have hB : Below W.heap.size W (W.alloc (.cells #[.pointer none, .slice none 0 0] 92)) := (Below.refl _ _).alloc (Nat.le_refl _) _
  exact ⟨h.below hB, ⟨gl, be, bl, hr.below hB, hr.lts⟩, Nat.le_refl _, hB.size, SB.fresh W _, h.code.lc, World.block_lt_of_cell? _ _ h.cells.p0, h.foot_lt⟩
/-- A call's named result, as it is made. -/
structure ResAt (W : World) (r : Nat) : Prop where
  x0 : W.cell? ⟨r, 0, none⟩ = some (.int .i64 0)
  x1 : W.cell? ⟨r, 1, none⟩ = some (.string ⟨#[]⟩)
  x2 : W.cell? ⟨r, 2, none⟩ = some (.int .i64 0)
  y : ∀ o, W.frozen? ⟨r, o, none⟩ = false
theorem ResAt.stays {S : Nat → Prop} (h : ResAt W r) (k : Stays S W W') (hS : ¬ S r) : ResAt W' r :=
  ⟨k.cell h.x0 hS, k.cell h.x1 hS, k.cell h.x2 hS, fun o => (k.frozen (p := ⟨r, o, none⟩) hS (World.block_lt_of_cell? W ⟨r, 0, none⟩ h.x0)).trans (h.y o)⟩
theorem ResAt.below (h : ResAt W r) (k : Below W.heap.size W W') : ResAt W' r := h.stays (S := fun _ => False) (Stays.of_below k) id
theorem PagAt.qr (h : PagAt w W L c a q g) (hr : ResAt W r) : r ≠ q := fun e => by
  have h1 := h.code.h1
  rw [← e, hr.x1] at h1; cases h1
theorem ResAt.coded {t k : Nat} (h : ResAt W r) (n : r ≠ q) (hk : Coded q t k W W') : ResAt W' r := by
  obtain ⟨_, _, _, _, ho, _⟩ := hk
  exact h.stays ho.st n
/-- The blocks that a read may touch: the chip's, the code's, new ones. -/
def Touch (L : Lay) (nb q r : Nat) (k : Nat) : Prop := Foot L nb k ∨ k = q ∨ r ≤ k
theorem Coded.touch {t k nb : Nat} {W0 : World} (h : Stays (Touch L nb q r) W0 W) (hk : Coded q t k W W') : Stays (Touch L nb q r) W0 W' := by
  obtain ⟨_, _, _, _, ho, _⟩ := hk
  exact h.trans (ho.st.mono fun _ e => .inr (.inl e))
theorem touch_res {nb : Nat} {W0 : World} (h : Stays (Touch L nb q r) W0 W) (x y z : Value) : Stays (Touch L nb q r) W0 (((W.setCell ⟨r, 0, none⟩ x).setCell ⟨r, 1, none⟩ y).setCell ⟨r, 2, none⟩ z) :=
  ((h.setCell (p := ⟨r, 0, none⟩) (.inr (.inr (Nat.le_refl _))) x).setCell (p := ⟨r, 1, none⟩) (.inr (.inr (Nat.le_refl _))) y).setCell (p := ⟨r, 2, none⟩) (.inr (.inr (Nat.le_refl _))) z
/-- A builder beside a pager and a call's named result. -/
structure RdSt (w : World) (L : Lay) (c : Chp) (a q : Nat) (g : Geo) (r : Nat) (W0 : World) (B0 R : Nat) (W : World) (l : List UInt8) : Prop where
  wst : WStR w L c a q g B0 R W l
  res : ResAt W r
  rb : r < B0
  tch : Stays (Touch L c.nb q r) W0 W
section
variable {W0 : World}
theorem RdSt.coded (h : RdSt w L c a q g r W0 B0 R W l) (hk : Coded q g.T.toNat g.K.toNat W W') : RdSt w L c a q g r W0 B0 R W' l :=
  ⟨h.wst.coded hk, h.res.coded (h.wst.pag.qr h.res) hk, h.rb, Coded.touch h.tch hk⟩
theorem RdSt.write (h : RdSt w L c a q g r W0 B0 R W l) (k : Stays (fun x => x = B0 ∨ R ≤ x) W W') (hs : SB B0 R (Lib.byteCells l') W') : RdSt w L c a q g r W0 B0 R W' l' :=
  ⟨h.wst.write k hs, h.res.stays k (by have := h.rb; have := h.wst.b0r; rintro (e | e) <;> omega), h.rb, h.tch.trans (k.mono fun x e => .inr (.inr (by have := h.rb; have := h.wst.b0r; rcases e with e | e <;> omega)))⟩
theorem RdSt.string (h : RdSt w L c a q g r W0 B0 R W l) (k : Stays (fun x => x = B0 ∨ R ≤ x) W W') : Stays (Touch L c.nb q r) W0 W' :=
  h.tch.trans (k.mono fun x e => .inr (.inr (by have := h.rb; have := h.wst.b0r; rcases e with e | e <;> omega)))
theorem RdSt.drew (h : RdSt w L c a q g r W0 B0 R W l) : RdSt w L c a q g r W0 B0 R W.drew l := h.write ((Stays.refl _ _).drew) h.wst.sb
theorem RdSt.new (h : PagAt w W L c a q g) (hr : ∃ gl be bl, CodeReady W q g.T.toNat g.K.toNat gl be bl) (hs : ResAt W r) (ht : Stays (Touch L c.nb q r) W0 W) : RdSt w L c a q g r W0 W.heap.size W.heap.size (W.alloc (.cells #[.pointer none, .slice none 0 0] 92)) [] :=
  ⟨WStR.new h hr, hs.below ((Below.refl _ _).alloc (Nat.le_refl _) _), World.block_lt_of_cell? _ _ hs.x0, ht.alloc _⟩
end
end
end Go.Proofs.YtgfjeaegigjnaaaGreatDoor
