/- The pager as it lies in memory, and what the chip's and the code's calls leave of it. -/
import Derived.Test.YtgfjeaegigjnaaaGreatDoorPagA
import Derived.Test.YtgfjeaegigjnaaaGreatDoorStrC
namespace Go.Proofs.YtgfjeaegigjnaaaGreatDoor
open Go.RowKit
set_option linter.unusedVariables false
set_option linter.unusedSimpArgs false

/-- A block whose first two cells are a chip's block's. -/
theorem foot_apart {w : World} {L : Lay} {c : Chp} (h : ChipAt w L c) {k : Nat} {x y : Value} (hx : w.cell? ⟨k, 0, none⟩ = some x) (hy : w.cell? ⟨k, 1, none⟩ = some y) (h1 : ∀ a n m, x ≠ .slice a n m) (h2 : ∀ s, y ≠ .string s) : ¬ Foot L c.nb k := by
  rintro (rfl | rfl | ⟨i, hi, rfl⟩)
  · rw [h.c0] at hx
    exact h1 _ _ _ (Option.some.inj hx).symm
  · have h0 := h.b0 0 h.nb0
    rw [Nat.zero_mul] at h0
    rw [h0] at hx
    exact h1 _ _ _ (Option.some.inj hx).symm
  · have h0 := h.p1 i hi 0 h.np0
    rw [Nat.zero_mul] at h0
    rw [h0] at hy
    exact h2 _ (Option.some.inj hy).symm
theorem tab_apart {w : World} {L : Lay} {c : Chp} (h : ChipAt w L c) {b off be bl : Nat} (t : Tab w b off be bl) : ¬ Foot L c.nb be ∧ ¬ Foot L c.nb bl :=
  ⟨foot_apart h (t.exps 0 (by decide)) (t.exps 1 (by decide)) (by simp) (by simp), fun hf => by
    rcases hf with rfl | rfl | ⟨i, hi, rfl⟩
    · have := t.logs 1 (by decide) (by decide)
      rw [h.c1] at this
      have h7 := t.logs 7 (by decide) (by decide)
      rw [h.c7] at h7
      cases h7
    · have h0 := h.b3 0 h.nb0
      have h3 := t.logs 3 (by decide) (by decide)
      rw [Nat.zero_mul] at h0
      rw [h0] at h3
      cases h3
    · have h0 := h.p1 i hi 0 h.np0
      have h3 := t.logs 1 (by decide) (by decide)
      rw [Nat.zero_mul] at h0
      rw [h0] at h3
      cases h3⟩
theorem CodeAt.chip {w w' : World} {L : Lay} {c : Chp} {q t chunk : Nat} (h : CodeAt w q t chunk) (ht : 1 ≤ t) (hc : ChipAt w L c) (k : Stays (Foot L c.nb) w w') : CodeAt w' q t chunk := by
  rcases h with h | ⟨gl, be, bl, h⟩
  · exact .inl (h.stays k (foot_apart hc h.h0 h.h1 (by simp) (by simp)) (fun be bl hf => tab_apart hc hf.tab))
  · refine .inr ⟨gl, be, bl, h.stays k (foot_apart hc h.h0 h.h1 (by simp) (by simp)) ?_ (tab_apart hc h.field.tab).1 (tab_apart hc h.field.tab).2⟩
    have hp : 2 ≤ parN t := by unfold parN; omega
    exact foot_apart hc (Row.cell h.low 0 (by omega)) (Row.cell h.low 1 (by omega)) (by simp) (by simp)
structure PagAt (w W : World) (L : Lay) (c : Chp) (a q : Nat) (g : Geo) : Prop where
  holds : Holds w W L c
  code : CodeAt W q g.T.toNat g.K.toNat
  cells : PgCells W a ⟨L.a, 0, none⟩ q g
  an : w.heap.size ≤ a
  qn : w.heap.size ≤ q
  ok : g.ok
section
variable {w W W' : World} {L : Lay} {c d : Chp} {a q : Nat} {g : Geo}
theorem CodeAt.h0 {t k : Nat} (h : CodeAt W q t k) : W.cell? ⟨q, 0, none⟩ = some (.int .i64 (t : Int)) := by
  rcases h with h | ⟨_, _, _, h⟩ <;> exact h.h0
theorem CodeAt.h1 {t k : Nat} (h : CodeAt W q t k) : W.cell? ⟨q, 1, none⟩ = some (.int .i64 (k : Int)) := by
  rcases h with h | ⟨_, _, _, h⟩ <;> exact h.h1
theorem PagAt.aq (h : PagAt w W L c a q g) : a ≠ q := fun e => by
  have h1 := h.cells.p0
  rw [e, h.code.h0] at h1
  cases h1
theorem PagAt.qf (h : PagAt w W L c a q g) : ¬ Foot L c.nb q := foot_apart h.holds.at_ h.code.h0 h.code.h1 (by simp) (by simp)
theorem PagAt.af (h : PagAt w W L c a q g) : ¬ Foot L c.nb a := foot_apart h.holds.at_ h.cells.p0 h.cells.p1 (by simp) (by simp)
theorem PgCells.stays {cp : Addr} {S : Nat → Prop} (h : PgCells W a cp q g) (k : Stays S W W') (hS : ¬ S a) : PgCells W' a cp q g :=
  ⟨k.cell h.p0 hS, k.cell h.p1 hS, k.cell h.p2 hS, k.cell h.p3 hS, k.cell h.p4 hS, k.cell h.p5 hS, k.cell h.p6 hS⟩
theorem PagAt.below (h : PagAt w W L c a q g) (k : Below W.heap.size W W') : PagAt w W' L c a q g :=
  ⟨h.holds.step (h.holds.at_.stays (S := fun _ => False) (Stays.of_below k) (fun _ _ => id)) h.holds.good (Like.refl c) (Stays.of_below k), h.code.below k, h.cells.stays (S := fun _ => False) (Stays.of_below k) id, h.an, h.qn, h.ok⟩
theorem PagAt.coded (h : PagAt w W L c a q g) (k : Coded q g.T.toNat g.K.toNat W W') : PagAt w W' L c a q g := by
  have hk := k
  obtain ⟨gl, be, bl, hr, ho, _⟩ := hk
  have hf := h.qf
  refine ⟨⟨h.holds.at_.stays (S := (· = q)) ho.st (fun x hx e => hf (e ▸ hx)), h.holds.good, Below.stays h.holds.below ho.st (fun x e => e ▸ h.qn) h.holds.below.size, h.holds.new⟩, .inr ⟨gl, be, bl, hr⟩, h.cells.stays ho.st (fun e => h.aq e), h.an, h.qn, h.ok⟩
theorem PagAt.chip (h : PagAt w W L c a q g) (hc : ChipAt W' L d) (hg : Good d) (hl : Like c d) (k : Stays (Foot L c.nb) W W') : PagAt w W' L d a q g :=
  ⟨h.holds.step hc hg hl k, h.code.chip (by have := h.ok; unfold Geo.ok at this; omega) h.holds.at_ k, h.cells.stays k h.af, h.an, h.qn, h.ok⟩
theorem builder_kept {T e : TypeId} {B b : Nat} {bs : List Value} (h : Lib.IsBuilder T e B b bs W) (hk : ∀ k, B ≤ k → k < W.heap.size → W'.heap[k]? = W.heap[k]?) : Lib.IsBuilder T e B b bs W' := by
  have hA : ∀ p, Lib.BuilderAt T e B b p bs W → Lib.BuilderAt T e B b p bs W' := by
    rintro p ⟨h1, v, h2, h3, h4⟩
    refine ⟨h1, v, (hk b h1 (Array.getElem?_eq_some_iff.1 h2).1).trans h2, ?_, h4⟩
    refine ⟨h3.1, h3.2.imp id ?_⟩
    rintro ⟨g, cap, cur, g1, g2, g3, g4⟩
    exact ⟨g, cap, cur, g1, g2, (hk g g2 (Array.getElem?_eq_some_iff.1 g3).1).trans g3, g4⟩
  exact h.imp (hA _) (hA _)
theorem PagAt.program (h : PagAt w W L c a q g) (b p : Int) (data : ByteArray) : Calls Tryz.prog 20 #[.pointer (some ⟨L.a, 0, none⟩), .int .i64 b, .int .i64 p, .string data] W fun e W' =>
    e = .returned (.int .i64 (programC c b p data).1) ∧ PagAt w W' L (programC c b p data).2 a q g :=
  (program_any h.holds.at_ b p data).mono fun _ _ ⟨he, hc, hs⟩ => ⟨he, h.chip hc (good_programC h.holds.good b p data) (like_programC c b p data) hs⟩
theorem PagAt.read (h : PagAt w W L c a q g) (b p : Int) : Calls Tryz.prog 16 #[.pointer (some ⟨L.a, 0, none⟩), .int .i64 b, .int .i64 p] W fun e W' =>
    e = .returned (.tuple #[.string (readC c b p).1, .int .i64 (readC c b p).2.1]) ∧ PagAt w W' L (readC c b p).2.2 a q g :=
  (read_any h.holds.at_ b p h.holds.good).mono fun _ _ ⟨he, hc, hs⟩ => ⟨he, h.chip hc (good_readC h.holds.good b p) (like_readC c b p) hs⟩
end
/-- A chip, and a pager over it. -/
theorem PagAt.new {w W : World} {L : Lay} {c : Chp} (h : Holds w W L c) (g : Geo) (hg : g.ok) : Calls Tryz.prog 14 #[.pointer (some ⟨L.a, 0, none⟩), g.v] W fun e W' => ∃ a q, e = .returned (.tuple #[.pointer (some ⟨a, 0, none⟩), .int .i64 0]) ∧ PagAt w W' L c a q g :=
  (PNew_yes ⟨L.a, 0, none⟩ g hg W).mono fun _ _ ⟨a, q, he, h1, h2, h3, h4, h5⟩ => ⟨a, q, he, h.step (h.at_.stays (S := fun _ => False) (Stays.of_below h5) (fun _ _ => id)) h.good (Like.refl c) (Stays.of_below h5), h2, h1, Nat.le_trans h.below.size h4, Nat.le_trans h.below.size h3, hg⟩
/-- A pager, its code ready below R, and a builder in block B0 whose row lies from R on. -/
structure WStR (w : World) (L : Lay) (c : Chp) (a q : Nat) (g : Geo) (B0 R : Nat) (W : World) (l : List UInt8) : Prop where
  pag : PagAt w W L c a q g
  ready : ∃ gl be bl, CodeReady W q g.T.toNat g.K.toNat gl be bl ∧ gl < R ∧ be < R ∧ bl < R
  b0r : B0 ≤ R
  rw : R ≤ W.heap.size
  sb : SB B0 R (Lib.byteCells l) W
  qb : q < B0
  ab : a < B0
  fb : ∀ k, Foot L c.nb k → k < B0
/-- .. before the code has been used. -/
structure WSt0 (w : World) (L : Lay) (c : Chp) (a q : Nat) (g : Geo) (B0 : Nat) (W : World) : Prop where
  pag : PagAt w W L c a q g
  rw : B0 ≤ W.heap.size
  sb : ∀ R, SB B0 R [] W
  qb : q < B0
  ab : a < B0
  fb : ∀ k, Foot L c.nb k → k < B0
section
variable {w W W' : World} {L : Lay} {c : Chp} {a q B0 R : Nat} {g : Geo} {l l' : List UInt8}
theorem CodeReady.lts {t k gl be bl : Nat} (h : CodeReady W q t k gl be bl) : gl < W.heap.size ∧ be < W.heap.size ∧ bl < W.heap.size :=
  ⟨h.lt, World.block_lt_of_cell? _ _ (h.field.tab.exps 0 (by decide)), World.block_lt_of_cell? _ _ (h.field.tab.logs 1 (by decide) (by decide))⟩
theorem WSt0.coded (h : WSt0 w L c a q g B0 W) (k : Coded q g.T.toNat g.K.toNat W W') : WStR w L c a q g B0 W'.heap.size W' [] := by
  have hk := k
  obtain ⟨gl, be, bl, hr, ho, _⟩ := hk
  refine ⟨h.pag.coded k, ⟨gl, be, bl, hr, hr.lts⟩, Nat.le_trans h.rw ho.st.size, Nat.le_refl _, ?_, h.qb, h.ab, h.fb⟩
  have h0 := h.sb W'.heap.size
  refine h0.kept (fun k hk hlt => ho.st.block k hlt ?_)
  have := h.qb; have := h.rw; have := ho.st.size
  rcases hk with rfl | hk
  · omega
  · omega
theorem WStR.coded (h : WStR w L c a q g B0 R W l) (k : Coded q g.T.toNat g.K.toNat W W') : WStR w L c a q g B0 R W' l := by
  have hk := k
  obtain ⟨gl, be, bl, hr, ho, hu⟩ := hk
  obtain ⟨gl', be', bl', hr', h1, h2, h3⟩ := h.ready
  obtain ⟨rfl, rfl, rfl⟩ := hu _ _ _ hr'
  refine ⟨h.pag.coded k, ⟨_, _, _, hr, h1, h2, h3⟩, h.b0r, Nat.le_trans h.rw ho.st.size, h.sb.kept (fun k hk hlt => ho.st.block k hlt ?_), h.qb, h.ab, h.fb⟩
  have := h.qb; have := h.b0r
  rcases hk with rfl | hk
  · omega
  · omega
theorem SB.apart {bs : List Value} (h : SB B0 R bs W) {x : Nat} {k : IntKind} {n : Int} (hx : W.cell? ⟨x, 0, none⟩ = some (.int k n)) : x ≠ B0 := by
  rintro rfl
  obtain ⟨p, v, hp, hb, _⟩ := h
  rw [Lib.cell_of_heap hb] at hx
  rcases hp with rfl | rfl <;> simp at hx
theorem SB.apart2 {bs : List Value} (h : SB B0 R bs W) {x : Nat} {v : Value} (hx : W.cell? ⟨x, 2, none⟩ = some v) : x ≠ B0 := by
  rintro rfl
  obtain ⟨p, v, hp, hb, _⟩ := h
  rw [Lib.cell_of_heap hb] at hx
  simp at hx
theorem WStR.stays (h : WStR w L c a q g B0 R W l) (k : Stays (fun x => x = B0 ∨ R ≤ x) W W') : PagAt w W' L c a q g ∧ ∃ gl be bl, CodeReady W' q g.T.toNat g.K.toNat gl be bl ∧ gl < R ∧ be < R ∧ bl < R := by
  obtain ⟨gl, be, bl, hr, h1, h2, h3⟩ := h.ready
  have hb := h.b0r
  have hq := h.qb
  have ha := h.ab
  have hp : 1 ≤ parN g.T.toNat := by have := h.pag.ok; unfold Geo.ok at this; unfold parN; omega
  have n1 : gl ≠ B0 := h.sb.apart (Row.cell hr.low 0 (by omega))
  have n2 : be ≠ B0 := h.sb.apart (hr.field.tab.exps 0 (by decide))
  have n3 : bl ≠ B0 := h.sb.apart2 (hr.field.tab.logs 2 (by decide) (by decide))
  have hr' := hr.stays k (by rintro (e | e) <;> omega) (by rintro (e | e) <;> omega) (by rintro (e | e) <;> omega) (by rintro (e | e) <;> omega)
  have hN : ∀ x, (x = B0 ∨ R ≤ x) → w.heap.size ≤ x := by
    have hz : w.heap.size ≤ B0 := by have := h.pag.qn; omega
    rintro x (rfl | e) <;> omega
  exact ⟨⟨⟨h.pag.holds.at_.stays k (fun x hx => by have := h.fb x hx; rintro (e | e) <;> omega), h.pag.holds.good, Below.stays h.pag.holds.below k hN h.pag.holds.below.size, h.pag.holds.new⟩, .inr ⟨gl, be, bl, hr'⟩, h.pag.cells.stays k (by rintro (e | e) <;> omega), h.pag.an, h.pag.qn, h.pag.ok⟩, gl, be, bl, hr', h1, h2, h3⟩
theorem WStR.write (h : WStR w L c a q g B0 R W l) (k : Stays (fun x => x = B0 ∨ R ≤ x) W W') (hs : SB B0 R (Lib.byteCells l') W') : WStR w L c a q g B0 R W' l' :=
  ⟨(h.stays k).1, (h.stays k).2, h.b0r, Nat.le_trans h.rw k.size, hs, h.qb, h.ab, h.fb⟩
theorem WSt0.drew (h : WSt0 w L c a q g B0 W) : WSt0 w L c a q g B0 W.drew := ⟨h.pag.below ((Below.refl _ _).drew), h.rw, h.sb, h.qb, h.ab, h.fb⟩
theorem WStR.drew (h : WStR w L c a q g B0 R W l) : WStR w L c a q g B0 R W.drew l :=
  h.write ((Stays.refl _ _).drew) h.sb
theorem WSt0.new (h : PagAt w W L c a q g) : WSt0 w L c a q g W.heap.size (W.alloc (.cells #[.pointer none, .slice none 0 0] 92)) :=
  ⟨h.below ((Below.refl _ _).alloc (Nat.le_refl _) _), by simp, fun R => SB.fresh W R, h.code.lc, World.block_lt_of_cell? _ _ h.cells.p0, fun k hk => by
    rcases hk with rfl | rfl | ⟨i, hi, rfl⟩
    · exact World.block_lt_of_cell? _ _ h.holds.at_.c0
    · exact World.block_lt_of_cell? _ _ (h.holds.at_.b0 0 h.holds.at_.nb0)
    · exact World.block_lt_of_cell? _ _ (h.holds.at_.p0 i hi 0 h.holds.at_.np0)⟩
end
end Go.Proofs.YtgfjeaegigjnaaaGreatDoor
