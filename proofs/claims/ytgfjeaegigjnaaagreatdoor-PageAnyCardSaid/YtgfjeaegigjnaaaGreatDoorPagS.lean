/- A pager over a new chip; what the laws ask first. -/
import Derived.Test.YtgfjeaegigjnaaaGreatDoorPagF
import Derived.Test.YtgfjeaegigjnaaaGreatDoorPagH
import Derived.Test.YtgfjeaegigjnaaaGreatDoorPagQ
namespace Go.Proofs.YtgfjeaegigjnaaaGreatDoor
open Go.RowKit
set_option linter.unusedVariables false
set_option linter.unusedSimpArgs false

theorem hasPB_yes {c : Chp} {b n : Nat} (hb : b < c.nb) (hn : n < c.np) : hasPB c b n = true := by
  unfold hasPB hasB
  simp; omega
theorem hasPB_no {c : Chp} {b n : Int} (h : b < 0 ∨ (c.nb : Int) ≤ b ∨ n < 0 ∨ (c.np : Int) ≤ n) : hasPB c b n = false := by
  unfold hasPB hasB
  rw [Bool.eq_false_iff]
  intro h2
  simp at h2
  omega
theorem prog_fine {c : Chp} {b n : Nat} (hb : b < c.nb) (hn : n < c.np) (data : ByteArray) (hd : (data.size : Int) = c.bytes) (ho : c.off = false) (hw : c.worn b = false) (hl : c.left = 0) (hcl : cleanB c b n = true) :
    programC c b n data = (0, progFine { c with changes := wrap64 (c.changes + 1) } b n data) := by
  have ht : tornC c = ((0, false), { c with changes := wrap64 (c.changes + 1) }) := by unfold tornC; rw [if_pos hl]
  unfold programC
  rw [if_pos ⟨hasPB_yes hb hn, hd⟩]
  have hm : mayC c (b : Int).toNat = 0 := by unfold mayC; rw [Int.toNat_natCast, ho, hw]; rfl
  rw [if_pos hm, Int.toNat_natCast, Int.toNat_natCast, if_pos hcl, ht, if_neg Bool.false_ne_true]
theorem prog_order {c : Chp} {b n : Nat} (hb : b < c.nb) (hn : n < c.np) (data : ByteArray) (hd : (data.size : Int) = c.bytes) (ho : c.off = false) (hw : c.worn b = false) (hcl : cleanB c b n = false) :
    programC c b n data = (21, c) := by
  unfold programC
  rw [if_pos ⟨hasPB_yes hb hn, hd⟩]
  have hm : mayC c (b : Int).toNat = 0 := by unfold mayC; rw [Int.toNat_natCast, ho, hw]; rfl
  rw [if_pos hm, Int.toNat_natCast, Int.toNat_natCast, if_neg (by rw [hcl]; decide)]
theorem prog_none {c : Chp} {b n : Int} (h : b < 0 ∨ (c.nb : Int) ≤ b ∨ n < 0 ∨ (c.np : Int) ≤ n) (data : ByteArray) : programC c b n data = (1, c) := by
  unfold programC
  rw [if_neg (by rw [hasPB_no h]; simp)]
theorem read_fine {c : Chp} {b n : Nat} (hb : b < c.nb) (hn : n < c.np) (ho : c.off = false) : readC c b n = (readS c b n, 0, { c with rd := upd c.rd b (wrap64 (c.rd b + 1)) }) := by
  unfold readC
  rw [if_pos (hasPB_yes hb hn), if_neg (by rw [ho]; decide), Int.toNat_natCast, Int.toNat_natCast]
theorem read_none {c : Chp} {b n : Int} (h : b < 0 ∨ (c.nb : Int) ≤ b ∨ n < 0 ∨ (c.np : Int) ≤ n) : readC c b n = (⟨#[]⟩, 1, c) := by
  unfold readC
  rw [if_neg (by rw [hasPB_no h]; simp)]
theorem read_off {c : Chp} {b n : Nat} (hb : b < c.nb) (hn : n < c.np) (ho : c.off = true) : readC c b n = (⟨#[]⟩, 20, c) := by
  unfold readC
  rw [if_pos (hasPB_yes hb hn), if_pos ho]
theorem readS_plain {c : Chp} (h : c.most < 1) (b n : Nat) : readS c b n = dataC c.bytes (c.pg b n) := by unfold readS; rw [if_pos (.inl h)]
theorem readS_size {c : Chp} (hg : Good c) (h0 : 0 ≤ c.bytes) {b n : Nat} (hb : b < c.nb) (hn : n < c.np) : ((readS c b n).size : Int) = c.bytes := by
  have h := dataC_size (hg b n hb hn) h0
  unfold readS
  split
  · exact h
  · show ((Array.size _ : Nat) : Int) = _
    rw [List.size_toArray, noiseL, nTo_len, ← Lib.size_eq]
    exact h
theorem read_size {c : Chp} (hg : Good c) (h0 : 0 ≤ c.bytes) (b n : Int) (h : (readC c b n).2.1 = 0) : ((readC c b n).1.size : Int) = c.bytes := by
  unfold readC at h ⊢
  split at h
  · next hp =>
    rw [if_pos hp]
    split at h
    · exact absurd h (by simp)
    · next ho =>
      rw [if_neg ho]
      obtain ⟨x, y, rfl, rfl, hx, hy⟩ := hasPB_nat hp
      exact readS_size hg h0 hx hy
  · exact absurd h (by simp)
theorem raw_nat {g : Geo} (hg : g.ok) : g.raw = ((g.C.toNat * (g.K.toNat + parN g.T.toNat) : Nat) : Int) := by
  unfold Geo.raw
  rw [if_pos hg]
  obtain ⟨b1, b2, b3, b4, b5, b6, b7, b8, b9, b10, b11⟩ := hg
  rw [Int.natCast_mul, Int.toNat_of_nonneg (by omega), Int.natCast_add, Int.toNat_of_nonneg (by omega)]
theorem room_bd {g : Geo} (hg : g.ok) : 9 ≤ g.room ∧ g.room ≤ 1017 := by
  unfold Geo.room
  rw [if_pos hg]
  obtain ⟨b1, b2, b3, b4, b5, b6, b7, b8, b9, b10, b11⟩ := hg
  have m2 := mul4 (c := g.C) (x := g.K) b6 b7 (by omega)
  omega
theorem page_size {g : Geo} (hg : g.ok) {p : ByteArray} (hp : (p.size : Int) ≤ g.room) : ((bytS (g.pageL p.data.toList)).size : Int) = g.raw := by
  rw [bytS_size, pageL_length hg (by rw [← Lib.size_eq]; exact hp), raw_nat hg]
section
variable {w W W' : World} {L : Lay} {c d : Chp} {a q : Nat} {g : Geo}
theorem PagAt.own (h : PagAt w W L c a q g) (hc : ChipAt W' L d) (hg : Good d) (hl : Like c d) (k : Stays (· = L.a) W W') : PagAt w W' L d a q g := h.chip hc hg hl (k.mono fun _ e => .inl e)
theorem PagAt.noise (h : PagAt w W L c a q g) (s m p : Int) : Calls Tryz.prog 25 #[.pointer (some ⟨L.a, 0, none⟩), .int .i64 s, .int .i64 m, .int .i64 p] W fun e W' =>
    e = .returned (.tuple #[]) ∧ PagAt w W' L { c with seed := s, most := m, piece := p } a q g :=
  (noise_any h.holds.at_ s m p).mono fun _ _ ⟨he, hc, hs⟩ => ⟨he, h.own hc h.holds.good ⟨rfl, rfl, rfl⟩ hs⟩
theorem PagAt.cut (h : PagAt w W L c a q g) (n m : Int) (n0 : n ≤ 9223372036854775807) (m0 : -9223372036854775808 ≤ m) (m1 : m ≤ 9223372036854775807) : Calls Tryz.prog 24 #[.pointer (some ⟨L.a, 0, none⟩), .int .i64 n, .int .i64 m] W fun e W' =>
    e = .returned (.tuple #[]) ∧ PagAt w W' L { c with left := max n 1, mode := m } a q g :=
  (cut_any h.holds.at_ n m n0 m0 m1).mono fun _ _ ⟨he, hc, hs⟩ => ⟨he, h.own hc h.holds.good ⟨rfl, rfl, rfl⟩ hs⟩
theorem PagAt.spoil (h : PagAt w W L c a q g) (b p : Int) : Calls Tryz.prog 26 #[.pointer (some ⟨L.a, 0, none⟩), .int .i64 b, .int .i64 p] W fun e W' =>
    e = .returned (.int .i64 (spoilC c b p).1) ∧ PagAt w W' L (spoilC c b p).2 a q g :=
  (spoil_any h.holds.at_ b p).mono fun _ _ ⟨he, hc, hs⟩ => ⟨he, h.chip hc (good_spoilC h.holds.good b p) (like_spoilC c b p) hs⟩
theorem PagAt.pread (h : PagAt w W L c a q g) (hn : NibAt w) (hg : 0 < w.heap.size) (hb : c.bytes = g.raw) (b n : Int) :
    Calls Tryz.prog 21 #[.pointer (some ⟨a, 0, none⟩), .int .i64 b, .int .i64 n] W fun e W' => e = .returned (.tuple #[g.readV (readC c b n).1 (readC c b n).2.1, .int .i64 (readC c b n).2.1]) ∧ PagAt w W' L (readC c b n).2.2 a q g ∧ Stays (Touch L c.nb q W.heap.size) W W' :=
  pread_any h hn hg b n (fun h0 => by
    have h1 := raw_nat h.ok
    have h2 := read_size h.holds.good (by rw [hb, h1]; exact Int.natCast_nonneg _) b n h0
    rw [hb, h1] at h2
    exact_mod_cast h2)
end
theorem found0 : foundV 0 [] 0 = .agg #[.int .i64 0, .string ⟨#[]⟩, .int .i64 0] := rfl
theorem found2 : foundV 2 [] 0 = .agg #[.int .i64 2, .string ⟨#[]⟩, .int .i64 0] := rfl
/-- What was found, in a block of its own. -/
structure FoundAt (W : World) (b : Nat) (st : Int) (p : ByteArray) (n : Int) : Prop where
  c0 : W.cell? ⟨b, 0, none⟩ = some (.int .i64 st)
  c1 : W.cell? ⟨b, 1, none⟩ = some (.string p)
  c2 : W.cell? ⟨b, 2, none⟩ = some (.int .i64 n)
theorem FoundAt.lt {W : World} {b : Nat} {st n : Int} {p : ByteArray} (h : FoundAt W b st p n) : b < W.heap.size := World.block_lt_of_cell? _ _ h.c0
theorem FoundAt.below {W W' : World} {b B : Nat} {st n : Int} {p : ByteArray} (h : FoundAt W b st p n) (k : Below B W W') (hb : b < B) : FoundAt W' b st p n :=
  ⟨(k.cell (p := ⟨b, 0, none⟩) hb).trans h.c0, (k.cell (p := ⟨b, 1, none⟩) hb).trans h.c1, (k.cell (p := ⟨b, 2, none⟩) hb).trans h.c2⟩
theorem FoundAt.new (w : World) (st n : Int) (p : ByteArray) (T : TypeId) : FoundAt (w.alloc (.cells #[.int .i64 st, .string p, .int .i64 n] T)) w.heap.size st p n :=
  ⟨World.cell?_alloc_new _ _ _ _, World.cell?_alloc_new _ _ _ _, World.cell?_alloc_new _ _ _ _⟩
theorem FoundAt.touch {W W' : World} {L : Lay} {c : Chp} {w : World} {a q b : Nat} {g : Geo} {st n : Int} {p : ByteArray} (h : FoundAt W b st p n) (hp : PagAt w W L c a q g) (hf : ∀ k, Foot L c.nb k → k < b) (k : Stays (Touch L c.nb q W.heap.size) W W') : FoundAt W' b st p n := by
  have hS : ¬ Touch L c.nb q W.heap.size b := by
    rintro (e | e | e)
    · exact Nat.lt_irrefl _ (hf _ e)
    · have h1 := hp.code.h1
      rw [← e, h.c1] at h1; cases h1
    · have := h.lt; omega
  exact ⟨k.cell h.c0 hS, k.cell h.c1 hS, k.cell h.c2 hS⟩
/-- A new chip for a geometry, and that chip with a page written. -/
def gC (g : Geo) : Chp := freshC g.B.toNat g.P.toNat g.raw
def gC1 (g : Geo) (b n : Nat) (p : ByteArray) : Chp := progFine { gC g with changes := wrap64 (0 + 1) } b n (bytS (g.pageL p.data.toList))
theorem pw_fresh {g : Geo} (hg : g.ok) {b n : Nat} (hb : (b : Int) < g.B) (hn : (n : Int) < g.P) {p : ByteArray} (hp : (p.size : Int) ≤ g.room) : pwC g (gC g) b n p = (0, gC1 g b n p) := by
  unfold pwC
  rw [if_neg (by omega)]
  exact prog_fine (c := gC g) (by show b < g.B.toNat; omega) (by show n < g.P.toNat; omega) _ (page_size hg hp) rfl rfl rfl (by rw [cleanB_iff]; exact fun _ _ => ⟨rfl, rfl⟩)
theorem data_new {g : Geo} {b n : Nat} {p : ByteArray} : dataC g.raw ((gC1 g b n p).pg b n) = bytS (g.pageL p.data.toList) := by
  have : (gC1 g b n p).pg b n = { (gC g).pg b n with st := 1, data := bytS (g.pageL p.data.toList) } := upd2_val _ _ _ _
  rw [this]; rfl
/-- A geometry in a block of its own. -/
structure GeoAt (W : World) (b : Nat) (g : Geo) : Prop where
  c0 : W.cell? ⟨b, 0, none⟩ = some (.int .i64 g.B)
  c1 : W.cell? ⟨b, 1, none⟩ = some (.int .i64 g.P)
  c2 : W.cell? ⟨b, 2, none⟩ = some (.int .i64 g.C)
  c3 : W.cell? ⟨b, 3, none⟩ = some (.int .i64 g.K)
  c4 : W.cell? ⟨b, 4, none⟩ = some (.int .i64 g.T)
theorem GeoAt.lt {W : World} {b : Nat} {g : Geo} (h : GeoAt W b g) : b < W.heap.size := World.block_lt_of_cell? _ _ h.c0
theorem GeoAt.below {W W' : World} {b B : Nat} {g : Geo} (h : GeoAt W b g) (k : Below B W W') (hb : b < B) : GeoAt W' b g :=
  ⟨(k.cell (p := ⟨b, 0, none⟩) hb).trans h.c0, (k.cell (p := ⟨b, 1, none⟩) hb).trans h.c1, (k.cell (p := ⟨b, 2, none⟩) hb).trans h.c2, (k.cell (p := ⟨b, 3, none⟩) hb).trans h.c3, (k.cell (p := ⟨b, 4, none⟩) hb).trans h.c4⟩
theorem GeoAt.new (w : World) (g : Geo) (T : TypeId) : GeoAt (w.alloc (.cells #[.int .i64 g.B, .int .i64 g.P, .int .i64 g.C, .int .i64 g.K, .int .i64 g.T] T)) w.heap.size g :=
  ⟨World.cell?_alloc_new _ _ _ _, World.cell?_alloc_new _ _ _ _, World.cell?_alloc_new _ _ _ _, World.cell?_alloc_new _ _ _ _, World.cell?_alloc_new _ _ _ _⟩
/-- The geometry that the laws speak of first. -/
def g0 : Geo := ⟨1, 4, 1, 32, 1⟩
theorem g0_ok : g0.ok := by decide
set_option maxHeartbeats 3200000 in
set_option maxRecDepth 100000 in
theorem speaks_at (w w0 : World) (b : Nat) (hG : GeoAt w0 b g0) (hn : NibAt w0) (hg : 0 < w0.heap.size) (hB : Below w.heap.size w w0) (hw : w0 = w.alloc (.cells #[.int .i64 g0.B, .int .i64 g0.P, .int .i64 g0.C, .int .i64 g0.K, .int .i64 g0.T] 25)) (hb : b = w.heap.size) : Calls Tryz.prog 9 #[] w fun e w' => e = .returned (.bool true) ∧ Below w.heap.size w w' := by
  have HCH := Lib.hid (fun W (h : Below w0.heap.size w0 W) => Chip_yes g0 g0_ok w0 W h)
  have HNW := Lib.hid (fun W L (h : Holds w0 W L (gC g0)) => PagAt.new h g0 g0_ok)
  have h1 : pwC g0 (gC g0) 0 0 ⟨#[97, 98]⟩ = (0, gC1 g0 0 0 ⟨#[97, 98]⟩) := pw_fresh (b := 0) (n := 0) g0_ok (by decide) (by decide) (by decide)
  have HW := Lib.hid (fun W L a q (h : PagAt w0 W L (gC g0) a q g0) => pwrite_any h hn hg 0 0 ⟨#[97, 98]⟩)
  rw [h1] at HW
  have h2 : readC (gC1 g0 0 0 ⟨#[97, 98]⟩) 0 0 = (readS (gC1 g0 0 0 ⟨#[97, 98]⟩) 0 0, 0, _) := read_fine (c := gC1 g0 0 0 ⟨#[97, 98]⟩) (b := 0) (n := 0) (by decide) (by decide) rfl
  have h3 : readS (gC1 g0 0 0 ⟨#[97, 98]⟩) 0 0 = bytS (g0.pageL [97, 98]) := by
    rw [readS_plain (show (0 : Int) < 1 by decide)]
    exact data_new
  obtain ⟨PL, hPL⟩ : ∃ PL, PL = bytS (97 :: 98 :: Lib.repeatL [0] 23) := ⟨_, rfl⟩
  have HR : Hid (∀ W L a q, PagAt w0 W L (gC1 g0 0 0 ⟨#[97, 98]⟩) a q g0 → Calls Tryz.prog 21 #[.pointer (some ⟨a, 0, none⟩), .int .i64 0, .int .i64 0] W fun e W' =>
      e = .returned (.tuple #[.agg #[.int .i64 1, .string PL, .int .i64 0], .int .i64 0]) ∧ Below w0.heap.size w0 W') := Lib.hid (fun W L a q h =>
    (h.pread hn hg rfl 0 0).mono fun e W' ⟨he, hp, _⟩ => ⟨by
      rw [he, h2, h3]
      have h4 := readL_page (g := g0) g0_ok (p := [97, 98]) (by decide)
      show Ending.returned (.tuple #[(if (0 : Int) ≠ 0 then foundV 0 [] 0 else g0.readL (bytS (g0.pageL [97, 98])).data.toList), _]) = _
      rw [if_neg (by decide), bytS_list, h4, hPL]; rfl, hp.holds.below⟩)
  have hz : PL.size = 25 := by rw [hPL, bytS_size]; decide
  have hz2 : PL.extract 0 2 = ⟨#[97, 98]⟩ := by rw [hPL, bytS_extract]; rfl
  have HB := Lib.hid hB
  have HG := Lib.hid hG
  clear h1 h2 h3 hn hg hPL hB hG
  go_enter Tryz.func9, Tryz.ntmps9
  go_upto_region 2 with fail
  rw [← hb]
  rw [show w.alloc (.cells #[.int .i64 1, .int .i64 4, .int .i64 1, .int .i64 32, .int .i64 1] 25) = w0 from hw.symm]
  clear hw hb
  have c0 := HG.out.c0
  have c1 := HG.out.c1
  have c2 := HG.out.c2
  have c3 := HG.out.c3
  have c4 := HG.out.c4
  simp only [g0] at c0 c1 c2 c3 c4
  go_wp2_with fail
  go_at_call 13
  refine (HCH.out _ (Below.refl _ _)).mono ?_
  rintro e w1 ⟨L, rfl, h1⟩
  have H1 : Hid (Holds w0 w1 L (gC g0)) := Lib.hid h1
  have HG1 := Lib.hid (HG.out.below h1.below HG.out.lt)
  clear h1 c0 c1 c2 c3 c4
  have c0 := HG1.out.c0
  have c1 := HG1.out.c1
  have c2 := HG1.out.c2
  have c3 := HG1.out.c3
  have c4 := HG1.out.c4
  simp only [g0] at c0 c1 c2 c3 c4
  go_wp2_with fail
  go_at_call 14
  refine (HNW.out _ _ H1.out).mono ?_
  rintro e w2 ⟨a, q, rfl, h2⟩
  have H2 := Lib.hid h2
  clear h2 c0 c1 c2 c3 c4
  go_wp2_with fail
  go_at_call 17
  refine (HW.out _ _ _ _ H2.out).mono ?_
  rintro e w3 ⟨rfl, h3⟩
  have H3 := Lib.hid h3
  clear h3
  go_wp2_with fail
  go_at_call 21
  refine (HR.out _ _ _ _ H3.out).mono ?_
  rintro e w4 ⟨rfl, h4⟩
  have H4 : Hid (Below w.heap.size w w4) := Lib.hid (HB.out.trans (h4.mono HB.out.size))
  clear h4
  go_wp2_with fail
  go_ret
  exact ⟨rfl, H4.out.alloc H4.out.size _⟩
theorem speaks_ok (w : World) (hn : NibAt w) (hg : 0 < w.heap.size) : Calls Tryz.prog 9 #[] w fun e w' => e = .returned (.bool true) ∧ Below w.heap.size w w' := by
  have hB : Below w.heap.size w (w.alloc (.cells #[.int .i64 g0.B, .int .i64 g0.P, .int .i64 g0.C, .int .i64 g0.K, .int .i64 g0.T] 25)) := (Below.refl _ _).alloc (Nat.le_refl _) _
  exact speaks_at w _ _ (GeoAt.new w g0 25) (hn.below hB hg) (Nat.lt_of_lt_of_le hg hB.size) hB rfl rfl
/-- A law's geometry in its three places. -/
structure LawAt (w w0 : World) (b1 b3 b4 : Nat) (g : Geo) : Prop where
  below : Below w.heap.size w w0
  a1 : GeoAt w0 b1 g
  a3 : GeoAt w0 b3 g
  a4 : GeoAt w0 b4 g
  nib : NibAt w0
  ng : 0 < w0.heap.size
theorem LawAt.of {w w3 : World} {b1 : Nat} {g : Geo} (hB : Below w.heap.size w w3) (h1 : GeoAt w3 b1 g) (hn : NibAt w) (hg : 0 < w.heap.size) (T U : TypeId) :
    LawAt w ((w3.alloc (.cells #[.int .i64 g.B, .int .i64 g.P, .int .i64 g.C, .int .i64 g.K, .int .i64 g.T] T)).alloc (.cells #[.int .i64 g.B, .int .i64 g.P, .int .i64 g.C, .int .i64 g.K, .int .i64 g.T] U)) b1 w3.heap.size (w3.heap.size + 1) g := by
  have ha : Below w3.heap.size w3 ((w3.alloc (.cells #[.int .i64 g.B, .int .i64 g.P, .int .i64 g.C, .int .i64 g.K, .int .i64 g.T] T)).alloc (.cells #[.int .i64 g.B, .int .i64 g.P, .int .i64 g.C, .int .i64 g.K, .int .i64 g.T] U)) := ((Below.refl _ _).alloc (Nat.le_refl _) _).alloc (by simp) _
  have hb := hB.trans (ha.mono hB.size)
  have hs : (w3.alloc (.cells #[.int .i64 g.B, .int .i64 g.P, .int .i64 g.C, .int .i64 g.K, .int .i64 g.T] T)).heap.size = w3.heap.size + 1 := by simp
  have h4 := GeoAt.new (w3.alloc (.cells #[.int .i64 g.B, .int .i64 g.P, .int .i64 g.C, .int .i64 g.K, .int .i64 g.T] T)) g U
  rw [hs] at h4
  exact ⟨hb, h1.below ha h1.lt, (GeoAt.new w3 g T).below ((Below.refl _ _).alloc (Nat.le_refl _) _) (by simp), h4, hn.below hb hg, Nat.lt_of_lt_of_le hg hb.size⟩
theorem LawAt.step {w w0 w' : World} {b1 b3 b4 : Nat} {g : Geo} (h : LawAt w w0 b1 b3 b4 g) (k : Below w0.heap.size w0 w') : LawAt w w' b1 b3 b4 g :=
  ⟨h.below.trans (k.mono h.below.size), h.a1.below k h.a1.lt, h.a3.below k h.a3.lt, h.a4.below k h.a4.lt, h.nib.below k h.ng, Nat.lt_of_lt_of_le h.ng k.size⟩
/-- Two numbers in a block of their own. -/
structure PairAt (W : World) (b : Nat) (x y : Int) : Prop where
  c0 : W.cell? ⟨b, 0, none⟩ = some (.int .i64 x)
  c1 : W.cell? ⟨b, 1, none⟩ = some (.int .i64 y)
theorem PairAt.lt {W : World} {b : Nat} {x y : Int} (h : PairAt W b x y) : b < W.heap.size := World.block_lt_of_cell? _ _ h.c0
theorem PairAt.below {W W' : World} {b B : Nat} {x y : Int} (h : PairAt W b x y) (k : Below B W W') (hb : b < B) : PairAt W' b x y :=
  ⟨(k.cell (p := ⟨b, 0, none⟩) hb).trans h.c0, (k.cell (p := ⟨b, 1, none⟩) hb).trans h.c1⟩
theorem PairAt.new (w : World) (x y : Int) (T : TypeId) : PairAt (w.alloc (.cells #[.int .i64 x, .int .i64 y] T)) w.heap.size x y :=
  ⟨World.cell?_alloc_new _ _ _ _, World.cell?_alloc_new _ _ _ _⟩
end Go.Proofs.YtgfjeaegigjnaaaGreatDoor
