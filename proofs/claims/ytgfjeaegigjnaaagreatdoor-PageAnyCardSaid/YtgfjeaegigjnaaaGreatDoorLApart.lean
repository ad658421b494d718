/- The walk of the law PageApart. -/
import Derived.Test.YtgfjeaegigjnaaaGreatDoorLWrites
namespace Go.Proofs.YtgfjeaegigjnaaaGreatDoor
open Go.RowKit
set_option linter.unusedVariables false
set_option linter.unusedSimpArgs false

/-- A chip with two pages written. -/
structure ChA (g : Geo) (c : Chp) (p q : ByteArray) : Prop where
  nb : c.nb = g.B.toNat
  np : c.np = g.P.toNat
  by_ : c.bytes = g.raw
  off : c.off = false
  most : c.most < 1
  d0 : dataC g.raw (c.pg 0 0) = bytS (g.pageL p.data.toList)
  d1 : dataC g.raw (c.pg 1 0) = bytS (g.pageL q.data.toList)
theorem ChA.rd {g : Geo} {c : Chp} {p q : ByteArray} (h : ChA g c p q) (r : Nat → Int) : ChA g { c with rd := r } p q := ⟨h.nb, h.np, h.by_, h.off, h.most, h.d0, h.d1⟩
theorem ChA.read0 {g : Geo} {c : Chp} {p q : ByteArray} (h : ChA g c p q) (h1 : 1 ≤ g.B) (h2 : 1 ≤ g.P) : ∃ d, readC c 0 0 = (bytS (g.pageL p.data.toList), 0, d) ∧ ChA g d p q := by
  have e := read_fine (c := c) (b := 0) (n := 0) (by rw [h.nb]; omega) (by rw [h.np]; omega) h.off
  have hd := h.d0
  rw [← h.by_] at hd
  rw [readS_plain h.most, hd] at e
  exact ⟨_, e, h.rd _⟩
theorem ChA.read1 {g : Geo} {c : Chp} {p q : ByteArray} (h : ChA g c p q) (h1 : 2 ≤ g.B) (h2 : 1 ≤ g.P) : ∃ d, readC c 1 0 = (bytS (g.pageL q.data.toList), 0, d) ∧ ChA g d p q := by
  have e := read_fine (c := c) (b := 1) (n := 0) (by rw [h.nb]; omega) (by rw [h.np]; omega) h.off
  have hd := h.d1
  rw [← h.by_] at hd
  rw [readS_plain h.most, hd] at e
  exact ⟨_, e, h.rd _⟩
theorem fine_at (c : Chp) (b n : Nat) (d : ByteArray) : (progFine c b n d).pg b n = { c.pg b n with st := 1, data := d } := upd2_val _ _ _ _
theorem fine_off (c : Chp) (b n : Nat) (d : ByteArray) {b' : Nat} (h : b' ≠ b) (n' : Nat) : (progFine c b n d).pg b' n' = c.pg b' n' := congrFun (upd2_off _ b n _ h) _
theorem pw_two {g : Geo} (hg : g.ok) (h2 : 2 ≤ g.B) {p q : ByteArray} (hp : (p.size : Int) ≤ g.room) (hq : (q.size : Int) ≤ g.room) : ∃ c, pwC g (gC1 g 0 0 p) 1 0 q = (0, c) ∧ ChA g c p q := by
  have hP : 4 ≤ g.P := by unfold Geo.ok at hg; omega
  have h := prog_fine (c := gC1 g 0 0 p) (b := 1) (n := 0) (by show 1 < g.B.toNat; omega) (by show 0 < g.P.toNat; omega) (bytS (g.pageL q.data.toList)) (page_size hg hq) rfl rfl rfl (by
    rw [cleanB_iff]
    intro j hj
    have : (gC1 g 0 0 p).pg 1 (0 + j) = (gC g).pg 1 (0 + j) := fine_off _ 0 0 _ (by decide) _
    rw [this]
    exact ⟨rfl, rfl⟩)
  refine ⟨_, by unfold pwC; rw [if_neg (by omega)]; exact h, ?_⟩
  refine ⟨rfl, rfl, rfl, rfl, (show (0 : Int) < 1 by decide), ?_, ?_⟩
  · rw [fine_off _ 1 0 _ (by decide)]
    exact data_new
  · rw [fine_at]; rfl
theorem and1_all : ((List.range 256).all fun y => bits BinOp.and IntKind.u8 (y : Int) 1 == ((y % 2 : Nat) : Int)) = true := by decide +kernel
theorem and1 (y : Nat) (h : y < 256) : bits BinOp.and IntKind.u8 (y : Int) 1 = ((y % 2 : Nat) : Int) := by
  have := and1_all
  rw [List.all_eq_true] at this
  have := this y (by simp; omega)
  simpa using this
theorem pop_all8 : ((List.range 256).all fun z => decide (popF 8 z ≤ 8)) = true := by decide +kernel
theorem pop_le (x : UInt8) : pop x ≤ 8 := by
  have h := pop_all8
  rw [List.all_eq_true] at h
  have := h x.toNat (by have := x.toNat_lt; simp; omega)
  simpa [pop] using this
theorem at_byte (b : ByteArray) (i : Nat) (h : i < b.size) : b[i] = b.data.toList.getD i 0 := by
  have h2 : i < b.data.toList.length := by simpa using h
  rw [List.getD_eq_getElem?_getD, List.getElem?_eq_getElem h2]
  simp
  rfl
set_option maxHeartbeats 6400000 in
set_option maxRecDepth 100000 in
theorem PageApart_walk (x0 x1 x2 x3 x4 : Int) (pa pb : ByteArray) (w : World) (hn : NibAt w) (y0 : (Lit.int .i64 x0).wf = true) (y1 : (Lit.int .i64 x1).wf = true) (y2 : (Lit.int .i64 x2).wf = true) (y3 : (Lit.int .i64 x3).wf = true) (y4 : (Lit.int .i64 x4).wf = true) (y5 : pa.size ≤ 140737488351232) (y6 : pb.size ≤ 140737488351232) :
    Calls Tryz.prog 6 #[.agg #[.int .i64 x0, .int .i64 x1, .int .i64 x2, .int .i64 x3, .int .i64 x4], .string pa, .string pb] w fun e w' => e = .returned (.bool true) ∧ Below w.heap.size w w' := by
  have hg : 0 < w.heap.size := World.block_lt_of_cell? _ _ (hn 0 (by decide))
  clear y0 y1 y2 y3 y4 y5 y6
  obtain ⟨g, hgv⟩ : ∃ g : Geo, g = ⟨x0, x1, x2, x3, x4⟩ := ⟨_, rfl⟩
  have e0 : x0 = g.B := by rw [hgv]
  have e1 : x1 = g.P := by rw [hgv]
  have e2 : x2 = g.C := by rw [hgv]
  have e3 : x3 = g.K := by rw [hgv]
  have e4 : x4 = g.T := by rw [hgv]
  clear hgv
  subst e0 e1 e2 e3 e4
  obtain ⟨w1, hw1⟩ : ∃ w1, w1 = w.alloc (.cells #[.int .i64 g.B, .int .i64 g.P, .int .i64 g.C, .int .i64 g.K, .int .i64 g.T] 22) := ⟨_, rfl⟩
  have hG1 := GeoAt.new w g 22
  have hb1 : Below w.heap.size w w1 := by rw [hw1]; exact (Below.refl _ _).alloc (Nat.le_refl _) _
  have hs1 : w1.heap.size = w.heap.size + 1 := by rw [hw1]; simp
  rw [← hw1] at hG1
  have HG1 := Lib.hid hG1
  have HB1 := Lib.hid hb1
  have HSP := Lib.hid (speaks_ok w1 (hn.below hb1 hg) (Nat.lt_of_lt_of_le hg hb1.size))
  have HGE := Lib.hid (fun w => geometry_any g w)
  have HG : Hid (0 < w.heap.size) := Lib.hid hg
  have HN := Lib.hid hn
  have HS1 := Lib.hid hs1
  clear hn hg hb1 hG1 hs1
  go_enter Tryz.func6, Tryz.ntmps6
  go_upto_region 1 with fail
  rw [← hw1]
  clear hw1
  obtain ⟨b1, hb1⟩ : ∃ b1, b1 = w.heap.size := ⟨_, rfl⟩
  rw [← hb1] at HG1
  rw [← hb1]
  clear hb1
  go_wp2_with fail
  go_at_call 9
  refine HSP.out.mono ?_
  rintro e w2 ⟨rfl, h2⟩
  have hG2 := HG1.out.below h2 HG1.out.lt
  have HB2 : Hid (Below w.heap.size w w2) := Lib.hid (HB1.out.trans (h2.mono HB1.out.size))
  have HG2 := Lib.hid hG2
  have c0 := hG2.c0
  have c1 := hG2.c1
  have c2 := hG2.c2
  have c3 := hG2.c3
  have c4 := hG2.c4
  clear h2 hG2 HSP HG1 HB1 HS1
  go_wp2_with fail
  go_at_call 10
  refine (HGE.out _).mono ?_
  rintro e w3 ⟨rfl, h3⟩
  have hG3 := HG2.out.below h3 HG2.out.lt
  have HB3 : Hid (Below w.heap.size w w3) := Lib.hid (HB2.out.trans (h3.mono HB2.out.size))
  have HG3 := Lib.hid hG3
  clear h3 hG3 HGE HB2 HG2 c0 c1 c2 c3 c4
  have hgv : g.v = .agg #[.int .i64 g.B, .int .i64 g.P, .int .i64 g.C, .int .i64 g.K, .int .i64 g.T] := rfl
  rw [hgv]
  clear hgv
  go_upto_region 4 with fail
  have HL : Hid (LawAt w ((w3.alloc (.cells #[.int .i64 g.B, .int .i64 g.P, .int .i64 g.C, .int .i64 g.K, .int .i64 g.T] 25)).alloc (.cells #[.int .i64 g.B, .int .i64 g.P, .int .i64 g.C, .int .i64 g.K, .int .i64 g.T] 26)) b1 w3.heap.size (w3.heap.size + 1) g) := Lib.hid (LawAt.of HB3.out HG3.out HN.out HG.out _ _)
  generalize ((w3.alloc (.cells #[.int .i64 g.B, .int .i64 g.P, .int .i64 g.C, .int .i64 g.K, .int .i64 g.T] 25)).alloc (.cells #[.int .i64 g.B, .int .i64 g.P, .int .i64 g.C, .int .i64 g.K, .int .i64 g.T] 26)) = w0 at *
  generalize (w3.heap.size + 1) = b4 at *
  generalize w3.heap.size = b3 at *
  clear HB3 HG3 HN HG
  have c0 := HL.out.a4.c0
  have c1 := HL.out.a4.c1
  have c2 := HL.out.a4.c2
  have c3 := HL.out.a4.c3
  have c4 := HL.out.a4.c4
  obtain ⟨rw, hrw⟩ : ∃ r, r = g.raw := ⟨_, rfl⟩
  obtain ⟨rm, hrm⟩ : ∃ r, r = g.room := ⟨_, rfl⟩
  have HSZ := Lib.hid (fun w => Sizes_any g w)
  rw [← hrw, ← hrm] at HSZ
  have HRW := Lib.hid (And.intro hrw hrm)
  clear hrw hrm
  go_wp2_with fail
  go_at_call 12
  refine (HSZ.out _).mono ?_
  rintro e w4 ⟨rfl, h4⟩
  have HL4 := Lib.hid (HL.out.step h4)
  clear h4 HL HSZ c0 c1 c2 c3 c4
  have l0 := HL4.out.a1.c0
  by_cases k1 : rw = 0
  · go_wp2_with fail
    go_ret
    exact ⟨rfl, HL4.out.below⟩
  by_cases k2 : rm < (pa.size : Int)
  · go_wp2_with fail
    go_ret
    exact ⟨rfl, HL4.out.below⟩
  by_cases k3 : rm < (pb.size : Int)
  · go_wp2_with fail
    go_ret
    exact ⟨rfl, HL4.out.below⟩
  by_cases k4 : g.B < 2
  · go_wp2_with fail
    go_ret
    exact ⟨rfl, HL4.out.below⟩
  have hok : g.ok := Classical.byContradiction fun h => k1 (by rw [HRW.out.1]; unfold Geo.raw; rw [if_neg h])
  have HOK := Lib.hid hok
  have hpa : (pa.size : Int) ≤ g.room := by have := HRW.out.2; omega
  have hpb : (pb.size : Int) ≤ g.room := by have := HRW.out.2; omega
  have hB2 : 2 ≤ g.B := by omega
  have hP4 : 4 ≤ g.P := by unfold Geo.ok at hok; omega
  have hw1 := pw_fresh hok (b := 0) (n := 0) (by omega) (by omega) hpa
  obtain ⟨d0, hw2, hA0⟩ := pw_two hok hB2 hpa hpb
  obtain ⟨d1, hr1, hA1⟩ := hA0.read0 (by omega) (by omega)
  obtain ⟨d2, hr2, hA2⟩ := hA1.read1 hB2 (by omega)
  obtain ⟨d3, hr3, hA3⟩ := hA2.read0 (by omega) (by omega)
  obtain ⟨d4, hr4, hA4⟩ := hA3.read1 hB2 (by omega)
  have HW1 := Lib.hid (fun W L a q (h : PagAt w4 W L (gC g) a q g) => pwrite_any h HL4.out.nib HL4.out.ng 0 0 pa)
  rw [show pwC g (gC g) 0 0 pa = (0, gC1 g 0 0 pa) from hw1] at HW1
  have HW2 := Lib.hid (fun W L a q (h : PagAt w4 W L (gC1 g 0 0 pa) a q g) => pwrite_any h HL4.out.nib HL4.out.ng 1 0 pb)
  rw [hw2] at HW2
  have HR1 := Lib.hid (fun W L a q (h : PagAt w4 W L d0 a q g) => h.read 0 0)
  rw [hr1] at HR1
  have HR2 := Lib.hid (fun W L a q (h : PagAt w4 W L d1 a q g) => h.read 1 0)
  rw [hr2] at HR2
  have HR3 := Lib.hid (fun W L a q (h : PagAt w4 W L d2 a q g) => h.pread HL4.out.nib HL4.out.ng hA2.by_ 0 0)
  rw [hr3] at HR3
  have HR4 := Lib.hid (fun W L a q (h : PagAt w4 W L d3 a q g) => h.pread HL4.out.nib HL4.out.ng hA3.by_ 1 0)
  rw [hr4] at HR4
  have hpl : (pa.data.toList.length : Int) ≤ g.room := by rw [← Lib.size_eq]; exact hpa
  have hql : (pb.data.toList.length : Int) ≤ g.room := by rw [← Lib.size_eq]; exact hpb
  have hv3 : g.readV (bytS (g.pageL pa.data.toList)) 0 = .agg #[.int .i64 1, .string (bytS (padL g.room.toNat pa.data.toList)), .int .i64 0] := by
    unfold Geo.readV
    rw [if_neg (by decide), bytS_list, readL_page hok hpl]; rfl
  have hv4 : g.readV (bytS (g.pageL pb.data.toList)) 0 = .agg #[.int .i64 1, .string (bytS (padL g.room.toNat pb.data.toList)), .int .i64 0] := by
    unfold Geo.readV
    rw [if_neg (by decide), bytS_list, readL_page hok hql]; rfl
  have hpp := pad_page hok hpl hql
  have hfar := far_pages hok hpl hql
  have hlp := pageL_length hok hpl
  have hlq := pageL_length hok hql
  have HRB : Hid (g.C.toNat * (g.K.toNat + parN g.T.toNat) ≤ 1076) := Lib.hid (by
    unfold Geo.ok at hok
    exact Nat.le_trans (Nat.mul_le_mul (show g.C.toNat ≤ 4 by omega) (show g.K.toNat + parN g.T.toNat ≤ 269 by unfold parN; omega)) (by decide))
  obtain ⟨RZ, hRZ⟩ : ∃ n, n = g.C.toNat * (g.K.toNat + parN g.T.toNat) := ⟨_, rfl⟩
  rw [← hRZ] at hlp hlq hfar HRB
  obtain ⟨PA, hPA⟩ : ∃ l, l = g.pageL pa.data.toList := ⟨_, rfl⟩
  obtain ⟨PB, hPB⟩ : ∃ l, l = g.pageL pb.data.toList := ⟨_, rfl⟩
  rw [← hPA] at HR1 HR3 hv3 hpp hfar hlp
  rw [← hPB] at HR2 HR4 hv4 hpp hfar hlq
  rw [hv3] at HR3
  rw [hv4] at HR4
  have HPP : Hid (bytS (padL g.room.toNat pa.data.toList) = bytS (padL g.room.toNat pb.data.toList) ↔ PA = PB) := Lib.hid ⟨fun h => hpp.1 (congrArg (fun s : ByteArray => s.data.toList) h), fun h => congrArg bytS (hpp.2 h)⟩
  generalize bytS (padL g.room.toNat pa.data.toList) = UA at *
  generalize bytS (padL g.room.toNat pb.data.toList) = UB at *
  have HFA := Lib.hid hfar
  have HLP := Lib.hid (And.intro hlp hlq)
  have HT8 : Hid (1 ≤ g.T ∧ g.T ≤ 8) := Lib.hid (by unfold Geo.ok at hok; omega)
  clear hok hpa hpb hB2 hP4 hw1 hw2 hA0 hr1 hA1 hr2 hA2 hr3 hA3 hr4 hA4 hpl hql hv3 hv4 hpp hfar hlp hlq hRZ hPA hPB
  have k5 : (rw == 0) = false := by simp [k1]
  have c0 := HL4.out.a3.c0
  have c1 := HL4.out.a3.c1
  have c2 := HL4.out.a3.c2
  have c3 := HL4.out.a3.c3
  have c4 := HL4.out.a3.c4
  go_wp2_with fail
  go_at_call 13
  refine (Chip_yes g HOK.out w4 _ (Below.refl _ _)).mono ?_
  rintro e w6 ⟨L, rfl, h6⟩
  have HL6 := Lib.hid (HL4.out.step h6.below)
  have H6 : Hid (Holds w4 w6 L (gC g)) := Lib.hid h6
  clear h6 c0 c1 c2 c3 c4 l0
  have c0 := HL6.out.a3.c0
  have c1 := HL6.out.a3.c1
  have c2 := HL6.out.a3.c2
  have c3 := HL6.out.a3.c3
  have c4 := HL6.out.a3.c4
  go_wp2_with fail
  go_at_call 14
  refine (PagAt.new H6.out g HOK.out).mono ?_
  rintro e w7 ⟨a, q, rfl, h7⟩
  have H7 := Lib.hid h7
  clear h7 c0 c1 c2 c3 c4 HL6 H6
  go_wp2_with fail
  go_at_call 17
  refine (HW1.out _ _ _ _ H7.out).mono ?_
  rintro e w8 ⟨rfl, h8⟩
  have H8 := Lib.hid h8
  clear h8 H7 HW1
  go_wp2_with fail
  go_at_call 17
  refine (HW2.out _ _ _ _ H8.out).mono ?_
  rintro e w9 ⟨rfl, h9⟩
  have H9 := Lib.hid h9
  clear h9 H8 HW2
  go_wp2_with fail
  go_at_call 16
  refine (HR1.out _ _ _ _ H9.out).mono ?_
  rintro e w10 ⟨rfl, h10⟩
  have H10 := Lib.hid h10
  clear h10 H9 HR1
  go_wp2_with fail
  go_at_call 16
  refine (HR2.out _ _ _ _ H10.out).mono ?_
  rintro e w11 ⟨rfl, h11⟩
  have H11 := Lib.hid h11
  clear h11 H10 HR2
  go_wp2_with fail
  go_at_call 21
  refine (HR3.out _ _ _ _ H11.out).mono ?_
  rintro e w12 ⟨rfl, h12, _⟩
  have H12 := Lib.hid h12
  clear h12 H11 HR3
  go_upto_region 14 with fail
  have H12b := Lib.hid (H12.out.below ((Below.refl _ _).alloc (Nat.le_refl _) (.cells #[.int .i64 1, .string UA, .int .i64 0] 50)))
  have HF12 := Lib.hid (FoundAt.new w12 1 0 UA 50)
  have HFT := Lib.hid H12.out.foot_lt
  generalize (w12.alloc (.cells #[.int .i64 1, .string UA, .int .i64 0] 50)) = w13 at *
  generalize w12.heap.size = bu at *
  clear H12
  go_wp2_with fail
  go_at_call 21
  refine (HR4.out _ _ _ _ H12b.out).mono ?_
  rintro e w14 ⟨rfl, h14, t14⟩
  have HF14 := HF12.out.touch H12b.out HFT.out t14
  have HL14 := HL4.out.step h14.holds.below
  clear h14 t14 H12b HF12 HFT HR4
  go_upto_region 15 with fail
  have HF15 := Lib.hid (HF14.below ((Below.refl _ _).alloc (Nat.le_refl _) (.cells #[.int .i64 1, .string UB, .int .i64 0] 50)) HF14.lt)
  have HG15 := Lib.hid (FoundAt.new w14 1 0 UB 50)
  have HL15 : Hid (Below w.heap.size w (w14.alloc (.cells #[.int .i64 1, .string UB, .int .i64 0] 50))) := Lib.hid (HL14.below.alloc HL14.below.size _)
  have HA15 := Lib.hid (HL14.a1.below ((Below.refl _ _).alloc (Nat.le_refl _) (.cells #[.int .i64 1, .string UB, .int .i64 0] 50)) HL14.a1.lt)
  generalize (w14.alloc (.cells #[.int .i64 1, .string UB, .int .i64 0] 50)) = w15 at *
  generalize w14.heap.size = bv at *
  clear HF14 HL14 HL4 k1 k2 k3 k4 k5
  obtain ⟨sa, hsa⟩ : ∃ s, s = bytS PA := ⟨_, rfl⟩
  obtain ⟨sb, hsb⟩ : ∃ s, s = bytS PB := ⟨_, rfl⟩
  have hza : sa.size = RZ := by rw [hsa, bytS_size]; exact HLP.out.1
  have hzb : sb.size = RZ := by rw [hsb, bytS_size]; exact HLP.out.2
  have HSA : Hid (sa.data.toList = PA ∧ sb.data.toList = PB) := Lib.hid ⟨by rw [hsa, bytS_list], by rw [hsb, bytS_list]⟩
  rw [← hsa, ← hsb]
  clear hsa hsb
  have hRB := HRB.out
  have HTW : Hid (2 * g.T.toNat = (2 * g.T).toNat) := Lib.hid (by have := HT8.out; omega)
  go_wp2_with fail
  go_loopw [23, 24] (fun nv iv wx => ∃ (i t : Nat), i ≤ RZ ∧ nv = .int .i64 (t : Int) ∧ iv = .int .i64 (i : Int) ∧ t ≤ 8 * i ∧ Hid (t = D (dif PA PB) 0 i) ∧ ∃ qn, wx = w15.drewN qn) (fun _ iv _ => RZ - (intOf iv).toNat)
  case atStart => exact ⟨0, 0, Nat.zero_le _, rfl, rfl, Nat.le_refl _, Lib.hid rfl, 0, rfl⟩
  case round =>
    obtain ⟨i, t, hi, rfl, rfl, ht, HT, qn, rfl⟩ := hrel
    by_cases hlt : i < RZ
    · have hia : i < sa.size := by omega
      have hib : i < sb.size := by omega
      have hx : ∃ x : UInt8, bits BinOp.xor IntKind.u8 (sa[i].toNat : Int) (sb[i].toNat : Int) = (x.toNat : Int) ∧ pop x = dif PA PB i := by
        refine ⟨sa[i] ^^^ sb[i], ?_, ?_⟩
        · rw [UInt8.toNat_xor]
          exact bits_xor .u8 8 (by decide) wraps_u8 _ _ sa[i].toNat_lt sb[i].toNat_lt
        · unfold dif
          rw [at_byte sa i hia, at_byte sb i hib, HSA.out.1, HSA.out.2, UInt8.xor_comm]
      obtain ⟨x, hx1, hx2⟩ := hx
      have HX := Lib.hid hx2
      have HX1 := Lib.hid hx1
      clear hx1 hx2
      go_wp2_with fail
      go_quiet (fail)
      go_wp2_with fail
      go_loopw [23, 25] (fun v13 v15 wx => ∃ (t3 y f : Nat), v13 = .int .i64 t3 ∧ v15 = .int .u8 y ∧ Hid (y < 2 ^ f ∧ f ≤ 8 ∧ t3 + popF f y = t + pop x) ∧ (w15.drewN qn).drewN nq = wx) (fun _ v15 _ => (intOf v15).toNat)
      case atStart => exact ⟨t, x.toNat, 8, rfl, congrArg _ HX1.out, Lib.hid ⟨x.toNat_lt, by omega, rfl⟩, rfl⟩
      case round =>
        obtain ⟨t3, y, f, rfl, rfl, HY, rfl⟩ := hrel
        by_cases hy : y = 0
        · subst hy
          have hp8 := pop_le x
          have ht3 : t3 = D (dif PA PB) 0 (i + 1) := by
            have h1 := HY.out.2.2
            have h2 : popF f 0 = 0 := by cases f <;> rfl
            rw [D, ← HT.out, Nat.zero_add, ← HX.out]
            omega
          have ht8 : t3 ≤ 8 * (i + 1) := by
            have h1 := HY.out.2.2
            omega
          have HT3 := Lib.hid ht3
          clear ht3
          go_wp2_with fail
          go_roundw
          case rel => exact ⟨i + 1, t3, by omega, rfl, by go_num, ht8, HT3, _, rfl⟩
          case measure => simp [intOf]; omega
        · have hand := and1 y (by have := HY.out; have := Nat.pow_le_pow_right (show 0 < 2 by omega) this.2.1; omega)
          have hyb : y < 256 := by have := HY.out; have := Nat.pow_le_pow_right (show 0 < 2 by omega) this.2.1; omega
          go_wp2_with fail
          obtain ⟨f, rfl⟩ : ∃ g, f = g + 1 := ⟨f - 1, by have := HY.out; cases f with | zero => simp at this; omega | succ g => rfl⟩
          have HY2 : y / 2 < 2 ^ f ∧ f ≤ 8 ∧ t3 + y % 2 + popF f (y / 2) = t + pop x := by
            have := HY.out
            rw [popF, if_neg hy, Nat.pow_succ] at this
            omega
          have HY3 := Lib.hid HY2
          clear HY2 HY
          go_roundw
          case rel =>
            refine ⟨t3 + y % 2, y / 2, f, ?_, ?_, HY3, World.drewN_drewN _ _ _⟩
            · have h1 := HY3.out.2.2
              have h2 : pop x ≤ 8 := pop_le x
              rw [IntWalk.wrap64_in _ ⟨by omega, by omega⟩]
              rfl
            · rfl
          case measure =>
            simp [intOf]
            omega
    · obtain rfl : i = RZ := by omega
      have HB9 : Hid (Below w.heap.size w (w15.drewN qn)) := Lib.hid (HL15.out.trans ((below_drewN w15 qn).mono HL15.out.size))
      have u1 := (HF15.out.below (below_drewN w15 qn) HF15.out.lt).c1
      have v1 := (HG15.out.below (below_drewN w15 qn) HG15.out.lt).c1
      have l4 := (HA15.out.below (below_drewN w15 qn) HA15.out.lt).c4
      have f1 : IntKind.i64.wrap (2 * g.T) = 2 * g.T := by have := HT8.out; rw [IntKind.wrap_i64]; omega
      clear HF15 HG15 HA15 HL15
      by_cases hpq : PA = PB
      · have huv := HPP.out.2 hpq
        have hss : sa = sb := ByteArray.ext (Array.toList_inj.1 (by rw [HSA.out.1, HSA.out.2, hpq]))
        subst huv hss
        have q1 : (sa.toList == sa.toList) = true := by simp
        have q2 : (UA.toList == UA.toList) = true := by simp
        clear hpq
        go_wp2_with fail
        go_ret
        exact ⟨rfl, HB9.out⟩
      · have huv : UA ≠ UB := fun h => hpq (HPP.out.1 h)
        have hss : sa ≠ sb := fun h => hpq (by rw [← HSA.out.1, ← HSA.out.2, h])
        obtain ⟨q1, q2⟩ := str_ne hss
        obtain ⟨q3, q4⟩ := str_ne huv
        have hf : 2 * g.T < (t : Int) := by
          have h1 := HFA.out hpq
          rw [← HT.out] at h1
          have := HT8.out
          omega
        clear hpq huv hss
        go_wp2_with fail
        go_ret
        exact ⟨rfl, HB9.out⟩
end Go.Proofs.YtgfjeaegigjnaaaGreatDoor
