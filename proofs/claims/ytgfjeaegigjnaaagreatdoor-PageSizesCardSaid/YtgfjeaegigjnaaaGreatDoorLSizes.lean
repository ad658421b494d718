/- The walk of the law PageSizes. -/
import Derived.Test.YtgfjeaegigjnaaaGreatDoorPagS
namespace Go.Proofs.YtgfjeaegigjnaaaGreatDoor
open Go.RowKit
set_option linter.unusedVariables false
set_option linter.unusedSimpArgs false

theorem read_in {c : Chp} {b n : Int} (hb : 0 ≤ b ∧ b < (c.nb : Int)) (hn : 0 ≤ n ∧ n < (c.np : Int)) (ho : c.off = false) (hg : Good c) (h0 : 0 ≤ c.bytes) : ∃ s d, readC c b n = (s, 0, d) ∧ (s.size : Int) = c.bytes ∧ Like c d ∧ d.off = false := by
  obtain ⟨x, rfl⟩ : ∃ x : Nat, b = x := ⟨b.toNat, by omega⟩
  obtain ⟨y, rfl⟩ : ∃ y : Nat, n = y := ⟨n.toNat, by omega⟩
  exact ⟨_, _, read_fine (by omega) (by omega) ho, readS_size hg h0 (by omega) (by omega), ⟨rfl, rfl, rfl⟩, ho⟩
set_option maxHeartbeats 3200000 in
set_option maxRecDepth 100000 in
theorem PageSizes_walk (x0 x1 x2 x3 x4 : Int) (w : World) (hn : NibAt w) (y0 : (Lit.int .i64 x0).wf = true) (y1 : (Lit.int .i64 x1).wf = true) (y2 : (Lit.int .i64 x2).wf = true) (y3 : (Lit.int .i64 x3).wf = true) (y4 : (Lit.int .i64 x4).wf = true) :
    Calls Tryz.prog 3 #[.agg #[.int .i64 x0, .int .i64 x1, .int .i64 x2, .int .i64 x3, .int .i64 x4]] w fun e w' => e = .returned (.bool true) ∧ Below w.heap.size w w' := by
  have hg : 0 < w.heap.size := World.block_lt_of_cell? _ _ (hn 0 (by decide))
  clear y0 y1 y2 y3 y4
  obtain ⟨g, hgv⟩ : ∃ g : Geo, g = ⟨x0, x1, x2, x3, x4⟩ := ⟨_, rfl⟩
  have e0 : x0 = g.B := by rw [hgv]
  have e1 : x1 = g.P := by rw [hgv]
  have e2 : x2 = g.C := by rw [hgv]
  have e3 : x3 = g.K := by rw [hgv]
  have e4 : x4 = g.T := by rw [hgv]
  clear hgv
  subst e0 e1 e2 e3 e4
  obtain ⟨w1, hw1⟩ : ∃ w1, w1 = w.alloc (.cells #[.int .i64 g.B, .int .i64 g.P, .int .i64 g.C, .int .i64 g.K, .int .i64 g.T] 22) := ⟨_, rfl⟩
  have hG1 := GeoAt.new w g 22
  have hb1 : Below w.heap.size w w1 := by rw [hw1]; exact (Below.refl _ _).alloc (Nat.le_refl _) _
  have hs1 : w1.heap.size = w.heap.size + 1 := by rw [hw1]; simp
  rw [← hw1] at hG1
  have HG1 := Lib.hid hG1
  have HB1 := Lib.hid hb1
  have HSP := Lib.hid (speaks_ok w1 (hn.below hb1 hg) (Nat.lt_of_lt_of_le hg hb1.size))
  have HGE := Lib.hid (fun w => geometry_any g w)
  have HG : Hid (0 < w.heap.size) := Lib.hid hg
  have HN := Lib.hid hn
  have HS1 := Lib.hid hs1
  clear hn hg hb1 hG1 hs1
  go_enter Tryz.func3, Tryz.ntmps3
  go_upto_region 1 with fail
  rw [← hw1]
  clear hw1
  obtain ⟨b1, hb1⟩ : ∃ b1, b1 = w.heap.size := ⟨_, rfl⟩
  rw [← hb1] at HG1
  rw [← hb1]
  clear hb1
  go_wp2_with fail
  go_at_call 9
  refine HSP.out.mono ?_
  rintro e w2 ⟨rfl, h2⟩
  have hG2 := HG1.out.below h2 HG1.out.lt
  have HB2 : Hid (Below w.heap.size w w2) := Lib.hid (HB1.out.trans (h2.mono HB1.out.size))
  have HG2 := Lib.hid hG2
  have c0 := hG2.c0
  have c1 := hG2.c1
  have c2 := hG2.c2
  have c3 := hG2.c3
  have c4 := hG2.c4
  clear h2 hG2 HSP HG1 HB1 HS1
  go_wp2_with fail
  go_at_call 10
  refine (HGE.out _).mono ?_
  rintro e w3 ⟨rfl, h3⟩
  have hG3 := HG2.out.below h3 HG2.out.lt
  have HB3 : Hid (Below w.heap.size w w3) := Lib.hid (HB2.out.trans (h3.mono HB2.out.size))
  have HG3 := Lib.hid hG3
  clear h3 hG3 HGE HB2 HG2 c0 c1 c2 c3 c4
  have hgv : g.v = .agg #[.int .i64 g.B, .int .i64 g.P, .int .i64 g.C, .int .i64 g.K, .int .i64 g.T] := rfl
  rw [hgv]
  clear hgv
  go_upto_region 4 with fail
  have HL : Hid (LawAt w ((w3.alloc (.cells #[.int .i64 g.B, .int .i64 g.P, .int .i64 g.C, .int .i64 g.K, .int .i64 g.T] 25)).alloc (.cells #[.int .i64 g.B, .int .i64 g.P, .int .i64 g.C, .int .i64 g.K, .int .i64 g.T] 26)) b1 w3.heap.size (w3.heap.size + 1) g) := Lib.hid (LawAt.of HB3.out HG3.out HN.out HG.out _ _)
  generalize ((w3.alloc (.cells #[.int .i64 g.B, .int .i64 g.P, .int .i64 g.C, .int .i64 g.K, .int .i64 g.T] 25)).alloc (.cells #[.int .i64 g.B, .int .i64 g.P, .int .i64 g.C, .int .i64 g.K, .int .i64 g.T] 26)) = w0 at *
  generalize (w3.heap.size + 1) = b4 at *
  generalize w3.heap.size = b3 at *
  clear HB3 HG3 HN HG
  have c0 := HL.out.a3.c0
  have c1 := HL.out.a3.c1
  have c2 := HL.out.a3.c2
  have c3 := HL.out.a3.c3
  have c4 := HL.out.a3.c4
  obtain ⟨rw, hrw⟩ : ∃ r, r = g.raw := ⟨_, rfl⟩
  obtain ⟨rm, hrm⟩ : ∃ r, r = g.room := ⟨_, rfl⟩
  have HRA := Lib.hid (fun w => Raw_any g w)
  have HSZ := Lib.hid (fun w => Sizes_any g w)
  rw [← hrw, ← hrm] at HRA HSZ
  have HRW := Lib.hid hrw
  clear hrw hrm
  go_wp2_with fail
  go_at_call 11
  refine (HRA.out _).mono ?_
  rintro e w4 ⟨rfl, h4⟩
  have HL4 := Lib.hid (HL.out.step h4)
  clear h4 HL HRA c0 c1 c2 c3 c4
  have c0 := HL4.out.a4.c0
  have c1 := HL4.out.a4.c1
  have c2 := HL4.out.a4.c2
  have c3 := HL4.out.a4.c3
  have c4 := HL4.out.a4.c4
  go_wp2_with fail
  go_at_call 12
  refine (HSZ.out _).mono ?_
  rintro e w5 ⟨rfl, h5⟩
  have HL5 := Lib.hid (HL4.out.step h5)
  clear h5 HL4 HSZ c0 c1 c2 c3 c4
  have c0 := HL5.out.a3.c0
  have c1 := HL5.out.a3.c1
  have c2 := HL5.out.a3.c2
  have c3 := HL5.out.a3.c3
  have c4 := HL5.out.a3.c4
  have HGO := Lib.hid (fun w => rgood_any g w)
  have HNN := Lib.hid (fun w => PNew_no none g (.inl rfl) w)
  by_cases hok : g.ok
  · have HOK := Lib.hid hok
    rw [decide_eq_true hok] at HGO
    have hok2 := hok
    unfold Geo.ok at hok2
    obtain ⟨k1, k2, k3, k4, k5, k6, k7, k8, k9, k10, k11⟩ := hok2
    clear hok
    go_wp2_with fail
    go_at_call 13
    refine (Chip_yes g HOK.out w5 _ (Below.refl _ _)).mono ?_
    rintro e w6 ⟨L, rfl, h6⟩
    have HL6 := Lib.hid (HL5.out.step h6.below)
    have H6 : Hid (Holds w5 w6 L (gC g)) := Lib.hid h6
    clear h6 c0 c1 c2 c3 c4
    have c0 := HL6.out.a3.c0
    have c1 := HL6.out.a3.c1
    have c2 := HL6.out.a3.c2
    have c3 := HL6.out.a3.c3
    have c4 := HL6.out.a3.c4
    go_wp2_with fail
    go_at_call 14
    refine (PagAt.new H6.out g HOK.out).mono ?_
    rintro e w7 ⟨a, q, rfl, h7⟩
    have H7 := Lib.hid h7
    have HL7 := Lib.hid (HL5.out.step h7.holds.below)
    clear h7 c0 c1 c2 c3 c4 HL6 H6
    have c0 := HL7.out.a3.c0
    have c1 := HL7.out.a3.c1
    have c2 := HL7.out.a3.c2
    have c3 := HL7.out.a3.c3
    have c4 := HL7.out.a3.c4
    go_wp2_with fail
    go_at_call 14
    refine (HNN.out _).mono ?_
    rintro e w8 ⟨rfl, h8⟩
    have H8 := Lib.hid (H7.out.below h8)
    have HL8 := Lib.hid (HL5.out.step H8.out.holds.below)
    clear h8 H7 HL7 HNN c0 c1 c2 c3 c4
    have c0 := HL8.out.a4.c0
    have c1 := HL8.out.a4.c1
    have c2 := HL8.out.a4.c2
    have c3 := HL8.out.a4.c3
    have c4 := HL8.out.a4.c4
    go_wp2_with fail
    go_at_call 15
    refine (HGO.out _).mono ?_
    rintro e w9 ⟨rfl, h9⟩
    have H9 := Lib.hid (H8.out.below h9)
    have HL9 := Lib.hid (HL5.out.step H9.out.holds.below)
    clear h9 H8 HL8 HGO c0 c1 c2 c3 c4
    obtain ⟨s1, d1, e1, z1, l1, o1⟩ := read_in (c := gC g) (b := 0) (n := 0) (by show (0 : Int) ≤ 0 ∧ (0 : Int) < ((g.B.toNat : Nat) : Int); omega) (by show (0 : Int) ≤ 0 ∧ (0 : Int) < ((g.P.toNat : Nat) : Int); omega) rfl (good_fresh _ _ _) (by show 0 ≤ g.raw; rw [raw_nat HOK.out]; exact Int.natCast_nonneg _)
    have hz1 : (s1.size : Int) = rw := by rw [z1, HRW.out]; rfl
    have g1 : Good d1 := by have := good_readC (good_fresh g.B.toNat g.P.toNat g.raw) 0 0; unfold gC at e1; rw [e1] at this; exact this
    have by1 : d1.bytes = g.raw := l1.2.2
    obtain ⟨s2, d2, e2, _, l2, o2⟩ := read_in (c := d1) (b := g.B - 1) (n := g.P - 1) (by rw [l1.1]; show (0 : Int) ≤ g.B - 1 ∧ g.B - 1 < ((g.B.toNat : Nat) : Int); omega) (by rw [l1.2.1]; show (0 : Int) ≤ g.P - 1 ∧ g.P - 1 < ((g.P.toNat : Nat) : Int); omega) o1 g1 (by rw [by1, raw_nat HOK.out]; exact Int.natCast_nonneg _)
    have e3 : readC d2 g.B 0 = (⟨#[]⟩, 1, d2) := read_none (by rw [l2.1, l1.1]; show _ ∨ ((g.B.toNat : Nat) : Int) ≤ g.B ∨ _; omega)
    have HR1 := Lib.hid (fun W (h : PagAt w5 W L (gC g) a q g) => h.read 0 0)
    rw [e1] at HR1
    have HR2 := Lib.hid (fun W (h : PagAt w5 W L d1 a q g) => h.read (g.B - 1) (g.P - 1))
    rw [e2] at HR2
    have HR3 := Lib.hid (fun W (h : PagAt w5 W L d2 a q g) => h.read g.B 0)
    rw [e3] at HR3
    have f1 : IntKind.i64.wrap (g.B - 1) = g.B - 1 := by rw [IntKind.wrap_i64]; omega
    have f2 : IntKind.i64.wrap (g.P - 1) = g.P - 1 := by rw [IntKind.wrap_i64]; omega
    clear e1 z1 l1 o1 g1 by1 e2 l2 o2 e3
    go_wp2_with fail
    go_at_call 16
    refine (HR1.out _ H9.out).mono ?_
    rintro e w10 ⟨rfl, h10⟩
    have H10 := Lib.hid h10
    have HL10 := Lib.hid (HL5.out.step h10.holds.below)
    clear h10 H9 HL9
    have c0 := HL10.out.a1.c0
    have c1 := HL10.out.a1.c1
    go_wp2_with fail
    go_at_call 16
    refine (HR2.out _ H10.out).mono ?_
    rintro e w11 ⟨rfl, h11⟩
    have H11 := Lib.hid h11
    have HL11 := Lib.hid (HL5.out.step h11.holds.below)
    clear h11 H10 HL10 c0 c1
    have c0 := HL11.out.a1.c0
    go_wp2_with fail
    go_at_call 16
    refine (HR3.out _ H11.out).mono ?_
    rintro e w12 ⟨rfl, h12⟩
    have HL12 := Lib.hid (HL5.out.step h12.holds.below)
    clear h12 H11 HL11 c0
    go_wp2_with fail
    go_ret
    exact ⟨rfl, HL12.out.below⟩
  · have HOK := Lib.hid hok
    rw [decide_eq_false hok] at HGO
    have HCN := Lib.hid (fun w => Chip_no g hok w)
    clear hok
    go_wp2_with fail
    go_at_call 13
    refine (HCN.out _).mono ?_
    rintro e w6 ⟨rfl, h6⟩
    have HL6 := Lib.hid (HL5.out.step h6)
    clear h6 c0 c1 c2 c3 c4 HL5 HCN
    have c0 := HL6.out.a3.c0
    have c1 := HL6.out.a3.c1
    have c2 := HL6.out.a3.c2
    have c3 := HL6.out.a3.c3
    have c4 := HL6.out.a3.c4
    go_wp2_with fail
    go_at_call 14
    refine (HNN.out _).mono ?_
    rintro e w7 ⟨rfl, h7⟩
    have HL7 := Lib.hid (HL6.out.step h7)
    clear h7 c0 c1 c2 c3 c4 HL6
    have c0 := HL7.out.a3.c0
    have c1 := HL7.out.a3.c1
    have c2 := HL7.out.a3.c2
    have c3 := HL7.out.a3.c3
    have c4 := HL7.out.a3.c4
    go_wp2_with fail
    go_at_call 14
    refine (HNN.out _).mono ?_
    rintro e w8 ⟨rfl, h8⟩
    have HL8 := Lib.hid (HL7.out.step h8)
    clear h8 c0 c1 c2 c3 c4 HL7 HNN
    have c0 := HL8.out.a4.c0
    have c1 := HL8.out.a4.c1
    have c2 := HL8.out.a4.c2
    have c3 := HL8.out.a4.c3
    have c4 := HL8.out.a4.c4
    go_wp2_with fail
    go_at_call 15
    refine (HGO.out _).mono ?_
    rintro e w9 ⟨rfl, h9⟩
    have HL9 := Lib.hid (HL8.out.step h9)
    clear h9 HL8 c0 c1 c2 c3 c4
    go_wp2_with fail
    go_ret
    exact ⟨rfl, HL9.out.below⟩
end Go.Proofs.YtgfjeaegigjnaaaGreatDoor
