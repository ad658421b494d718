/- The walk of the law PageWrites. -/
import Derived.Test.YtgfjeaegigjnaaaGreatDoorPagS
namespace Go.Proofs.YtgfjeaegigjnaaaGreatDoor
open Go.RowKit
set_option linter.unusedVariables false
set_option linter.unusedSimpArgs false

theorem pw_none {g : Geo} (hg : g.ok) {b n : Int} (h : b < 0 ∨ g.B ≤ b ∨ n < 0 ∨ g.P ≤ n) {p : ByteArray} (hp : (p.size : Int) ≤ g.room) : pwC g (gC g) b n p = (1, gC g) := by
  unfold pwC
  rw [if_neg (by omega)]
  refine prog_none ?_ _
  show b < 0 ∨ ((g.B.toNat : Nat) : Int) ≤ b ∨ n < 0 ∨ ((g.P.toNat : Nat) : Int) ≤ n
  unfold Geo.ok at hg
  omega
/-- What has been written is read, and not written again. -/
theorem pw_read {g : Geo} (hg : g.ok) {b n : Nat} (hb : (b : Int) < g.B) (hn : (n : Int) < g.P) {p : ByteArray} (hp : (p.size : Int) ≤ g.room) :
    ∃ d, readC (gC1 g b n p) b n = (bytS (g.pageL p.data.toList), 0, d) ∧ pwC g d b n p = (21, d) := by
  have hb2 : b < (gC1 g b n p).nb := by show b < g.B.toNat; omega
  have hn2 : n < (gC1 g b n p).np := by show n < g.P.toNat; omega
  obtain ⟨d, hd⟩ : ∃ d : Chp, d = { (gC1 g b n p) with rd := upd (gC1 g b n p).rd b (wrap64 ((gC1 g b n p).rd b + 1)) } := ⟨_, rfl⟩
  refine ⟨d, ?_, ?_⟩
  · rw [read_fine hb2 hn2 rfl, readS_plain (show (0 : Int) < 1 by decide), hd]
    show (dataC g.raw ((gC1 g b n p).pg b n), _) = _
    rw [data_new]
  · unfold pwC
    rw [if_neg (by omega)]
    refine prog_order (c := d) (by rw [hd]; exact hb2) (by rw [hd]; exact hn2) _ (by rw [hd]; exact page_size hg hp) (by rw [hd]; rfl) (by rw [hd]; rfl) ?_
    rw [Bool.eq_false_iff]
    intro hc
    have h0 := ((cleanB_iff _ _ _).1 hc 0 (by rw [hd]; show 0 < g.P.toNat - n; omega)).1
    have h1 : ((gC1 g b n p).pg b n).st = 1 := by
      have : (gC1 g b n p).pg b n = { (gC g).pg b n with st := 1, data := bytS (g.pageL p.data.toList) } := upd2_val _ _ _ _
      rw [this]
    have h2 : ((gC1 g b n p).pg b n).st = 0 := by rw [hd] at h0; exact h0
    rw [h1] at h2
    cases h2
set_option maxHeartbeats 3200000 in
set_option maxRecDepth 100000 in
theorem PageWrites_walk (x0 x1 x2 x3 x4 : Int) (a0 a1 : Int) (pl : ByteArray) (w : World) (hn : NibAt w) (y0 : (Lit.int .i64 x0).wf = true) (y1 : (Lit.int .i64 x1).wf = true) (y2 : (Lit.int .i64 x2).wf = true) (y3 : (Lit.int .i64 x3).wf = true) (y4 : (Lit.int .i64 x4).wf = true) (y5 : (Lit.int .i64 a0).wf = true) (y6 : (Lit.int .i64 a1).wf = true) (y7 : pl.size ≤ 140737488351232) :
    Calls Tryz.prog 4 #[.agg #[.int .i64 x0, .int .i64 x1, .int .i64 x2, .int .i64 x3, .int .i64 x4], .agg #[.int .i64 a0, .int .i64 a1], .string pl] w fun e w' => e = .returned (.bool true) ∧ Below w.heap.size w w' := by
  have hg : 0 < w.heap.size := World.block_lt_of_cell? _ _ (hn 0 (by decide))
  clear y0 y1 y2 y3 y4 y5 y6 y7
  obtain ⟨g, hgv⟩ : ∃ g : Geo, g = ⟨x0, x1, x2, x3, x4⟩ := ⟨_, rfl⟩
  have e0 : x0 = g.B := by rw [hgv]
  have e1 : x1 = g.P := by rw [hgv]
  have e2 : x2 = g.C := by rw [hgv]
  have e3 : x3 = g.K := by rw [hgv]
  have e4 : x4 = g.T := by rw [hgv]
  clear hgv
  subst e0 e1 e2 e3 e4
  obtain ⟨wa, hwa⟩ : ∃ w1, w1 = w.alloc (.cells #[.int .i64 g.B, .int .i64 g.P, .int .i64 g.C, .int .i64 g.K, .int .i64 g.T] 22) := ⟨_, rfl⟩
  have hGa := GeoAt.new w g 22
  have hba : Below w.heap.size w wa := by rw [hwa]; exact (Below.refl _ _).alloc (Nat.le_refl _) _
  have hsa : wa.heap.size = w.heap.size + 1 := by rw [hwa]; simp
  rw [← hwa] at hGa
  obtain ⟨w1, hw1⟩ : ∃ w1, w1 = wa.alloc (.cells #[.int .i64 a0, .int .i64 a1] 43) := ⟨_, rfl⟩
  have hP1 := PairAt.new wa a0 a1 43
  have hbb : Below wa.heap.size wa w1 := by rw [hw1]; exact (Below.refl _ _).alloc (Nat.le_refl _) _
  have hs1 : w1.heap.size = w.heap.size + 2 := by rw [hw1]; simp; omega
  rw [← hw1] at hP1
  have hG1 := hGa.below hbb hGa.lt
  have hb1 : Below w.heap.size w w1 := hba.trans (hbb.mono hba.size)
  have HP1 := Lib.hid hP1
  have HG1 := Lib.hid hG1
  have HB1 := Lib.hid hb1
  have HSP := Lib.hid (speaks_ok w1 (hn.below hb1 hg) (Nat.lt_of_lt_of_le hg hb1.size))
  have HGE := Lib.hid (fun w => geometry_any g w)
  have HG : Hid (0 < w.heap.size) := Lib.hid hg
  have HN := Lib.hid hn
  have HS1 := Lib.hid hs1
  have HSA := Lib.hid hsa
  clear hn hg hb1 hG1 hs1 hba hsa hbb hP1 hGa
  go_enter Tryz.func4, Tryz.ntmps4
  go_upto_region 1 with fail
  rw [← hwa]
  rw [← hw1]
  clear hwa hw1
  obtain ⟨b1, hb1⟩ : ∃ b1, b1 = w.heap.size := ⟨_, rfl⟩
  obtain ⟨bp, hbp⟩ : ∃ b1, b1 = w.heap.size + 1 := ⟨_, rfl⟩
  have hsa := HSA.out
  rw [← hbp] at hsa
  rw [hsa] at HP1
  rw [← hb1] at HG1
  rw [← hbp, ← hb1]
  clear hb1 hbp hsa
  go_wp2_with fail
  go_at_call 9
  refine HSP.out.mono ?_
  rintro e w2 ⟨rfl, h2⟩
  have hG2 := HG1.out.below h2 HG1.out.lt
  have HP2 := Lib.hid (HP1.out.below h2 HP1.out.lt)
  have HB2 : Hid (Below w.heap.size w w2) := Lib.hid (HB1.out.trans (h2.mono HB1.out.size))
  have HG2 := Lib.hid hG2
  have c0 := hG2.c0
  have c1 := hG2.c1
  have c2 := hG2.c2
  have c3 := hG2.c3
  have c4 := hG2.c4
  clear h2 hG2 HSP HG1 HB1 HS1 HP1
  go_wp2_with fail
  go_at_call 10
  refine (HGE.out _).mono ?_
  rintro e w3 ⟨rfl, h3⟩
  have hG3 := HG2.out.below h3 HG2.out.lt
  have HP3 := Lib.hid (HP2.out.below h3 HP2.out.lt)
  have HB3 : Hid (Below w.heap.size w w3) := Lib.hid (HB2.out.trans (h3.mono HB2.out.size))
  have HG3 := Lib.hid hG3
  clear h3 hG3 HGE HB2 HG2 HP2 c0 c1 c2 c3 c4
  have hgv : g.v = .agg #[.int .i64 g.B, .int .i64 g.P, .int .i64 g.C, .int .i64 g.K, .int .i64 g.T] := rfl
  rw [hgv]
  clear hgv
  go_upto_region 4 with fail
  have HL : Hid (LawAt w ((w3.alloc (.cells #[.int .i64 g.B, .int .i64 g.P, .int .i64 g.C, .int .i64 g.K, .int .i64 g.T] 25)).alloc (.cells #[.int .i64 g.B, .int .i64 g.P, .int .i64 g.C, .int .i64 g.K, .int .i64 g.T] 26)) b1 w3.heap.size (w3.heap.size + 1) g) := Lib.hid (LawAt.of HB3.out HG3.out HN.out HG.out _ _)
  have HP : Hid (PairAt ((w3.alloc (.cells #[.int .i64 g.B, .int .i64 g.P, .int .i64 g.C, .int .i64 g.K, .int .i64 g.T] 25)).alloc (.cells #[.int .i64 g.B, .int .i64 g.P, .int .i64 g.C, .int .i64 g.K, .int .i64 g.T] 26)) bp a0 a1) := Lib.hid (HP3.out.below (((Below.refl _ _).alloc (Nat.le_refl _) _).alloc (by simp) _) HP3.out.lt)
  generalize ((w3.alloc (.cells #[.int .i64 g.B, .int .i64 g.P, .int .i64 g.C, .int .i64 g.K, .int .i64 g.T] 25)).alloc (.cells #[.int .i64 g.B, .int .i64 g.P, .int .i64 g.C, .int .i64 g.K, .int .i64 g.T] 26)) = w0 at *
  generalize (w3.heap.size + 1) = b4 at *
  generalize w3.heap.size = b3 at *
  clear HB3 HG3 HN HG HP3 HSA
  have c0 := HL.out.a3.c0
  have c1 := HL.out.a3.c1
  have c2 := HL.out.a3.c2
  have c3 := HL.out.a3.c3
  have c4 := HL.out.a3.c4
  have HSZ := Lib.hid (fun w => Sizes_any g w)
  by_cases hok : g.ok
  · have HOK := Lib.hid hok
    have hrm := room_bd hok
    have hpg := fun b n => @pw_fresh g hok b n
    have hpn := fun b n => @pw_none g hok b n
    have hpr := fun b n => @pw_read g hok b n
    have hrp := rpage_any g hok pl
    have hpx : ∀ (c : Chp) (b n : Int), g.room < pl.size → pwC g c b n pl = (2, c) := fun c b n h => by unfold pwC; rw [if_pos h]
    have HGB : Hid (1 ≤ g.B ∧ 4 ≤ g.P) := Lib.hid (by unfold Geo.ok at hok; omega)
    obtain ⟨rw, hrw⟩ : ∃ r, r = g.raw := ⟨_, rfl⟩
    obtain ⟨rm, hrm2⟩ : ∃ r, r = g.room := ⟨_, rfl⟩
    rw [← hrw, ← hrm2] at HSZ
    rw [← hrm2] at hrm hpg hpn hpr hpx hrp
    have HPF := Lib.hid (fun b n hb hn h => hpg b n hb hn (p := pl) h)
    have HPN := Lib.hid (fun b n hb h => hpn b n hb (p := pl) h)
    have HPR := Lib.hid (fun b n hb hn h => hpr b n hb hn (p := pl) h)
    have HRP := Lib.hid hrp
    have HPX := Lib.hid hpx
    have HWR := Lib.hid (fun W L c a q b n (h : PagAt w0 W L c a q g) => pwrite_any h HL.out.nib HL.out.ng b n pl)
    clear hok hpg hpn hpr hpx hrw hrm2 hrp
    go_wp2_with fail
    go_at_call 13
    refine (Chip_yes g HOK.out w0 _ (Below.refl _ _)).mono ?_
    rintro e w6 ⟨L, rfl, h6⟩
    have HL6 := Lib.hid (HL.out.step h6.below)
    have H6 : Hid (Holds w0 w6 L (gC g)) := Lib.hid h6
    clear h6 c0 c1 c2 c3 c4
    have c0 := HL6.out.a3.c0
    have c1 := HL6.out.a3.c1
    have c2 := HL6.out.a3.c2
    have c3 := HL6.out.a3.c3
    have c4 := HL6.out.a3.c4
    go_wp2_with fail
    go_at_call 14
    refine (PagAt.new H6.out g HOK.out).mono ?_
    rintro e w7 ⟨a, q, rfl, h7⟩
    have H7 := Lib.hid h7
    have HL7 := Lib.hid (HL.out.step h7.holds.below)
    clear h7 c0 c1 c2 c3 c4 HL6 H6
    have c0 := HL7.out.a4.c0
    have c1 := HL7.out.a4.c1
    have c2 := HL7.out.a4.c2
    have c3 := HL7.out.a4.c3
    have c4 := HL7.out.a4.c4
    go_wp2_with fail
    go_at_call 12
    refine (HSZ.out _).mono ?_
    rintro e w8 ⟨rfl, h8⟩
    have H8 := Lib.hid (H7.out.below h8)
    have HL8 := Lib.hid (HL.out.step H8.out.holds.below)
    have HP8 := Lib.hid (HP.out.below H8.out.holds.below HP.out.lt)
    clear h8 H7 HL7 HSZ c0 c1 c2 c3 c4
    have p0 := HP8.out.c0
    have p1 := HP8.out.c1
    by_cases hlong : rm < (pl.size : Int)
    · have HW2 := Lib.hid (HWR.out _ _ _ _ _ a0 a1 H8.out)
      rw [HPX.out _ _ _ hlong] at HW2
      go_wp2_with fail
      go_at_call 17
      refine HW2.out.mono ?_
      rintro e w9 ⟨rfl, h9⟩
      have HL9 := Lib.hid (HL.out.step h9.holds.below)
      clear h9
      go_wp2_with fail
      go_ret
      exact ⟨rfl, HL9.out.below⟩
    · have hfit : (pl.size : Int) ≤ rm := by omega
      by_cases hin : 0 ≤ a0 ∧ a0 < g.B ∧ 0 ≤ a1 ∧ a1 < g.P
      · obtain ⟨i1, i2, i3, i4⟩ := hin
        obtain ⟨m0, rfl⟩ : ∃ m : Nat, a0 = m := ⟨a0.toNat, by omega⟩
        obtain ⟨m1, rfl⟩ : ∃ m : Nat, a1 = m := ⟨a1.toNat, by omega⟩
        have HW2 := Lib.hid (HWR.out _ _ _ _ _ (m0 : Int) (m1 : Int) H8.out)
        rw [HPF.out m0 m1 i2 i4 hfit] at HW2
        obtain ⟨d, hd1, hd2⟩ := HPR.out m0 m1 i2 i4 hfit
        have HRD := Lib.hid (fun W (h : PagAt w0 W L (gC1 g m0 m1 pl) a q g) => h.read (m0 : Int) (m1 : Int))
        rw [hd1] at HRD
        have HW3 := Lib.hid (fun W h => HWR.out W L d a q (m0 : Int) (m1 : Int) h)
        rw [hd2] at HW3
        have HR2 := Lib.hid (HRP.out hfit)
        obtain ⟨PG, hPG⟩ : ∃ PG, PG = bytS (g.pageL pl.data.toList) := ⟨_, rfl⟩
        rw [← hPG] at HRD HR2
        clear hd1 hd2 hPG hfit
        have j1 : ¬ (m0 : Int) < 0 := by omega
        have j2 : ¬ g.B ≤ (m0 : Int) := by omega
        have j3 : ¬ (m1 : Int) < 0 := by omega
        have j4 : ¬ g.P ≤ (m1 : Int) := by omega
        go_wp2_with fail
        go_at_call 17
        refine HW2.out.mono ?_
        rintro e w9 ⟨rfl, h9⟩
        have H9 := Lib.hid h9
        have HL9 := Lib.hid (HL.out.step h9.holds.below)
        have HP9 := Lib.hid (HP.out.below h9.holds.below HP.out.lt)
        clear h9 H8 HL8 HP8 p0 p1 HW2
        have p0 := HP9.out.c0
        have p1 := HP9.out.c1
        have l0 := HL9.out.a1.c0
        have l1 := HL9.out.a1.c1
        go_wp2_with fail
        go_at_call 16
        refine (HRD.out _ H9.out).mono ?_
        rintro e w10 ⟨rfl, h10⟩
        have H10 := Lib.hid h10
        have HL10 := Lib.hid (HL.out.step h10.holds.below)
        have HP10 := Lib.hid (HP.out.below h10.holds.below HP.out.lt)
        clear h10 H9 HL9 HP9 p0 p1 l0 l1 HRD
        have c0 := HL10.out.a4.c0
        have c1 := HL10.out.a4.c1
        have c2 := HL10.out.a4.c2
        have c3 := HL10.out.a4.c3
        have c4 := HL10.out.a4.c4
        go_wp2_with fail
        go_at_call 18
        refine (HR2.out _).mono ?_
        rintro e w11 ⟨rfl, h11⟩
        have H11 := Lib.hid (H10.out.below h11)
        have HP11 := Lib.hid (HP.out.below H11.out.holds.below HP.out.lt)
        clear h11 H10 HL10 HP10 c0 c1 c2 c3 c4 HR2
        have p0 := HP11.out.c0
        have p1 := HP11.out.c1
        go_wp2_with fail
        go_at_call 17
        refine (HW3.out _ H11.out).mono ?_
        rintro e w12 ⟨rfl, h12⟩
        have HL12 := Lib.hid (HL.out.step h12.holds.below)
        clear h12
        go_wp2_with fail
        go_ret
        exact ⟨rfl, HL12.out.below⟩
      · have HW2 := Lib.hid (HWR.out _ _ _ _ _ a0 a1 H8.out)
        rw [HPN.out a0 a1 (by omega) hfit] at HW2
        go_wp2_with fail
        go_at_call 17
        refine HW2.out.mono ?_
        rintro e w9 ⟨rfl, h9⟩
        have HL9 := Lib.hid (HL.out.step h9.holds.below)
        have HP9 := Lib.hid (HP.out.below h9.holds.below HP.out.lt)
        clear h9 H8 HL8 HP8 p0 p1 HW2
        have p0 := HP9.out.c0
        have p1 := HP9.out.c1
        have l0 := HL9.out.a1.c0
        have l1 := HL9.out.a1.c1
        have HIN := Lib.hid hin
        clear hin
        by_cases k1 : a0 < 0
        · go_wp2_with fail
          go_ret
          exact ⟨rfl, HL9.out.below⟩
        by_cases k2 : g.B ≤ a0
        · go_wp2_with fail
          go_ret
          exact ⟨rfl, HL9.out.below⟩
        by_cases k3 : a1 < 0
        · go_wp2_with fail
          go_ret
          exact ⟨rfl, HL9.out.below⟩
        have k4 : g.P ≤ a1 := by
          have := HIN.out
          omega
        go_wp2_with fail
        go_ret
        exact ⟨rfl, HL9.out.below⟩
  · have HCN := Lib.hid (fun w => Chip_no g hok w)
    clear hok
    go_wp2_with fail
    go_at_call 13
    refine (HCN.out _).mono ?_
    rintro e w6 ⟨rfl, h6⟩
    have HL6 := Lib.hid (HL.out.step h6)
    clear h6 c0 c1 c2 c3 c4 HL HCN
    go_wp2_with fail
    go_ret
    exact ⟨rfl, HL6.out.below⟩
end Go.Proofs.YtgfjeaegigjnaaaGreatDoor
