/- The walk of the law PageReads. -/
import Derived.Test.YtgfjeaegigjnaaaGreatDoorLReadsA
namespace Go.Proofs.YtgfjeaegigjnaaaGreatDoor
open Go.RowKit
set_option linter.unusedVariables false
set_option linter.unusedSimpArgs false

theorem PairAt.new3 (w : World) (x y z : Int) (T : TypeId) : PairAt (w.alloc (.cells #[.int .i64 x, .int .i64 y, .int .i64 z] T)) w.heap.size x y :=
  ⟨World.cell?_alloc_new _ _ _ _, World.cell?_alloc_new _ _ _ _⟩
set_option maxHeartbeats 3200000 in
set_option maxRecDepth 100000 in
theorem PageReads_walk (x0 x1 x2 x3 x4 : Int) (pl : ByteArray) (a0 a1 a2 : Int) (w : World) (hn : NibAt w) (y0 : (Lit.int .i64 x0).wf = true) (y1 : (Lit.int .i64 x1).wf = true) (y2 : (Lit.int .i64 x2).wf = true) (y3 : (Lit.int .i64 x3).wf = true) (y4 : (Lit.int .i64 x4).wf = true) (y5 : pl.size ≤ 140737488351232) (y6 : (Lit.int .i64 a0).wf = true) (y7 : (Lit.int .i64 a1).wf = true) (y8 : (Lit.int .i64 a2).wf = true) :
    Calls Tryz.prog 8 #[.agg #[.int .i64 x0, .int .i64 x1, .int .i64 x2, .int .i64 x3, .int .i64 x4], .string pl, .agg #[.int .i64 a0, .int .i64 a1, .int .i64 a2]] w fun e w' => e = .returned (.bool true) ∧ Below w.heap.size w w' := by
  have hg : 0 < w.heap.size := World.block_lt_of_cell? _ _ (hn 0 (by decide))
  clear y0 y1 y2 y3 y4 y5 y6 y7 y8
  obtain ⟨g, hgv⟩ : ∃ g : Geo, g = ⟨x0, x1, x2, x3, x4⟩ := ⟨_, rfl⟩
  have e0 : x0 = g.B := by rw [hgv]
  have e1 : x1 = g.P := by rw [hgv]
  have e2 : x2 = g.C := by rw [hgv]
  have e3 : x3 = g.K := by rw [hgv]
  have e4 : x4 = g.T := by rw [hgv]
  clear hgv
  subst e0 e1 e2 e3 e4
  obtain ⟨wa, hwa⟩ : ∃ w1, w1 = w.alloc (.cells #[.int .i64 g.B, .int .i64 g.P, .int .i64 g.C, .int .i64 g.K, .int .i64 g.T] 22) := ⟨_, rfl⟩
  have hGa := GeoAt.new w g 22
  have hba : Below w.heap.size w wa := by rw [hwa]; exact (Below.refl _ _).alloc (Nat.le_refl _) _
  have hsa : wa.heap.size = w.heap.size + 1 := by rw [hwa]; simp
  rw [← hwa] at hGa
  obtain ⟨w1, hw1⟩ : ∃ w1, w1 = wa.alloc (.cells #[.int .i64 a0, .int .i64 a1, .int .i64 a2] 61) := ⟨_, rfl⟩
  have hP1 := PairAt.new3 wa a0 a1 a2 61
  have hbb : Below wa.heap.size wa w1 := by rw [hw1]; exact (Below.refl _ _).alloc (Nat.le_refl _) _
  have hs1 : w1.heap.size = w.heap.size + 2 := by rw [hw1]; simp; omega
  rw [← hw1] at hP1
  have hG1 := hGa.below hbb hGa.lt
  have hb1 : Below w.heap.size w w1 := hba.trans (hbb.mono hba.size)
  have HP1 := Lib.hid hP1
  have HG1 := Lib.hid hG1
  have HB1 := Lib.hid hb1
  have HSP := Lib.hid (speaks_ok w1 (hn.below hb1 hg) (Nat.lt_of_lt_of_le hg hb1.size))
  have HGE := Lib.hid (fun w => geometry_any g w)
  have HG : Hid (0 < w.heap.size) := Lib.hid hg
  have HN := Lib.hid hn
  have HS1 := Lib.hid hs1
  have HSA := Lib.hid hsa
  clear hn hg hb1 hG1 hs1 hba hsa hbb hP1 hGa
  go_enter Tryz.func8, Tryz.ntmps8
  go_upto_region 1 with fail
  rw [← hwa]
  rw [← hw1]
  clear hwa hw1
  obtain ⟨b1, hb1⟩ : ∃ b1, b1 = w.heap.size := ⟨_, rfl⟩
  obtain ⟨bp, hbp⟩ : ∃ b1, b1 = w.heap.size + 1 := ⟨_, rfl⟩
  have hsa := HSA.out
  rw [← hbp] at hsa
  rw [hsa] at HP1
  rw [← hb1] at HG1
  rw [← hbp, ← hb1]
  clear hb1 hbp hsa
  go_wp2_with fail
  go_at_call 9
  refine HSP.out.mono ?_
  rintro e w2 ⟨rfl, h2⟩
  have hG2 := HG1.out.below h2 HG1.out.lt
  have HP2 := Lib.hid (HP1.out.below h2 HP1.out.lt)
  have HB2 : Hid (Below w.heap.size w w2) := Lib.hid (HB1.out.trans (h2.mono HB1.out.size))
  have HG2 := Lib.hid hG2
  have c0 := hG2.c0
  have c1 := hG2.c1
  have c2 := hG2.c2
  have c3 := hG2.c3
  have c4 := hG2.c4
  clear h2 hG2 HSP HG1 HB1 HS1 HP1
  go_wp2_with fail
  go_at_call 10
  refine (HGE.out _).mono ?_
  rintro e w3 ⟨rfl, h3⟩
  have hG3 := HG2.out.below h3 HG2.out.lt
  have HP3 := Lib.hid (HP2.out.below h3 HP2.out.lt)
  have HB3 : Hid (Below w.heap.size w w3) := Lib.hid (HB2.out.trans (h3.mono HB2.out.size))
  have HG3 := Lib.hid hG3
  clear h3 hG3 HGE HB2 HG2 HP2 c0 c1 c2 c3 c4
  have hgv : g.v = .agg #[.int .i64 g.B, .int .i64 g.P, .int .i64 g.C, .int .i64 g.K, .int .i64 g.T] := rfl
  rw [hgv]
  clear hgv
  go_upto_region 4 with fail
  have HL : Hid (LawAt w ((w3.alloc (.cells #[.int .i64 g.B, .int .i64 g.P, .int .i64 g.C, .int .i64 g.K, .int .i64 g.T] 25)).alloc (.cells #[.int .i64 g.B, .int .i64 g.P, .int .i64 g.C, .int .i64 g.K, .int .i64 g.T] 26)) b1 w3.heap.size (w3.heap.size + 1) g) := Lib.hid (LawAt.of HB3.out HG3.out HN.out HG.out _ _)
  have HP : Hid (PairAt ((w3.alloc (.cells #[.int .i64 g.B, .int .i64 g.P, .int .i64 g.C, .int .i64 g.K, .int .i64 g.T] 25)).alloc (.cells #[.int .i64 g.B, .int .i64 g.P, .int .i64 g.C, .int .i64 g.K, .int .i64 g.T] 26)) bp a0 a1) := Lib.hid (HP3.out.below (((Below.refl _ _).alloc (Nat.le_refl _) _).alloc (by simp) _) HP3.out.lt)
  generalize ((w3.alloc (.cells #[.int .i64 g.B, .int .i64 g.P, .int .i64 g.C, .int .i64 g.K, .int .i64 g.T] 25)).alloc (.cells #[.int .i64 g.B, .int .i64 g.P, .int .i64 g.C, .int .i64 g.K, .int .i64 g.T] 26)) = w0 at *
  generalize (w3.heap.size + 1) = b4 at *
  generalize w3.heap.size = b3 at *
  clear HB3 HG3 HN HG HP3 HSA
  have c0 := HL.out.a3.c0
  have c1 := HL.out.a3.c1
  have c2 := HL.out.a3.c2
  have c3 := HL.out.a3.c3
  have c4 := HL.out.a3.c4
  obtain ⟨rw, hrw⟩ : ∃ r, r = g.raw := ⟨_, rfl⟩
  obtain ⟨rm, hrm⟩ : ∃ r, r = g.room := ⟨_, rfl⟩
  have HSZ := Lib.hid (fun w => Sizes_any g w)
  rw [← hrw, ← hrm] at HSZ
  have HRW := Lib.hid (And.intro hrw hrm)
  clear hrw hrm
  by_cases hok : g.ok
  · have HOK := Lib.hid hok
    obtain ⟨RM, hRM⟩ : ∃ n : Nat, rm = n := ⟨rm.toNat, by have h1 := room_bd hok; have h2 := HRW.out.2; omega⟩
    subst hRM
    have k1 : (rw == 0) = false := by
      have h1 := raw_nat hok
      have h2 : 1 * 16 ≤ g.C.toNat * (g.K.toNat + parN g.T.toNat) := by
        unfold Geo.ok at hok
        exact Nat.mul_le_mul (by omega) (by omega)
      have h3 := HRW.out.1
      simp; omega
    clear hok
    go_wp2_with fail
    go_at_call 13
    refine (Chip_yes g HOK.out w0 _ (Below.refl _ _)).mono ?_
    rintro e w4 ⟨L, rfl, h4⟩
    have H4 : Hid (Holds w0 w4 L (gC g)) := Lib.hid h4
    have HL4 := Lib.hid (HL.out.step h4.below)
    clear h4 c0 c1 c2 c3 c4
    have c0 := HL4.out.a4.c0
    have c1 := HL4.out.a4.c1
    have c2 := HL4.out.a4.c2
    have c3 := HL4.out.a4.c3
    have c4 := HL4.out.a4.c4
    go_wp2_with fail
    go_at_call 12
    refine (HSZ.out _).mono ?_
    rintro e w5 ⟨rfl, h5⟩
    have H5 : Hid (Holds w0 w5 L (gC g)) := Lib.hid (H4.out.step (H4.out.at_.stays (S := fun _ => False) (Stays.of_below h5) (fun _ _ => id)) H4.out.good (Like.refl _) (Stays.of_below h5))
    have HL5 := Lib.hid (HL.out.step H5.out.below)
    clear h5 H4 HL4 HSZ c0 c1 c2 c3 c4
    by_cases k2 : RM < pl.size
    · go_wp2_with fail
      go_ret
      exact ⟨rfl, HL5.out.below⟩
    have hok := HOK.out
    have hpa : (pl.size : Int) ≤ g.room := by have := HRW.out.2; omega
    have hwf := pw_fresh hok (b := 0) (n := 1) (by unfold Geo.ok at hok; omega) (by unfold Geo.ok at hok; omega) hpa
    have HW1 := Lib.hid (fun W L a q (h : PagAt w0 W L (gC g) a q g) => pwrite_any h HL.out.nib HL.out.ng 0 1 pl)
    rw [show pwC g (gC g) 0 1 pl = (0, gC1 g 0 1 pl) from hwf] at HW1
    have hT1 : 1 ≤ g.T ∧ g.T ≤ 8 ∧ 1 ≤ g.C ∧ g.C ≤ 4 := by unfold Geo.ok at hok; omega
    obtain ⟨t1, t8, q1, q4⟩ := hT1
    obtain ⟨r1, hr1⟩ : ∃ r1, r1 = a1.tmod g.T := ⟨_, rfl⟩
    have hr1b : -g.T < r1 ∧ r1 < g.T := by
      rw [hr1]
      exact ⟨by have := Int.lt_tmod_of_pos a1 (show 0 < g.T by omega); omega, Int.tmod_lt_of_pos a1 (by omega)⟩
    obtain ⟨mo, hmo⟩ : ∃ mo, mo = (r1 + g.T).tmod g.T := ⟨_, rfl⟩
    have hmob : 0 ≤ mo ∧ mo < g.T := by
      rw [hmo]
      exact ⟨Int.tmod_nonneg _ (by omega), Int.tmod_lt_of_pos _ (by omega)⟩
    have w1e : IntKind.i64.wrap (r1 + g.T) = r1 + g.T := by rw [IntKind.wrap_i64]; omega
    have w2e : IntKind.i64.wrap (mo + 1) = mo + 1 := by rw [IntKind.wrap_i64]; omega
    have w3e : rw.tdiv g.C = (g.sz : Int) := by
      rw [HRW.out.1, raw_nat hok, Int.natCast_mul, Int.toNat_of_nonneg (by omega), Int.mul_tdiv_cancel_left _ (by omega)]; rfl
    have z1 : (g.T == 0) = false := by simp; omega
    have z2 : (g.C == 0) = false := by simp; omega
    have z3 : ¬ g.T = 0 := by omega
    have z4 : ¬ g.C = 0 := by omega
    have hmu : 0 ≤ g.C * (mo + 1) ∧ g.C * (mo + 1) ≤ 32 := by
      have := mul4 q1 q4 (show 0 ≤ mo + 1 by omega); omega
    have w4e : IntKind.i64.wrap (g.C * (mo + 1)) = g.C * (mo + 1) := by rw [IntKind.wrap_i64]; omega
    have HMO := Lib.hid (And.intro hmo hmob)
    have HR1E := Lib.hid (And.intro hr1 hr1b)
    have HOP := Lib.hid hpa
    have HMU := Lib.hid hmu
    clear hok hpa hwf hr1 hmo hr1b hmob hmu
    have c0 := HL5.out.a3.c0
    have c1 := HL5.out.a3.c1
    have c2 := HL5.out.a3.c2
    have c3 := HL5.out.a3.c3
    have c4 := HL5.out.a3.c4
    go_wp2_with fail
    go_at_call 14
    refine (PagAt.new H5.out g HOK.out).mono ?_
    rintro e w7 ⟨a, q, rfl, h7⟩
    have H7 := Lib.hid h7
    clear h7 c0 c1 c2 c3 c4 H5 HL5
    go_wp2_with fail
    go_at_call 17
    refine (HW1.out _ _ _ _ H7.out).mono ?_
    rintro e w8 ⟨rfl, h8⟩
    have H8 := Lib.hid h8
    have hl8 := HL.out.step h8.holds.below
    have hp8 := HP.out.below h8.holds.below HP.out.lt
    have c4 := hl8.a1.c4
    have p1 := hp8.c1
    clear h8 H7 HW1 hl8 hp8
    go_upto_region 11 with fail
    have m1e : a1.tmod g.T = r1 := HR1E.out.1.symm
    have m2e : (r1 + g.T).tmod g.T = mo := HMO.out.1.symm
    have m3e : IntKind.i64.wrap r1 = r1 := by have := HR1E.out.2; rw [IntKind.wrap_i64]; omega
    have m4e : IntKind.i64.wrap mo = mo := by have := HMO.out.2; rw [IntKind.wrap_i64]; omega
    go_quiet (fail)
    clear m1e m2e m3e m4e c4 p1
    have H9 := Lib.hid (H8.out.below (below_drewN w8 nq))
    generalize w8.drewN nq = w9 at *
    have hl9 := HL.out.step H9.out.holds.below
    have hp9 := HP.out.below H9.out.holds.below HP.out.lt
    have c2 := hl9.a1.c2
    have p0 := hp9.c0
    clear hl9 hp9 H8
    obtain ⟨ms, hms⟩ : ∃ ms, ms = mo + 1 := ⟨_, rfl⟩
    have v1e : IntKind.i64.wrap (mo + 1) = ms := by rw [w2e, hms]
    obtain ⟨SZ, hSZ⟩ : ∃ SZ : Int, SZ = (g.sz : Int) := ⟨_, rfl⟩
    have hszb : 0 ≤ SZ ∧ SZ ≤ 300 := by
      have := HOK.out
      unfold Geo.ok at this
      rw [hSZ]; unfold Geo.sz parN; omega
    have v2e : IntKind.i64.wrap (rw.tdiv g.C) = SZ := by rw [w3e, ← hSZ, IntKind.wrap_i64]; omega
    have HMS := Lib.hid (And.intro hms hSZ)
    have HNO := Lib.hid (fun W L a q (h : PagAt w0 W L (gC1 g 0 1 pl) a q g) => h.noise a0 ms SZ)
    clear hms hSZ hszb w1e w2e w3e w4e
    go_upto_region 12 with fail
    go_region_held3 (fun W' => W'.cell? ⟨bp, 0, none⟩ = some (.int .i64 a0) ∧ W'.cell? ⟨b1, 2, none⟩ = some (.int .i64 g.C))
      (first | (exact ⟨p0, c2⟩) | (exact ⟨d0, d2⟩) | go_keep)
      ((go_at_call 25; refine (HNO.out _ _ _ _ (by first | exact H9.out | exact H9.out.below ((Below.refl _ _).drew))).mono ?_; rintro e w10 ⟨rfl, h10⟩; have H10 := Lib.hid h10; have d0 := (HP.out.below h10.holds.below HP.out.lt).c0; have d2 := (HL.out.step h10.holds.below).a1.c2; clear h10))
    have HC : Hid (ChN g { (gC1 g 0 1 pl) with seed := a0, most := ms, piece := SZ } pl ms) := Lib.hid (by rw [HMS.out.2]; exact chn_of pl a0 ms)
    obtain ⟨dc, hdc⟩ : ∃ d : Chp, d = { (gC1 g 0 1 pl) with seed := a0, most := ms, piece := SZ } := ⟨_, rfl⟩
    rw [← hdc] at HC H10
    have HB : Hid (1 ≤ ms ∧ ms ≤ g.T) := Lib.hid (by have h1 := HMO.out.2; have h2 := HMS.out.1; omega)
    clear hdc d0 d2 p0 c2 H9 HNO k1 z1 z2 z3 z4
    obtain ⟨m, hm⟩ : ∃ m, m = RM - pl.size := ⟨_, rfl⟩
    have hplm : pl.size + m = RM := by omega
    have hRM2 : RM ≤ 1017 := by have h1 := room_bd HOK.out; have h2 := HRW.out.2; omega
    have hcv := conv_strN pl w10
    have HO : Hid (OwnT (Lib.bytesWorld w10 5 pl) w10.heap.size (.slice (some ⟨w10.heap.size, 0, none⟩) pl.size (grownCap w10 pl.size 0 5)) pl.data.toList) := Lib.hid (OwnT.of_conv w10 pl (by unfold maxLen; omega))
    have HFB : Hid ((∀ k, Foot L dc.nb k → k < w10.heap.size) ∧ q < w10.heap.size) := Lib.hid ⟨H10.out.foot_lt, H10.out.code.lc⟩
    have HNB : Hid (dc.nb = g.B.toNat) := Lib.hid HC.out.nb
    have HB1 : Hid (Below w10.heap.size w10 (Lib.bytesWorld w10 5 pl)) := Lib.hid (below_bytes w10 pl)
    have HPZ : Hid (pl.data.toList.length = pl.size) := Lib.hid (by simp)
    have HFL : Hid (pl.data.toList ++ Lib.repeatL [0] m = padL g.room.toNat pl.data.toList) := Lib.hid (by
      unfold padL
      have h2 := HRW.out.2
      rw [HPZ.out, show g.room.toNat = RM by omega, ← hm])
    clear hm k2
    go_wp2_with fail
    clear hcv
    generalize Lib.bytesWorld w10 5 pl = w11 at *
    generalize grownCap w10 pl.size 0 5 = cap0 at *
    obtain ⟨B0, hB0⟩ : ∃ B0, B0 = w10.heap.size := ⟨_, rfl⟩
    have HB0 := Lib.hid hB0
    rw [← hB0] at HO HFB HB1
    rw [← hB0]
    clear hB0
    go_loopw [16] (fun bv wr => ∃ (j gz cz : Nat), j ≤ m ∧ bv = .slice (some ⟨gz, 0, none⟩) (pl.size + j) cz ∧ Hid (OwnT wr B0 (.slice (some ⟨gz, 0, none⟩) (pl.size + j) cz) (pl.data.toList ++ Lib.repeatL [0] j)) ∧ Hid (Below B0 w10 wr)) (fun bv _ => RM - lenV bv)
    case atStart => exact ⟨0, B0, cap0, Nat.zero_le _, rfl, Lib.hid (by have := HO.out; simpa [Lib.repeatL] using this), HB1⟩
    case round =>
      obtain ⟨j, gz, cz, hj, rfl, HOz, HBz⟩ := hrel
      clear HO HB1
      obtain ⟨wz, rfl⟩ : ∃ wz : World, wz = wr := ⟨_, rfl⟩
      by_cases hlt : j < m
      · have hltI : ((pl.size + j : Nat) : Int) < (RM : Int) := by omega
        have HN : Hid (pl.data.toList ++ Lib.repeatL [0] (j + 1) = pl.data.toList ++ Lib.repeatL [0] j ++ [0]) := Lib.hid (by rw [rep_snoc, List.append_assoc])
        have hle : (pl.data.toList ++ Lib.repeatL [(0 : UInt8)] j).length = pl.size + j := by rw [List.length_append, HPZ.out, repeatL_len]
        have HLE := Lib.hid hle
        clear hle
        go_wp2_with (at_builtin; refine wpList_appendT rfl _ _ rfl B0 _ _ rfl (HOz.out.alloc _) ⟨wz.heap.size, 0, none⟩ 1 [0] 1 rfl rfl ?c1 ?c2 ?c3 ?_)
        case c1 =>
          intro u hu
          obtain rfl : u = 0 := by simp at hu; exact hu
          rw [addr_add0, World.cell?_alloc_new]; rfl
        case c2 => rw [HLE.out]; simp only [List.length_cons, List.length_nil]; omega
        case c3 => have := HBz.out.size; have := HB0.out; simp; omega
        intro v' w2' hown' hgrow
        have HB2 : Hid (Below B0 w10 w2') := Lib.hid ((HBz.out.alloc (by have := HBz.out.size; have := HB0.out; omega) _).grown hgrow (by have := HBz.out.size; have := HB0.out; simp; omega) (fun x hx => (HOz.out.lt x hx).1))
        obtain ⟨g2, c2', hv2, hg2, _⟩ := OwnT.row hown'
        have hl2 : (pl.data.toList ++ Lib.repeatL [(0 : UInt8)] j ++ [0]).length = pl.size + (j + 1) := by rw [List.length_append, HLE.out]; rfl
        rw [List.append_assoc] at hl2
        rw [hl2] at hv2
        subst hv2
        have HO2 : Hid (OwnT w2' B0 (.slice (some ⟨g2, 0, none⟩) (pl.size + (j + 1)) c2') (pl.data.toList ++ Lib.repeatL [0] (j + 1))) := Lib.hid (by rw [HN.out, List.append_assoc]; exact hown')
        clear hown' hgrow HOz HBz hl2
        go_wp2_with fail
        go_roundw
        case rel => exact ⟨j + 1, g2, c2', by omega, rfl, HO2, HB2⟩
        case measure => show RM - (pl.size + (j + 1)) < RM - (pl.size + j); omega
      · obtain rfl : j = m := by omega
        rw [hplm] at HOz
        rw [hplm]
        have HOF : Hid (OwnT wz B0 (.slice (some ⟨gz, 0, none⟩) RM cz) (padL g.room.toNat pl.data.toList)) := Lib.hid (by rw [← HFL.out]; exact HOz.out)
        have HFZ : Hid ((padL g.room.toNat pl.data.toList).length = RM) := Lib.hid (by rw [← HFL.out, List.length_append, HPZ.out, repeatL_len]; exact hplm)
        obtain ⟨FL, hFL⟩ : ∃ FL, FL = padL g.room.toNat pl.data.toList := ⟨_, rfl⟩
        rw [← hFL] at HOF HFZ
        have HFE := Lib.hid hFL
        have Hz : Hid (PagAt w0 wz L dc a q g) := Lib.hid (H10.out.below (by rw [← HB0.out]; exact HBz.out))
        have HZz : Hid (B0 ≤ wz.heap.size) := Lib.hid (by have := HBz.out.size; have := HB0.out; omega)
        clear hFL HOz HBz H10 HFL hlt hj
        go_wp2_with fail
        go_loopw [17] (fun iv wr => ∃ (i : Nat) (d : Chp), i ≤ 4 ∧ iv = .int .i64 (i : Int) ∧ Hid (ChN g d pl ms) ∧ Hid (PagAt w0 wr L d a q g) ∧ Hid (OwnT wr B0 (.slice (some ⟨gz, 0, none⟩) RM cz) FL) ∧ Hid (B0 ≤ wr.heap.size)) (fun iv _ => 4 - (intOf iv).toNat)
        case atStart => exact ⟨0, dc, by omega, rfl, HC, Hz, HOF, HZz⟩
        case round =>
          obtain ⟨i, d, hi, rfl, HCd, Hd, HOd, HZd⟩ := hrel
          clear HC Hz HOF HZz
          obtain ⟨wx, rfl⟩ : ∃ wx : World, wx = wr := ⟨_, rfl⟩
          have HTO : Hid (∀ (W W' : World) (d : Chp), d.nb = dc.nb → B0 ≤ W.heap.size → OwnT W B0 (.slice (some ⟨gz, 0, none⟩) RM cz) FL → Stays (Touch L d.nb q W.heap.size) W W' → OwnT W' B0 (.slice (some ⟨gz, 0, none⟩) RM cz) FL) := Lib.hid (fun W W' d hnb hz ho k => ho.stays k (fun x hx hlt => by
            rintro (e | e | e)
            · rw [hnb] at e; have := HFB.out.1 x e; omega
            · have := HFB.out.2; omega
            · omega))
          by_cases hlt : i < 4
          · obtain ⟨s1, d1, k, e1, HC1, hk, ev1⟩ := HCd.out.read1 HOK.out HB.out.1 HB.out.2 HOP.out
            obtain ⟨s2, d2, e2, HC2, ev2⟩ := HC1.read2 HOK.out HB.out.1 HB.out.2
            have HR1 := Lib.hid (Hd.out.pread HL.out.nib HL.out.ng HCd.out.by_ 0 1)
            have HR2 := Lib.hid (fun W (h : PagAt w0 W L d1 a q g) => h.pread HL.out.nib HL.out.ng HC1.by_ 0 2)
            rw [e1] at HR1
            rw [e2] at HR2
            simp only at HR1 HR2
            rw [ev1] at HR1
            rw [ev2] at HR2
            have HU : Hid (bytS (padL g.room.toNat pl.data.toList) = bytS FL) := Lib.hid (by rw [HFE.out])
            rw [HU.out] at HR1
            obtain ⟨UA, hUA⟩ : ∃ UA, UA = bytS FL := ⟨_, rfl⟩
            rw [← hUA] at HR1
            have HUA := Lib.hid hUA
            have HC2' := Lib.hid HC2
            have HNB1 : Hid (d1.nb = dc.nb ∧ d.nb = dc.nb) := Lib.hid ⟨by rw [HC1.nb, HNB.out], by rw [HCd.out.nb, HNB.out]⟩
            clear e1 HC1 e2 HC2 ev1 ev2 hUA HU
            have hltI : (i : Int) < 4 := by omega
            go_wp2_with fail
            go_at_call 21
            refine HR1.out.mono ?_
            rintro e w12 ⟨rfl, h12, t12⟩
            have HO12 := Lib.hid (HTO.out _ _ _ HNB1.out.2 HZd.out HOd.out t12)
            have H12 := Lib.hid h12
            have HZ12 : Hid (B0 ≤ w12.heap.size) := Lib.hid (Nat.le_trans HZd.out t12.size)
            clear h12 t12 HR1 HOd Hd HZd
            go_upto_region 20 with fail
            have H12b := Lib.hid (H12.out.below ((Below.refl _ _).alloc (Nat.le_refl _) (.cells #[.int .i64 1, .string UA, .int .i64 (k : Int)] 50)))
            have HO12b := Lib.hid (HO12.out.alloc (.cells #[.int .i64 1, .string UA, .int .i64 (k : Int)] 50))
            have HF12 := Lib.hid (FoundAt.new w12 1 (k : Int) UA 50)
            have HFT := Lib.hid H12.out.foot_lt
            have HZ12b : Hid (B0 ≤ (w12.alloc (.cells #[.int .i64 1, .string UA, .int .i64 (k : Int)] 50)).heap.size) := Lib.hid (by have := HZ12.out; simp; omega)
            generalize (w12.alloc (.cells #[.int .i64 1, .string UA, .int .i64 (k : Int)] 50)) = w13 at *
            generalize w12.heap.size = bu at *
            clear H12 HO12 HZ12
            go_wp2_with fail
            go_at_call 21
            refine (HR2.out _ H12b.out).mono ?_
            rintro e w14 ⟨rfl, h14, t14⟩
            have hF14 := HF12.out.touch H12b.out HFT.out t14
            have hO14 := HTO.out _ _ _ HNB1.out.1 HZ12b.out HO12b.out t14
            have H14 := Lib.hid h14
            have HZ14 : Hid (B0 ≤ w14.heap.size) := Lib.hid (Nat.le_trans HZ12b.out t14.size)
            clear h14 t14 H12b HF12 HFT HR2 HO12b HZ12b
            go_upto_region 21 with fail
            have HF15 := Lib.hid (hF14.below ((Below.refl _ _).alloc (Nat.le_refl _) (.cells #[.int .i64 0, .string ⟨#[]⟩, .int .i64 0] 50)) hF14.lt)
            have HG15 := Lib.hid (FoundAt.new w14 0 0 ⟨#[]⟩ 50)
            have H15 := Lib.hid (H14.out.below ((Below.refl _ _).alloc (Nat.le_refl _) (.cells #[.int .i64 0, .string ⟨#[]⟩, .int .i64 0] 50)))
            have HO15 := Lib.hid (hO14.alloc (.cells #[.int .i64 0, .string ⟨#[]⟩, .int .i64 0] 50))
            have HZ15 : Hid (B0 ≤ (w14.alloc (.cells #[.int .i64 0, .string ⟨#[]⟩, .int .i64 0] 50)).heap.size) := Lib.hid (by have := HZ14.out; simp; omega)
            generalize (w14.alloc (.cells #[.int .i64 0, .string ⟨#[]⟩, .int .i64 0] 50)) = w15 at *
            generalize w14.heap.size = bv at *
            clear hF14 hO14 H14 HZ14
            have u0 := HF15.out.c0
            have u1 := HF15.out.c1
            have u2 := HF15.out.c2
            have v0 := HG15.out.c0
            have v1 := HG15.out.c1
            have v2 := HG15.out.c2
            have l2 := (HL.out.step H15.out.holds.below).a1.c2
            have hcs : (convert 47 9 (.slice (some ⟨gz, 0, none⟩) RM cz)).run Tryz.prog w15 = .ok (.string UA) w15 := by
              have := OwnT.string (cap := cz) gz (by rw [HFZ.out]; exact HO15.out)
              rw [HFZ.out] at this
              rw [HUA.out]
              exact this
            have z1 : (UA.toList != UA.toList) = false := by simp
            have w2e : IntKind.i64.wrap (mo + 1) = ms := v1e
            have w4e : wrap64 (g.C * ms) = g.C * ms := by have := HMU.out; rw [← HMS.out.1] at this; exact IntWalk.wrap64_in _ ⟨by omega, by omega⟩
            have hk2 : ¬ g.C * ms < (k : Int) := by omega
            have hk0 : ¬ (k : Int) < 0 := by omega
            obtain ⟨cm, hcm⟩ : ∃ cm, cm = g.C * ms := ⟨_, rfl⟩
            rw [← hcm] at hk2
            have w5e : wrap64 (g.C * ms) = cm := by rw [w4e, hcm]
            clear w4e
            clear hcm hk
            go_wp2_with fail
            go_roundw
            case rel => exact ⟨i + 1, d2, by omega, by go_num, HC2', H15, HO15, HZ15⟩
            case measure => simp [intOf]; omega
          · obtain rfl : i = 4 := by omega
            obtain ⟨d5, d6, s5, es, hby, er, ev⟩ := HCd.out.spoil HOK.out HB.out.1 HB.out.2
            have HSP := Lib.hid (Hd.out.spoil 0 1)
            rw [es] at HSP
            have HR5 := Lib.hid (fun W (h : PagAt w0 W L d5 a q g) => h.pread HL.out.nib HL.out.ng hby 0 1)
            rw [er] at HR5
            simp only at HR5
            rw [ev] at HR5
            clear es hby er ev HTO
            go_wp2_with fail
            go_at_call 26
            refine HSP.out.mono ?_
            rintro e w20 ⟨rfl, h20⟩
            have H20 := Lib.hid h20
            clear h20 HSP Hd
            go_wp2_with fail
            go_at_call 21
            refine (HR5.out _ H20.out).mono ?_
            rintro e w21 ⟨rfl, h21, _⟩
            have HL21 : Hid (Below w.heap.size w w21) := Lib.hid (HL.out.step h21.holds.below).below
            clear h21 H20 HR5
            go_wp2_with fail
            go_ret
            exact ⟨rfl, HL21.out.alloc HL21.out.size _⟩
  · have HOK := Lib.hid hok
    have k1 : rw = 0 := by rw [HRW.out.1]; unfold Geo.raw; rw [if_neg hok]
    have HCN := Lib.hid (fun w => Chip_no g hok w)
    clear hok
    subst k1
    go_wp2_with fail
    go_at_call 13
    refine (HCN.out _).mono ?_
    rintro e w4 ⟨rfl, h4⟩
    have HL4 := Lib.hid (HL.out.step h4)
    clear h4 c0 c1 c2 c3 c4
    have c0 := HL4.out.a4.c0
    have c1 := HL4.out.a4.c1
    have c2 := HL4.out.a4.c2
    have c3 := HL4.out.a4.c3
    have c4 := HL4.out.a4.c4
    go_wp2_with fail
    go_at_call 12
    refine (HSZ.out _).mono ?_
    rintro e w5 ⟨rfl, h5⟩
    have HL5 := Lib.hid (HL4.out.step h5)
    clear h5 HL4 HSZ c0 c1 c2 c3 c4
    go_wp2_with fail
    go_ret
    exact ⟨rfl, HL5.out.below⟩
end Go.Proofs.YtgfjeaegigjnaaaGreatDoor
