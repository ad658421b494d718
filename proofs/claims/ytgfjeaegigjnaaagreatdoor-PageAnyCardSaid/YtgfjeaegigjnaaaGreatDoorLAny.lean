/- The walk of the law PageAny. -/
import Derived.Test.YtgfjeaegigjnaaaGreatDoorLReadsA
import Derived.Deep.DeepFit
namespace Go.Proofs.YtgfjeaegigjnaaaGreatDoor
open Go.RowKit
set_option linter.unusedVariables false
set_option linter.unusedSimpArgs false

theorem BytesAt.below {w w' : World} {g : Nat} {l : List UInt8} (h : BytesAt w g l) (hg : g < w.heap.size) (k : Below w.heap.size w w') : BytesAt w' g l := h.stays hg (Stays.of_below (k)) (S := fun _ => False) id
theorem BytesAt.put {w : World} {g : Nat} {l : List UInt8} (h : BytesAt w g l) {i : Nat} (hi : i < l.length) (x : UInt8) : BytesAt (w.setCell ⟨g, i, none⟩ (.int .u8 (x.toNat : Int))) g (l.set i x) := by
  constructor
  · intro j hj
    rw [List.length_set] at hj
    by_cases e : j = i
    · subst e
      rw [World.cell?_setCell_same _ _ _ (h.cell j hj), List.getD_eq_getElem?_getD, List.getElem?_set_self hj]; rfl
    · rw [World.cell?_setCell_other _ _ _ _ (addr_ne_off (Ne.symm e)), h.cell j hj, List.getD_eq_getElem?_getD, List.getD_eq_getElem?_getD, List.getElem?_set_ne (Ne.symm e)]
  · intro j hj
    rw [List.length_set] at hj
    rw [World.frozen?_setCell]
    exact h.free j hj
/-- A stretch of bytes, as a text. -/
theorem BytesAt.text {w : World} {g : Nat} {l : List UInt8} (h : BytesAt w g l) (o n cap : Nat) (hn : o + n ≤ l.length) : (convert 47 9 (.slice (some ⟨g, o, none⟩) n cap)).run Tryz.prog w = .ok (.string (bytS ((l.drop o).take n))) w := by
  have hl : ((l.drop o).take n).length = n := by rw [List.length_take, List.length_drop]; omega
  have := run_convert_bytes_back (P := Tryz.prog) w 47 9 5 ⟨g, o, none⟩ cap ((l.drop o).take n) (by kernel_rfl) (by kernel_rfl) (by kernel_rfl) (by
    intro j hj
    rw [hl] at hj
    have e : (⟨g, o, none⟩ : Addr).add j = ⟨g, o + j, none⟩ := addr_add g o j
    rw [e, h.cell (o + j) (by omega), List.getD_eq_getElem?_getD, List.getElem?_eq_getElem (show o + j < l.length by omega), List.getElem_take, List.getElem_drop]
    rfl)
  rw [hl] at this
  exact this
theorem pop_not (x : UInt8) : pop (x ^^^ 255) = 8 - pop x := (pop_u8 x).2
theorem max_u8 (x : UInt8) : bits BinOp.xor IntKind.u8 IntKind.u8.max (x.toNat : Int) = (((x ^^^ 255).toNat : Nat) : Int) := by
  have h := bits_xor .u8 8 (by decide) wraps_u8 255 x.toNat (by decide) x.toNat_lt
  rw [UInt8.toNat_xor, show (255 : UInt8).toNat = 255 from rfl, Nat.xor_comm]
  exact h
theorem not_u8 (x : UInt8) : (255 - (x.toNat : Int)) = (((x ^^^ 255).toNat : Nat) : Int) := by
  have h : ((List.range 256).all fun z => (z ^^^ 255) == 255 - z) = true := by decide +kernel
  rw [List.all_eq_true] at h
  have h1 := h x.toNat (by have := x.toNat_lt; simp; omega)
  have h2 := x.toNat_lt
  rw [UInt8.toNat_xor]
  have h3 : x.toNat ^^^ 255 = 255 - x.toNat := by simpa using h1
  have h4 : (255 : UInt8).toNat = 255 := rfl
  rw [h4, h3]
  omega
/-- What is read of whatever bytes, in its three parts. -/
theorem readL_cases {g : Geo} (hg : g.ok) {R : List UInt8} (hR : R.length = g.C.toNat * g.sz) : ∃ (st : Int) (p : ByteArray) (n : Int), g.readL R = .agg #[.int .i64 st, .string p, .int .i64 n] ∧
    ((emptyB g.sz g.C.toNat g.T R ∧ st = 0 ∧ p = ⟨#[]⟩ ∧ n = 0) ∨ (¬ emptyB g.sz g.C.toNat g.T R ∧ st = 2 ∧ p = ⟨#[]⟩ ∧ n = 0) ∨
      (¬ emptyB g.sz g.C.toNat g.T R ∧ st = 1 ∧ ∃ pay : List UInt8, p = bytS pay ∧ (pay.length : Int) = g.room ∧ n = ((hamS g.T.toNat g.K.toNat R (g.pageL pay) g.C.toNat : Nat) : Int) ∧ ∀ i, i < g.C.toNat → hamC g.T.toNat g.K.toNat R (g.pageL pay) i ≤ g.T.toNat)) := by
  by_cases he : emptyB g.sz g.C.toNat g.T R
  · refine ⟨0, ⟨#[]⟩, 0, ?_, .inl ⟨he, rfl, rfl, rfl⟩⟩
    unfold Geo.readL
    rw [if_pos (show emptyB (g.K.toNat + parN g.T.toNat) g.C.toNat g.T R from he)]; rfl
  · rcases readL_any hg hR he with h | ⟨pay, h1, h2, h3⟩
    · exact ⟨2, ⟨#[]⟩, 0, h, .inr (.inl ⟨he, rfl, rfl, rfl⟩)⟩
    · exact ⟨1, bytS pay, _, h2, .inr (.inr ⟨he, rfl, pay, rfl, h1, rfl, h3⟩)⟩
theorem LawAt.step' {w w0 w' : World} {b1 b3 b4 : Nat} {g : Geo} (h : LawAt w w0 b1 b3 b4 g) (k : Below w0.heap.size w0 w') : LawAt w w' b1 b3 b4 g := h.step k
/-- What stands while a page's bytes are looked at. -/
structure AnyAt (w W : World) (b1 b3 b4 : Nat) (g : Geo) (gb : Nat) (l : List UInt8) (bx : Nat) (st : Int) (p : ByteArray) (n : Int) : Prop where
  law : LawAt w W b1 b3 b4 g
  row : BytesAt W gb l
  fnd : FoundAt W bx st p n
  gl : gb < W.heap.size
theorem AnyAt.below {w W W' : World} {b1 b3 b4 gb bx : Nat} {g : Geo} {l : List UInt8} {st n : Int} {p : ByteArray} (h : AnyAt w W b1 b3 b4 g gb l bx st p n) (k : Below W.heap.size W W') : AnyAt w W' b1 b3 b4 g gb l bx st p n :=
  ⟨h.law.step k, h.row.below h.gl k, h.fnd.below k h.fnd.lt, Nat.lt_of_lt_of_le h.gl k.size⟩
set_option maxHeartbeats 6400000 in
set_option maxRecDepth 100000 in
theorem PageAny_walk (x0 x1 x2 x3 x4 : Int) (bs : ByteArray) (w : World) (hn : NibAt w) (y0 : (Lit.int .i64 x0).wf = true) (y1 : (Lit.int .i64 x1).wf = true) (y2 : (Lit.int .i64 x2).wf = true) (y3 : (Lit.int .i64 x3).wf = true) (y4 : (Lit.int .i64 x4).wf = true) (y5 : bs.size ≤ 140737488351232) :
    Calls Tryz.prog 5 #[.agg #[.int .i64 x0, .int .i64 x1, .int .i64 x2, .int .i64 x3, .int .i64 x4], .string bs] w fun e w' => e = .returned (.bool true) ∧ Below w.heap.size w w' := by
  have hg : 0 < w.heap.size := World.block_lt_of_cell? _ _ (hn 0 (by decide))
  clear y0 y1 y2 y3 y4 
  obtain ⟨g, hgv⟩ : ∃ g : Geo, g = ⟨x0, x1, x2, x3, x4⟩ := ⟨_, rfl⟩
  have e0 : x0 = g.B := by rw [hgv]
  have e1 : x1 = g.P := by rw [hgv]
  have e2 : x2 = g.C := by rw [hgv]
  have e3 : x3 = g.K := by rw [hgv]
  have e4 : x4 = g.T := by rw [hgv]
  clear hgv
  subst e0 e1 e2 e3 e4
  obtain ⟨w1, hw1⟩ : ∃ w1, w1 = w.alloc (.cells #[.int .i64 g.B, .int .i64 g.P, .int .i64 g.C, .int .i64 g.K, .int .i64 g.T] 22) := ⟨_, rfl⟩
  have hG1 := GeoAt.new w g 22
  have hb1 : Below w.heap.size w w1 := by rw [hw1]; exact (Below.refl _ _).alloc (Nat.le_refl _) _
  have hs1 : w1.heap.size = w.heap.size + 1 := by rw [hw1]; simp
  rw [← hw1] at hG1
  have HG1 := Lib.hid hG1
  have HB1 := Lib.hid hb1
  have HSP := Lib.hid (speaks_ok w1 (hn.below hb1 hg) (Nat.lt_of_lt_of_le hg hb1.size))
  have HGE := Lib.hid (fun w => geometry_any g w)
  have HG : Hid (0 < w.heap.size) := Lib.hid hg
  have HN := Lib.hid hn
  have HS1 := Lib.hid hs1
  clear hn hg hb1 hG1 hs1
  go_enter Tryz.func5, Tryz.ntmps5
  go_upto_region 1 with fail
  rw [← hw1]
  clear hw1
  obtain ⟨b1, hb1⟩ : ∃ b1, b1 = w.heap.size := ⟨_, rfl⟩
  rw [← hb1] at HG1
  rw [← hb1]
  clear hb1
  go_wp2_with fail
  go_at_call 9
  refine HSP.out.mono ?_
  rintro e w2 ⟨rfl, h2⟩
  have hG2 := HG1.out.below h2 HG1.out.lt
  have HB2 : Hid (Below w.heap.size w w2) := Lib.hid (HB1.out.trans (h2.mono HB1.out.size))
  have HG2 := Lib.hid hG2
  have c0 := hG2.c0
  have c1 := hG2.c1
  have c2 := hG2.c2
  have c3 := hG2.c3
  have c4 := hG2.c4
  clear h2 hG2 HSP HG1 HB1 HS1
  go_wp2_with fail
  go_at_call 10
  refine (HGE.out _).mono ?_
  rintro e w3 ⟨rfl, h3⟩
  have hG3 := HG2.out.below h3 HG2.out.lt
  have HB3 : Hid (Below w.heap.size w w3) := Lib.hid (HB2.out.trans (h3.mono HB2.out.size))
  have HG3 := Lib.hid hG3
  clear h3 hG3 HGE HB2 HG2 c0 c1 c2 c3 c4
  have hgv : g.v = .agg #[.int .i64 g.B, .int .i64 g.P, .int .i64 g.C, .int .i64 g.K, .int .i64 g.T] := rfl
  rw [hgv]
  clear hgv
  go_upto_region 4 with fail
  have HL : Hid (LawAt w ((w3.alloc (.cells #[.int .i64 g.B, .int .i64 g.P, .int .i64 g.C, .int .i64 g.K, .int .i64 g.T] 25)).alloc (.cells #[.int .i64 g.B, .int .i64 g.P, .int .i64 g.C, .int .i64 g.K, .int .i64 g.T] 26)) b1 w3.heap.size (w3.heap.size + 1) g) := Lib.hid (LawAt.of HB3.out HG3.out HN.out HG.out _ _)
  generalize ((w3.alloc (.cells #[.int .i64 g.B, .int .i64 g.P, .int .i64 g.C, .int .i64 g.K, .int .i64 g.T] 25)).alloc (.cells #[.int .i64 g.B, .int .i64 g.P, .int .i64 g.C, .int .i64 g.K, .int .i64 g.T] 26)) = w0 at *
  generalize (w3.heap.size + 1) = b4 at *
  generalize w3.heap.size = b3 at *
  clear HB3 HG3 HN HG
  have c0 := HL.out.a4.c0
  have c1 := HL.out.a4.c1
  have c2 := HL.out.a4.c2
  have c3 := HL.out.a4.c3
  have c4 := HL.out.a4.c4
  obtain ⟨rw, hrw⟩ : ∃ r, r = g.raw := ⟨_, rfl⟩
  obtain ⟨rm, hrm⟩ : ∃ r, r = g.room := ⟨_, rfl⟩
  have HSZ := Lib.hid (fun w => Sizes_any g w)
  rw [← hrw, ← hrm] at HSZ
  have HRW := Lib.hid (And.intro hrw hrm)
  clear hrw hrm
  go_wp2_with fail
  go_at_call 12
  refine (HSZ.out _).mono ?_
  rintro e w4 ⟨rfl, h4⟩
  have HL4 := Lib.hid (HL.out.step h4)
  clear h4 HL HSZ c0 c1 c2 c3 c4
  by_cases k1 : rw = 0
  · go_wp2_with fail
    go_ret
    exact ⟨rfl, HL4.out.below⟩
  have hok : g.ok := Classical.byContradiction fun h => k1 (by rw [HRW.out.1]; unfold Geo.raw; rw [if_neg h])
  have HOK := Lib.hid hok
  obtain ⟨R, hR⟩ : ∃ n : Nat, rw = n := ⟨rw.toNat, by rw [HRW.out.1, raw_nat hok]; exact (Int.toNat_of_nonneg (Int.natCast_nonneg _)).symm⟩
  have hRs : R = g.C.toNat * g.sz := by have h1 := HRW.out.1; rw [raw_nat hok, hR] at h1; exact_mod_cast h1
  have hRb : 1 ≤ R ∧ R ≤ 1076 := by
    unfold Geo.ok at hok
    rw [hRs]
    have h1 : 1 * 1 ≤ g.C.toNat * g.sz := Nat.mul_le_mul (by omega) (by unfold Geo.sz; omega)
    have h2 : g.C.toNat * g.sz ≤ 4 * 269 := Nat.mul_le_mul (by omega) (by unfold Geo.sz parN; omega)
    omega
  subst hR
  have HRS := Lib.hid hRs
  obtain ⟨R1, R2⟩ := hRb
  have k0 : ((R : Int) == 0) = false := by simp; omega
  clear hok hRs k1
  have hmk := make_bytes R (by omega) w4
  have HBA : Hid (BytesAt (w4.alloc (.cells (madeCells #[.int .u8 0] R) 5)) w4.heap.size (List.replicate R 0)) := Lib.hid ⟨fun j hj => by
    rw [List.length_replicate] at hj
    rw [World.cell?_alloc_new, madeCells_getN _ _ _ hj, List.getD_eq_getElem?_getD, List.getElem?_replicate, if_pos hj]; rfl, fun j _ => World.frozen?_alloc_new _ _ _ _⟩
  have HG0 : Hid (w4.heap.size < (w4.alloc (.cells (madeCells #[.int .u8 0] R) 5)).heap.size) := Lib.hid (by simp)
  have HB0 : Hid (Below w4.heap.size w4 (w4.alloc (.cells (madeCells #[.int .u8 0] R) 5))) := Lib.hid ((Below.refl _ _).alloc (Nat.le_refl _) _)
  obtain ⟨gb, hgb⟩ : ∃ gb, gb = w4.heap.size := ⟨_, rfl⟩
  have HGB := Lib.hid hgb
  go_wp2_with fail
  clear hmk
  generalize (w4.alloc (.cells (madeCells #[.int .u8 0] R) 5)) = w5 at *
  rw [← hgb] at HBA HG0
  rw [← hgb]
  clear hgb
  go_loopw [10] (fun iv wr => ∃ (i : Nat) (l : List UInt8), i ≤ R ∧ iv = .int .i64 (i : Int) ∧ Hid (l.length = R) ∧ Hid (BytesAt wr gb l) ∧ Hid (Below w4.heap.size w4 wr) ∧ Hid (gb < wr.heap.size)) (fun iv _ => R - (intOf iv).toNat)
  case atStart => exact ⟨0, _, Nat.zero_le _, rfl, Lib.hid List.length_replicate, HBA, HB0, HG0⟩
  case round =>
    obtain ⟨i, l, hi, rfl, HLL, HBr, HBB, HGr⟩ := hrel
    clear HBA HB0 HG0
    obtain ⟨wz, rfl⟩ : ∃ wz : World, wz = wr := ⟨_, rfl⟩
    by_cases hlt : i < R
    · have hltI : (i : Int) < (R : Int) := by omega
      by_cases hb0 : bs.size = 0
      · have hbI : ¬ (0 : Int) < (bs.size : Int) := by omega
        go_wp2_with fail
        go_roundw
        case rel => exact ⟨i + 1, l, by omega, by go_num, HLL, HBr, HBB, HGr⟩
        case measure => simp [intOf]; omega
      · have hbI : (0 : Int) < (bs.size : Int) := by omega
        obtain ⟨m, hm⟩ : ∃ m, m = i % bs.size := ⟨_, rfl⟩
        have hmI : (i : Int).tmod (bs.size : Int) = (m : Int) := by rw [← Int.ofNat_tmod, hm]
        have hml : m < bs.size := by rw [hm]; exact Nat.mod_lt _ (by omega)
        have hmlI : (m : Int) < (bs.size : Int) := by omega
        have hz : ((bs.size : Int) == 0) = false := beq_eq_false_iff_ne.2 (by omega)
        have hz2 : ¬ (bs.size : Int) = 0 := by omega
        have hfr := HBr.out.free i (by rw [HLL.out]; exact hlt)
        have hcl := HBr.out.cell i (by rw [HLL.out]; exact hlt)
        clear hm
        have HP2 : Hid (BytesAt (wz.setCell ⟨gb, i, none⟩ (.int .u8 (bs[m].toNat : Int))) gb (l.set i bs[m])) := Lib.hid (HBr.out.put (by rw [HLL.out]; exact hlt) bs[m])
        have HL2 : Hid ((l.set i bs[m]).length = R) := Lib.hid (by rw [List.length_set]; exact HLL.out)
        have HB2 : Hid (Below w4.heap.size w4 (wz.setCell ⟨gb, i, none⟩ (.int .u8 (bs[m].toNat : Int)))) := Lib.hid (HBB.out.setCell (p := ⟨gb, i, none⟩) (by show w4.heap.size ≤ gb; rw [HGB.out]; exact Nat.le_refl _) _)
        have HG2 : Hid (gb < (wz.setCell ⟨gb, i, none⟩ (.int .u8 (bs[m].toNat : Int))).heap.size) := Lib.hid (by have := HGr.out; simpa [World.setCell] using this)
        go_wp2_with fail
        go_roundw
        case rel => exact ⟨i + 1, _, by omega, by go_num, HL2, HP2, HB2, HG2⟩
        case measure => simp [intOf]; omega
    · obtain rfl : R = i := by omega
      have hok := HOK.out
      have HLb := Lib.hid (HL4.out.step HBB.out)
      clear HBB HGB HL4 hlt hi
      have hno : newOk 1 4 R := by unfold newOk; omega
      have hraw : (R : Int) = g.raw := HRW.out.1
      have hdl : l.length = g.C.toNat * g.sz := by rw [HLL.out]; exact HRS.out
      obtain ⟨st, p, n, hrl, hcs⟩ := readL_cases hok hdl
      have HCS := Lib.hid hcs
      obtain ⟨c1, hc1⟩ : ∃ c : Chp, c = progFine { (freshC 1 4 (R : Int)) with changes := wrap64 (0 + 1) } 0 0 (bytS l) := ⟨_, rfl⟩
      have hpr : programC (freshC 1 4 (R : Int)) 0 0 (bytS l) = (0, c1) := by
        rw [hc1]
        exact prog_fine (c := freshC 1 4 (R : Int)) (b := 0) (n := 0) (by show (0 : Nat) < 1; decide) (by show (0 : Nat) < 4; decide) (bytS l) (by rw [bytS_size, HLL.out]; rfl) rfl rfl rfl (by rw [cleanB_iff]; exact fun _ _ => ⟨rfl, rfl⟩)
      have hby : c1.bytes = g.raw := by rw [hc1]; exact hraw
      obtain ⟨d1, hd1⟩ : ∃ d, readC c1 0 0 = (bytS l, 0, d) := by
        have h := read_fine (c := c1) (b := 0) (n := 0) (by rw [hc1]; show (0 : Nat) < 1; decide) (by rw [hc1]; show (0 : Nat) < 4; decide) (by rw [hc1]; rfl)
        rw [readS_plain (by rw [hc1]; show (0 : Int) < 1; decide)] at h
        have h2 : dataC c1.bytes (c1.pg 0 0) = bytS l := by rw [hc1, fine_at]; rfl
        rw [h2] at h
        exact ⟨_, h⟩
      have hv : g.readV (bytS l) 0 = .agg #[.int .i64 st, .string p, .int .i64 n] := by
        unfold Geo.readV
        rw [if_neg (by decide), bytS_list, hrl]
      have HNW := Lib.hid (fun W => new_at 1 4 R wz W)
      have HPG := Lib.hid (fun W L a q (h : PagAt wz W L (freshC 1 4 (R : Int)) a q g) => h.program 0 0 (bytS l))
      rw [hpr] at HPG
      have HRD := Lib.hid (fun W L a q (h : PagAt wz W L c1 a q g) => h.pread HLb.out.nib HLb.out.ng hby 0 0)
      rw [hd1] at HRD
      simp only at HRD
      rw [hv] at HRD
      have HNO := Lib.hid hno
      obtain ⟨SZ, hSZ⟩ : ∃ SZ, SZ = g.sz := ⟨_, rfl⟩
      obtain ⟨Cn, hCn⟩ : ∃ n : Nat, g.C = n := ⟨g.C.toNat, by unfold Geo.ok at hok; omega⟩
      have hC4 : 1 ≤ Cn ∧ Cn ≤ 4 := by unfold Geo.ok at hok; omega
      have hS16 : 17 ≤ SZ ∧ SZ ≤ 269 := by unfold Geo.ok at hok; rw [hSZ]; unfold Geo.sz parN; omega
      have hRC : R = Cn * SZ := by have := HRS.out; rw [hCn] at this; rw [hSZ]; exact this
      have w3e : (R : Int).tdiv g.C = (SZ : Int) := by
        rw [hCn, hRC, Int.natCast_mul, Int.mul_tdiv_cancel_left _ (by omega)]
      have z2 : (g.C == 0) = false := beq_eq_false_iff_ne.2 (by omega)
      have z4 : ¬ g.C = 0 := by omega
      have HSZ := Lib.hid (And.intro hSZ (And.intro hCn hRC))
      obtain ⟨hc41, hc44⟩ := hC4
      obtain ⟨hs17, hs269⟩ := hS16
      clear hok hno hraw hdl hrl hcs hc1 hpr hby hd1 hv hRC hSZ hCn k0
      go_wp2_with fail
      go_at_call 19
      refine (HNW.out _ (Below.refl _ _) HNO.out).mono ?_
      rintro e w6 ⟨L, rfl, h6⟩
      have H6 : Hid (Holds wz w6 L (freshC 1 4 (R : Int))) := Lib.hid h6
      have hl6 := HLb.out.step h6.below
      have c0 := hl6.a3.c0
      have c1' := hl6.a3.c1
      have c2 := hl6.a3.c2
      have c3 := hl6.a3.c3
      have c4 := hl6.a3.c4
      clear h6 hl6 HNW
      go_wp2_with fail
      go_at_call 14
      refine (PagAt.new H6.out g HOK.out).mono ?_
      rintro e w7 ⟨a, q, rfl, h7⟩
      have H7 := Lib.hid h7
      have hb7 : BytesAt w7 gb l := HBr.out.below HGr.out h7.holds.below
      have hcv : (convert 47 9 (.slice (some ⟨gb, 0, none⟩) R R)).run Tryz.prog w7 = .ok (.string (bytS l)) w7 := by
        have := hb7.text 0 R R (by rw [HLL.out]; omega)
        rw [List.drop_zero, ← HLL.out, List.take_length] at this
        rw [HLL.out] at this
        exact this
      clear h7 hb7 H6 c0 c1' c2 c3 c4
      go_wp2_with fail
      go_at_call 20
      refine (HPG.out _ _ _ _ H7.out).mono ?_
      rintro e w8 ⟨rfl, h8⟩
      have H8 := Lib.hid h8
      clear h8 H7 hcv HPG
      go_wp2_with fail
      go_at_call 21
      refine (HRD.out _ _ _ _ H8.out).mono ?_
      rintro e w9 ⟨rfl, h9, _⟩
      have hb9 : BytesAt w9 gb l := HBr.out.below HGr.out h9.holds.below
      have hl9 := HLb.out.step h9.holds.below
      have hg9 : gb < w9.heap.size := Nat.lt_of_lt_of_le HGr.out h9.holds.below.size
      have hA : AnyAt w (w9.alloc (.cells #[.int .i64 st, .string p, .int .i64 n] 50)) b1 b3 b4 g gb l w9.heap.size st p n := by
        have ha : Below w9.heap.size w9 (w9.alloc (.cells #[.int .i64 st, .string p, .int .i64 n] 50)) := (Below.refl _ _).alloc (Nat.le_refl _) _
        exact ⟨hl9.step' ha, hb9.below hg9 ha, FoundAt.new w9 st n p _, by simp; omega⟩
      have HA := Lib.hid hA
      clear h9 hb9 hl9 hg9 hA H8 HRD HLb HBr HGr
      go_upto_region 18 with fail
      generalize (w9.alloc (.cells #[.int .i64 st, .string p, .int .i64 n] 50)) = w10 at *
      generalize w9.heap.size = bx at *
      have HEB : Hid (∀ o : Bool, (o = true ↔ ∀ j, j < Cn → zer (ckL SZ l j) ≤ g.T) → (o = true ↔ emptyB g.sz g.C.toNat g.T l)) := Lib.hid (fun o h => by
        rw [h, HSZ.out.1, HSZ.out.2.1]; exact Iff.rfl)
      have HT8 : Hid (1 ≤ g.T ∧ g.T ≤ 8) := Lib.hid (by have := HOK.out; unfold Geo.ok at this; omega)
      have l2 := HA.out.law.a1.c2
      have l4 := HA.out.law.a1.c4
      have HSF := Lib.hid HSZ.out.1
      go_wp2_with fail
      go_loop [18, 19] (fun ev iv => ∃ (j : Nat) (o : Bool), j ≤ Cn ∧ iv = .int .i64 (j : Int) ∧ ev = .bool o ∧ Hid (o = true ↔ ∀ x, x < j → zer (ckL SZ l x) ≤ g.T)) (fun _ iv => Cn - (intOf iv).toNat)
      case atStart => exact ⟨0, true, Nat.zero_le _, rfl, rfl, Lib.hid ⟨fun _ x hx => absurd hx (by omega), fun _ => rfl⟩⟩
      case round =>
        obtain ⟨j, o, hj, rfl, rfl, HO⟩ := hrel
        by_cases hlt : j < Cn
        · have hltI : (j : Int) < g.C := by rw [HSZ.out.2.1]; omega
          obtain ⟨IS, hIS⟩ : ∃ IS, IS = j * SZ := ⟨_, rfl⟩
          have hIS2 : IS + SZ ≤ R := by
            have h1 := Nat.mul_le_mul_right SZ (show j + 1 ≤ Cn from hlt)
            rw [Nat.succ_mul, ← hIS] at h1
            rw [HSZ.out.2.2]; exact h1
          have f1 : wrap64 ((j : Int) * (SZ : Int)) = (IS : Int) := by
            rw [← Int.natCast_mul, ← hIS]; exact IntWalk.wrap64_in _ ⟨by omega, by omega⟩
          obtain ⟨ES, hES⟩ : ∃ ES, ES = IS + SZ := ⟨_, rfl⟩
          have f2 : wrap64 (((j : Int) + 1) * (SZ : Int)) = (ES : Int) := by
            have e : ((j : Int) + 1) * (SZ : Int) = (ES : Int) := by rw [hES, hIS, Int.add_mul, Int.one_mul, Int.natCast_add, Int.natCast_mul]
            rw [e]; exact IntWalk.wrap64_in _ ⟨by omega, by omega⟩
          have HZC : Hid (zer (ckL SZ l j) = ((D (fun x => 8 - pop (l.getD (IS + x) 0)) 0 SZ : Nat) : Int)) := Lib.hid (by
            rw [hIS]; exact zer_chunk hlt (by rw [HLL.out]; exact HSZ.out.2.2))
          have HES := Lib.hid hES
          have HIS := Lib.hid hIS
          clear hES hIS
          go_wp2_with fail
          go_loop [20, 21] (fun nv kv => ∃ (k t : Nat), k ≤ SZ ∧ kv = .int .i64 ((IS + k : Nat) : Int) ∧ nv = .int .i64 (t : Int) ∧ t ≤ 8 * k ∧ Hid (t = D (fun x => 8 - pop (l.getD (IS + x) 0)) 0 k)) (fun _ kv => ES - (intOf kv).toNat)
          case atStart => exact ⟨0, 0, Nat.zero_le _, rfl, rfl, Nat.le_refl _, Lib.hid rfl⟩
          case round =>
            obtain ⟨k, t, hk, rfl, rfl, ht, HT⟩ := hrel
            by_cases hks : k < SZ
            · have hkI : ((IS + k : Nat) : Int) < (ES : Int) := by have := HES.out; omega
              have hkR : IS + k < R := by omega
              have cj := HA.out.row.cell (IS + k) (by rw [HLL.out]; exact hkR)
              obtain ⟨x, hx⟩ : ∃ x : UInt8, x = l.getD (IS + k) 0 := ⟨_, rfl⟩
              rw [← hx] at cj
              have hx2 := max_u8 x
              have HX : Hid (pop (x ^^^ 255) = 8 - pop (l.getD (IS + k) 0)) := Lib.hid (by rw [← hx]; exact pop_not x)
              have hx4 := pop_le (x ^^^ 255)
              obtain ⟨z, hz⟩ : ∃ z, z = x ^^^ 255 := ⟨_, rfl⟩
              rw [← hz] at hx2 HX hx4
              clear hx hz
              have hzl := z.toNat_lt
              go_wp2_with fail
              go_loop [20, 22] (fun nv yv => ∃ (t3 y f : Nat), nv = .int .i64 (t3 : Int) ∧ yv = .int .u8 (y : Int) ∧ Hid (y < 2 ^ f ∧ f ≤ 8 ∧ t3 + popF f y = t + pop z)) (fun _ yv => (intOf yv).toNat)
              case atStart => exact ⟨t, z.toNat, 8, rfl, rfl, Lib.hid ⟨z.toNat_lt, by omega, rfl⟩⟩
              case round =>
                obtain ⟨t3, y, f, rfl, rfl, HY⟩ := hrel
                by_cases hy : y = 0
                · subst hy
                  have ht3 : t3 = D (fun x => 8 - pop (l.getD (IS + x) 0)) 0 (k + 1) := by
                    have h1 := HY.out.2.2
                    have h2 : popF f 0 = 0 := by cases f <;> rfl
                    rw [D, ← HT.out, Nat.zero_add, ← HX.out]
                    omega
                  have ht8 : t3 ≤ 8 * (k + 1) := by
                    have h1 := HY.out.2.2
                    omega
                  have HT3 := Lib.hid ht3
                  clear ht3
                  go_wp2_with fail
                  go_round
                  case rel => exact ⟨k + 1, t3, by omega, by go_num, rfl, ht8, HT3⟩
                  case measure => have := HES.out; simp [intOf]; omega
                · have hand := and1 y (by have := HY.out; have := Nat.pow_le_pow_right (show 0 < 2 by omega) this.2.1; omega)
                  have hyb : y < 256 := by have := HY.out; have := Nat.pow_le_pow_right (show 0 < 2 by omega) this.2.1; omega
                  go_wp2_with fail
                  obtain ⟨f, rfl⟩ : ∃ g, f = g + 1 := ⟨f - 1, by have := HY.out; cases f with | zero => simp at this; omega | succ g => rfl⟩
                  have HY2 : y / 2 < 2 ^ f ∧ f ≤ 8 ∧ t3 + y % 2 + popF f (y / 2) = t + pop z := by
                    have := HY.out
                    rw [popF, if_neg hy, Nat.pow_succ] at this
                    omega
                  have HY3 := Lib.hid HY2
                  clear HY2 HY
                  go_round
                  case rel =>
                    refine ⟨t3 + y % 2, y / 2, f, ?_, ?_, HY3⟩
                    · have h1 := HY3.out.2.2
                      rw [IntWalk.wrap64_in _ ⟨by omega, by omega⟩]
                      rfl
                    · rfl
                  case measure =>
                    simp [intOf]
                    omega
            · obtain rfl : SZ = k := by omega
              have hnlt : ¬ ((IS + SZ : Nat) : Int) < (ES : Int) := by have := HES.out; omega
              have hz8 : t = D (fun x => 8 - pop (l.getD (IS + x) 0)) 0 SZ := HT.out
              have HN : Hid (∀ o2 : Bool, (o2 = true ↔ o = true ∧ (t : Int) ≤ g.T) → (o2 = true ↔ ∀ x, x < j + 1 → zer (ckL SZ l x) ≤ g.T)) := Lib.hid (fun o2 h => by
                rw [h, HO.out]
                constructor
                · rintro ⟨h1, h2⟩ x hx
                  rcases Nat.lt_or_ge x j with h3 | h3
                  · exact h1 x h3
                  · obtain rfl : x = j := by omega
                    rw [HZC.out, ← hz8]; exact h2
                · intro h1
                  refine ⟨fun x hx => h1 x (by omega), ?_⟩
                  have := h1 j (by omega)
                  rw [HZC.out, ← hz8] at this
                  exact this)
              clear hz8
              cases o with
              | false =>
                have hO2 := Lib.hid (HN.out false (by simp))
                go_wp2_with fail
                go_round
                case rel => exact ⟨j + 1, false, by omega, by go_num, rfl, hO2⟩
                case measure => simp [intOf]; omega
              | true =>
                by_cases hle : (t : Int) ≤ g.T
                · have hO2 := Lib.hid (HN.out true (by simp [hle]))
                  have hdec : decide ((t : Int) ≤ g.T) = true := decide_eq_true hle
                  go_wp2_with fail
                  go_round
                  case rel => exact ⟨j + 1, true, by omega, by go_num, rfl, hO2⟩
                  case measure => simp [intOf]; omega
                · have hO2 := Lib.hid (HN.out false (by simp; omega))
                  have hdec : decide ((t : Int) ≤ g.T) = false := decide_eq_false hle
                  have hlt2 : g.T < (t : Int) := by omega
                  go_wp2_with fail
                  go_round
                  case rel => exact ⟨j + 1, false, by omega, by go_num, rfl, hO2⟩
                  case measure => simp [intOf]; omega
        · obtain rfl : Cn = j := by omega
          have hnI : ¬ (Cn : Int) < g.C := by rw [HSZ.out.2.1]; omega
          have heb := HEB.out o HO.out
          have u0 := HA.out.fnd.c0
          have u1 := HA.out.fnd.c1
          have u2 := HA.out.fnd.c2
          have HEO := Lib.hid heb
          clear heb
          cases o with
          | true =>
            have hemp := HEO.out.1 rfl
            obtain ⟨rfl, rfl, rfl⟩ : st = 0 ∧ p = ⟨#[]⟩ ∧ n = 0 := by
              rcases HCS.out with ⟨_, h⟩ | ⟨h, _⟩ | ⟨h, _⟩
              · exact h
              · exact absurd hemp h
              · exact absurd hemp h
            clear hemp
            go_wp2_with fail
            go_ret
            exact ⟨rfl, HA.out.law.below⟩
          | false =>
            have hemp : ¬ emptyB g.sz g.C.toNat g.T l := fun h => by have := HEO.out.2 h; cases this
            rcases HCS.out with ⟨h, _⟩ | ⟨_, h1, h2, h3⟩ | ⟨_, h1, pay, h2, h3, h4, h5⟩
            · exact absurd h hemp
            · subst h1 h2 h3
              clear hemp
              go_wp2_with fail
              go_ret
              exact ⟨rfl, HA.out.law.below⟩
            · subst h1 h2
              have hok := HOK.out
              have hpl : (((bytS pay).size : Nat) : Int) ≤ g.room := by rw [bytS_size]; omega
              have HRP := Lib.hid (fun w => rpage_any g hok (bytS pay) hpl w)
              rw [bytS_list] at HRP
              have hpl2 : (pay.length : Int) ≤ g.room := by omega
              obtain ⟨WL, hWL⟩ : ∃ WL, WL = g.pageL pay := ⟨_, rfl⟩
              have hwl : WL.length = R := by rw [hWL, pageL_length hok hpl2]; have := HSZ.out.2.2; have h6 := HSZ.out.2.1; have h7 := HSZ.out.1; unfold Geo.sz at h7; rw [this, h7, h6]; rfl
              rw [← hWL] at HRP h4 h5
              obtain ⟨WS, hWS⟩ : ∃ WS, WS = bytS WL := ⟨_, rfl⟩
              rw [← hWS] at HRP
              have hws : WS.size = R := by rw [hWS, bytS_size, hwl]
              have hKn : ∃ Kn : Nat, g.K = (Kn : Int) ∧ g.K.toNat = Kn ∧ 16 ≤ Kn ∧ Kn ≤ 256 ∧ SZ = Kn + parN g.T.toNat := ⟨g.K.toNat, by
                have h7 := HSZ.out.1
                unfold Geo.sz at h7
                unfold Geo.ok at hok
                refine ⟨by omega, rfl, by omega, by omega, h7⟩⟩
              obtain ⟨Kn, hK1, hK2, hK16, hK256, hSK⟩ := hKn
              have hpn : 2 ≤ parN g.T.toNat ∧ parN g.T.toNat ≤ 13 := by unfold Geo.ok at hok; unfold parN; omega
              rw [hK2] at h4 h5
              obtain ⟨TT, hTT⟩ : ∃ TT, TT = 8 * Kn + 13 * g.T.toNat := ⟨_, rfl⟩
              have hTb : TT ≤ 100000 := by unfold Geo.ok at hok; omega
              have HWD : Hid (∀ (x y : ByteArray) w, x.size = Kn → y.size = parN g.T.toNat → Calls Tryz.prog 23 #[.int .i64 g.T, .string x, .string y] w fun e w' => ∃ ga ca, e = .returned (.slice (some ⟨ga, 0, none⟩) TT ca) ∧ BitRow w' ga TT (wordN (13 * g.T.toNat) (spare g.T.toNat) (numB x.data.toList) (numB y.data.toList)) ∧ w.heap.size ≤ ga ∧ ga < w'.heap.size ∧ Below w.heap.size w w') := Lib.hid (fun x y w hx hy => by
                have h := rword_any g.T.toNat x y (by unfold Geo.ok at hok; omega) (by unfold Geo.ok at hok; omega) (by omega) (by omega) hy w
                rw [hx, ← hTT, Int.toNat_of_nonneg (show (0 : Int) ≤ g.T by unfold Geo.ok at hok; omega)] at h
                exact h)
              have HAP : Hid (∀ ga ca gb cb A B w, BitRow w ga TT A → BitRow w gb TT B → Calls Tryz.prog 22 #[.slice (some ⟨ga, 0, none⟩) TT ca, .slice (some ⟨gb, 0, none⟩) TT cb] w fun e w' => e = .returned (.int .i64 ((ham A B TT TT : Nat) : Int)) ∧ Below w.heap.size w w') := Lib.hid (fun ga ca gb cb A B w h1 h2 => apart_any ga ca gb cb TT A B w hTb h1 h2)
              have HN := Lib.hid (And.intro h4 h5)
              have HWL := Lib.hid hwl
              have HWS := Lib.hid hWS
              have HKK := Lib.hid (And.intro hK1 (And.intro hK2 (And.intro hSK (And.intro hpn hTT))))
              have hcc0 := HA.out.law.a4.c0
              have hcc1 := HA.out.law.a4.c1
              have hcc2 := HA.out.law.a4.c2
              have hcc3 := HA.out.law.a4.c3
              have hcc4 := HA.out.law.a4.c4
              clear hemp hok hpl hpl2 hWL hwl h4 h5 hWS hK1 hK2 hSK hpn hTT h3 HEO HO HEB HCS
              go_wp2_with fail
              go_at_call 18
              refine (HRP.out _).mono ?_
              rintro e w11 ⟨rfl, h11⟩
              have HA11 := Lib.hid (HA.out.below h11)
              clear h11 hnI hcc0 hcc1 hcc2 hcc3 hcc4 u0 u1 u2 l2 l4 HA HRP
              go_wp2_with fail
              go_loopw [24, 25] (fun tv iv wr => ∃ (j t : Nat), j ≤ Cn ∧ iv = .int .i64 (j : Int) ∧ tv = .int .i64 (t : Int) ∧ t ≤ 8 * j ∧ Hid (t = hamS g.T.toNat Kn l WL j) ∧ Hid (AnyAt w wr b1 b3 b4 g gb l bx 1 (bytS pay) n)) (fun _ iv _ => Cn - (intOf iv).toNat)
              case atStart => exact ⟨0, 0, Nat.zero_le _, rfl, rfl, Nat.le_refl _, Lib.hid rfl, HA11⟩
              case round =>
                obtain ⟨j, t, hj2, rfl, rfl, ht, HTS, HAr⟩ := hrel
                clear HA11
                obtain ⟨wx, rfl⟩ : ∃ wx : World, wx = wr := ⟨_, rfl⟩
                have l2 := HAr.out.law.a1.c2
                have l3 := HAr.out.law.a1.c3
                have l4 := HAr.out.law.a1.c4
                by_cases hlt : j < Cn
                · have hltI : (j : Int) < g.C := by rw [HSZ.out.2.1]; omega
                  obtain ⟨IS, hIS⟩ : ∃ IS, IS = j * SZ := ⟨_, rfl⟩
                  have hIS2 : IS + SZ ≤ R := by
                    have h1 := Nat.mul_le_mul_right SZ (show j + 1 ≤ Cn from hlt)
                    rw [Nat.succ_mul, ← hIS] at h1
                    rw [HSZ.out.2.2]; exact h1
                  have HF1 : Hid (wrap64 ((j : Int) * (SZ : Int)) = (IS : Int)) := Lib.hid (by
                    rw [← Int.natCast_mul, ← hIS]; exact IntWalk.wrap64_in _ ⟨by omega, by omega⟩)
                  obtain ⟨FK, hFK⟩ : ∃ FK, FK = IS + Kn := ⟨_, rfl⟩
                  obtain ⟨FS, hFS⟩ : ∃ FS, FS = IS + SZ := ⟨_, rfl⟩
                  have hSK := HKK.out.2.2.1
                  have hpn := HKK.out.2.2.2.1
                  have HE1 : Hid (IntKind.i64.wrap ((IS : Int) + g.K) = (FK : Int)) := Lib.hid (by rw [HKK.out.1, IntKind.wrap_i64]; omega)
                  have HE2 : Hid (IntKind.i64.wrap ((IS : Int) + (SZ : Int)) = (FS : Int)) := Lib.hid (by rw [IntKind.wrap_i64]; omega)
                  have hcR := ckL_length (L := l) (sz := SZ) (i := j) (n := Cn) hlt (by rw [HLL.out]; exact HSZ.out.2.2)
                  have hcW := ckL_length (L := WL) (sz := SZ) (i := j) (n := Cn) hlt (by rw [HWL.out]; exact HSZ.out.2.2)
                  have x1 : (l.drop IS).take Kn = (ckL SZ l j).take Kn := by unfold ckL; rw [← hIS, List.take_take, Nat.min_eq_left (by omega)]
                  have x2 : (l.drop FK).take (FS - FK) = (ckL SZ l j).drop Kn := by unfold ckL; rw [← hIS, List.drop_take, List.drop_drop, ← hFK]; congr 1; omega
                  have x3 : (WL.drop IS).take (FK - IS) = (ckL SZ WL j).take Kn := by unfold ckL; rw [← hIS, List.take_take, Nat.min_eq_left (by omega)]; congr 1; omega
                  have x4 : (WL.drop FK).take (FS - FK) = (ckL SZ WL j).drop Kn := by unfold ckL; rw [← hIS, List.drop_take, List.drop_drop, ← hFK]; congr 1; omega
                  have y3 : WS.extract IS FK = bytS ((ckL SZ WL j).take Kn) := by rw [HWS.out, bytS_extract, x3]
                  have y4 : WS.extract FK FS = bytS ((ckL SZ WL j).drop Kn) := by rw [HWS.out, bytS_extract, x4]
                  have HSV : Hid (∀ W', AnyAt w W' b1 b3 b4 g gb l bx 1 (bytS pay) n → W'.cell? ⟨b1, 4, none⟩ = some (.int .i64 g.T) ∧ W'.cell? ⟨b1, 3, none⟩ = some (.int .i64 g.K) ∧
                      (convert 47 9 (.slice (some ⟨gb, IS, none⟩) (FK - IS) (R - IS))).run Tryz.prog W' = .ok (.string (bytS ((ckL SZ l j).take Kn))) W' ∧
                      (convert 47 9 (.slice (some ⟨gb, FK, none⟩) (FS - FK) (R - FK))).run Tryz.prog W' = .ok (.string (bytS ((ckL SZ l j).drop Kn))) W') := Lib.hid (fun W' h => by
                    refine ⟨h.law.a1.c4, h.law.a1.c3, ?_, ?_⟩
                    · have h1 := h.row.text IS (FK - IS) (R - IS) (by rw [HLL.out]; omega)
                      rw [h1, show FK - IS = Kn by omega, x1]
                    · have h1 := h.row.text FK (FS - FK) (R - FK) (by rw [HLL.out]; omega)
                      rw [h1, x2])
                  have hz1 : (bytS ((ckL SZ l j).take Kn)).size = Kn := by rw [bytS_size, List.length_take]; omega
                  have hz2 : (bytS ((ckL SZ l j).drop Kn)).size = parN g.T.toNat := by rw [bytS_size, List.length_drop]; omega
                  have hz3 : (bytS ((ckL SZ WL j).take Kn)).size = Kn := by rw [bytS_size, List.length_take]; omega
                  have hz4 : (bytS ((ckL SZ WL j).drop Kn)).size = parN g.T.toNat := by rw [bytS_size, List.length_drop]; omega
                  have HW1 := Lib.hid (fun w => HWD.out _ _ w hz1 hz2)
                  have HW2 := Lib.hid (fun w => HWD.out _ _ w hz3 hz4)
                  have HHM : Hid (hamC g.T.toNat Kn l WL j = ham (wordN (13 * g.T.toNat) (spare g.T.toNat) (numB (bytS ((ckL SZ l j).take Kn)).data.toList) (numB (bytS ((ckL SZ l j).drop Kn)).data.toList)) (wordN (13 * g.T.toNat) (spare g.T.toNat) (numB (bytS ((ckL SZ WL j).take Kn)).data.toList) (numB (bytS ((ckL SZ WL j).drop Kn)).data.toList)) TT TT) := Lib.hid (by
                    unfold hamC wdC
                    rw [← hSK, bytS_list, bytS_list, bytS_list, bytS_list, HKK.out.2.2.2.2])
                  generalize bytS ((ckL SZ l j).take Kn) = XL at *
                  generalize bytS ((ckL SZ l j).drop Kn) = YL at *
                  generalize bytS ((ckL SZ WL j).take Kn) = XW at *
                  generalize bytS ((ckL SZ WL j).drop Kn) = YW at *
                  generalize wordN (13 * g.T.toNat) (spare g.T.toNat) (numB XL.data.toList) (numB YL.data.toList) = AA at *
                  generalize wordN (13 * g.T.toNat) (spare g.T.toNat) (numB XW.data.toList) (numB YW.data.toList) = BB at *
                  have q1 : (0 : Int) ≤ (IS : Int) := by omega
                  have q2 : (IS : Int) ≤ (FK : Int) := by omega
                  have q3 : (FK : Int) ≤ (FS : Int) := by omega
                  have q4 : (FS : Int) ≤ (R : Int) := by omega
                  have q5 : (FK : Int) ≤ (R : Int) := by omega
                  have q6 : IS ≤ FK := by omega
                  have q7 : FK ≤ FS := by omega
                  have q8 : FS ≤ R := by omega
                  have q9 : FK ≤ R := by omega
                  have q10 : ¬ R = IS := by omega
                  have q11 : ¬ R = FK := by omega
                  have HHB := Lib.hid (HN.out.2 j (by rw [HSZ.out.2.1]; exact hlt))
                  have f1 := HF1.out
                  have e1 := HE1.out
                  have e2 := HE2.out
                  clear hcR hcW x1 x2 x3 x4 hFK hFS hSK hpn hIS hIS2 hz1 hz2 hz3 hz4
                  go_upto_region 46 with fail
                  rw [f1]
                  clear f1
                  have s0 := HSV.out _ (HAr.out.below ((Below.refl _ _).drew))
                  go_region_held3 (fun W' => W'.cell? ⟨b1, 4, none⟩ = some (.int .i64 g.T) ∧ W'.cell? ⟨b1, 3, none⟩ = some (.int .i64 g.K) ∧
                      (convert 47 9 (.slice (some ⟨gb, IS, none⟩) (FK - IS) (R - IS))).run Tryz.prog W' = .ok (.string XL) W' ∧
                      (convert 47 9 (.slice (some ⟨gb, FK, none⟩) (FS - FK) (R - FK))).run Tryz.prog W' = .ok (.string YL) W')
                    (first | (exact s0) | (exact s1) | (exact s2) | (exact s3) | go_keep)
                    ((first
                      | (go_at_call 23; go_fit (HW1.out _); rintro e w12 ⟨ga, ca, rfl, hb12, hg12, hl12, h12⟩; have HA12 := Lib.hid (AnyAt.below (by first | exact HAr.out | exact HAr.out.below ((Below.refl _ _).drew)) h12); have HB12 := Lib.hid (And.intro hb12 hl12); have s1 := HSV.out _ HA12.out; clear hb12 hg12 hl12 h12)
                      | (go_at_call 23; go_fit (HW2.out _); rintro e w13 ⟨gc, cc, rfl, hb13, hg13, hl13, h13⟩; have HA13 := Lib.hid (HA12.out.below h13); have HB13 := Lib.hid (And.intro hb13 (HB12.out.1.stays (Stays.of_below h13) HB12.out.2 (S := fun _ => False) id)); have s2 := HSV.out _ HA13.out; clear hb13 hg13 hl13 h13)
                      | (go_at_call 22; go_fit (HAP.out _ _ _ _ AA BB _ HB13.out.2 HB13.out.1); rintro e w14 ⟨rfl, h14⟩; have HA14 := Lib.hid (HA13.out.below h14); have s3 := HSV.out _ HA14.out; clear h14)))
                  have hhc := HHM.out
                  have hhb := HHB.out
                  rw [hhc] at hhb
                  obtain ⟨hm, hhm⟩ : ∃ hm, hm = ham AA BB TT TT := ⟨_, rfl⟩
                  rw [← hhm] at hhb hhc
                  rw [← hhm]
                  have hT := HT8.out
                  have hm8 : hm ≤ 8 := by omega
                  have hmT : ¬ g.T < (hm : Int) := by omega
                  have ht8 : t + hm ≤ 8 * (j + 1) := by omega
                  have HT2 : Hid (t + hm = hamS g.T.toNat Kn l WL (j + 1)) := Lib.hid (by rw [HTS.out, ← hhc]; rfl)
                  obtain ⟨t4, t3, _, _⟩ := s3
                  clear hhb hhc hhm hT s0 s1 s2 HHM HHB HSV HW1 HW2 HAP HB12 HB13 HA12 HA13 e1 e2 l2 l3 l4 HAr
                  go_wp2_with fail
                  go_roundw
                  case rel => exact ⟨j + 1, t + hm, by omega, by go_num, by go_num, ht8, HT2, HA14⟩
                  case measure => simp [intOf]; omega
                · obtain rfl : Cn = j := by omega
                  have hnI : ¬ (Cn : Int) < g.C := by rw [HSZ.out.2.1]; omega
                  have u2 := HAr.out.fnd.c2
                  have hn := HN.out.1
                  have hCt : g.C.toNat = Cn := by rw [HSZ.out.2.1]; rfl
                  rw [hCt, ← HTS.out] at hn
                  subst hn
                  clear hCt
                  go_wp2_with fail
                  go_ret
                  exact ⟨rfl, HAr.out.law.below⟩
end Go.Proofs.YtgfjeaegigjnaaaGreatDoor
