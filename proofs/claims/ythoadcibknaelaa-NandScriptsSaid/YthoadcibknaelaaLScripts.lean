/- The walk of the law NandScripts: a chip through every script, beside the document's. -/
import Derived.Test.YthoadcibknaelaaTwo
import Derived.Test.YthoadcibknaelaaOpen
import Derived.Deep.RegionHeld3
import Derived.Deep.DeepCutAuto
import Derived.Deep.CutBlock
import Derived.Outline
namespace Go.Proofs.Ythoadcibknaelaa
open Go.RowKit
set_option linter.unusedVariables false
set_option linter.unusedSimpArgs false

theorem tmod11 (n : Int) : -10 ≤ n.tmod 11 ∧ n.tmod 11 ≤ 10 := by
  rcases Int.le_total 0 n with h | h
  · rw [Int.tmod_eq_emod_of_nonneg h]; omega
  · obtain ⟨m, rfl⟩ : ∃ m, n = -m := ⟨-n, by omega⟩
    rw [Int.neg_tmod, Int.tmod_eq_emod_of_nonneg (by omega)]; omega

set_option maxHeartbeats 400000 in
theorem is_nil (x y z : Int) (w : World) : Calls Try.prog 30 #[.pointer none, .int .i64 x, .int .i64 y, .int .i64 z] w fun e w' => e = .returned (.bool false) ∧ w = w' := by
  go_enter Try.func30, Try.ntmps30
  go_wp2
  go_ret
  exact ⟨rfl, rfl⟩
def byteV (b : UInt8) : Value := .int .u8 (b.toNat : Int)
structure ActAt (W : World) (B : Nat) (n1 n2 n3 n4 : Int) : Prop where
  a1 : W.cell? ⟨B, 1, none⟩ = some (.int .i64 n1)
  a2 : W.cell? ⟨B, 2, none⟩ = some (.int .i64 n2)
  a3 : W.cell? ⟨B, 3, none⟩ = some (.int .i64 n3)
  a4 : W.cell? ⟨B, 4, none⟩ = some (.int .u8 n4)
theorem ActAt.stays {W W' : World} {B : Nat} {n1 n2 n3 n4 : Int} {S : Nat → Prop} (h : ActAt W B n1 n2 n3 n4) (hs : Stays S W W') (hn : ¬ S B) : ActAt W' B n1 n2 n3 n4 :=
  ⟨hs.cell h.a1 hn, hs.cell h.a2 hn, hs.cell h.a3 hn, hs.cell h.a4 hn⟩
theorem bytes_of_own {W : World} {base g n cap : Nat} {e : TypeId} {l : List UInt8} (h : W.ownsRow base e 1 (.slice (some ⟨g, 0, none⟩) n cap) n (l.map byteV)) : BytesAt W g l := by
  have hl : l.length = n := by have := h.1; simpa using this
  refine ⟨fun j hj => ?_, fun j _ => h.frozenAt j⟩
  rw [h.cellAt j (by omega)]
  simp [hj, byteV]
theorem u8_byte (z : Int) : ∃ x : UInt8, IntKind.u8.wrap z = (x.toNat : Int) := by
  have h : IntKind.u8.wrap z = z % 256 := by unfold IntKind.wrap; simp [IntKind.bits, IntKind.signed]
  refine ⟨UInt8.ofNat (z % 256).toNat, ?_⟩
  rw [h, UInt8.toNat_ofNat']
  omega
theorem infoByte : (Try.prog.info? 5).map (fun i => (i.zero, i.size, i.bytes)) = some (some (.int .u8 0), 1, 1) := by kernel_rfl
/-- Something was written into a block that neither chip takes. -/
theorem Trio.put {w W0 W W' : World} {B g : Nat} {L : Lay} {R : RLay} {c d : Chp} (t : Trio w W0 W B L R c d) (hg : B ≤ g) (hs : Stays (· = g) W W') : Trio w W' W' B L R c d := by
  have hw : w.heap.size ≤ g := by
    have h1 := t.t.h.new _ (foot_a L c.nb)
    have h2 := t.b _ (.inl (foot_a L c.nb))
    omega
  refine t.again ⟨⟨t.t.h.at_.stays hs (fun k hk e => ?_), t.t.h.good, Below.stays t.t.h.below hs (fun k hk => by rw [hk]; exact hw) t.t.h.below.size, t.t.h.new⟩, t.t.r.stays hs (fun k hk e => ?_), t.t.g, t.t.ap, t.t.rn⟩
  · have := t.b k (.inl hk); omega
  · have := t.b k (.inr hk); omega
/-- Both chips are alike, and nothing else has changed since W0. -/
def Alike2 (w1 : World) (L : Lay) (R : RLay) (c0 : Chp) (wz : World) : Prop := ∃ (c : Chp) (md : Int), Two w1 wz L { R with md := md } c c ∧ Like c0 c
set_option maxHeartbeats 8000000 in
set_option maxRecDepth 100000 in
theorem NandScripts_walk (s0 s1 s2 : Int) (A : Option Addr) (len cap : Nat) (w : World) (z0 : (Lit.int .i64 s0).wf = true) (z1 : (Lit.int .i64 s1).wf = true) (z2 : (Lit.int .i64 s2).wf = true) (h0 : CellRow w A len cap 5 (FieldOk [.int .i64, .int .i64, .int .i64, .int .i64, .int .u8])) :
    Calls Try.prog 9 #[.agg #[.int .i64 s0, .int .i64 s1, .int .i64 s2], .slice A len cap] w fun e w' => e = .returned (.bool true) ∧ Below w.heap.size w w' := by
  have hz0 := wf_i64 z0
  have hz1 := wf_i64 z1
  have hz2 := wf_i64 z2
  have hlen := h0.len_le
  have HROW := Lib.hid h0
  clear h0 z0 z1 z2
  go_enter Try.func9, Try.ntmps9
  go_wp2_with fail
  have HW0 : Hid (Below w.heap.size w (w.alloc (Obj.cells #[.int .i64 s0, .int .i64 s1, .int .i64 s2] 51))) := Lib.hid ((Below.refl _ _).alloc (Nat.le_refl _) _)
  have hy0 : (w.alloc (Obj.cells #[.int .i64 s0, .int .i64 s1, .int .i64 s2] 51)).cell? ⟨w.heap.size, 0, none⟩ = some (.int .i64 s0) := by simp
  have hy1 : (w.alloc (Obj.cells #[.int .i64 s0, .int .i64 s1, .int .i64 s2] 51)).cell? ⟨w.heap.size, 1, none⟩ = some (.int .i64 s1) := by simp
  have hy2 : (w.alloc (Obj.cells #[.int .i64 s0, .int .i64 s1, .int .i64 s2] 51)).cell? ⟨w.heap.size, 2, none⟩ = some (.int .i64 s2) := by simp
  generalize w.alloc (Obj.cells #[.int .i64 s0, .int .i64 s1, .int .i64 s2] 51) = w0 at *
  refine (speaks_ok _).mono ?_; rintro e w1 ⟨rfl, hb⟩
  have x0 := (hb.cell (World.block_lt_of_cell? _ _ hy0)).trans hy0
  have x1 := (hb.cell (World.block_lt_of_cell? _ _ hy1)).trans hy1
  have x2 := (hb.cell (World.block_lt_of_cell? _ _ hy2)).trans hy2
  have HW1 : Hid (Below w.heap.size w w1) := Lib.hid (HW0.out.trans (hb.mono HW0.out.size))
  clear hy0 hy1 hy2 hb HW0
  have X0 := Lib.hid x0
  have X1 := Lib.hid x1
  have X2 := Lib.hid x2
  by_cases hok : newOk s0 s1 s2
  · have HOK := Lib.hid hok
    clear hok
    go_wp2_with fail
    refine (new_at s0 s1 s2 w1 w1 (Below.refl _ _) HOK.out).mono ?_; rintro e w2 ⟨L, rfl, H2⟩
    have y0 := (H2.below.cell (World.block_lt_of_cell? _ _ x0)).trans x0
    have y1 := (H2.below.cell (World.block_lt_of_cell? _ _ x1)).trans x1
    have y2 := (H2.below.cell (World.block_lt_of_cell? _ _ x2)).trans x2
    clear x0 x1 x2
    go_wp2_with fail
    refine (rnew_any s0 s1 s2 w2 HOK.out).mono ?_; rintro e w3 ⟨R, rfl, H3, hb3, hn3⟩
    have HT := Lib.hid (two_new s0 s1 s2 H2 H3 hb3 hn3)
    clear H2 H3 hb3 hn3 y0 y1 y2
    generalize hc0 : freshC s0.toNat s1.toNat s2 = c0 at *
    have HC0 := Lib.hid hc0
    clear hc0
    go_wp2_with fail
    go_loopw [8] (fun vi wr => ∃ (k : Nat) (c : Chp) (md : Int), k ≤ len ∧ vi = .int .i64 k ∧ Hid (Two w1 wr L { R with md := md } c c) ∧ Hid (Like c0 c)) (fun vi _ => len - (intOf vi).toNat)
    case atStart => exact ⟨0, c0, R.md, by omega, rfl, HT, Lib.hid (Like.refl _)⟩
    case round =>
      obtain ⟨k, c, md, hk, rfl, H, HL⟩ := hrel
      clear HT
      by_cases hlt : k < len
      · obtain ⟨gb, go', rfl, hgb, hlc, hcm, hrow⟩ := HROW.out.open_ (by omega) (by omega)
        obtain ⟨v0, hv0, hk0⟩ := hrow k hlt 0 (by omega)
        obtain ⟨v1, hv1, hk1⟩ := hrow k hlt 1 (by omega)
        obtain ⟨v2, hv2, hk2⟩ := hrow k hlt 2 (by omega)
        obtain ⟨v3, hv3, hk3⟩ := hrow k hlt 3 (by omega)
        obtain ⟨v4, hv4, hk4⟩ := hrow k hlt 4 (by omega)
        obtain ⟨n0, rfl, f0⟩ := hk0.int (k := .i64) rfl
        obtain ⟨n1, rfl, f1⟩ := hk1.int (k := .i64) rfl
        obtain ⟨n2, rfl, f2⟩ := hk2.int (k := .i64) rfl
        obtain ⟨n3, rfl, f3⟩ := hk3.int (k := .i64) rfl
        obtain ⟨n4, rfl, f4⟩ := hk4.int (k := .u8) rfl
        have hbl : Below w.heap.size w wr := HW1.out.trans (H.out.h.below.mono HW1.out.size)
        have g0 : wr.cell? ⟨gb, go' + k * 5, none⟩ = _ := (hbl.cell (p := ⟨gb, go' + k * 5, none⟩) hgb).trans hv0
        have g1 := (hbl.cell (p := ⟨gb, go' + k * 5 + 1, none⟩) hgb).trans hv1
        have g2 := (hbl.cell (p := ⟨gb, go' + k * 5 + 2, none⟩) hgb).trans hv2
        have g3 := (hbl.cell (p := ⟨gb, go' + k * 5 + 3, none⟩) hgb).trans hv3
        have g4 := (hbl.cell (p := ⟨gb, go' + k * 5 + 4, none⟩) hgb).trans hv4
        have F1 := Lib.hid (wf_i64 f1)
        have F2 := Lib.hid (wf_i64 f2)
        have F4 := Lib.hid (wf_u8 f4)
        have HWR := Lib.hid hbl
        clear hv0 hv1 hv2 hv3 hv4 hk0 hk1 hk2 hk3 hk4 f0 f1 f2 f3 f4 hbl hrow hcm
        have hq := tmod11 n0
        obtain ⟨sw, hsw, hsw0, hsw1⟩ : ∃ sw : Int, (n0.tmod 11 + 11) % 11 = sw ∧ 0 ≤ sw ∧ sw ≤ 10 := ⟨_, rfl, by omega, by omega⟩
        go_upto_block 2 with fail
        rw [hsw]
        have HT1 := H.out.alloc (Obj.cells #[.int .i64 n0, .int .i64 n1, .int .i64 n2, .int .i64 n3, .int .u8 n4] 41)
        have HT2 := (Trio.start H.out).again HT1
        have hsz : (wr.alloc (Obj.cells #[.int .i64 n0, .int .i64 n1, .int .i64 n2, .int .i64 n3, .int .u8 n4] 41)).heap.size = wr.heap.size + 1 := by simp
        have q1 : (wr.alloc (Obj.cells #[.int .i64 n0, .int .i64 n1, .int .i64 n2, .int .i64 n3, .int .u8 n4] 41)).cell? ⟨wr.heap.size, 1, none⟩ = some (.int .i64 n1) := by simp
        have q2 : (wr.alloc (Obj.cells #[.int .i64 n0, .int .i64 n1, .int .i64 n2, .int .i64 n3, .int .u8 n4] 41)).cell? ⟨wr.heap.size, 2, none⟩ = some (.int .i64 n2) := by simp
        have q3 : (wr.alloc (Obj.cells #[.int .i64 n0, .int .i64 n1, .int .i64 n2, .int .i64 n3, .int .u8 n4] 41)).cell? ⟨wr.heap.size, 3, none⟩ = some (.int .i64 n3) := by simp
        have q4 : (wr.alloc (Obj.cells #[.int .i64 n0, .int .i64 n1, .int .i64 n2, .int .i64 n3, .int .u8 n4] 41)).cell? ⟨wr.heap.size, 4, none⟩ = some (.int .u8 n4) := by simp
        generalize wr.alloc (Obj.cells #[.int .i64 n0, .int .i64 n1, .int .i64 n2, .int .i64 n3, .int .u8 n4] 41) = wq at *
        have T0 := Lib.hid HT2
        clear HT1 HT2 g0 g1 g2 g3 g4 hsw hq H
        generalize wr.heap.size = B at *
        go_cut [10] (fun s10 wz => s10 = .bool true ∧ Hid (Alike2 w1 L R c0 wz))
        case first =>
          have hcases : sw = 0 ∨ (sw = 1 ∨ sw = 2 ∨ sw = 3) ∨ (sw = 4 ∨ sw = 5) ∨ sw = 6 ∨ sw = 7 ∨ sw = 8 ∨ sw = 9 ∨ sw = 10 := by omega
          clear hsw0 hsw1
          rcases hcases with rfl | hcases | hcases | rfl | rfl | rfl | rfl | rfl
          · as_aux_lemma =>
              go_wp2_with fail
              go_region_held3 (fun W' => W'.cell? ⟨B, 1, none⟩ = some (.int .i64 n1) ∧ W'.cell? ⟨B, 2, none⟩ = some (.int .i64 n2))
                (first | go_keep | (exact ⟨TN.out.cell q1 (Nat.le_refl _), TN.out.cell q2 (Nat.le_refl _)⟩))
                ((first
                | (go_at_call 19; refine (two_erase (R := { R with md := md }) (by first | exact TN.out | exact T0.out.drew | exact T0.out) _).mono ?_; rintro e W' ⟨rfl, TN'⟩; have TN := Lib.hid TN'; clear TN')
                | (go_at_call 25; refine (two_rerase (R := { R with md := md }) (by first | exact TN.out | exact T0.out.drew | exact T0.out) _).mono ?_; rintro e W' ⟨rfl, TN'⟩; have TN := Lib.hid TN'; clear TN')))
              all_goals
                go_wp2
                go_meet
                case rel => exact ⟨by simp, Lib.hid ⟨_, md, TN.out.t, HL.out.trans (like_eraseC _ _)⟩⟩
          · as_aux_lemma =>
              have f4 := F4.out
              obtain ⟨n, hn⟩ : ∃ n : Nat, s2 = n := ⟨s2.toNat, by have := HOK.out; unfold newOk at this; omega⟩
              have hnb : 1 ≤ n ∧ n ≤ 2048 := by have := HOK.out; unfold newOk at this; omega
              have hww : w1.heap.size ≤ B := by have h1 := T0.out.t.h.new _ (foot_a L c.nb); have h2 := T0.out.b _ (.inl (foot_a L c.nb)); omega
              have q5 : wq.cell? ⟨w.heap.size, 2, none⟩ = some (.int .i64 (n : Int)) := by
                have h1 := (T0.out.t.h.below.cell (World.block_lt_of_cell? _ _ X2.out)).trans X2.out
                rw [hn] at h1; exact h1
              have HN := Lib.hid hn
              have hmk : ∀ W : World, (Instr.makeSlice 31 (.int .i64 (n : Int)) (.int .i64 (n : Int))).run Try.prog W = .ok (.slice (some ⟨W.heap.size, 0, none⟩) n n) (W.alloc (.cells (madeCells #[.int .u8 0] n) 5)) :=
                fun W => run_make_row' 31 5 (.int .u8 0) 1 (by kernel_rfl) (by kernel_rfl) rfl .i64 .i64 n (by omega) (by omega) W
              clear hn
              have OWN0 : Hid ((wq.alloc (.cells (madeCells #[.int .u8 0] n) 5)).ownsRow (B + 1) 5 1 (.slice (some ⟨B + 1, 0, none⟩) n n) n ((List.replicate n (0 : UInt8)).map byteV)) := Lib.hid (by
                have h1 := World.ownsRow_lit (base := B + 1) (e := 5) (size := 1) wq (madeCells #[.int .u8 0] n) n (by omega) (by unfold maxLen; omega) (by simp [madeCells])
                rw [hsz, toList_madeCells_one] at h1
                simpa [byteV] using h1)
              have TA0 := Lib.hid (T0.out.again (T0.out.t.alloc (.cells (madeCells #[.int .u8 0] n) 5)))
              have ACT0 : Hid (ActAt (wq.alloc (.cells (madeCells #[.int .u8 0] n) 5)) B n1 n2 n3 n4) := Lib.hid ⟨by rw [World.cell?_alloc_old _ _ _ (by simp; omega)]; exact q1, by rw [World.cell?_alloc_old _ _ _ (by simp; omega)]; exact q2, by rw [World.cell?_alloc_old _ _ _ (by simp; omega)]; exact q3, by rw [World.cell?_alloc_old _ _ _ (by simp; omega)]; exact q4⟩
              have SZ0 : Hid ((wq.alloc (.cells (madeCells #[.int .u8 0] n) 5)).heap.size = B + 2) := Lib.hid (by simp; omega)
              have ST0 : Hid (Stays (fun _ => False) wq (wq.alloc (.cells (madeCells #[.int .u8 0] n) 5))) := Lib.hid ((Stays.refl _ _).alloc _)
              obtain ⟨i0, hi, hz0, hz1, hz2⟩ := info_parts infoByte
              have hdec : (sw == 0) = false ∧ ((sw == 1) = true ∨ (sw == 1) = false ∧ (sw == 2) = true ∨ (sw == 1) = false ∧ (sw == 2) = false ∧ (sw == 3) = true) := by
                rcases hcases with rfl | rfl | rfl
                · exact ⟨rfl, .inl rfl⟩
                · exact ⟨rfl, .inr (.inl ⟨rfl, rfl⟩)⟩
                · exact ⟨rfl, .inr (.inr ⟨rfl, rfl, rfl⟩)⟩
              obtain ⟨hd0, hdec⟩ := hdec
              have HDEC := Lib.hid hdec
              clear hdec hcases
              go_upto_if 101 with fail
              go_cut [101] (fun s wz => s = .bool true ∧ wz = wq)
              case first =>
                rcases HDEC.out with e1 | ⟨e1, e2⟩ | ⟨e1, e2, e3⟩
                · go_wp2_with fail
                  go_meet
                  case rel => exact ⟨by first | rfl | simp [e1] | simpa using e1, rfl⟩
                · go_wp2_with fail
                  go_meet
                  case rel => exact ⟨by first | rfl | simp [e1, e2] | simpa using e2, rfl⟩
                · go_wp2_with fail
                  go_meet
                  case rel => exact ⟨by first | rfl | simp [e1, e2, e3] | simpa using e3, rfl⟩
              case rest =>
                obtain ⟨rfl, rfl⟩ := hcut
                obtain ⟨wq, rfl⟩ : ∃ wq : World, wq = wc := ⟨_, rfl⟩
                go_wp2_with fail
                go_loopw [12] (fun vi wl => ∃ (i : Nat) (l : List UInt8), i ≤ n ∧ vi = .int .i64 i ∧ l.length = n ∧ Hid (wl.ownsRow (B + 1) 5 1 (.slice (some ⟨B + 1, 0, none⟩) n n) n (l.map byteV)) ∧ Hid (Trio w1 wl wl B L { R with md := md } c c) ∧ Hid (ActAt wl B n1 n2 n3 n4) ∧ Hid (wl.heap.size = B + 2) ∧ Hid (Stays (· = B + 1) wq wl)) (fun vi _ => n - (intOf vi).toNat)
                case atStart => exact ⟨0, List.replicate n 0, by omega, rfl, by simp, OWN0, TA0, ACT0, SZ0, Lib.hid (ST0.out.mono (fun _ => False.elim))⟩
                case round =>
                  obtain ⟨i, l, hi9, rfl, hl, OWN, TV, ACT, SZ, ST⟩ := hrel
                  clear OWN0 TA0 ACT0 SZ0 ST0 q1 q2 q3 q4 q5 T0
                  obtain ⟨p1, p2, p3, p4⟩ := ACT.out
                  obtain ⟨wv, rfl⟩ : ∃ wv : World, wv = wr := ⟨_, rfl⟩
                  by_cases hlt9 : i < n
                  · have hcl : wv.cell? ⟨B + 1, i, none⟩ = some (byteV (l.getD i 0)) := by
                      rw [OWN.out.cellAt i (by omega)]; simp [show i < l.length by omega]
                    have hfz := OWN.out.frozenAt i
                    unfold byteV at hcl
                    have hx : ∃ x : UInt8, (n4 + (i : Int)) % 256 = (x.toNat : Int) := ⟨UInt8.ofNat ((n4 + (i : Int)) % 256).toNat, by rw [UInt8.toNat_ofNat']; omega⟩
                    obtain ⟨x, hx⟩ := hx
                    have HX := Lib.hid hx
                    clear hx
                    go_wp2
                    go_roundw
                    case rel =>
                      have hst : Stays (· = B + 1) wv (wv.setCell ⟨B + 1, i, none⟩ (.int .u8 ((n4 + (i : Int)) % 256))) := Stays.inA (Stays.refl _ _) _
                      refine ⟨i + 1, l.set i x, by omega, by go_num, by simpa using hl, Lib.hid ?_, Lib.hid (TV.out.put (g := B + 1) (by omega) hst), Lib.hid (ACT.out.stays hst (by omega)), Lib.hid (by rw [← SZ.out]; simp), Lib.hid (ST.out.trans hst)⟩
                      have h9 := (OWN.out.stored i (.int .u8 ((n4 + (i : Int)) % 256))).1
                      rw [List.map_set]
                      show World.ownsRow _ _ _ _ _ _ _
                      rw [show byteV x = .int .u8 ((n4 + (i : Int)) % 256) by rw [HX.out]; rfl]
                      exact h9
                    case measure => simp [intOf]; omega
                  · obtain rfl : i = n := by omega
                    by_cases h77 : n3 = 77
                    · as_aux_lemma =>
                      have b77 : (n3 == 77) = true := by simpa using h77
                      have hn9 : i + 1 ≤ maxLen := by unfold maxLen; omega
                      have hb9 : (i + 1) * 1 ≤ 140737488355328 := by omega
                      have SZ9 := SZ.out
                      clear h77
                      go_wp2_with (at_builtin; refine wpList_append_own _ rfl _ _ 31 rfl (B + 1) 5 i0 (.int .u8 0) 1 1 (by kernel_rfl) hi hz0 hz1 hz2 rfl (by decide) _ i (l.map byteV) rfl (OWN.out.alloc _) ⟨B + 2, 0, none⟩ 1 1 [.int .u8 1] rfl rfl ?_ ?_ hn9 hb9 ?_ ?_)
                      · intro j u hu
                        cases j with
                        | zero =>
                          simp at hu
                          subst hu
                          rw [show (⟨B + 2, 0, none⟩ : Addr).add 0 = ⟨wv.heap.size, 0, none⟩ by rw [SZ9]; simp [Addr.add]]
                          simp
                        | succ j => simp at hu
                      · simp [Value.oneCell']
                      · simp; omega
                      intro v9 w9 hown9 hgrow9 hnil9
                      have hst9 : Stays (· = B + 1) wv w9 := ((Stays.refl _ _).alloc _).trans ⟨hgrow9.os, hgrow9.tape, hgrow9.output, hgrow9.size, fun k hk hne => hgrow9.block k hk (fun e => hne (by simp [Value.ownBlock] at e; exact e))⟩
                      have hadd : l.map byteV ++ [Value.int .u8 1] = (l ++ [1]).map byteV := by simp [byteV]
                      rw [hadd] at hown9
                      obtain ⟨g9, cap9, rfl, hg9⟩ : ∃ g9 cap9, v9 = .slice (some ⟨g9, 0, none⟩) (i + 1) cap9 ∧ B + 1 ≤ g9 := by
                        rcases hown9.2 with ⟨_, h⟩ | ⟨g9, cap9, _, h, hb, _⟩
                        · omega
                        · exact ⟨g9, cap9, h, hb⟩
                      have TV9 := Lib.hid (TV.out.put (g := B + 1) (by omega) hst9)
                      have ACT9 := Lib.hid (ACT.out.stays hst9 (by omega))
                      have HBY := Lib.hid (bytes_of_own hown9)
                      have hg91 : g9 < w9.heap.size := World.block_lt_of_cell? _ _ (HBY.out.cell 0 (by simp))
                      have hl9 : (l ++ [(1 : UInt8)]).length = i + 1 := by simp; omega
                      have c0v := back_conv w9.drew g9 cap9 (l ++ [1]) HBY.out.drew
                      rw [hl9] at c0v
                      clear OWN TV ACT p1 p2 p3 p4 hown9 hgrow9 hnil9 hst9 hadd
                      obtain ⟨p1, p2, p3, p4⟩ := ACT9.out
                      have TV := TV9
                      clear TV9
                      go_upto_region 29 with fail
                      go_region_held3 (fun W' => W'.cell? ⟨B, 1, none⟩ = some (.int .i64 n1) ∧ W'.cell? ⟨B, 2, none⟩ = some (.int .i64 n2) ∧ (convert 31 9 (.slice (some ⟨g9, 0, none⟩) (i + 1) cap9)).run Try.prog W' = .ok (.string ⟨(l ++ [1]).toArray⟩) W')
                        (first | (exact ⟨p1, p2, c0v⟩) | (exact ⟨TN.out.cell p1 (Nat.le_refl _), TN.out.cell p2 (Nat.le_refl _), cN⟩) | go_keep)
                        ((first
                        | (go_at_call 13; refine (two_program (R := { R with md := md }) (by first | exact TN.out | exact TV.out.drew | exact TV.out) _ _ _).mono ?_; rintro e W' ⟨rfl, TN'⟩; have TN := Lib.hid TN'; have cN := back_conv W' g9 cap9 (l ++ [1]) (TN'.bytes HBY.out (by omega) (by omega)); rw [hl9] at cN; clear TN')
                        | (go_at_call 26; refine (two_rprogram (R := { R with md := md }) (by first | exact TN.out | exact TV.out.drew | exact TV.out) _ _ _).mono ?_; rintro e W' ⟨rfl, TN'⟩; have TN := Lib.hid TN'; have cN := back_conv W' g9 cap9 (l ++ [1]) (TN'.bytes HBY.out (by omega) (by omega)); rw [hl9] at cN; clear TN')))
                      all_goals
                        go_wp2
                        go_meet
                        case rel => exact ⟨by simp, Lib.hid ⟨_, md, TN.out.t, HL.out.trans (like_programC _ _ _ _)⟩⟩
                    · as_aux_lemma =>
                      have b77 : (n3 == 77) = false := by simpa using h77
                      clear h77
                      have HBY := Lib.hid (bytes_of_own OWN.out)
                      have c0v := back_conv wv.drew (B + 1) i l HBY.out.drew
                      have SZ9 := SZ.out
                      rw [hl] at c0v
                      clear OWN
                      go_upto_region 29 with fail
                      go_region_held3 (fun W' => W'.cell? ⟨B, 1, none⟩ = some (.int .i64 n1) ∧ W'.cell? ⟨B, 2, none⟩ = some (.int .i64 n2) ∧ (convert 31 9 (.slice (some ⟨B + 1, 0, none⟩) i i)).run Try.prog W' = .ok (.string ⟨l.toArray⟩) W')
                        (first | (exact ⟨p1, p2, c0v⟩) | (exact ⟨TN.out.cell p1 (Nat.le_refl _), TN.out.cell p2 (Nat.le_refl _), cN⟩) | go_keep)
                        ((first
                        | (go_at_call 13; refine (two_program (R := { R with md := md }) (by first | exact TN.out | exact TV.out.drew | exact TV.out) _ _ _).mono ?_; rintro e W' ⟨rfl, TN'⟩; have TN := Lib.hid TN'; have cN := back_conv W' (B + 1) i l (TN'.bytes HBY.out (by omega) (by omega)); rw [hl] at cN; clear TN')
                        | (go_at_call 26; refine (two_rprogram (R := { R with md := md }) (by first | exact TN.out | exact TV.out.drew | exact TV.out) _ _ _).mono ?_; rintro e W' ⟨rfl, TN'⟩; have TN := Lib.hid TN'; have cN := back_conv W' (B + 1) i l (TN'.bytes HBY.out (by omega) (by omega)); rw [hl] at cN; clear TN')))
                      all_goals
                        go_wp2
                        go_meet
                        case rel => exact ⟨by simp, Lib.hid ⟨_, md, TN.out.t, HL.out.trans (like_programC _ _ _ _)⟩⟩
          · as_aux_lemma =>
              rcases hcases with rfl | rfl
              all_goals
                go_wp2_with fail
                refine (two_read (R := { R with md := md }) T0.out n1 n2).mono ?_; rintro e W1 ⟨rfl, TN'⟩
                have u1 := TN'.cell q1 (Nat.le_refl _)
                have u2 := TN'.cell q2 (Nat.le_refl _)
                have T1 := Lib.hid TN'
                clear TN'
                go_wp2_with fail
                refine (two_rread (R := { R with md := md }) T1.out n1 n2).mono ?_; rintro e W2 ⟨rfl, TN'⟩
                have T2 := Lib.hid TN'
                have hs : ((readC c n1 n2).1.toList == (readC c n1 n2).1.toList) = true := by simp
                clear TN'
                go_wp2_with fail
                go_meet
                case rel => exact ⟨by simp, Lib.hid ⟨_, md, T2.out.t, HL.out.trans (like_readC _ _ _)⟩⟩
          · as_aux_lemma =>
              go_wp2_with fail
              go_region_held3 (fun W' => W'.cell? ⟨B, 1, none⟩ = some (.int .i64 n1) ∧ W'.cell? ⟨B, 2, none⟩ = some (.int .i64 n2))
                (first | go_keep | (exact ⟨TN.out.cell q1 (Nat.le_refl _), TN.out.cell q2 (Nat.le_refl _)⟩))
                ((first
                | (go_at_call 22; refine (two_spoil (R := { R with md := md }) (by first | exact TN.out | exact T0.out.drew | exact T0.out) _ _).mono ?_; rintro e W' ⟨rfl, TN'⟩; have TN := Lib.hid TN'; clear TN')
                | (go_at_call 28; refine (two_rspoil (R := { R with md := md }) (by first | exact TN.out | exact T0.out.drew | exact T0.out) _ _).mono ?_; rintro e W' ⟨rfl, TN'⟩; have TN := Lib.hid TN'; clear TN')))
              all_goals
                go_wp2
                go_meet
                case rel => exact ⟨by simp, Lib.hid ⟨_, md, TN.out.t, HL.out.trans (like_spoilC _ _ _)⟩⟩
          · as_aux_lemma =>
              go_wp2_with fail
              go_region_held3 (fun W' => W'.cell? ⟨B, 1, none⟩ = some (.int .i64 n1) ∧ W'.cell? ⟨B, 2, none⟩ = some (.int .i64 n2))
                (first | go_keep | (exact ⟨TN.out.cell q1 (Nat.le_refl _), TN.out.cell q2 (Nat.le_refl _)⟩))
                ((first
                | (go_at_call 23; refine (two_wear (R := { R with md := md }) (by first | exact TN.out | exact T0.out.drew | exact T0.out) _).mono ?_; rintro e W' ⟨rfl, TN'⟩; have TN := Lib.hid TN'; clear TN')
                | (go_at_call 29; refine (two_rwear (R := { R with md := md }) (by first | exact TN.out | exact T0.out.drew | exact T0.out) _).mono ?_; rintro e W' ⟨rfl, TN'⟩; have TN := Lib.hid TN'; clear TN')))
              all_goals
                go_wp2
                go_meet
                case rel => exact ⟨by simp, Lib.hid ⟨_, md, TN.out.t, HL.out.trans (like_wearC _ _)⟩⟩
          · as_aux_lemma =>
              have f1 := F1.out
              have f2 := F2.out
              go_wp2_with fail
              refine (two_cut (R := { R with md := md }) T0.out n1 n2 (by omega) (by omega) (by omega)).mono ?_; rintro e W1 ⟨rfl, TN'⟩
              have u1 := TN'.cell q1 (Nat.le_refl _)
              have u2 := TN'.cell q2 (Nat.le_refl _)
              have T1 := Lib.hid TN'
              clear TN'
              have r10 : W1.cell? ⟨R.a, 10, none⟩ = some (.int .i64 c.left) := T1.out.t.r.ca 10 (by decide)
              have r11 : W1.cell? ⟨R.a, 11, none⟩ = some (.int .i64 md) := T1.out.t.r.ca 11 (by decide)
              have rf := T1.out.t.r.fz R.a (rfoot_a R)
              have rb : R.a < B := T1.out.b R.a (.inr (rfoot_a R))
              have rn : R.a ≠ B := by omega
              go_wp2_with fail
              go_region
              all_goals
                go_wp2
                go_meet
                case rel =>
                  exact ⟨rfl, Lib.hid ⟨_, n2, (T1.out.rcut (max n1 1) n2 (by omega) (by omega) (by omega) (by omega)).drew.t, HL.out.trans ⟨rfl, rfl, rfl⟩⟩⟩
          · as_aux_lemma =>
              go_wp2_with fail
              refine (two_on (R := { R with md := md }) T0.out).mono ?_; rintro e W1 ⟨rfl, TN'⟩
              have T1 := Lib.hid TN'
              clear TN'
              have r10 : W1.cell? ⟨R.a, 10, none⟩ = some (.int .i64 c.left) := T1.out.t.r.ca 10 (by decide)
              have r12 : W1.cell? ⟨R.a, 12, none⟩ = some (.bool c.off) := T1.out.t.r.ca 12 (by decide)
              have rf := T1.out.t.r.fz R.a (rfoot_a R)
              go_wp2_with fail
              go_meet
              case rel => exact ⟨rfl, Lib.hid ⟨_, md, (T1.out.ron 0).t, HL.out.trans ⟨rfl, rfl, rfl⟩⟩⟩
          · as_aux_lemma =>
              go_wp2_with fail
              refine (two_noise (R := { R with md := md }) T0.out n1 n2 n3).mono ?_; rintro e W1 ⟨rfl, TN'⟩
              have u1 := TN'.cell q1 (Nat.le_refl _)
              have u2 := TN'.cell q2 (Nat.le_refl _)
              have u3 := TN'.cell q3 (Nat.le_refl _)
              have T1 := Lib.hid TN'
              clear TN'
              have r7 : W1.cell? ⟨R.a, 7, none⟩ = some (.int .i64 c.seed) := T1.out.t.r.ca 7 (by decide)
              have r8 : W1.cell? ⟨R.a, 8, none⟩ = some (.int .i64 c.most) := T1.out.t.r.ca 8 (by decide)
              have r9 : W1.cell? ⟨R.a, 9, none⟩ = some (.int .i64 c.piece) := T1.out.t.r.ca 9 (by decide)
              have rf := T1.out.t.r.fz R.a (rfoot_a R)
              have rb : R.a < B := T1.out.b R.a (.inr (rfoot_a R))
              have rn : R.a ≠ B := by omega
              go_wp2_with fail
              go_region
              all_goals
                go_wp2
                go_meet
                case rel =>
                  exact ⟨rfl, Lib.hid ⟨_, md, (T1.out.rnoise n1 n2 n3).drew.t, HL.out.trans ⟨rfl, rfl, rfl⟩⟩⟩
        case rest =>
          as_aux_lemma =>
            obtain ⟨rfl, HA⟩ := hcut
            obtain ⟨w4, rfl⟩ : ∃ w4 : World, w4 = wc := ⟨_, rfl⟩
            obtain ⟨c1, md1, T1, L1⟩ := HA.out
            have HT1 := Lib.hid T1
            have HL1 := Lib.hid L1
            have r12 : w4.cell? ⟨R.a, 12, none⟩ = some (.bool c1.off) := T1.r.ca 12 (by decide)
            have r13 : w4.cell? ⟨R.a, 13, none⟩ = some (.int .i64 c1.changes) := T1.r.ca 13 (by decide)
            have r0 : w4.cell? ⟨R.a, 0, none⟩ = some (.int .i64 c1.nb) := T1.r.ca 0 (by decide)
            have r4 : w4.cell? ⟨R.a, 4, none⟩ = some (.slice (some ⟨R.ee, 0, none⟩) c1.nb c1.nb) := T1.r.ca 4 (by decide)
            have r5 : w4.cell? ⟨R.a, 5, none⟩ = some (.slice (some ⟨R.rr, 0, none⟩) c1.nb c1.nb) := T1.r.ca 5 (by decide)
            have re := Lib.hid T1.r.ce
            have rr := Lib.hid T1.r.cr
            have hnb := T1.r.nbn
            have hof : Hid (∀ n, Calls Try.prog 15 #[.pointer (some ⟨L.a, 0, none⟩)] (w4.drewN n) fun e w' => e = .returned (.bool c1.off) ∧ w' = w4.drewN n) := Lib.hid (fun n => (off_any (T1.h.at_.drewN n)).mono fun _ _ h => ⟨h.1, h.2.symm⟩)
            have hch : Hid (∀ n, Calls Try.prog 21 #[.pointer (some ⟨L.a, 0, none⟩)] (w4.drewN n) fun e w' => e = .returned (.int .i64 c1.changes) ∧ w' = w4.drewN n) := Lib.hid (fun n => (changes_any (T1.h.at_.drewN n)).mono fun _ _ h => ⟨h.1, h.2.symm⟩)
            have s1 : (c1.off != c1.off) = false := by simp
            have s2 : (c1.changes != c1.changes) = false := by simp
            clear T1 L1 HA T0 q1 q2 q3 q4
            go_wp2_with fail
            go_quiet ((first | (go_at_call 15; exact Calls.quiet_of_same (hof.out _)) | (go_at_call 21; exact Calls.quiet_of_same (hch.out _))))
            go_wp2_with fail
            go_loopw [17] (fun vb w5 => ∃ b n : Nat, b ≤ c1.nb ∧ vb = .int .i64 b ∧ w5 = w4.drewN n) (fun vb _ => c1.nb - (intOf vb).toNat)
            case atStart => exact ⟨0, _, by omega, rfl, rfl⟩
            case round =>
              obtain ⟨b, n, hb, rfl, rfl⟩ := hrel
              by_cases hlb : b < c1.nb
              · have e1 : w4.cell? ⟨R.ee, b, none⟩ = some (.int .i64 (c1.er b)) := re.out b hlb
                have e2 : w4.cell? ⟨R.rr, b, none⟩ = some (.int .i64 (c1.rd b)) := rr.out b hlb
                have hct : countsC c1 (b : Int) = (c1.er b, c1.rd b) := by unfold countsC; rw [if_pos (by simp [hasB]; omega)]; rfl
                have HCT := Lib.hid hct
                have t1 : (c1.er b != c1.er b) = false := by simp
                have t2 : (c1.rd b != c1.rd b) = false := by simp
                clear hct
                go_wp2_with fail
                refine (counts_any (HT1.out.h.at_.drewN n) b).mono ?_; rintro e w6 ⟨rfl, q, rfl⟩
                rw [HCT.out]
                go_wp2_with fail
                go_roundw
                case rel => exact ⟨b + 1, _, by omega, by go_num, rfl⟩
                case measure => simp [intOf]; omega
              · go_wp2_with fail
                go_roundw
                case rel => exact ⟨k + 1, c1, md1, by omega, by go_num, Lib.hid (HT1.out.drewN n), HL1⟩
                case measure => simp [intOf]; omega
      · as_aux_lemma =>
          have H9 := H.out
          have hbl := H9.h.below
          have y0 := (hbl.cell (World.block_lt_of_cell? _ _ X0.out)).trans X0.out
          have y1 := (hbl.cell (World.block_lt_of_cell? _ _ X1.out)).trans X1.out
          have y2 := (hbl.cell (World.block_lt_of_cell? _ _ X2.out)).trans X2.out
          have HAT := Lib.hid H9.h.at_
          have HBL := Lib.hid (HW1.out.trans (hbl.mono HW1.out.size))
          have ho := HOK.out
          unfold newOk at ho
          have hl := HL.out
          rw [← HC0.out] at hl
          obtain ⟨l1, l2, l3⟩ := hl
          have m1 : (c.nb : Int) = s0 := by rw [l1]; show ((s0.toNat : Nat) : Int) = s0; omega
          have m2 : (c.np : Int) = s1 := by rw [l2]; show ((s1.toNat : Nat) : Int) = s1; omega
          have m3 : c.bytes = s2 := l3
          have hct : Hid (countsC c s0 = (0, 0)) := Lib.hid (by unfold countsC; rw [if_neg]; simp [hasB]; omega)
          have i1 : Hid (isB c s0 s1 s2 = true) := Lib.hid (by simp [isB, m1, m2, m3])
          have i2 : Hid (isB c s0 (s1 + 4) s2 = false) := Lib.hid (by simp [isB, m1, m2, m3]; omega)
          have i3 : Hid (isB c (s0 + 1) s1 s2 = false) := Lib.hid (by simp [isB, m1, m2, m3]; omega)
          have i4 : Hid (isB c s0 s1 (s2 - 1) = false) := Lib.hid (by simp [isB, m1, m2, m3]; omega)
          have ho1 : s0 ≤ 64 := ho.2.1
          have ho2 : s1 ≤ 64 := ho.2.2.2.1
          have ho3 : 1 ≤ s2 := ho.2.2.2.2.2.1
          have ho4 : 1 ≤ s0 := ho.1
          have ho5 : 4 ≤ s1 := ho.2.2.1
          clear ho l1 l2 l3 m1 m2 m3 hbl H9 H
          go_wp2_with fail
          refine (counts_any HAT.out s0).mono ?_; rintro e w6 ⟨rfl, q, rfl⟩
          rw [hct.out]
          go_wp2_with fail
          refine (is_any (HAT.out.drewN q) s0 s1 s2).mono ?_; rintro e w7 ⟨rfl, rfl⟩
          rw [i1.out]
          go_wp2_with fail
          refine (is_any (HAT.out.drewN q) s0 (s1 + 4) s2).mono ?_; rintro e w7 ⟨rfl, rfl⟩
          rw [i2.out]
          go_wp2_with fail
          refine (is_any (HAT.out.drewN q) (s0 + 1) s1 s2).mono ?_; rintro e w7 ⟨rfl, rfl⟩
          rw [i3.out]
          go_wp2_with fail
          refine (is_any (HAT.out.drewN q) s0 s1 (s2 - 1)).mono ?_; rintro e w7 ⟨rfl, rfl⟩
          rw [i4.out]
          go_wp2_with fail
          refine (is_nil s0 s1 s2 _).mono ?_; rintro e w7 ⟨rfl, rfl⟩
          go_wp2_with fail
          go_ret
          exact ⟨rfl, Below.stays HBL.out ((Stays.refl (fun _ => False) _).drewN q) (fun _ => False.elim) HBL.out.size⟩
  · have HOK := Lib.hid hok
    clear hok
    go_wp2_with fail
    refine (new_bad s0 s1 s2 w1 HOK.out).mono ?_; rintro e w2 ⟨rfl, rfl⟩
    go_wp2_with fail
    refine (rnew_bad s0 s1 s2 w1 HOK.out).mono ?_; rintro e w2 ⟨rfl, rfl⟩
    go_wp2_with fail
    go_ret
    exact ⟨rfl, HW1.out⟩

end Go.Proofs.Ythoadcibknaelaa
