/- The walk of the law NandOnce. -/
import Derived.Test.YthoadcibknaelaaLTorn
import Derived.Test.YthoadcibknaelaaOpen
import Derived.Outline
import Derived.Deep.DeepCutAuto
import Derived.Deep.CutBlock
namespace Go.Proofs.Ythoadcibknaelaa
open Go.RowKit
set_option linter.unusedVariables false
set_option linter.unusedSimpArgs false

/-- What stays of the chip whatever the script does: page 2 of block 0 is written with s, page 1 is erased, block 0 is not erased, no cut, no noise, the power on. -/
structure OInv (s : ByteArray) (c : Chp) : Prop where
  nb : c.nb = 2
  np : c.np = 8
  bytes : c.bytes = 3
  most : c.most = 0
  left : c.left = 0
  off : c.off = false
  worn : ∀ b, c.worn b = false
  er0 : c.er 0 = 0
  p1 : c.pg 0 1 = ⟨0, ⟨#[]⟩, false⟩
  p2 : (c.pg 0 2).st = 1 ∧ (c.pg 0 2).data = s
  p0 : (c.pg 0 0).st = 0

theorem OInv.torn {s : ByteArray} {c : Chp} (h : OInv s c) : tornC c = ((0, false), { c with changes := wrap64 (c.changes + 1) }) := by
  unfold tornC; rw [if_pos h.left]
theorem OInv.program {s : ByteArray} {c : Chp} (h : OInv s c) (b p : Int) (data : ByteArray) : OInv s (programC c b p data).2 := by
  unfold programC
  by_cases h1 : hasPB c b p = true ∧ (data.size : Int) = c.bytes
  · rw [if_pos h1]
    obtain ⟨n, m, rfl, rfl, hn, hm⟩ := hasPB_nat h1.1
    by_cases h2 : mayC c (n : Int).toNat = 0
    · rw [if_pos h2]
      by_cases h3 : cleanB c (n : Int).toNat (m : Int).toNat = true
      · rw [if_pos h3, h.torn]
        dsimp only
        rw [if_neg (by decide)]
        rw [Int.toNat_natCast, Int.toNat_natCast] at h3 ⊢
        rw [cleanB_iff] at h3
        have hne : ¬ (n = 0 ∧ m ≤ 2) := by
          rintro ⟨rfl, hm2⟩
          have := (h3 (2 - m) (by rw [h.np]; omega)).1
          rw [show m + (2 - m) = 2 by omega, h.p2.1] at this
          exact absurd this (by decide)
        have hpg : ∀ j, j ≤ 2 → (progFine { c with changes := wrap64 (c.changes + 1) } n m data).pg 0 j = c.pg 0 j := by
          intro j hj
          show upd2 c.pg n m _ 0 j = c.pg 0 j
          unfold upd2
          rw [if_neg (fun e => hne ⟨e.1.symm, by omega⟩)]
        exact ⟨h.nb, h.np, h.bytes, h.most, h.left, h.off, h.worn, h.er0, by rw [hpg 1 (by omega)]; exact h.p1, by rw [hpg 2 (by omega)]; exact h.p2, by rw [hpg 0 (by omega)]; exact h.p0⟩
      · rw [if_neg h3]; exact h
    · rw [if_neg h2]; exact h
  · rw [if_neg h1]; exact h
theorem OInv.erase1 {s : ByteArray} {c : Chp} (h : OInv s c) : OInv s (eraseC c 1).2 := by
  unfold eraseC
  by_cases h1 : hasB c 1 = true
  · rw [if_pos h1]
    by_cases h2 : mayC c ((1 : Int)).toNat = 0
    · rw [if_pos h2, h.torn]
      have hpg : ∀ j, pgTo (erasePg 0 false) c.pg 1 c.np 0 j = c.pg 0 j := by
        intro j; unfold pgTo; rw [if_neg (by omega)]
      have her : upd c.er 1 (wrap64 (c.er 1 + 1)) 0 = 0 := by rw [upd_other _ _ (by omega)]; exact h.er0
      exact ⟨h.nb, h.np, h.bytes, h.most, h.left, h.off, h.worn, her, (hpg 1).trans h.p1, by
        show (pgTo (erasePg 0 false) c.pg 1 c.np 0 2).st = 1 ∧ (pgTo (erasePg 0 false) c.pg 1 c.np 0 2).data = s
        rw [hpg]; exact h.p2, by
        show (pgTo (erasePg 0 false) c.pg 1 c.np 0 0).st = 0
        rw [hpg]; exact h.p0⟩
    · rw [if_neg h2]; exact h
  · rw [if_neg h1]; exact h
theorem OInv.read {s : ByteArray} {c : Chp} (h : OInv s c) (b p : Int) : OInv s (readC c b p).2.2 := by
  unfold readC
  by_cases h1 : hasPB c b p = true
  · rw [if_pos h1, if_neg (by simp [h.off])]
    exact ⟨h.nb, h.np, h.bytes, h.most, h.left, h.off, h.worn, h.er0, h.p1, h.p2, h.p0⟩
  · rw [if_neg h1]; exact h
theorem OInv.read2 {s : ByteArray} {c : Chp} (h : OInv s c) : (readC c 0 2).1 = s ∧ (readC c 0 2).2.1 = 0 := by
  unfold readC
  rw [if_pos (by simp [hasPB, hasB, h.nb, h.np]), if_neg (by simp [h.off])]
  unfold readS dataC
  rw [if_pos (.inl (by simp [h.most])), if_neg (by simp [h.p2.1]), if_neg (by simp [h.p2.1])]
  exact ⟨h.p2.2, rfl⟩
theorem OInv.read1 {s : ByteArray} {c : Chp} (h : OInv s c) : (readC c 0 1).1 = fill 3 255 ∧ (readC c 0 1).2.1 = 0 := by
  unfold readC
  rw [if_pos (by simp [hasPB, hasB, h.nb, h.np]), if_neg (by simp [h.off])]
  unfold readS dataC
  rw [if_pos (.inl (by simp [h.most]))]
  show (if (c.pg 0 1).st = 0 then fill c.bytes 255 else _) = _ ∧ _
  rw [h.p1, if_pos rfl, h.bytes]
  exact ⟨rfl, rfl⟩
theorem OInv.erase0 {s : ByteArray} {c : Chp} (h : OInv s c) : (eraseC c 0).1 = 0 := by
  unfold eraseC
  rw [if_pos (by simp [hasB, h.nb]), if_pos (by simp [mayC, h.off, h.worn]), h.torn]
  rfl
theorem OInv.counts {s : ByteArray} {c : Chp} (h : OInv s c) : (countsC c 0).1 = 0 := by
  unfold countsC
  rw [if_pos (by simp [hasB, h.nb])]
  exact h.er0

theorem oStart (s : ByteArray) (hs : s.size = 3) : (programC (freshC 2 8 3) 0 2 s).1 = 0 ∧ OInv s (programC (freshC 2 8 3) 0 2 s).2 := by
  have h1 : hasPB (freshC 2 8 3) 0 2 = true ∧ (s.size : Int) = (freshC 2 8 3).bytes := ⟨rfl, by rw [hs]; rfl⟩
  have h2 : mayC (freshC 2 8 3) ((0 : Int)).toNat = 0 := rfl
  have h3 : cleanB (freshC 2 8 3) ((0 : Int)).toNat ((2 : Int)).toNat = true := by decide
  have h4 : tornC (freshC 2 8 3) = ((0, false), { freshC 2 8 3 with changes := wrap64 (0 + 1) }) := rfl
  unfold programC
  rw [if_pos h1, if_pos h2, if_pos h3, h4]
  dsimp only
  rw [if_neg (by decide)]
  exact ⟨rfl, ⟨rfl, rfl, rfl, rfl, rfl, rfl, fun _ => rfl, rfl, rfl, ⟨rfl, rfl⟩, rfl⟩⟩

theorem conv_three (W : World) (g cap : Nat) (b0 b1 b2 : UInt8) (h0 : W.cell? ⟨g, 0, none⟩ = some (.int .u8 b0.toNat)) (h1 : W.cell? ⟨g, 1, none⟩ = some (.int .u8 b1.toNat)) (h2 : W.cell? ⟨g, 2, none⟩ = some (.int .u8 b2.toNat)) :
    (convert 31 9 (.slice (some ⟨g, 0, none⟩) 3 cap)).run Try.prog W = .ok (.string ⟨#[b0, b1, b2]⟩) W :=
  run_convert_bytes_back (P := Try.prog) W 31 9 5 ⟨g, 0, none⟩ cap [b0, b1, b2] (by kernel_rfl) (by kernel_rfl) (by kernel_rfl) (by
    intro j hj
    rw [add_none, Nat.zero_add]
    match j, hj with
    | 0, _ => exact h0
    | 1, _ => exact h1
    | 2, _ => exact h2)

set_option maxHeartbeats 1000000 in
set_option maxRecDepth 100000 in
theorem NandOnce_walk (A : Option Addr) (len cap : Nat) (a1 : Int) (w : World) (h0 : CellRow w A len cap 5 (FieldOk [.int .i64, .int .i64, .int .i64, .int .i64, .int .u8])) (w1 : (Lit.int .u8 a1).wf = true) :
    Calls Try.prog 6 #[.slice A len cap, .int .u8 a1] w fun e w' => e = .returned (.bool true) ∧ Below w.heap.size w w' := by
  have hu := wf_u8 w1
  have hlen := h0.len_le
  clear w1
  obtain ⟨fb, hfb⟩ : ∃ fb : UInt8, Hid (a1 = (fb.toNat : Int)) := ⟨UInt8.ofNat a1.toNat, Lib.hid (by
    have : (UInt8.ofNat a1.toNat).toNat = a1.toNat := by rw [UInt8.toNat_ofNat']; omega
    rw [this]; omega)⟩
  have HROW := Lib.hid h0
  clear h0
  go_enter Try.func6, Try.ntmps6
  go_wp2_with fail
  refine (speaks_ok _).mono ?_; rintro e w1 ⟨rfl, hb⟩
  go_wp2_with fail
  refine (new_at 2 8 3 w _ hb (by unfold newOk; omega)).mono ?_; rintro e w2 ⟨L, rfl, H2⟩
  have hcv := conv_three (w2.alloc (Obj.cells #[.int .u8 a1, .int .u8 1, .int .u8 2] 5)) w2.heap.size 3 fb 1 2 (by rw [World.cell?_alloc_new, hfb.out]; rfl) (by rw [World.cell?_alloc_new]; rfl) (by rw [World.cell?_alloc_new]; rfl)
  go_wp2_with fail
  obtain ⟨ho1, ho2⟩ := oStart ⟨#[fb, 1, 2]⟩ rfl
  refine (program_h (H2.alloc _) 0 2 ⟨#[fb, 1, 2]⟩).mono ?_; rintro e w3 ⟨rfl, H3⟩
  rw [show (programC (freshC (2 : Int).toNat (8 : Int).toNat 3) 0 2 ⟨#[fb, 1, 2]⟩).1 = 0 from ho1]
  have H3' : Hid (Holds w w3 L (programC (freshC 2 8 3) 0 2 ⟨#[fb, 1, 2]⟩).2) := H3
  have HO2 := Lib.hid ho2
  clear H2 H3 ho1 ho2 hcv
  go_wp2_with fail
  go_loopw [8] (fun vi wr => ∃ (k : Nat) (c : Chp), k ≤ len ∧ vi = .int .i64 k ∧ Hid (Holds w wr L c) ∧ Hid (OInv ⟨#[fb, 1, 2]⟩ c)) (fun vi _ => len - (intOf vi).toNat)
  case atStart => exact ⟨0, _, by omega, rfl, H3', HO2⟩
  case round =>
    obtain ⟨k, c, hk, rfl, H, HO⟩ := hrel
    clear H3' HO2
    by_cases hlt : k < len
    · obtain ⟨gb, go', rfl, hgb, hlc, hcm, hrow⟩ := HROW.out.open_ (by omega) (by omega)
      obtain ⟨v0, hv0, hk0⟩ := hrow k hlt 0 (by omega)
      obtain ⟨v1, hv1, hk1⟩ := hrow k hlt 1 (by omega)
      obtain ⟨v2, hv2, hk2⟩ := hrow k hlt 2 (by omega)
      obtain ⟨v3, hv3, hk3⟩ := hrow k hlt 3 (by omega)
      obtain ⟨v4, hv4, hk4⟩ := hrow k hlt 4 (by omega)
      obtain ⟨n0, rfl, f0⟩ := hk0.int (k := .i64) rfl
      obtain ⟨n1, rfl, f1⟩ := hk1.int (k := .i64) rfl
      obtain ⟨n2, rfl, f2⟩ := hk2.int (k := .i64) rfl
      obtain ⟨n3, rfl, f3⟩ := hk3.int (k := .i64) rfl
      obtain ⟨n4, rfl, f4⟩ := hk4.int (k := .u8) rfl
      have hbl := H.out.below
      have g0 : wr.cell? ⟨gb, go' + k * 5, none⟩ = _ := (hbl.cell (p := ⟨gb, go' + k * 5, none⟩) hgb).trans hv0
      have g1 := (hbl.cell (p := ⟨gb, go' + k * 5 + 1, none⟩) hgb).trans hv1
      have g2 := (hbl.cell (p := ⟨gb, go' + k * 5 + 2, none⟩) hgb).trans hv2
      have g3 := (hbl.cell (p := ⟨gb, go' + k * 5 + 3, none⟩) hgb).trans hv3
      have g4 := (hbl.cell (p := ⟨gb, go' + k * 5 + 4, none⟩) hgb).trans hv4
      clear hv0 hv1 hv2 hv3 hv4 hk0 hk1 hk2 hk3 hk4 f0 f1 f2 f3 f4 hbl hrow hcm
      have HPg := Lib.hid (fun b p data => HO.out.program b p data)
      have HRd := Lib.hid (fun b p => HO.out.read b p)
      have HEr := Lib.hid HO.out.erase1
      go_wp2_with (first
        | (go_at_call 13; refine (program_h (H.out.alloc _) _ _ _).mono ?_; rintro e w4 ⟨rfl, H4⟩; have HH4 := Lib.hid H4; clear H4)
        | (go_at_call 19; refine (erase_h (H.out.alloc _) 1).mono ?_; rintro e w4 ⟨rfl, H4⟩; have HH4 := Lib.hid H4; clear H4)
        | (go_at_call 17; refine (read_h (H.out.alloc _) _ _).mono ?_; rintro e w4 ⟨rfl, H4⟩; have HH4 := Lib.hid H4; clear H4))
      all_goals
        go_roundw
        case rel => first | exact ⟨k + 1, _, by omega, by go_num, by assumption, HPg.out _ _ _⟩ | exact ⟨k + 1, _, by omega, by go_num, by assumption, HEr⟩ | exact ⟨k + 1, _, by omega, by go_num, by assumption, HRd.out _ _⟩
        case measure => simp [intOf]; omega
    · obtain rfl : k = len := by omega
      have hr2 := HO.out.read2
      have HR2 := Lib.hid hr2
      have hO2 := Lib.hid (HO.out.read 0 2)
      clear hr2
      go_wp2_with fail
      refine (read_h H.out 0 2).mono ?_; rintro e w4 ⟨rfl, H4⟩
      rw [HR2.out.1, HR2.out.2]
      have hr1 := Lib.hid hO2.out.read1
      have hO1 := Lib.hid (hO2.out.read 0 1)
      go_wp2_with fail
      refine (read_h H4 0 1).mono ?_; rintro e w5 ⟨rfl, H5⟩
      rw [hr1.out.1, hr1.out.2]
      have hct := Lib.hid hO1.out.counts
      have her := Lib.hid hO1.out.erase0
      have hfl : Hid ((fill 3 255).data.toList = [255, 255, 255]) := Lib.hid (by decide)
      generalize fill 3 255 = f3 at *
      obtain ⟨⟨fl⟩⟩ := f3
      obtain rfl : fl = [255, 255, 255] := hfl.out
      go_wp2_with fail
      refine (counts_any H5.at_ 0).mono ?_; rintro e w6 ⟨rfl, q, rfl⟩
      rw [hct.out]
      go_wp2_with fail
      refine (erase_h (H5.drewN q) 0).mono ?_; rintro e w7 ⟨rfl, H7⟩
      rw [her.out]
      go_wp2_with fail
      go_ret
      exact ⟨rfl, H7.below⟩

end Go.Proofs.Ythoadcibknaelaa
