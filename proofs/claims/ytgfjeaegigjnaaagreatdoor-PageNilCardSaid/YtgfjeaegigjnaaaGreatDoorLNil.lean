/- The walk of the law PageNil. -/
import Derived.Test.YtgfjeaegigjnaaaGreatDoorPagS
namespace Go.Proofs.YtgfjeaegigjnaaaGreatDoor
open Go.RowKit
set_option linter.unusedVariables false
set_option linter.unusedSimpArgs false

def g1 : Geo := ⟨1, 4, 1, 16, 1⟩
theorem g1_ok : g1.ok := by decide
theorem pw_torn {g : Geo} (hg : g.ok) {p : ByteArray} (hp : (p.size : Int) ≤ g.room) : ∃ d, pwC g { gC g with left := max 1 1, mode := 0 } 0 0 p = (20, d) ∧ d.off = true ∧ d.nb = (gC g).nb ∧ d.np = (gC g).np ∧ d.bytes = g.raw := by
  obtain ⟨c, hc⟩ : ∃ c : Chp, c = { gC g with left := max 1 1, mode := 0 } := ⟨_, rfl⟩
  rw [← hc]
  have hl : c.left = 1 := by rw [hc]; rfl
  have hb : c.bytes = g.raw := by rw [hc]; rfl
  have ho : c.off = false := by rw [hc]; rfl
  have hw : c.worn 0 = false := by rw [hc]; rfl
  have hcl : cleanB c 0 0 = true := by rw [hc, cleanB_iff]; exact fun _ _ => ⟨rfl, rfl⟩
  have h1 : 0 < c.nb := by rw [hc]; show 0 < g.B.toNat; unfold Geo.ok at hg; omega
  have h2 : 0 < c.np := by rw [hc]; show 0 < g.P.toNat; unfold Geo.ok at hg; omega
  have ht : (tornC c).1.2 = true ∧ (tornC c).2.off = true := by
    unfold tornC
    rw [if_neg (by omega), if_neg (by omega)]
    exact ⟨rfl, rfl⟩
  have hto : ∀ (d : Chp) (m : Int) (b n : Nat) (data : ByteArray), (progTorn d m b n data).off = d.off := by
    intro d m b n data; unfold progTorn; simp only; split <;> rfl
  have hlk := like_programC c 0 0 (bytS (g.pageL p.data.toList))
  refine ⟨(programC c 0 0 (bytS (g.pageL p.data.toList))).2, ?_, ?_, by rw [hlk.1, hc], by rw [hlk.2.1, hc], by rw [hlk.2.2, hb]⟩
  · unfold pwC
    rw [if_neg (by omega)]
    have : (programC c 0 0 (bytS (g.pageL p.data.toList))).1 = 20 := by
      unfold programC
      rw [if_pos ⟨hasPB_yes (b := 0) (n := 0) h1 h2, by rw [hb]; exact page_size hg hp⟩]
      have hm : mayC c (0 : Int).toNat = 0 := by unfold mayC; rw [ho]; simp; exact hw
      rw [if_pos hm, if_pos (show cleanB c (0 : Int).toNat (0 : Int).toNat = true from hcl), if_pos ht.1]
    rw [← this]
  · unfold programC
    rw [if_pos ⟨hasPB_yes (b := 0) (n := 0) h1 h2, by rw [hb]; exact page_size hg hp⟩]
    have hm : mayC c (0 : Int).toNat = 0 := by unfold mayC; rw [ho]; simp; exact hw
    rw [if_pos hm, if_pos (show cleanB c (0 : Int).toNat (0 : Int).toNat = true from hcl), if_pos ht.1]
    exact (hto _ _ _ _ _).trans ht.2
set_option maxHeartbeats 3200000 in
set_option maxRecDepth 100000 in
theorem PageNil_walk (b n : Int) (pl : ByteArray) (w : World) (hn : NibAt w) (wb : (Lit.int .i64 b).wf = true) (wn : (Lit.int .i64 n).wf = true) (wp : pl.size ≤ 140737488351232) :
    Calls Tryz.prog 7 #[.int .i64 b, .int .i64 n, .string pl] w fun e w' => e = .returned (.bool true) ∧ Below w.heap.size w w' := by
  have hg : 0 < w.heap.size := World.block_lt_of_cell? _ _ (hn 0 (by decide))
  have HSP := Lib.hid (speaks_ok w hn hg)
  have HRN := Lib.hid (fun w => pread_nil b n w)
  have HWN := Lib.hid (fun w => pwrite_nil b n pl w)
  have HN := Lib.hid hn
  have HG := Lib.hid hg
  obtain ⟨d, hd, hoff, hnb, hnp, hby⟩ := pw_torn (g := g1) g1_ok (p := ⟨#[120]⟩) (by decide)
  have HW : Hid (∀ w0 W L a q, NibAt w0 → 0 < w0.heap.size → PagAt w0 W L { gC g1 with left := max 1 1, mode := 0 } a q g1 → Calls Tryz.prog 17 #[.pointer (some ⟨a, 0, none⟩), .int .i64 0, .int .i64 0, .string ⟨#[120]⟩] W fun e W' => e = .returned (.int .i64 20) ∧ PagAt w0 W' L d a q g1) := Lib.hid (fun w0 W L a q hn hg h => by
    have := pwrite_any h hn hg 0 0 ⟨#[120]⟩
    rw [hd] at this
    exact this)
  have hr : readC d 0 0 = (⟨#[]⟩, 20, d) := read_off (c := d) (b := 0) (n := 0) (by rw [hnb]; decide) (by rw [hnp]; decide) hoff
  have HR : Hid (∀ w0 W L a q, NibAt w0 → 0 < w0.heap.size → PagAt w0 W L d a q g1 → Calls Tryz.prog 21 #[.pointer (some ⟨a, 0, none⟩), .int .i64 0, .int .i64 0] W fun e W' => e = .returned (.tuple #[foundV 0 [] 0, .int .i64 20]) ∧ PagAt w0 W' L d a q g1) := Lib.hid (fun w0 W L a q hn hg h => by
    have := h.pread hn hg hby 0 0
    rw [hr] at this
    refine this.mono fun e W' ⟨he, hp, _⟩ => ⟨?_, hp⟩
    rw [he]
    show Ending.returned (.tuple #[(if (20 : Int) ≠ 0 then foundV 0 [] 0 else _), _]) = _
    rw [if_pos (by decide)])
  clear hd hoff hnb hnp hby hr hn hg wb wn wp
  go_enter Tryz.func7, Tryz.ntmps7
  go_wp2_with fail
  go_at_call 9
  refine HSP.out.mono ?_
  rintro e w1 ⟨rfl, h1⟩
  have HB1 := Lib.hid h1
  clear h1 HSP
  go_wp2_with fail
  go_at_call 21
  refine (HRN.out _).mono ?_
  rintro e w2 ⟨rfl, h2⟩
  have HB2 : Hid (Below w.heap.size w w2) := Lib.hid (HB1.out.trans (h2.mono HB1.out.size))
  clear h2 HB1
  rw [found0]
  go_upto_region 6 with fail
  have hs1 : (w2.alloc (.cells #[.int .i64 0, .string ⟨#[]⟩, .int .i64 0] 50)).heap.size = w2.heap.size + 1 := by simp
  have hG0 := GeoAt.new (w2.alloc (.cells #[.int .i64 0, .string ⟨#[]⟩, .int .i64 0] 50)) g1 25
  have hF0 := (FoundAt.new w2 0 0 ⟨#[]⟩ 50).below ((Below.refl _ _).alloc (Nat.le_refl _) (.cells #[.int .i64 g1.B, .int .i64 g1.P, .int .i64 g1.C, .int .i64 g1.K, .int .i64 g1.T] 25)) (by simp)
  have hB0 : Below w.heap.size w ((w2.alloc (.cells #[.int .i64 0, .string ⟨#[]⟩, .int .i64 0] 50)).alloc (.cells #[.int .i64 g1.B, .int .i64 g1.P, .int .i64 g1.C, .int .i64 g1.K, .int .i64 g1.T] 25)) := (HB2.out.alloc HB2.out.size _).alloc (by have := HB2.out.size; simp; omega) _
  rw [hs1] at hG0
  obtain ⟨w0, hw0⟩ : ∃ w0, w0 = (w2.alloc (.cells #[.int .i64 0, .string ⟨#[]⟩, .int .i64 0] 50)).alloc (.cells #[.int .i64 g1.B, .int .i64 g1.P, .int .i64 g1.C, .int .i64 g1.K, .int .i64 g1.T] 25) := ⟨_, rfl⟩
  rw [← hw0] at hG0 hF0 hB0
  rw [show (w2.alloc (.cells #[.int .i64 0, .string ⟨#[]⟩, .int .i64 0] 50)).alloc (.cells #[.int .i64 1, .int .i64 4, .int .i64 1, .int .i64 16, .int .i64 1] 25) = w0 from hw0.symm]
  have HB0 := Lib.hid hB0
  have HG0 := Lib.hid hG0
  have HF0 := Lib.hid hF0
  have HNA := Lib.hid (HN.out.below hB0 HG.out)
  have HGA : Hid (0 < w0.heap.size) := Lib.hid (Nat.lt_of_lt_of_le HG.out hB0.size)
  have HWA := Lib.hid (fun W L a q h => HW.out w0 W L a q HNA.out HGA.out h)
  have HRA := Lib.hid (fun W L a q h => HR.out w0 W L a q HNA.out HGA.out h)
  clear hB0 hG0 hF0 hw0 hs1 HB2 HN HG HW HR
  obtain ⟨b8, hb8⟩ : ∃ b8, b8 = w2.heap.size := ⟨_, rfl⟩
  obtain ⟨b10, hb10⟩ : ∃ b10, b10 = w2.heap.size + 1 := ⟨_, rfl⟩
  rw [← hb10, ← hb8]
  rw [← hb10] at HG0
  rw [← hb8] at HF0
  clear hb8 hb10
  have c0 := HG0.out.c0
  have c1 := HG0.out.c1
  have c2 := HG0.out.c2
  have c3 := HG0.out.c3
  have c4 := HG0.out.c4
  simp only [g1] at c0 c1 c2 c3 c4
  go_wp2_with fail
  go_at_call 13
  refine (Chip_yes g1 g1_ok w0 _ (Below.refl _ _)).mono ?_
  rintro e w3 ⟨L, rfl, h3⟩
  have H3 : Hid (Holds w0 w3 L (gC g1)) := Lib.hid h3
  have HG3 := Lib.hid (HG0.out.below h3.below HG0.out.lt)
  clear h3 c0 c1 c2 c3 c4
  have c0 := HG3.out.c0
  have c1 := HG3.out.c1
  have c2 := HG3.out.c2
  have c3 := HG3.out.c3
  have c4 := HG3.out.c4
  simp only [g1] at c0 c1 c2 c3 c4
  go_wp2_with fail
  go_at_call 14
  refine (PagAt.new H3.out g1 g1_ok).mono ?_
  rintro e w4 ⟨a, q, rfl, h4⟩
  have H4 := Lib.hid h4
  clear h4 c0 c1 c2 c3 c4
  go_wp2_with fail
  go_at_call 24
  refine (H4.out.cut 1 0 (by decide) (by decide) (by decide)).mono ?_
  rintro e w5 ⟨rfl, h5⟩
  have H5 := Lib.hid h5
  clear h5
  go_wp2_with fail
  go_at_call 17
  refine (HWA.out _ _ _ _ H5.out).mono ?_
  rintro e w6 ⟨rfl, h6⟩
  have H6 := Lib.hid h6
  clear h6
  go_wp2_with fail
  go_at_call 21
  refine (HRA.out _ _ _ _ H6.out).mono ?_
  rintro e w7 ⟨rfl, h7⟩
  have hF7 := HF0.out.below h7.holds.below HF0.out.lt
  have HB7 : Hid (Below w.heap.size w w7) := Lib.hid (HB0.out.trans (h7.holds.below.mono HB0.out.size))
  have f0 := hF7.c0
  have f1 := hF7.c1
  have f2 := hF7.c2
  have fl := hF7.lt
  clear h7 hF7 HB0 HG0 HF0 HNA HGA HWA HRA H3 HG3 H4 H5 H6
  rw [found0]
  go_wp2_with fail
  go_at_call 17
  refine (HWN.out _).mono ?_
  rintro e w' ⟨rfl, hw'⟩
  obtain rfl := hw'.symm
  go_wp2_with fail
  go_ret
  exact ⟨rfl, HB7.out.alloc HB7.out.size _⟩
end Go.Proofs.YtgfjeaegigjnaaaGreatDoor
