/- A code, fresh or ready: New, ready, Parity, Encode. -/
import Derived.Test.YtldekkniammllaaCodC
import Derived.Test.YtldekkniammllaaCodO
namespace Go.Proofs.Ytldekkniammllaa
open Go.RowKit
set_option linter.unusedVariables false
set_option linter.unusedSimpArgs false

structure CodeFresh (w : World) (c t chunk : Nat) : Prop where
  h0 : w.cell? ⟨c, 0, none⟩ = some (.int .i64 (t : Int))
  h1 : w.cell? ⟨c, 1, none⟩ = some (.int .i64 (chunk : Int))
  h2 : w.cell? ⟨c, 2, none⟩ = some (.int .u32 0)
  h3 : w.cell? ⟨c, 3, none⟩ = some (.int .i32 0)
  h11 : ∃ v, w.cell? ⟨c, 11, none⟩ = some v
  h12 : ∃ v, w.cell? ⟨c, 12, none⟩ = some v
  field : FieldAt w c 5
  free : ∀ o, w.frozen? ⟨c, o, none⟩ = false
structure CodeReady (w : World) (c t chunk gl be bl : Nat) : Prop where
  h0 : w.cell? ⟨c, 0, none⟩ = some (.int .i64 (t : Int))
  h1 : w.cell? ⟨c, 1, none⟩ = some (.int .i64 (chunk : Int))
  h2 : w.cell? ⟨c, 2, none⟩ = some (.int .u32 1)
  h3 : w.cell? ⟨c, 3, none⟩ = some (.int .i32 0)
  h11 : w.cell? ⟨c, 11, none⟩ = some (.int .i64 ((13 * t : Nat) : Int))
  h12 : w.cell? ⟨c, 12, none⟩ = some (.slice (some ⟨gl, 0, none⟩) (parN t) (parN t))
  low : VRow w gl (parN t) (lowN t)
  field : FieldReady w c 5 be bl
  n1 : gl ≠ c
  n2 : gl ≠ be
  n3 : gl ≠ bl
  lt : gl < w.heap.size
  free : ∀ o, w.frozen? ⟨c, o, none⟩ = false
def CodeAt (w : World) (c t chunk : Nat) : Prop := CodeFresh w c t chunk ∨ ∃ gl be bl, CodeReady w c t chunk gl be bl
section
variable {w w' : World} {c t chunk gl be bl lo hi : Nat} {S : Nat → Prop}
theorem CodeReady.lc (h : CodeReady w c t chunk gl be bl) : c < w.heap.size := World.block_lt_of_cell? _ _ h.h0
theorem CodeFresh.lc (h : CodeFresh w c t chunk) : c < w.heap.size := World.block_lt_of_cell? _ _ h.h0
theorem CodeAt.lc (h : CodeAt w c t chunk) : c < w.heap.size := by
  rcases h with h | ⟨_, _, _, h⟩ <;> exact h.lc
theorem CodeReady.stays (h : CodeReady w c t chunk gl be bl) (k : Stays S w w') (g0 : ¬ S c) (g1 : ¬ S gl) (g2 : ¬ S be) (g3 : ¬ S bl) : CodeReady w' c t chunk gl be bl :=
  ⟨k.cell h.h0 g0, k.cell h.h1 g0, k.cell h.h2 g0, k.cell h.h3 g0, k.cell h.h11 g0, k.cell h.h12 g0, h.low.stays k h.lt g1, h.field.stays k g0 g2 g3, h.n1, h.n2, h.n3, Nat.lt_of_lt_of_le h.lt k.size, fun o => (k.frozen (p := ⟨c, o, none⟩) g0 h.lc).trans (h.free o)⟩
theorem CodeReady.below (h : CodeReady w c t chunk gl be bl) (k : Below w.heap.size w w') : CodeReady w' c t chunk gl be bl := h.stays (S := fun _ => False) (Stays.of_below k) id id id id
theorem CodeFresh.stays (h : CodeFresh w c t chunk) (k : Stays S w w') (g0 : ¬ S c) (gf : ∀ be bl, FieldReady w c 5 be bl → ¬ S be ∧ ¬ S bl) : CodeFresh w' c t chunk :=
  ⟨k.cell h.h0 g0, k.cell h.h1 g0, k.cell h.h2 g0, k.cell h.h3 g0, h.h11.imp fun v hv => k.cell hv g0, h.h12.imp fun v hv => k.cell hv g0, by
    rcases h.field with f | ⟨be, bl, f⟩
    · exact .inl (f.stays k g0)
    · exact .inr ⟨be, bl, f.stays k g0 (gf be bl f).1 (gf be bl f).2⟩, fun o => (k.frozen (p := ⟨c, o, none⟩) g0 h.lc).trans (h.free o)⟩
theorem CodeAt.below (h : CodeAt w c t chunk) (k : Below w.heap.size w w') : CodeAt w' c t chunk := by
  rcases h with h | ⟨gl, be, bl, h⟩
  · exact .inl (h.stays (S := fun _ => False) (Stays.of_below k) id (fun _ _ _ => ⟨id, id⟩))
  · exact .inr ⟨gl, be, bl, h.below k⟩
end

set_option maxHeartbeats 1600000 in
theorem New_no (t chunk : Int) (h : t < 1 ∨ 8 < t ∨ chunk < 1 ∨ 256 < chunk) (w : World) :
    Calls Try.prog 9 #[.int .i64 t, .int .i64 chunk] w fun e w' => e = .returned (.tuple #[.pointer none, .int .i64 1]) ∧ w' = w := by
  by_cases h1 : t < 1
  · go_enter Try.func9, Try.ntmps9
    go_wp2_with fail
    go_ret2
    exact ⟨rfl, rfl⟩
  · by_cases h2 : 8 < t
    · go_enter Try.func9, Try.ntmps9
      go_wp2_with fail
      go_ret2
      exact ⟨rfl, rfl⟩
    · by_cases h3 : chunk < 1
      · go_enter Try.func9, Try.ntmps9
        go_wp2_with fail
        go_ret2
        exact ⟨rfl, rfl⟩
      · have h4 : 256 < chunk := by omega
        go_enter Try.func9, Try.ntmps9
        go_wp2_with fail
        go_ret2
        exact ⟨rfl, rfl⟩

set_option maxHeartbeats 1600000 in
theorem New_yes (t chunk : Nat) (h1 : 1 ≤ t) (h2 : t ≤ 8) (h3 : 1 ≤ chunk) (h4 : chunk ≤ 256) (w : World) :
    Calls Try.prog 9 #[.int .i64 (t : Int), .int .i64 (chunk : Int)] w fun e w' => e = .returned (.tuple #[.pointer (some ⟨w.heap.size, 0, none⟩), .int .i64 0]) ∧ CodeFresh w' w.heap.size t chunk ∧ Below w.heap.size w w' := by
  go_enter Try.func9, Try.ntmps9
  go_wp2_with fail
  go_ret2
  refine ⟨rfl, ⟨by go_simp, by go_simp, by go_simp, by go_simp, ⟨.int .i64 0, by go_simp⟩, ⟨.slice none 0 0, by go_simp⟩, .inl ⟨by go_simp, by go_simp, ⟨.slice none 0 0, by go_simp⟩, ⟨.slice none 0 0, by go_simp⟩, ⟨0, by go_simp⟩, fun o => by go_simp⟩, fun o => by go_simp⟩, (Below.refl _ _).alloc (Nat.le_refl _) _⟩

/-- Ready behind the call; only the code's own cells from 2 on may differ. -/
def Coded (c t chunk : Nat) (w w' : World) : Prop := ∃ gl be bl, CodeReady w' c t chunk gl be bl ∧ Only c 2 13 w w' ∧ ∀ gl' be' bl', CodeReady w c t chunk gl' be' bl' → gl' = gl ∧ be' = be ∧ bl' = bl
set_option maxHeartbeats 1600000 in
theorem ready_ready (c t chunk gl be bl : Nat) (w : World) (h : CodeReady w c t chunk gl be bl) :
    Calls Try.prog 18 #[.pointer (some ⟨c, 0, none⟩)] w fun e w' => e = .returned (.tuple #[]) ∧ w' = w.alloc (.cells #[.pointer (some ⟨c, 0, none⟩)] 23) := by
  have h0 := h.h2
  have lb := h.lc
  clear h
  go_enter Try.func18, Try.ntmps18
  go_wp2_with (go_at_call 29; refine (do_done ⟨c, 2, none⟩ 1 (by decide) _ _ (by go_simp)).mono ?_; rintro e w' ⟨rfl, rfl⟩)
  go_end0
  exact ⟨rfl, rfl⟩

set_option maxHeartbeats 1600000 in
theorem ready_fresh (c t chunk : Nat) (ht1 : 1 ≤ t) (ht8 : t ≤ 8) (w : World) (h : CodeFresh w c t chunk) :
    Calls Try.prog 18 #[.pointer (some ⟨c, 0, none⟩)] w fun e w' => e = .returned (.tuple #[]) ∧ Coded c t chunk w w' := by
  obtain ⟨h0, h1, h2, h3, ⟨v11, h11⟩, ⟨v12, h12⟩, hfld, hf⟩ := h
  have lc : c < w.heap.size := World.block_lt_of_cell? _ _ h0
  have nc : w.heap.size ≠ c := by omega
  have f2 := hf 2
  have f3 := hf 3
  have HF := Lib.hid hf
  obtain ⟨wa, hwa⟩ : ∃ wa : World, wa = (w.alloc (.cells #[.pointer (some ⟨c, 0, none⟩)] 23)).setCell ⟨c, 3, none⟩ (.int .i32 1) := ⟨_, rfl⟩
  have oa : Only c 3 4 w wa := by rw [hwa]; exact ((Only.refl c 3 4 w).alloc lc _).setCell (by omega) (by omega) _
  have fa : FieldAt wa c 5 := by
    rcases hfld with f | ⟨be, bl, f⟩
    · exact .inl (f.only oa (.inl (by omega)))
    · exact .inr ⟨be, bl, f.only oa (.inl (by omega))⟩
  have pa : wa.cell? ⟨w.heap.size, 0, none⟩ = some (.pointer (some ⟨c, 0, none⟩)) := by rw [hwa]; go_simp
  have ca3 : wa.cell? ⟨c, 3, none⟩ = some (.int .i32 1) := by rw [hwa]; go_simp
  have ca2 : wa.cell? ⟨c, 2, none⟩ = some (.int .u32 0) := oa.cell h2 (fun _ => by omega)
  have hfill := ready1_any c w.heap.size t v11 v12 wa ht1 ht8 pa (oa.cell h0 (fun _ => by omega)) (oa.cell h11 (fun _ => by omega)) (oa.cell h12 (fun _ => by omega)) fa (fun o => (oa.fz o).trans (hf o)) nc
  have hdo := do_code c 2 #[.pointer (some ⟨w.heap.size, 0, none⟩)] (fun w1 => Made c t wa w1) (w.alloc (.cells #[.pointer (some ⟨c, 0, none⟩)] 23)) (by go_simp) (by go_simp) (by go_simp) (by go_simp) (by
    rw [← hwa]
    refine hfill.mono fun e w1 ⟨he, hm⟩ => ?_
    obtain ⟨gl, be, bl, m1, m2, m3, m4, m5, m6, m7, m8, m9⟩ := hm
    exact ⟨he, m5.cell ca2 (fun _ => by omega), m5.cell ca3 (fun _ => by omega), (m5.fz _).trans ((oa.fz _).trans (hf _)), (m5.fz _).trans ((oa.fz _).trans (hf _)), gl, be, bl, m1, m2, m3, m4, m5, m6, m7, m8, m9⟩)
  have HD := Lib.hid hdo
  have HOA := Lib.hid oa
  have H0 := Lib.hid h0
  have H1 := Lib.hid h1
  have H2 := Lib.hid h2
  have HC := Lib.hid (And.intro ca2 ca3)
  clear hdo hfill hwa oa fa pa ca2 ca3 hf hfld h11 h12 h0 h1
  go_enter Try.func18, Try.ntmps18
  go_wp2_with (go_at_call 29; refine HD.out.mono ?_; rintro e w' ⟨rfl, hq⟩)
  go_end0
  refine ⟨rfl, ?_⟩
  obtain ⟨w1, ⟨gl, be, bl, m1, m2, m3, m4, m5, m6, m7, m8, m9⟩, rfl⟩ := hq
  have ob : Only c 2 4 w1 ((w1.drew.setCell ⟨c, 2, none⟩ (.int .u32 1)).setCell ⟨c, 3, none⟩ (.int .i32 0)) := ((Only.refl c 2 4 w1).drew.setCell (by omega) (by omega) _).setCell (by omega) (by omega) _
  have hall : Only c 2 13 w ((w1.drew.setCell ⟨c, 2, none⟩ (.int .u32 1)).setCell ⟨c, 3, none⟩ (.int .i32 0)) := ((HOA.out.mono (by omega) (by omega)).trans (m5.mono (by omega) (by omega))).trans (ob.mono (by omega) (by omega))
  have k2 : w1.cell? ⟨c, 2, none⟩ = some (.int .u32 0) := m5.cell HC.out.1 (fun _ => by omega)
  have k3 : w1.cell? ⟨c, 3, none⟩ = some (.int .i32 1) := m5.cell HC.out.2 (fun _ => by omega)
  refine ⟨gl, be, bl, ⟨hall.cell H0.out (fun _ => by omega), hall.cell H1.out (fun _ => by omega), ?_, ?_, ob.cell m1 (fun _ => by omega), ob.cell m2 (fun _ => by omega), Row.only m3 ob m9 m6, m4.only ob (.inl (by omega)), m6, m7, m8, Nat.lt_of_lt_of_le m9 ob.st.size, fun o => (hall.fz o).trans (HF.out o)⟩, hall, fun gl' be' bl' hk => ?_⟩
  · rw [World.cell?_setCell_other _ _ _ _ (addr_ne_off (by omega))]
    exact World.cell?_setCell_same _ _ _ (by rw [World.cell?_drew]; exact k2)
  · exact World.cell?_setCell_same _ _ _ ((World.cell?_setCell_other _ _ _ _ (addr_ne_off (by omega))).trans (by rw [World.cell?_drew]; exact k3))
  · have := hk.h2; rw [H2.out] at this; simp at this
theorem CodeReady.one {w : World} {c t chunk gl be bl gl' be' bl' : Nat} (h : CodeReady w c t chunk gl be bl) (k : CodeReady w c t chunk gl' be' bl') : gl' = gl ∧ be' = be ∧ bl' = bl := by
  have h1 := k.h12
  rw [h.h12] at h1
  simp at h1
  exact ⟨h1.symm, h.field.one k.field⟩
theorem ready_any (c t chunk : Nat) (ht1 : 1 ≤ t) (ht8 : t ≤ 8) (w : World) (h : CodeAt w c t chunk) :
    Calls Try.prog 18 #[.pointer (some ⟨c, 0, none⟩)] w fun e w' => e = .returned (.tuple #[]) ∧ Coded c t chunk w w' := by
  rcases h with h | ⟨gl, be, bl, h⟩
  · exact ready_fresh c t chunk ht1 ht8 w h
  · refine (ready_ready c t chunk gl be bl w h).mono fun e w' ⟨he, hw⟩ => ⟨he, gl, be, bl, ?_, ?_, fun gl' be' bl' hk => h.one hk⟩
    · rw [hw]; exact h.below ((Below.refl _ _).alloc (Nat.le_refl _) _)
    · rw [hw]; exact (Only.refl _ _ _ _).alloc h.lc _

theorem Parity_any (c t chunk : Nat) (ht1 : 1 ≤ t) (ht8 : t ≤ 8) (w : World) (h : CodeAt w c t chunk) :
    Calls Try.prog 13 #[.pointer (some ⟨c, 0, none⟩)] w fun e w' => e = .returned (.int .i64 ((parN t : Nat) : Int)) ∧ Coded c t chunk w w' := by
  have HR := Lib.hid (ready_any c t chunk ht1 ht8 w h)
  clear h
  go_enter Try.func13, Try.ntmps13
  go_wp2_with fail
  go_at_call 18
  refine HR.out.mono ?_
  rintro e w' ⟨rfl, hq⟩
  obtain ⟨gl, be, bl, hr, ho, hk⟩ := hq
  have h12 := hr.h12
  have HC : Hid (Coded c t chunk w w') := Lib.hid ⟨gl, be, bl, hr, ho, hk⟩
  clear hr ho hk
  go_wp2_with fail
  go_ret
  exact ⟨rfl, HC.out⟩
theorem Parity_nil (w : World) : Calls Try.prog 13 #[.pointer none] w fun e w' => e = .returned (.int .i64 0) ∧ w' = w := by
  go_enter Try.func13, Try.ntmps13
  go_wp2_with fail
  go_ret
  exact ⟨rfl, rfl⟩
end Go.Proofs.Ytldekkniammllaa
