/- The field, fresh or ready; its tables made once. -/
import Derived.Test.YtldekkniammllaaBchT
import Derived.Deep.DeepFit
namespace Go.Proofs.Ytldekkniammllaa
open Go.RowKit
set_option linter.unusedVariables false
set_option linter.unusedSimpArgs false

theorem Tab.only {w w' : World} {b off be bl lo hi : Nat} (h : Tab w b off be bl) (k : Only b lo hi w w') (g1 : be ≠ b) (g2 : bl ≠ b) (hd : hi ≤ off + 3 ∨ off + 5 ≤ lo) : Tab w' b off be bl :=
  ⟨k.cell h.exp (fun _ => by omega), k.cell h.log (fun _ => by omega), fun j hj => k.cell (h.exps j hj) (fun e => absurd e g1), fun y h0 h1 => k.cell (h.logs y h0 h1) (fun e => absurd e g2)⟩
theorem Tab.stays {w w' : World} {b off be bl : Nat} {S : Nat → Prop} (h : Tab w b off be bl) (k : Stays S w w') (g0 : ¬ S b) (g1 : ¬ S be) (g2 : ¬ S bl) : Tab w' b off be bl :=
  ⟨k.cell h.exp g0, k.cell h.log g0, fun j hj => k.cell (h.exps j hj) g1, fun y h0 h1 => k.cell (h.logs y h0 h1) g2⟩

structure FieldFresh (w : World) (b off : Nat) : Prop where
  h0 : w.cell? ⟨b, off, none⟩ = some (.int .u32 0)
  h1 : w.cell? ⟨b, off + 1, none⟩ = some (.int .i32 0)
  h3 : ∃ v, w.cell? ⟨b, off + 3, none⟩ = some v
  h4 : ∃ v, w.cell? ⟨b, off + 4, none⟩ = some v
  h5 : ∃ n, w.cell? ⟨b, off + 5, none⟩ = some (.int .i64 n)
  free : ∀ o, w.frozen? ⟨b, o, none⟩ = false

structure FieldReady (w : World) (b off be bl : Nat) : Prop where
  h0 : w.cell? ⟨b, off, none⟩ = some (.int .u32 1)
  h1 : w.cell? ⟨b, off + 1, none⟩ = some (.int .i32 0)
  tab : Tab w b off be bl
  n1 : be ≠ b
  n2 : bl ≠ b
  h5 : ∃ n, w.cell? ⟨b, off + 5, none⟩ = some (.int .i64 n)
  free : ∀ o, w.frozen? ⟨b, o, none⟩ = false

def FieldAt (w : World) (b off : Nat) : Prop := FieldFresh w b off ∨ ∃ be bl, FieldReady w b off be bl

section
variable {w w' : World} {b off be bl lo hi : Nat} {S : Nat → Prop}
theorem FieldReady.lt (h : FieldReady w b off be bl) : b < w.heap.size := World.block_lt_of_cell? _ _ h.h0
theorem FieldFresh.lt (h : FieldFresh w b off) : b < w.heap.size := World.block_lt_of_cell? _ _ h.h0
theorem FieldAt.lt (h : FieldAt w b off) : b < w.heap.size := by
  rcases h with h | ⟨_, _, h⟩ <;> exact h.lt
theorem FieldReady.lt1 (h : FieldReady w b off be bl) : be < w.heap.size := World.block_lt_of_cell? _ _ (h.tab.exps 0 (by decide))
theorem FieldReady.lt2 (h : FieldReady w b off be bl) : bl < w.heap.size := World.block_lt_of_cell? _ _ (h.tab.logs 1 (by decide) (by decide))
theorem FieldReady.only (h : FieldReady w b off be bl) (k : Only b lo hi w w') (hd : hi ≤ off ∨ off + 6 ≤ lo) : FieldReady w' b off be bl :=
  ⟨k.cell h.h0 (fun _ => by omega), k.cell h.h1 (fun _ => by omega), h.tab.only k h.n1 h.n2 (by omega), h.n1, h.n2, h.h5.imp fun n hn => k.cell hn (fun _ => by omega), fun o => (k.fz o).trans (h.free o)⟩
theorem FieldReady.stays (h : FieldReady w b off be bl) (k : Stays S w w') (g0 : ¬ S b) (g1 : ¬ S be) (g2 : ¬ S bl) : FieldReady w' b off be bl :=
  ⟨k.cell h.h0 g0, k.cell h.h1 g0, h.tab.stays k g0 g1 g2, h.n1, h.n2, h.h5.imp fun n hn => k.cell hn g0, fun o => (k.frozen (p := ⟨b, o, none⟩) g0 h.lt).trans (h.free o)⟩
theorem FieldReady.below (h : FieldReady w b off be bl) (k : Below w.heap.size w w') : FieldReady w' b off be bl := h.stays (S := fun _ => False) (Stays.of_below k) id id id
theorem FieldReady.drew (h : FieldReady w b off be bl) : FieldReady w.drew b off be bl := h.stays (S := fun _ => False) (Stays.refl _ _).drew id id id
theorem FieldReady.drewN (h : FieldReady w b off be bl) (n : Nat) : FieldReady (w.drewN n) b off be bl := h.stays (S := fun _ => False) ((Stays.refl _ _).drewN n) id id id
theorem FieldReady.alloc (h : FieldReady w b off be bl) (o : Obj) : FieldReady (w.alloc o) b off be bl := h.stays (S := fun _ => False) ((Stays.refl _ _).alloc o) id id id
/-- A store in a block that the field doesn't use. -/
theorem FieldReady.set (h : FieldReady w b off be bl) {g : Nat} (o : Nat) (v : Value) (g0 : g ≠ b) (g1 : g ≠ be) (g2 : g ≠ bl) : FieldReady (w.setCell ⟨g, o, none⟩ v) b off be bl :=
  h.stays (S := (· = g)) (Stays.setCell (S := (· = g)) (p := ⟨g, o, none⟩) (Stays.refl _ _) rfl v) (Ne.symm g0) (Ne.symm g1) (Ne.symm g2)
theorem FieldFresh.stays (h : FieldFresh w b off) (k : Stays S w w') (g0 : ¬ S b) : FieldFresh w' b off :=
  ⟨k.cell h.h0 g0, k.cell h.h1 g0, h.h3.imp fun n hn => k.cell hn g0, h.h4.imp fun n hn => k.cell hn g0, h.h5.imp fun n hn => k.cell hn g0, fun o => (k.frozen (p := ⟨b, o, none⟩) g0 h.lt).trans (h.free o)⟩
theorem FieldFresh.only (h : FieldFresh w b off) (k : Only b lo hi w w') (hd : hi ≤ off ∨ off + 6 ≤ lo) : FieldFresh w' b off :=
  ⟨k.cell h.h0 (fun _ => by omega), k.cell h.h1 (fun _ => by omega), h.h3.imp fun n hn => k.cell hn (fun _ => by omega), h.h4.imp fun n hn => k.cell hn (fun _ => by omega), h.h5.imp fun n hn => k.cell hn (fun _ => by omega), fun o => (k.fz o).trans (h.free o)⟩
end

/-- Ready behind the call; tables that were there are the same still. -/
def Readied (b off : Nat) (w w' : World) : Prop := ∃ be bl, FieldReady w' b off be bl ∧ Only b off (off + 6) w w' ∧ ∀ be' bl', FieldReady w b off be' bl' → be' = be ∧ bl' = bl
theorem Readied.same {b off be bl : Nat} {w w' : World} (h : Readied b off w w') (k : FieldReady w b off be bl) : FieldReady w' b off be bl ∧ Only b off (off + 6) w w' := by
  obtain ⟨be', bl', h1, h2, h3⟩ := h
  obtain ⟨rfl, rfl⟩ := h3 _ _ k
  exact ⟨h1, h2⟩

set_option maxHeartbeats 1600000 in
theorem tables_ready (b off be bl : Nat) (w : World) (h : FieldReady w b off be bl) :
    Calls Try.prog 52 #[.pointer (some ⟨b, off, none⟩)] w fun e w' => e = .returned (.tuple #[]) ∧ w' = w.alloc (.cells #[.pointer (some ⟨b, off, none⟩)] 79) := by
  have h0 := h.h0
  have lb := h.lt
  clear h
  go_enter Try.func52, Try.ntmps52
  go_wp2_with (go_at_call 29; refine (do_done ⟨b, off, none⟩ 1 (by decide) _ _ (by go_simp)).mono ?_; rintro e w' ⟨rfl, rfl⟩)
  go_end0
  exact ⟨rfl, rfl⟩

set_option maxHeartbeats 1600000 in
theorem tables_fresh (b off : Nat) (w : World) (h : FieldFresh w b off) :
    Calls Try.prog 52 #[.pointer (some ⟨b, off, none⟩)] w fun e w' => e = .returned (.tuple #[]) ∧ Readied b off w w' := by
  obtain ⟨h0, h1, ⟨v3, h3⟩, ⟨v4, h4⟩, ⟨n5, h5⟩, hf⟩ := h
  have lb : b < w.heap.size := World.block_lt_of_cell? _ _ h0
  have nb : w.heap.size ≠ b := by omega
  have f0 := hf off
  have f1 := hf (off + 1)
  have f3 := hf (off + 3)
  have f4 := hf (off + 4)
  have HF := Lib.hid hf
  clear hf
  have hfill := fill_any b off w.heap.size v3 v4 ((w.alloc (.cells #[.pointer (some ⟨b, off, none⟩)] 79)).setCell ⟨b, off + 1, none⟩ (.int .i32 1)) (by go_simp) (by go_simp) (by go_simp) (by go_simp) (by go_simp) nb
  have hdo := do_tables b off #[.pointer (some ⟨w.heap.size, 0, none⟩)] (fun w1 => ∃ be bl, Tab w1 b off be bl ∧ be ≠ b ∧ bl ≠ b ∧ Only b (off + 3) (off + 5) ((w.alloc (.cells #[.pointer (some ⟨b, off, none⟩)] 79)).setCell ⟨b, off + 1, none⟩ (.int .i32 1)) w1) (w.alloc (.cells #[.pointer (some ⟨b, off, none⟩)] 79)) (by go_simp) (by go_simp) (by go_simp) (by go_simp) (hfill.mono fun e w1 ⟨he, be, bl, ht, k1, k2, ho⟩ => ⟨he, ho.cell (by go_simp) (fun _ => by omega), ho.cell (by go_simp) (fun _ => by omega), (ho.fz _).trans (by go_simp), (ho.fz _).trans (by go_simp), be, bl, ht, k1, k2, ho⟩)
  have HD := Lib.hid hdo
  clear hdo hfill
  go_enter Try.func52, Try.ntmps52
  go_wp2_with (go_at_call 29; refine HD.out.mono ?_; rintro e w' ⟨rfl, hq⟩)
  go_end0
  refine ⟨rfl, ?_⟩
  obtain ⟨w1, ⟨be, bl, ht, k1, k2, ho⟩, rfl⟩ := hq
  have hb1 : Only b off (off + 6) w w1 := (((Only.refl b off (off + 6) w).alloc lb _).setCell (by omega) (by omega) _).trans (ho.mono (by omega) (by omega))
  have ho2 : Only b (off) (off + 2) w1 ((w1.drew.setCell ⟨b, off, none⟩ (.int .u32 1)).setCell ⟨b, off + 1, none⟩ (.int .i32 0)) := ((Only.refl b off (off + 2) w1).drew.setCell (by omega) (by omega) _).setCell (by omega) (by omega) _
  have hall : Only b off (off + 6) w ((w1.drew.setCell ⟨b, off, none⟩ (.int .u32 1)).setCell ⟨b, off + 1, none⟩ (.int .i32 0)) := hb1.trans (ho2.mono (by omega) (by omega))
  have c0 : w1.cell? ⟨b, off, none⟩ = some (.int .u32 0) := ho.cell (by go_simp) (fun _ => by omega)
  have c1 : w1.cell? ⟨b, off + 1, none⟩ = some (.int .i32 1) := ho.cell (by go_simp) (fun _ => by omega)
  have c5 : w1.cell? ⟨b, off + 5, none⟩ = some (.int .i64 n5) := ho.cell (by go_simp) (fun _ => by omega)
  refine ⟨be, bl, ⟨?_, ?_, ht.only ho2 k1 k2 (.inl (by omega)), k1, k2, ⟨n5, ?_⟩, fun o => (hall.fz o).trans (HF.out o)⟩, hall, fun be' bl' hk => ?_⟩
  · rw [World.cell?_setCell_other _ _ _ _ (addr_ne_off (by omega))]
    exact World.cell?_setCell_same _ _ _ (by rw [World.cell?_drew]; exact c0)
  · exact World.cell?_setCell_same _ _ _ ((World.cell?_setCell_other _ _ _ _ (addr_ne_off (by omega))).trans (by rw [World.cell?_drew]; exact c1))
  · rw [World.cell?_setCell_other _ _ _ _ (addr_ne_off (by omega)), World.cell?_setCell_other _ _ _ _ (addr_ne_off (by omega)), World.cell?_drew]; exact c5
  · have := hk.h0; rw [h0] at this; simp at this

/-- The tables, made if need be. -/
theorem tables_any (b off : Nat) (w : World) (h : FieldAt w b off) :
    Calls Try.prog 52 #[.pointer (some ⟨b, off, none⟩)] w fun e w' => e = .returned (.tuple #[]) ∧ Readied b off w w' := by
  rcases h with h | ⟨be, bl, h⟩
  · exact tables_fresh b off w h
  · refine (tables_ready b off be bl w h).mono fun e w' ⟨he, hw⟩ => ⟨he, be, bl, ?_, ?_, fun be' bl' hk => ?_⟩
    · rw [hw]; exact h.alloc _
    · rw [hw]; exact (Only.refl _ _ _ _).alloc h.lt _
    · have h1 := hk.tab.exp
      have h2 := hk.tab.log
      rw [h.tab.exp] at h1
      rw [h.tab.log] at h2
      simp at h1 h2
      exact ⟨h1.symm, h2.symm⟩
end Go.Proofs.Ytldekkniammllaa
