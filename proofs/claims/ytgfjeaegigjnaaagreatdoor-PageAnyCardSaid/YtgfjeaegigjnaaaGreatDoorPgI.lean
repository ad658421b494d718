/- The field's functions. -/
import Derived.Test.YtgfjeaegigjnaaaGreatDoorPgH
import Derived.Deep.DeepFit
import Derived.Test.YtgfjeaegigjnaaaGreatDoorPgF
namespace Go.Proofs.YtgfjeaegigjnaaaGreatDoor
open Go.RowKit
set_option linter.unusedVariables false
set_option linter.unusedSimpArgs false

theorem Tab.only {w w' : World} {b off be bl lo hi : Nat} (h : Tab w b off be bl) (k : Only b lo hi w w') (g1 : be ≠ b) (g2 : bl ≠ b) (hd : hi ≤ off + 3 ∨ off + 5 ≤ lo) : Tab w' b off be bl :=
  ⟨k.cell h.exp (fun _ => by omega), k.cell h.log (fun _ => by omega), fun j hj => k.cell (h.exps j hj) (fun e => absurd e g1), fun y h0 h1 => k.cell (h.logs y h0 h1) (fun e => absurd e g2)⟩
theorem Tab.stays {w w' : World} {b off be bl : Nat} {S : Nat → Prop} (h : Tab w b off be bl) (k : Stays S w w') (g0 : ¬ S b) (g1 : ¬ S be) (g2 : ¬ S bl) : Tab w' b off be bl :=
  ⟨k.cell h.exp g0, k.cell h.log g0, fun j hj => k.cell (h.exps j hj) g1, fun y h0 h1 => k.cell (h.logs y h0 h1) g2⟩
structure FieldFresh (w : World) (b off : Nat) : Prop where
  h0 : w.cell? ⟨b, off, none⟩ = some (.int .u32 0)
  h1 : w.cell? ⟨b, off + 1, none⟩ = some (.int .i32 0)
  h3 : ∃ v, w.cell? ⟨b, off + 3, none⟩ = some v
  h4 : ∃ v, w.cell? ⟨b, off + 4, none⟩ = some v
  h5 : ∃ n, w.cell? ⟨b, off + 5, none⟩ = some (.int .i64 n)
  free : ∀ o, w.frozen? ⟨b, o, none⟩ = false
structure FieldReady (w : World) (b off be bl : Nat) : Prop where
  h0 : w.cell? ⟨b, off, none⟩ = some (.int .u32 1)
  h1 : w.cell? ⟨b, off + 1, none⟩ = some (.int .i32 0)
  tab : Tab w b off be bl
  n1 : be ≠ b
  n2 : bl ≠ b
  h5 : ∃ n, w.cell? ⟨b, off + 5, none⟩ = some (.int .i64 n)
  free : ∀ o, w.frozen? ⟨b, o, none⟩ = false
def FieldAt (w : World) (b off : Nat) : Prop := FieldFresh w b off ∨ ∃ be bl, FieldReady w b off be bl
section
variable {w w' : World} {b off be bl lo hi : Nat} {S : Nat → Prop}
theorem FieldReady.lt (h : FieldReady w b off be bl) : b < w.heap.size := World.block_lt_of_cell? _ _ h.h0
theorem FieldFresh.lt (h : FieldFresh w b off) : b < w.heap.size := World.block_lt_of_cell? _ _ h.h0
theorem FieldAt.lt (h : FieldAt w b off) : b < w.heap.size := by
  rcases h with h | ⟨_, _, h⟩ <;> exact h.lt
theorem FieldReady.lt1 (h : FieldReady w b off be bl) : be < w.heap.size := World.block_lt_of_cell? _ _ (h.tab.exps 0 (by decide))
theorem FieldReady.lt2 (h : FieldReady w b off be bl) : bl < w.heap.size := World.block_lt_of_cell? _ _ (h.tab.logs 1 (by decide) (by decide))
theorem FieldReady.only (h : FieldReady w b off be bl) (k : Only b lo hi w w') (hd : hi ≤ off ∨ off + 6 ≤ lo) : FieldReady w' b off be bl :=
  ⟨k.cell h.h0 (fun _ => by omega), k.cell h.h1 (fun _ => by omega), h.tab.only k h.n1 h.n2 (by omega), h.n1, h.n2, h.h5.imp fun n hn => k.cell hn (fun _ => by omega), fun o => (k.fz o).trans (h.free o)⟩
theorem FieldReady.stays (h : FieldReady w b off be bl) (k : Stays S w w') (g0 : ¬ S b) (g1 : ¬ S be) (g2 : ¬ S bl) : FieldReady w' b off be bl :=
  ⟨k.cell h.h0 g0, k.cell h.h1 g0, h.tab.stays k g0 g1 g2, h.n1, h.n2, h.h5.imp fun n hn => k.cell hn g0, fun o => (k.frozen (p := ⟨b, o, none⟩) g0 h.lt).trans (h.free o)⟩
theorem FieldReady.below (h : FieldReady w b off be bl) (k : Below w.heap.size w w') : FieldReady w' b off be bl := h.stays (S := fun _ => False) (Stays.of_below k) id id id
theorem FieldReady.drew (h : FieldReady w b off be bl) : FieldReady w.drew b off be bl := h.stays (S := fun _ => False) (Stays.refl _ _).drew id id id
theorem FieldReady.drewN (h : FieldReady w b off be bl) (n : Nat) : FieldReady (w.drewN n) b off be bl := h.stays (S := fun _ => False) ((Stays.refl _ _).drewN n) id id id
theorem FieldReady.alloc (h : FieldReady w b off be bl) (o : Obj) : FieldReady (w.alloc o) b off be bl := h.stays (S := fun _ => False) ((Stays.refl _ _).alloc o) id id id
/-- A store in a block that the field doesn't use. -/
theorem FieldReady.set (h : FieldReady w b off be bl) {g : Nat} (o : Nat) (v : Value) (g0 : g ≠ b) (g1 : g ≠ be) (g2 : g ≠ bl) : FieldReady (w.setCell ⟨g, o, none⟩ v) b off be bl :=
  h.stays (S := (· = g)) (Stays.setCell (S := (· = g)) (p := ⟨g, o, none⟩) (Stays.refl _ _) rfl v) (Ne.symm g0) (Ne.symm g1) (Ne.symm g2)
theorem FieldFresh.stays (h : FieldFresh w b off) (k : Stays S w w') (g0 : ¬ S b) : FieldFresh w' b off :=
  ⟨k.cell h.h0 g0, k.cell h.h1 g0, h.h3.imp fun n hn => k.cell hn g0, h.h4.imp fun n hn => k.cell hn g0, h.h5.imp fun n hn => k.cell hn g0, fun o => (k.frozen (p := ⟨b, o, none⟩) g0 h.lt).trans (h.free o)⟩
theorem FieldFresh.only (h : FieldFresh w b off) (k : Only b lo hi w w') (hd : hi ≤ off ∨ off + 6 ≤ lo) : FieldFresh w' b off :=
  ⟨k.cell h.h0 (fun _ => by omega), k.cell h.h1 (fun _ => by omega), h.h3.imp fun n hn => k.cell hn (fun _ => by omega), h.h4.imp fun n hn => k.cell hn (fun _ => by omega), h.h5.imp fun n hn => k.cell hn (fun _ => by omega), fun o => (k.fz o).trans (h.free o)⟩
end

/-- Ready behind the call; tables that were there are the same still. -/
def Readied (b off : Nat) (w w' : World) : Prop := ∃ be bl, FieldReady w' b off be bl ∧ Only b off (off + 6) w w' ∧ ∀ be' bl', FieldReady w b off be' bl' → be' = be ∧ bl' = bl
theorem Readied.same {b off be bl : Nat} {w w' : World} (h : Readied b off w w') (k : FieldReady w b off be bl) : FieldReady w' b off be bl ∧ Only b off (off + 6) w w' := by
  obtain ⟨be', bl', h1, h2, h3⟩ := h
  obtain ⟨rfl, rfl⟩ := h3 _ _ k
  exact ⟨h1, h2⟩
set_option maxRecDepth 100000 in
set_option maxHeartbeats 1600000 in
theorem tables_ready (b off be bl : Nat) (w : World) (h : FieldReady w b off be bl) :
    Calls Tryz.prog 100 #[.pointer (some ⟨b, off, none⟩)] w fun e w' => e = .returned (.tuple #[]) ∧ w' = w.alloc (.cells #[.pointer (some ⟨b, off, none⟩)] 155) := by
  have h0 := h.h0
  have lb := h.lt
  clear h
  go_enter Tryz.func100, Tryz.ntmps100
  go_wp2_with (go_at_call 69; refine (do_done ⟨b, off, none⟩ 1 (by decide) _ _ (by go_simp)).mono ?_; rintro e w' ⟨rfl, rfl⟩)
  go_end0
  exact ⟨rfl, rfl⟩
set_option maxRecDepth 100000 in
set_option maxHeartbeats 1600000 in
theorem tables_fresh (b off : Nat) (w : World) (h : FieldFresh w b off) :
    Calls Tryz.prog 100 #[.pointer (some ⟨b, off, none⟩)] w fun e w' => e = .returned (.tuple #[]) ∧ Readied b off w w' := by
  obtain ⟨h0, h1, ⟨v3, h3⟩, ⟨v4, h4⟩, ⟨n5, h5⟩, hf⟩ := h
  have lb : b < w.heap.size := World.block_lt_of_cell? _ _ h0
  have nb : w.heap.size ≠ b := by omega
  have f0 := hf off
  have f1 := hf (off + 1)
  have f3 := hf (off + 3)
  have f4 := hf (off + 4)
  have HF := Lib.hid hf
  clear hf
  have hfill := fill_any b off w.heap.size v3 v4 ((w.alloc (.cells #[.pointer (some ⟨b, off, none⟩)] 155)).setCell ⟨b, off + 1, none⟩ (.int .i32 1)) (by go_simp) (by go_simp) (by go_simp) (by go_simp) (by go_simp) nb
  have hdo := do_tables b off #[.pointer (some ⟨w.heap.size, 0, none⟩)] (fun w1 => ∃ be bl, Tab w1 b off be bl ∧ be ≠ b ∧ bl ≠ b ∧ Only b (off + 3) (off + 5) ((w.alloc (.cells #[.pointer (some ⟨b, off, none⟩)] 155)).setCell ⟨b, off + 1, none⟩ (.int .i32 1)) w1) (w.alloc (.cells #[.pointer (some ⟨b, off, none⟩)] 155)) (by go_simp) (by go_simp) (by go_simp) (by go_simp) (hfill.mono fun e w1 ⟨he, be, bl, ht, k1, k2, ho⟩ => ⟨he, ho.cell (by go_simp) (fun _ => by omega), ho.cell (by go_simp) (fun _ => by omega), (ho.fz _).trans (by go_simp), (ho.fz _).trans (by go_simp), be, bl, ht, k1, k2, ho⟩)
  have HD := Lib.hid hdo
  clear hdo hfill
  go_enter Tryz.func100, Tryz.ntmps100
  go_wp2_with (go_at_call 69; refine HD.out.mono ?_; rintro e w' ⟨rfl, hq⟩)
  go_end0
  refine ⟨rfl, ?_⟩
  obtain ⟨w1, ⟨be, bl, ht, k1, k2, ho⟩, rfl⟩ := hq
  have hb1 : Only b off (off + 6) w w1 := (((Only.refl b off (off + 6) w).alloc lb _).setCell (by omega) (by omega) _).trans (ho.mono (by omega) (by omega))
  have ho2 : Only b (off) (off + 2) w1 ((w1.drew.setCell ⟨b, off, none⟩ (.int .u32 1)).setCell ⟨b, off + 1, none⟩ (.int .i32 0)) := ((Only.refl b off (off + 2) w1).drew.setCell (by omega) (by omega) _).setCell (by omega) (by omega) _
  have hall : Only b off (off + 6) w ((w1.drew.setCell ⟨b, off, none⟩ (.int .u32 1)).setCell ⟨b, off + 1, none⟩ (.int .i32 0)) := hb1.trans (ho2.mono (by omega) (by omega))
  have c0 : w1.cell? ⟨b, off, none⟩ = some (.int .u32 0) := ho.cell (by go_simp) (fun _ => by omega)
  have c1 : w1.cell? ⟨b, off + 1, none⟩ = some (.int .i32 1) := ho.cell (by go_simp) (fun _ => by omega)
  have c5 : w1.cell? ⟨b, off + 5, none⟩ = some (.int .i64 n5) := ho.cell (by go_simp) (fun _ => by omega)
  refine ⟨be, bl, ⟨?_, ?_, ht.only ho2 k1 k2 (.inl (by omega)), k1, k2, ⟨n5, ?_⟩, fun o => (hall.fz o).trans (HF.out o)⟩, hall, fun be' bl' hk => ?_⟩
  · rw [World.cell?_setCell_other _ _ _ _ (addr_ne_off (by omega))]
    exact World.cell?_setCell_same _ _ _ (by rw [World.cell?_drew]; exact c0)
  · exact World.cell?_setCell_same _ _ _ ((World.cell?_setCell_other _ _ _ _ (addr_ne_off (by omega))).trans (by rw [World.cell?_drew]; exact c1))
  · rw [World.cell?_setCell_other _ _ _ _ (addr_ne_off (by omega)), World.cell?_setCell_other _ _ _ _ (addr_ne_off (by omega)), World.cell?_drew]; exact c5
  · have := hk.h0; rw [h0] at this; simp at this
/-- The tables, made if need be. -/
theorem tables_any (b off : Nat) (w : World) (h : FieldAt w b off) :
    Calls Tryz.prog 100 #[.pointer (some ⟨b, off, none⟩)] w fun e w' => e = .returned (.tuple #[]) ∧ Readied b off w w' := by
  rcases h with h | ⟨be, bl, h⟩
  · exact tables_fresh b off w h
  · refine (tables_ready b off be bl w h).mono fun e w' ⟨he, hw⟩ => ⟨he, be, bl, ?_, ?_, fun be' bl' hk => ?_⟩
    · rw [hw]; exact h.alloc _
    · rw [hw]; exact (Only.refl _ _ _ _).alloc h.lt _
    · have h1 := hk.tab.exp
      have h2 := hk.tab.log
      rw [h.tab.exp] at h1
      rw [h.tab.log] at h2
      simp at h1 h2
      exact ⟨h1.symm, h2.symm⟩
end Go.Proofs.YtgfjeaegigjnaaaGreatDoor

namespace Go.Proofs.YtgfjeaegigjnaaaGreatDoor
open Go.RowKit
set_option linter.unusedVariables false
set_option linter.unusedSimpArgs false

set_option maxRecDepth 100000 in
theorem around_int (n : Int) (m : Nat) (hm : n % 8191 = (m : Int)) (h0 : -1000000000000000 ≤ n) (h1 : n ≤ 1000000000000000) (w : World) :
    Calls Tryz.prog 101 #[.int .i64 n] w fun e w' => e = .returned (.int .i64 ((m : Nat) : Int)) ∧ w' = w := by
  have ht := Int.tmod_eq_emod (a := n) (b := 8191)
  have he0 := Int.emod_nonneg n (show (8191 : Int) ≠ 0 by decide)
  have he1 := Int.emod_lt_of_pos n (show (0 : Int) < 8191 by decide)
  have hk : (n.tmod 8191 = (m : Int) ∧ 0 ≤ n.tmod 8191 ∨ n.tmod 8191 + 8191 = (m : Int) ∧ n.tmod 8191 < 0) ∧ n.tmod 8191 ≤ 8190 ∧ -8191 ≤ n.tmod 8191 := by
    split at ht
    · omega
    · simp only [show ((Int.natAbs 8191 : Nat) : Int) = 8191 from rfl] at ht
      omega
  obtain ⟨hk, hb1, hb2⟩ := hk
  clear ht hm he0 he1
  generalize hg : n.tmod 8191 = t at *
  rcases hk with ⟨ht, h2⟩ | ⟨ht, h2⟩
  · have HT := Lib.hid ht
    clear ht
    go_enter Tryz.func101, Tryz.ntmps101
    go_wp2
    go_ret
    exact ⟨congrArg (fun z => Ending.returned (.int .i64 z)) HT.out, rfl⟩
  · have HT := Lib.hid ht
    clear ht
    go_enter Tryz.func101, Tryz.ntmps101
    go_wp2
    go_ret
    exact ⟨congrArg (fun z => Ending.returned (.int .i64 z)) HT.out, rfl⟩
set_option maxRecDepth 100000 in
set_option maxHeartbeats 1600000 in
theorem Exp_any (b off : Nat) (n : Int) (m : Nat) (hm : n % 8191 = (m : Int)) (h0 : -1000000000000000 ≤ n) (h1 : n ≤ 1000000000000000) (w : World) (h : FieldAt w b off) :
    Calls Tryz.prog 83 #[.pointer (some ⟨b, off, none⟩), .int .i64 n] w fun e w' => e = .returned (.int .i64 ((expN m : Nat) : Int)) ∧ Readied b off w w' := by
  have hm8 : m < 8191 := by omega
  have hm8i : (m : Int) < 16382 := by omega
  have HM := Lib.hid hm
  have HF := Lib.hid h
  clear hm h
  go_enter Tryz.func83, Tryz.ntmps83
  go_wp2_with (go_at_call 100; refine (tables_any b off _ HF.out).mono ?_; rintro e w1 ⟨rfl, hq⟩)
  obtain ⟨be, bl, hr, ho, hk⟩ := hq
  have HK := Lib.hid hk
  clear hk
  have hex := hr.tab.exp
  have hce := hr.tab.exps m (by omega)
  have HR := Lib.hid hr
  have HO := Lib.hid ho
  clear hr ho
  go_quiet ((go_at_call 101; exact Calls.quiet_of_same (around_int n m HM.out h0 h1 _)))
  go_wp2
  go_ret
  exact ⟨rfl, be, bl, HR.out.drewN _, HO.out.drewN _, HK.out⟩
set_option maxRecDepth 100000 in
/-- A square; any power whose exponent is not 0. -/
theorem Pow_any (b off x : Nat) (n : Int) (m r : Nat) (hr : expN (logN x * m) = r) (hx0 : 0 < x) (hx : x < 8192) (hm : n % 8191 = (m : Int)) (hn : n ≠ 0) (h0 : -1000000000000000 ≤ n) (h1 : n ≤ 1000000000000000) (w : World) (h : FieldAt w b off) :
    Calls Tryz.prog 110 #[.pointer (some ⟨b, off, none⟩), .int .i64 (x : Int), .int .i64 n] w fun e w' => e = .returned (.int .i64 ((r : Nat) : Int)) ∧ Readied b off w w' := by
  have hm8 : m < 8191 := by omega
  have hn0 : (n == 0) = false := by simpa using hn
  have hx00 : ((x : Int) == 0) = false := by simp; omega
  have HM := Lib.hid hm
  have HF := Lib.hid h
  have HN0 := Lib.hid hn
  have HRR := Lib.hid hr
  clear hm h hn hr
  go_enter Tryz.func110, Tryz.ntmps110
  go_wp2_with (first | (go_at_call 104; (with_reducible refine (low_any x hx _).mono ?_); rintro e w' ⟨rfl, rfl⟩) | (go_at_call 100; refine (tables_any b off _ HF.out).mono ?_; rintro e w1 ⟨rfl, hq⟩))
  obtain ⟨be, bl, hr, ho, hk⟩ := hq
  have HK := Lib.hid hk
  clear hk
  have hex := hr.tab.exp
  have hlo := hr.tab.log
  have hl := logN_lt x
  obtain ⟨l, hl2⟩ : ∃ l, l = logN x := ⟨_, rfl⟩
  have hcl := hr.tab.logs x hx0 hx
  have hrr := HRR.out
  rw [← hl2] at hcl hl hrr
  have HL := Lib.hid hl2
  clear hl2
  have hp : l * m ≤ 8190 * 8190 := Nat.mul_le_mul (by omega) (by omega)
  obtain ⟨p, hp2⟩ : ∃ p, p = l * m := ⟨_, rfl⟩
  have hpm : (l : Int) * (m : Int) = (p : Int) := by rw [hp2]; exact (Int.natCast_mul l m).symm
  rw [← hp2] at hp hrr
  have HP := Lib.hid hp2
  clear hp2
  have hpr : IntKind.i64.wrap ((l : Int) * (m : Int)) = (p : Int) := by rw [hpm, IntKind.wrap_i64]; omega
  have hpt : ((p : Int).tmod 8191) = ((p % 8191 : Nat) : Int) := Int.ofNat_tmod p 8191
  have hlt : p % 8191 < 8191 := Nat.mod_lt _ (by decide)
  have hlti : ((p % 8191 : Nat) : Int) < 16382 := by omega
  have hce := hr.tab.exps (p % 8191) (by omega)
  rw [exp_mod, hrr] at hce
  clear hrr
  have hxi : (x : Int) < 8192 := by omega
  have HR := Lib.hid hr
  have HO := Lib.hid ho
  clear hr ho
  clear hpm
  go_quiet ((go_at_call 101; exact Calls.quiet_of_same (around_int n m HM.out h0 h1 _)))
  go_wp2
  go_ret
  exact ⟨rfl, be, bl, HR.out.drewN _, HO.out.drewN _, HK.out⟩
set_option maxRecDepth 100000 in
theorem add_any (a : Addr) (n s : Int) (hs : IntKind.i64.wrap (n + 1) = s) (w : World) (hc : w.cell? a = some (.int .i64 n)) (hz : w.frozen? a = false) :
    Calls Tryz.prog 102 #[.pointer (some a), .int .i64 1] w fun e w' => e = .returned (.int .i64 s) ∧ w' = w.setCell a (.int .i64 s) := by
  have hadd := run_call_add (P := Tryz.prog) Tryz.func119 (by kernel_rfl) (by kernel_rfl) (by kernel_rfl) .i64 (by kernel_rfl) (y := 1) (s := s) hc hz (by rw [← hs]; simp [go_sem])
  clear hs
  go_enter Tryz.func102, Tryz.ntmps102
  go_wp2
  go_ret
  exact ⟨rfl, rfl⟩
set_option maxRecDepth 100000 in
/-- The product. -/
theorem Mul_any (b off x y : Nat) (hx : x < 8192) (hy : y < 8192) (w : World) (h : FieldAt w b off) :
    Calls Tryz.prog 84 #[.pointer (some ⟨b, off, none⟩), .int .i64 (x : Int), .int .i64 (y : Int)] w fun e w' => e = .returned (.int .i64 ((mulP x y : Nat) : Int)) ∧ Readied b off w w' := by
  have HF := Lib.hid h
  clear h
  go_enter Tryz.func84, Tryz.ntmps84
  go_wp2_with (go_at_call 100; refine (tables_any b off _ HF.out).mono ?_; rintro e w1 ⟨rfl, hq⟩)
  obtain ⟨be, bl, hr, ho, hk⟩ := hq
  have HK := Lib.hid hk
  clear hk
  obtain ⟨n, h5⟩ := hr.h5
  have hf5 := hr.free (off + 5)
  have ho2 : Only b (off + 5) (off + 6) w1 (w1.setCell ⟨b, off + 5, none⟩ (.int .i64 (IntKind.i64.wrap (n + 1)))) := (Only.refl _ _ _ _).setCell (by omega) (by omega) _
  have hr2 : FieldReady (w1.setCell ⟨b, off + 5, none⟩ (.int .i64 (IntKind.i64.wrap (n + 1)))) b off be bl :=
    ⟨ho2.cell hr.h0 (fun _ => by omega), ho2.cell hr.h1 (fun _ => by omega), hr.tab.only ho2 hr.n1 hr.n2 (.inr (by omega)), hr.n1, hr.n2, ⟨_, World.cell?_setCell_same _ _ _ h5⟩, fun o => (ho2.fz o).trans (hr.free o)⟩
  have HO := Lib.hid (ho.trans (ho2.mono (by omega) (by omega)))
  have HR := Lib.hid hr2
  clear hr ho hr2 ho2
  generalize hs : IntKind.i64.wrap (n + 1) = s at *
  have HS := Lib.hid hs
  clear hs
  go_wp2_with (first | (go_at_call 102; (with_reducible refine (add_any ⟨b, off + 5, none⟩ n s HS.out _ h5 hf5).mono ?_); rintro e w' ⟨rfl, rfl⟩) | (go_at_call 103; (with_reducible refine (times_any b off be bl x y _ HR.out.tab hx hy).mono ?_); rintro e w2 ⟨rfl, hw2⟩))
  go_ret
  rcases hw2 with rfl | rfl
  · exact ⟨rfl, be, bl, HR.out, HO.out, HK.out⟩
  · exact ⟨rfl, be, bl, HR.out.drew, HO.out.drew, HK.out⟩
set_option maxRecDepth 100000 in
/-- The inverse, of an element that is not 0. -/
theorem Inv_any (b off x : Nat) (hx0 : 0 < x) (hx : x < 8192) (w : World) (h : FieldAt w b off) :
    Calls Tryz.prog 85 #[.pointer (some ⟨b, off, none⟩), .int .i64 (x : Int)] w fun e w' => e = .returned (.tuple #[.int .i64 ((expN (8191 - logN x) : Nat) : Int), .bool true]) ∧ Readied b off w w' := by
  have hx00 : ((x : Int) == 0) = false := by simp; omega
  have HF := Lib.hid h
  clear h
  go_enter Tryz.func85, Tryz.ntmps85
  go_wp2_with (first | (go_at_call 104; (with_reducible refine (low_any x hx _).mono ?_); rintro e w' ⟨rfl, rfl⟩) | (go_at_call 100; refine (tables_any b off _ HF.out).mono ?_; rintro e w1 ⟨rfl, hq⟩))
  obtain ⟨be, bl, hr, ho, hk⟩ := hq
  have HK := Lib.hid hk
  clear hk
  have hex := hr.tab.exp
  have hlo := hr.tab.log
  have hl := logN_lt x
  have hcl := hr.tab.logs x hx0 hx
  have hce := hr.tab.exps (8191 - logN x) (by omega)
  have hs : IntKind.i64.wrap (8191 - ((logN x : Nat) : Int)) = ((8191 - logN x : Nat) : Int) := by rw [IntKind.wrap_i64]; omega
  have hsi : ((8191 - logN x : Nat) : Int) < 16382 := by omega
  have hsi2 : 8191 - ((logN x : Nat) : Int) < 16382 := by omega
  have hsi3 : 0 ≤ 8191 - ((logN x : Nat) : Int) := by omega
  have hnn : (8191 - ((logN x : Nat) : Int)).toNat = 8191 - logN x := by omega
  have hxi : (x : Int) < 8192 := by omega
  have HR := Lib.hid hr
  have HO := Lib.hid ho
  clear hr ho
  go_quiet ((go_at_call 104; exact Calls.quiet_of_same (low_any x hx _)))
  go_wp2
  go_ret2
  exact ⟨rfl, be, bl, HR.out.drewN _, HO.out.drewN _, HK.out⟩
set_option maxRecDepth 100000 in
/-- The logarithm, of an element that is not 0. -/
theorem Log_any (b off x : Nat) (hx0 : 0 < x) (hx : x < 8192) (w : World) (h : FieldAt w b off) :
    Calls Tryz.prog 87 #[.pointer (some ⟨b, off, none⟩), .int .i64 (x : Int)] w fun e w' => e = .returned (.tuple #[.int .i64 ((logN x : Nat) : Int), .bool true]) ∧ Readied b off w w' := by
  have hx00 : ((x : Int) == 0) = false := by simp; omega
  have HF := Lib.hid h
  clear h
  go_enter Tryz.func87, Tryz.ntmps87
  go_wp2_with (first | (go_at_call 104; (with_reducible refine (low_any x hx _).mono ?_); rintro e w' ⟨rfl, rfl⟩) | (go_at_call 100; refine (tables_any b off _ HF.out).mono ?_; rintro e w1 ⟨rfl, hq⟩))
  obtain ⟨be, bl, hr, ho, hk⟩ := hq
  have HK := Lib.hid hk
  clear hk
  have hlo := hr.tab.log
  have hcl := hr.tab.logs x hx0 hx
  have hxi : (x : Int) < 8192 := by omega
  have HR := Lib.hid hr
  have HO := Lib.hid ho
  clear hr ho
  go_quiet ((go_at_call 104; exact Calls.quiet_of_same (low_any x hx _)))
  go_wp2
  go_ret2
  exact ⟨rfl, be, bl, HR.out.drewN _, HO.out.drewN _, HK.out⟩
set_option maxRecDepth 100000 in
/-- Of 0 there is none. -/
theorem Log_zero (b off : Nat) (w : World) :
    Calls Tryz.prog 87 #[.pointer (some ⟨b, off, none⟩), .int .i64 0] w fun e w' => e = .returned (.tuple #[.int .i64 0, .bool false]) ∧ w' = w := by
  have hl : ∀ w : World, Calls Tryz.prog 104 #[.int .i64 0] w fun e w' => e = .returned (.int .i64 0) ∧ w' = w := fun w => low_any 0 (by decide) w
  go_enter Tryz.func87, Tryz.ntmps87
  go_wp2_with (go_at_call 104; (with_reducible refine (hl _).mono ?_); rintro e w' ⟨rfl, rfl⟩)
  go_ret2
  exact ⟨rfl, rfl⟩
end Go.Proofs.YtgfjeaegigjnaaaGreatDoor

