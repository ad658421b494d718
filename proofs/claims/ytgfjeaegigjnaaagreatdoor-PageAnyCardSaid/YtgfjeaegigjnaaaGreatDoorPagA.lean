/- Geometries: which are good, the program's word and the document's. -/
import Derived.Test.YtgfjeaegigjnaaaGreatDoorCrcB
namespace Go.Proofs.YtgfjeaegigjnaaaGreatDoor
open Go.RowKit
set_option linter.unusedVariables false
set_option linter.unusedSimpArgs false

/-- A geometry: blocks, pages, chunks, a chunk's bytes, the bits that are turned back. -/
structure Geo where
  B : Int
  P : Int
  C : Int
  K : Int
  T : Int
def Geo.v (g : Geo) : Value := .agg #[.int .i64 g.B, .int .i64 g.P, .int .i64 g.C, .int .i64 g.K, .int .i64 g.T]
def Geo.ok (g : Geo) : Prop := 1 ≤ g.B ∧ g.B ≤ 64 ∧ 4 ≤ g.P ∧ g.P ≤ 64 ∧ g.P % 4 = 0 ∧ 1 ≤ g.C ∧ g.C ≤ 4 ∧ 16 ≤ g.K ∧ g.K ≤ 256 ∧ 1 ≤ g.T ∧ g.T ≤ 8
instance (g : Geo) : Decidable g.ok := by unfold Geo.ok; infer_instance

set_option maxHeartbeats 1600000 in
set_option maxRecDepth 100000 in
theorem good_any (g : Geo) (w : World) : Calls Tryz.prog 47 #[g.v] w fun e w' => e = .returned (.bool (decide g.ok)) ∧ Below w.heap.size w w' := by
  obtain ⟨b, p, c, k, t⟩ := g
  unfold Geo.v
  have HG : Hid (∀ o : Bool, (o = true ↔ (Geo.mk b p c k t).ok) → Value.bool o = Value.bool (decide (Geo.mk b p c k t).ok)) := Lib.hid (fun o h => by
    congr 1
    by_cases hg : (Geo.mk b p c k t).ok
    · rw [h.2 hg]; simp [hg]
    · have : o = false := by cases o <;> simp_all
      rw [this]; simp [hg])
  go_enter Tryz.func47, Tryz.ntmps47
  go_wp2_with fail
  all_goals (go_ret; exact ⟨congrArg Ending.returned (HG.out _ (by simp [Geo.ok]; omega)), (Below.refl _ _).alloc (Nat.le_refl _) _⟩)
set_option maxHeartbeats 1600000 in
set_option maxRecDepth 100000 in
theorem rgood_any (g : Geo) (w : World) : Calls Tryz.prog 15 #[g.v] w fun e w' => e = .returned (.bool (decide g.ok)) ∧ Below w.heap.size w w' := by
  obtain ⟨b, p, c, k, t⟩ := g
  unfold Geo.v
  have HG : Hid (∀ o : Bool, (o = true ↔ (Geo.mk b p c k t).ok) → Value.bool o = Value.bool (decide (Geo.mk b p c k t).ok)) := Lib.hid (fun o h => by
    congr 1
    by_cases hg : (Geo.mk b p c k t).ok
    · rw [h.2 hg]; simp [hg]
    · have : o = false := by cases o <;> simp_all
      rw [this]; simp [hg])
  go_enter Tryz.func15, Tryz.ntmps15
  go_wp2_with fail
  all_goals (go_ret; exact ⟨congrArg Ending.returned (HG.out _ (by first | (simp [Geo.ok]; omega) | (simp [Geo.ok] at *; omega) | (simp_all [Geo.ok]; omega))), (Below.refl _ _).alloc (Nat.le_refl _) _⟩)
set_option maxHeartbeats 1600000 in
set_option maxRecDepth 100000 in
theorem codeOf_no (g : Geo) (hg : ¬ g.ok) (w : World) : Calls Tryz.prog 27 #[g.v] w fun e w' => e = .returned (.pointer none) ∧ Below w.heap.size w w' := by
  have HG := Lib.hid (fun w => good_any g w)
  have hd : decide g.ok = false := by simp [hg]
  rw [hd] at HG
  clear hg hd
  obtain ⟨b, p, c, k, t⟩ := g
  unfold Geo.v at *
  go_enter Tryz.func27, Tryz.ntmps27
  go_wp2_with fail
  go_at_call 47
  refine (HG.out _).mono ?_
  rintro e w1 ⟨rfl, hb1⟩
  have HB1 := Lib.hid hb1
  clear hb1
  go_wp2_with fail
  go_ret
  exact ⟨rfl, Below.trans ((Below.refl _ _).alloc (Nat.le_refl _) _) (HB1.out.mono (by simp))⟩
set_option maxHeartbeats 1600000 in
set_option maxRecDepth 100000 in
theorem codeOf_yes (g : Geo) (hg : g.ok) (w : World) : Calls Tryz.prog 27 #[g.v] w fun e w' => ∃ q, e = .returned (.pointer (some ⟨q, 0, none⟩)) ∧ CodeFresh w' q g.T.toNat g.K.toNat ∧ w.heap.size ≤ q ∧ Below w.heap.size w w' := by
  have HG := Lib.hid (fun w => good_any g w)
  have hd : decide g.ok = true := by simp [hg]
  rw [hd] at HG
  obtain ⟨b, p, c, k, t⟩ := g
  unfold Geo.v Geo.ok at *
  simp only at hg
  obtain ⟨tn, rfl⟩ : ∃ n : Nat, t = n := ⟨t.toNat, by omega⟩
  obtain ⟨kn, rfl⟩ : ∃ n : Nat, k = n := ⟨k.toNat, by omega⟩
  have HN := Lib.hid (fun w => New_yes tn kn (by omega) (by omega) (by omega) (by omega) w)
  clear hd hg
  go_enter Tryz.func27, Tryz.ntmps27
  go_wp2_with fail
  go_at_call 47
  refine (HG.out _).mono ?_
  rintro e w1 ⟨rfl, hb1⟩
  have HB1 : Hid (Below w.heap.size w w1) := Lib.hid (Below.trans ((Below.refl _ _).alloc (Nat.le_refl _) _) (hb1.mono (by simp)))
  have hc0 := hb1.cell (p := ⟨w.heap.size, 3, none⟩) (by simp)
  have hc1 := hb1.cell (p := ⟨w.heap.size, 4, none⟩) (by simp)
  rw [World.cell?_alloc_new] at hc0 hc1
  have hc3 : w1.cell? ⟨w.heap.size, 3, none⟩ = some (.int .i64 (kn : Int)) := hc0
  have hc4 : w1.cell? ⟨w.heap.size, 4, none⟩ = some (.int .i64 (tn : Int)) := hc1
  clear hb1 HG hc0 hc1
  go_wp2_with fail
  go_at_call 48
  refine (HN.out _).mono ?_
  rintro e w2 ⟨rfl, hf, hb2⟩
  have HF := Lib.hid hf
  have HB2 := Lib.hid hb2
  clear hf hb2 hc3 hc4 HN
  go_wp2_with fail
  go_ret
  exact ⟨_, rfl, HF.out, HB1.out.size, HB1.out.trans (HB2.out.mono HB1.out.size)⟩
/-- The raw bytes of a page, the payload's. -/
def Geo.raw (g : Geo) : Int := if g.ok then g.C * (g.K + (parN g.T.toNat : Nat)) else 0
def Geo.room (g : Geo) : Int := if g.ok then g.C * g.K - 7 else 0
theorem mul4 {c x : Int} (h1 : 1 ≤ c) (h4 : c ≤ 4) (hx : 0 ≤ x) : x ≤ c * x ∧ c * x ≤ 4 * x := by
  have : c = 1 ∨ c = 2 ∨ c = 3 ∨ c = 4 := by omega
  rcases this with rfl | rfl | rfl | rfl <;> omega
set_option maxHeartbeats 1600000 in
set_option maxRecDepth 100000 in
theorem Raw_any (g : Geo) (w : World) : Calls Tryz.prog 11 #[g.v] w fun e w' => e = .returned (.tuple #[.int .i64 g.raw, .int .i64 g.room]) ∧ Below w.heap.size w w' := by
  by_cases hg : g.ok
  · have HO := Lib.hid (fun w => codeOf_yes g hg w)
    have HV : Hid (g.raw = g.C * (g.K + (parN g.T.toNat : Nat)) ∧ g.room = g.C * g.K - 7) := Lib.hid (by unfold Geo.raw Geo.room; rw [if_pos hg, if_pos hg]; exact ⟨rfl, rfl⟩)
    generalize g.raw = RR at *
    generalize g.room = RM at *
    obtain ⟨b, p, c, k, t⟩ := g
    unfold Geo.v Geo.ok at *
    simp only at hg
    simp only at HV HO
    obtain ⟨tn, rfl⟩ : ∃ n : Nat, t = n := ⟨t.toNat, by omega⟩
    have ht1 : 1 ≤ tn := by omega
    have ht8 : tn ≤ 8 := by omega
    have HP := Lib.hid (fun q w h => Parity_any q tn k.toNat ht1 ht8 w h)
    have hp : parN tn ≤ 13 := by unfold parN; omega
    simp only [Int.toNat_natCast] at HO HV
    generalize parN tn = pn at *
    have m1 := mul4 (c := c) (x := k + (pn : Int)) (by omega) (by omega) (by omega)
    have m2 := mul4 (c := c) (x := k) (by omega) (by omega) (by omega)
    obtain ⟨-, -, -, -, -, hc1, hc4, hk1, hk4, -, -⟩ := hg
    go_enter Tryz.func11, Tryz.ntmps11
    go_wp2_with fail
    go_at_call 27
    refine (HO.out _).mono ?_
    rintro e w1 ⟨q, rfl, hf, hq, hb1⟩
    have HB1 : Hid (Below w.heap.size w w1) := Lib.hid (Below.trans ((Below.refl _ _).alloc (Nat.le_refl _) _) (hb1.mono (by simp)))
    have hc0 := hb1.cell (p := ⟨w.heap.size, 2, none⟩) (by simp)
    have hc1' := hb1.cell (p := ⟨w.heap.size, 3, none⟩) (by simp)
    rw [World.cell?_alloc_new] at hc0 hc1'
    have hcc2 : w1.cell? ⟨w.heap.size, 2, none⟩ = some (.int .i64 c) := hc0
    have hcc3 : w1.cell? ⟨w.heap.size, 3, none⟩ = some (.int .i64 k) := hc1'
    have HQ : Hid (w.heap.size < q) := Lib.hid (by simp at hq; omega)
    have HA : Hid (CodeAt w1 q tn k.toNat) := Lib.hid (.inl hf)
    clear hb1 hc0 hc1' hf hq HO
    obtain ⟨R, hR⟩ : ∃ R, R = c * (k + (pn : Int)) := ⟨_, rfl⟩
    obtain ⟨M, hM⟩ : ∃ M, M = c * k := ⟨_, rfl⟩
    have e1 : IntKind.i64.wrap (k + (pn : Int)) = k + (pn : Int) := by rw [IntKind.wrap_i64]; omega
    have e2 : IntKind.i64.wrap (c * (k + (pn : Int))) = R := by rw [← hR] at m1 ⊢; rw [IntKind.wrap_i64]; omega
    have e3 : IntKind.i64.wrap (c * k) = M := by rw [← hM] at m2 ⊢; rw [IntKind.wrap_i64]; omega
    have e4 : IntKind.i64.wrap (M - 3) = M - 3 := by rw [← hM] at m2; rw [IntKind.wrap_i64]; omega
    have e5 : IntKind.i64.wrap (M - 3 - 4) = M - 7 := by rw [← hM] at m2; rw [IntKind.wrap_i64]; omega
    have HRM : Hid (R = RR ∧ M - 7 = RM) := Lib.hid ⟨by rw [hR, HV.out.1], by rw [hM, HV.out.2]⟩
    clear m1 m2 hR hM HV hc1 hc4 hk1 hk4
    have H1 := Lib.hid hcc2
    have H2 := Lib.hid hcc3
    go_wp2_with fail
    go_region_held3 (fun W' => W'.cell? ⟨w.heap.size, 2, none⟩ = some (.int .i64 c) ∧ W'.cell? ⟨w.heap.size, 3, none⟩ = some (.int .i64 k))
      (first | (exact ⟨H1.out, H2.out⟩) | (exact ⟨H3.out, H4.out⟩) | go_keep)
      ((go_at_call 28; refine (HP.out q _ (by first | exact HA.out | exact HA.out.below ((Below.refl _ _).drew) | exact HA.out.below (Below.drewN (Below.refl _ _) _))).mono ?_; rintro e w2 ⟨rfl, hq2⟩; have H3 : Hid (w2.cell? ⟨w.heap.size, 2, none⟩ = some (.int .i64 c)) := Lib.hid (by obtain ⟨_, _, _, _, ho, _⟩ := hq2; exact ho.cell (by first | exact H1.out | exact (World.cell?_drew _ _).trans H1.out) (fun e => by have := HQ.out; omega)); have H4 : Hid (w2.cell? ⟨w.heap.size, 3, none⟩ = some (.int .i64 k)) := Lib.hid (by obtain ⟨_, _, _, _, ho, _⟩ := hq2; exact ho.cell (by first | exact H2.out | exact (World.cell?_drew _ _).trans H2.out) (fun e => by have := HQ.out; omega)); have HB2 : Hid (Below w.heap.size w w2) := Lib.hid (by first | exact below_coded HB1.out hq2 (by have := HQ.out; omega) | exact below_coded HB1.out.drew hq2 (by have := HQ.out; omega)); clear hq2))
    go_wp2_with fail
    go_ret2
    exact ⟨by rw [← HRM.out.1, ← HRM.out.2]; rfl, HB2.out⟩
  · have HO := Lib.hid (fun w => codeOf_no g hg w)
    have hr : g.raw = 0 := by unfold Geo.raw; rw [if_neg hg]
    have hm : g.room = 0 := by unfold Geo.room; rw [if_neg hg]
    rw [hr, hm]
    clear hr hm hg
    obtain ⟨b, p, c, k, t⟩ := g
    unfold Geo.v at *
    go_enter Tryz.func11, Tryz.ntmps11
    go_wp2_with fail
    go_at_call 27
    refine (HO.out _).mono ?_
    rintro e w1 ⟨rfl, hb1⟩
    have HB1 : Hid (Below w.heap.size w w1) := Lib.hid (Below.trans ((Below.refl _ _).alloc (Nat.le_refl _) _) (hb1.mono (by simp)))
    clear hb1
    go_wp2_with fail
    go_ret2
    exact ⟨rfl, HB1.out⟩
set_option maxHeartbeats 1600000 in
set_option maxRecDepth 100000 in
theorem Chip_yes (g : Geo) (hg : g.ok) (w W : World) (hW : Below w.heap.size w W) : Calls Tryz.prog 13 #[g.v] W fun e W' => ∃ L, e = .returned (.tuple #[.pointer (some ⟨L.a, 0, none⟩), .int .i64 0]) ∧ Holds w W' L (freshC g.B.toNat g.P.toNat g.raw) := by
  have HR := Lib.hid (fun w => Raw_any g w)
  have hn : newOk g.B g.P g.raw ∧ g.raw ≠ 0 := by
    have h0 := hg
    obtain ⟨b1, b2, b3, b4, b5, b6, b7, b8, b9, b10, b11⟩ := h0
    have hp : parN g.T.toNat ≤ 13 := by unfold parN; omega
    have := mul4 (c := g.C) (x := g.K + (parN g.T.toNat : Nat)) b6 b7 (by omega)
    have e : g.raw = g.C * (g.K + (parN g.T.toNat : Nat)) := by unfold Geo.raw; rw [if_pos hg]
    rw [← e] at this
    exact ⟨⟨b1, b2, b3, b4, b5, by omega, by omega⟩, by omega⟩
  have HN := Lib.hid (fun W (hW : Below w.heap.size w W) => new_at g.B g.P g.raw w W hW hn.1)
  have h0 := hn.2
  clear hg hn
  obtain ⟨b, p, c, k, t⟩ := g
  generalize (Geo.mk b p c k t).raw = R at *
  generalize (Geo.mk b p c k t).room = RM at *
  simp only at HN
  unfold Geo.v at *
  have HW := Lib.hid hW
  clear hW
  go_enter Tryz.func13, Tryz.ntmps13
  go_wp2_with fail
  go_at_call 11
  refine (HR.out _).mono ?_
  rintro e w1 ⟨rfl, hb1⟩
  have HB1 : Hid (Below w.heap.size w w1) := Lib.hid ((HW.out.alloc HW.out.size _).trans (hb1.mono (by have := HW.out.size; simp; omega)))
  have hc0 := hb1.cell (p := ⟨W.heap.size, 0, none⟩) (by simp)
  have hc1' := hb1.cell (p := ⟨W.heap.size, 1, none⟩) (by simp)
  rw [World.cell?_alloc_new] at hc0 hc1'
  have hcc0 : w1.cell? ⟨W.heap.size, 0, none⟩ = some (.int .i64 b) := hc0
  have hcc1 : w1.cell? ⟨W.heap.size, 1, none⟩ = some (.int .i64 p) := hc1'
  clear hb1 HR hc0 hc1'
  go_wp2_with fail
  go_at_call 19
  refine (HN.out _ HB1.out).mono ?_
  rintro e w2 ⟨L, rfl, hh⟩
  have HH := Lib.hid hh
  clear hh hcc0 hcc1
  go_wp2_with fail
  go_ret2
  exact ⟨L, rfl, HH.out⟩
set_option maxHeartbeats 1600000 in
set_option maxRecDepth 100000 in
theorem Chip_no (g : Geo) (hg : ¬ g.ok) (w : World) : Calls Tryz.prog 13 #[g.v] w fun e w' => e = .returned (.tuple #[.pointer none, .int .i64 1]) ∧ Below w.heap.size w w' := by
  have hr : g.raw = 0 := by unfold Geo.raw; rw [if_neg hg]
  have HR := Lib.hid (fun w => Raw_any g w)
  rw [hr] at HR
  clear hr hg
  obtain ⟨b, p, c, k, t⟩ := g
  generalize (Geo.mk b p c k t).room = RM at *
  unfold Geo.v at *
  go_enter Tryz.func13, Tryz.ntmps13
  go_wp2_with fail
  go_at_call 11
  refine (HR.out _).mono ?_
  rintro e w1 ⟨rfl, hb1⟩
  have HB1 : Hid (Below w.heap.size w w1) := Lib.hid (Below.trans ((Below.refl _ _).alloc (Nat.le_refl _) _) (hb1.mono (by simp)))
  clear hb1
  go_wp2_with fail
  go_ret2
  exact ⟨rfl, HB1.out⟩
set_option maxHeartbeats 1600000 in
set_option maxRecDepth 100000 in
theorem PNew_no (cv : Option Addr) (g : Geo) (hg : cv = none ∨ ¬ g.ok) (w : World) : Calls Tryz.prog 14 #[.pointer cv, g.v] w fun e w' => e = .returned (.tuple #[.pointer none, .int .i64 1]) ∧ Below w.heap.size w w' := by
  by_cases hok : g.ok
  · obtain rfl : cv = none := hg.resolve_right (fun h => h hok)
    have HO := Lib.hid (fun w => codeOf_yes g hok w)
    clear hok hg
    obtain ⟨b, p, c, k, t⟩ := g
    unfold Geo.v at *
    go_enter Tryz.func14, Tryz.ntmps14
    go_wp2_with fail
    go_at_call 27
    refine (HO.out _).mono ?_
    rintro e w1 ⟨q, rfl, hf, hq, hb1⟩
    have HB1 : Hid (Below w.heap.size w w1) := Lib.hid (Below.trans ((Below.refl _ _).alloc (Nat.le_refl _) _) (hb1.mono (by simp)))
    clear hb1 hf hq
    go_wp2_with fail
    go_ret2
    exact ⟨rfl, HB1.out⟩
  · have HO := Lib.hid (fun w => codeOf_no g hok w)
    clear hok hg
    obtain ⟨b, p, c, k, t⟩ := g
    unfold Geo.v at *
    go_enter Tryz.func14, Tryz.ntmps14
    go_wp2_with fail
    go_at_call 27
    refine (HO.out _).mono ?_
    rintro e w1 ⟨rfl, hb1⟩
    have HB1 : Hid (Below w.heap.size w w1) := Lib.hid (Below.trans ((Below.refl _ _).alloc (Nat.le_refl _) _) (hb1.mono (by simp)))
    clear hb1
    cases cv with
    | none =>
      go_wp2_with fail
      go_ret2
      exact ⟨rfl, HB1.out⟩
    | some a =>
      go_wp2_with fail
      go_ret2
      exact ⟨rfl, HB1.out⟩
/-- The pager's own cells. -/
structure PgCells (w : World) (a : Nat) (cp : Addr) (q : Nat) (g : Geo) : Prop where
  p0 : w.cell? ⟨a, 0, none⟩ = some (.pointer (some cp))
  p1 : w.cell? ⟨a, 1, none⟩ = some (.pointer (some ⟨q, 0, none⟩))
  p2 : w.cell? ⟨a, 2, none⟩ = some (.int .i64 g.B)
  p3 : w.cell? ⟨a, 3, none⟩ = some (.int .i64 g.P)
  p4 : w.cell? ⟨a, 4, none⟩ = some (.int .i64 g.C)
  p5 : w.cell? ⟨a, 5, none⟩ = some (.int .i64 g.K)
  p6 : w.cell? ⟨a, 6, none⟩ = some (.int .i64 g.T)
set_option maxHeartbeats 1600000 in
set_option maxRecDepth 100000 in
theorem PNew_yes (cp : Addr) (g : Geo) (hg : g.ok) (w : World) : Calls Tryz.prog 14 #[.pointer (some cp), g.v] w fun e w' => ∃ a q, e = .returned (.tuple #[.pointer (some ⟨a, 0, none⟩), .int .i64 0]) ∧ PgCells w' a cp q g ∧ CodeAt w' q g.T.toNat g.K.toNat ∧ w.heap.size ≤ q ∧ w.heap.size ≤ a ∧ Below w.heap.size w w' := by
  have HO := Lib.hid (fun w => codeOf_yes g hg w)
  clear hg
  obtain ⟨b, p, c, k, t⟩ := g
  unfold Geo.v at *
  go_enter Tryz.func14, Tryz.ntmps14
  go_wp2_with fail
  go_at_call 27
  refine (HO.out _).mono ?_
  rintro e w1 ⟨q, rfl, hf, hq, hb1⟩
  have HB1 : Hid (Below w.heap.size w w1) := Lib.hid (Below.trans ((Below.refl _ _).alloc (Nat.le_refl _) _) (hb1.mono (by simp)))
  have hcc : ∀ j, w1.cell? ⟨w.heap.size, j, none⟩ = (#[Value.int .i64 b, Value.int .i64 p, Value.int .i64 c, Value.int .i64 k, Value.int .i64 t] : Array Value)[j]? := fun j => by
    have := hb1.cell (p := ⟨w.heap.size, j, none⟩) (by simp)
    rw [World.cell?_alloc_new] at this
    exact this
  have c0 := hcc 0
  have c1 := hcc 1
  have c2 := hcc 2
  have c3 := hcc 3
  have c4 := hcc 4
  simp at c0 c1 c2 c3 c4
  have HF := Lib.hid hf
  have HQ : Hid (w.heap.size ≤ q) := Lib.hid (by simp at hq; omega)
  clear hb1 hf hq hcc
  go_wp2_with fail
  go_ret2
  refine ⟨_, q, rfl, ⟨?_, ?_, ?_, ?_, ?_, ?_, ?_⟩, ?_, HQ.out, HB1.out.size, ?_⟩
  all_goals first | (go_simp; done) | skip
  · exact CodeAt.below (.inl HF.out) ((Below.refl _ _).alloc (Nat.le_refl _) _)
  · exact HB1.out.alloc HB1.out.size _
set_option maxHeartbeats 1600000 in
set_option maxRecDepth 100000 in
theorem Sizes_any (g : Geo) (w : World) : Calls Tryz.prog 12 #[g.v] w fun e w' => e = .returned (.tuple #[.int .i64 g.raw, .int .i64 g.room]) ∧ Below w.heap.size w w' := by
  have HO := Lib.hid (fun w => rgood_any g w)
  by_cases hg : g.ok
  · have hd : decide g.ok = true := by simp [hg]
    have HV : Hid (g.raw = g.C * (g.K + (parN g.T.toNat : Nat)) ∧ g.room = g.C * g.K - 7) := Lib.hid (by unfold Geo.raw Geo.room; rw [if_pos hg, if_pos hg]; exact ⟨rfl, rfl⟩)
    rw [hd] at HO
    generalize g.raw = RR at *
    generalize g.room = RM at *
    obtain ⟨b, p, c, k, t⟩ := g
    unfold Geo.v Geo.ok at *
    simp only at hg
    simp only at HV HO
    obtain ⟨tn, rfl⟩ : ∃ n : Nat, t = n := ⟨t.toNat, by omega⟩
    have ht1 : 1 ≤ tn := by omega
    have ht8 : tn ≤ 8 := by omega
    have HP := Lib.hid (fun w => rdegree_any tn ht1 ht8 w)
    obtain ⟨d, hdd⟩ : ∃ d, d = 13 * tn := ⟨_, rfl⟩
    rw [← hdd] at HP
    have hpd : parN tn = (d + 7) / 8 := by rw [hdd]; rfl
    have hp : parN tn ≤ 13 := by unfold parN; omega
    simp only [Int.toNat_natCast] at HV
    generalize parN tn = pn at *
    have m1 := mul4 (c := c) (x := k + (pn : Int)) (by omega) (by omega) (by omega)
    have m2 := mul4 (c := c) (x := k) (by omega) (by omega) (by omega)
    obtain ⟨-, -, -, -, -, hc1, hc4, hk1, hk4, -, -⟩ := hg
    obtain ⟨R, hR⟩ : ∃ R, R = c * (k + (pn : Int)) := ⟨_, rfl⟩
    obtain ⟨M, hM⟩ : ∃ M, M = c * k := ⟨_, rfl⟩
    have e0 : IntKind.i64.wrap ((d : Int) + 7) = (d : Int) + 7 := by rw [IntKind.wrap_i64]; omega
    have e00 : IntKind.i64.wrap (((d : Int) + 7).tdiv 8) = (pn : Int) := by
      have h8 : ((d : Int) + 7) / 8 = (pn : Int) := by omega
      rw [Int.tdiv_eq_ediv_of_nonneg (by omega), h8, IntKind.wrap_i64]; omega
    have e1 : IntKind.i64.wrap (k + (pn : Int)) = k + (pn : Int) := by rw [IntKind.wrap_i64]; omega
    have e2 : IntKind.i64.wrap (c * (k + (pn : Int))) = R := by rw [← hR] at m1 ⊢; rw [IntKind.wrap_i64]; omega
    have e3 : IntKind.i64.wrap (c * k) = M := by rw [← hM] at m2 ⊢; rw [IntKind.wrap_i64]; omega
    have e4 : IntKind.i64.wrap (M - 3) = M - 3 := by rw [← hM] at m2; rw [IntKind.wrap_i64]; omega
    have e5 : IntKind.i64.wrap (M - 3 - 4) = M - 7 := by rw [← hM] at m2; rw [IntKind.wrap_i64]; omega
    have e7 : IntKind.i64.wrap (M - 7) = M - 7 := by rw [← hM] at m2; rw [IntKind.wrap_i64]; omega
    have HRM : Hid (R = RR ∧ M - 7 = RM) := Lib.hid ⟨by rw [hR, HV.out.1], by rw [hM, HV.out.2]⟩
    clear m1 m2 hR hM HV hc1 hc4 hk1 hk4 hpd hdd hd
    go_enter Tryz.func12, Tryz.ntmps12
    go_wp2_with fail
    go_at_call 15
    refine (HO.out _).mono ?_
    rintro e w1 ⟨rfl, hb1⟩
    have HB1 : Hid (Below w.heap.size w w1) := Lib.hid (Below.trans ((Below.refl _ _).alloc (Nat.le_refl _) _) (hb1.mono (by simp)))
    have hc0 := hb1.cell (p := ⟨w.heap.size, 2, none⟩) (by simp)
    have hc1' := hb1.cell (p := ⟨w.heap.size, 3, none⟩) (by simp)
    have hc2' := hb1.cell (p := ⟨w.heap.size, 4, none⟩) (by simp)
    rw [World.cell?_alloc_new] at hc0 hc1' hc2'
    have hcc2 : w1.cell? ⟨w.heap.size, 2, none⟩ = some (.int .i64 c) := hc0
    have hcc3 : w1.cell? ⟨w.heap.size, 3, none⟩ = some (.int .i64 k) := hc1'
    have hcc4 : w1.cell? ⟨w.heap.size, 4, none⟩ = some (.int .i64 (tn : Int)) := hc2'
    have HLT : Hid (w.heap.size < w1.heap.size) := Lib.hid (by have := hb1.size; simp at this; omega)
    clear hb1 hc0 hc1' hc2' HO
    have H1 := Lib.hid hcc2
    have H2 := Lib.hid hcc3
    have H5 := Lib.hid hcc4
    go_wp2_with fail
    go_region_held3 (fun W' => W'.cell? ⟨w.heap.size, 2, none⟩ = some (.int .i64 c) ∧ W'.cell? ⟨w.heap.size, 3, none⟩ = some (.int .i64 k) ∧ W'.cell? ⟨w.heap.size, 4, none⟩ = some (.int .i64 (tn : Int)))
      (first | (exact ⟨H1.out, H2.out, H5.out⟩) | (exact ⟨H3.out, H4.out, H6.out⟩) | go_keep)
      ((go_at_call 29; refine (HP.out _).mono ?_; rintro e w2 ⟨rfl, hq2⟩; have H3 : Hid (w2.cell? ⟨w.heap.size, 2, none⟩ = some (.int .i64 c)) := Lib.hid ((hq2.cell (p := ⟨w.heap.size, 2, none⟩) (by have := HLT.out; simpa using this)).trans (by first | exact H1.out | exact (World.cell?_drew _ _).trans H1.out)); have H4 : Hid (w2.cell? ⟨w.heap.size, 3, none⟩ = some (.int .i64 k)) := Lib.hid ((hq2.cell (p := ⟨w.heap.size, 3, none⟩) (by have := HLT.out; simpa using this)).trans (by first | exact H2.out | exact (World.cell?_drew _ _).trans H2.out)); have H6 : Hid (w2.cell? ⟨w.heap.size, 4, none⟩ = some (.int .i64 (tn : Int))) := Lib.hid ((hq2.cell (p := ⟨w.heap.size, 4, none⟩) (by have := HLT.out; simpa using this)).trans (by first | exact H5.out | exact (World.cell?_drew _ _).trans H5.out)); have HB2 : Hid (Below w.heap.size w w2) := Lib.hid (by first | exact HB1.out.trans (hq2.mono HB1.out.size) | exact HB1.out.drew.trans (hq2.mono HB1.out.drew.size)); clear hq2))
    go_wp2_with fail
    go_ret2
    exact ⟨by rw [← HRM.out.1, ← HRM.out.2]; rfl, HB2.out⟩
  · have hd : decide g.ok = false := by simp [hg]
    rw [hd] at HO
    have hr : g.raw = 0 := by unfold Geo.raw; rw [if_neg hg]
    have hm : g.room = 0 := by unfold Geo.room; rw [if_neg hg]
    rw [hr, hm]
    clear hr hm hg hd
    obtain ⟨b, p, c, k, t⟩ := g
    unfold Geo.v at *
    go_enter Tryz.func12, Tryz.ntmps12
    go_wp2_with fail
    go_at_call 15
    refine (HO.out _).mono ?_
    rintro e w1 ⟨rfl, hb1⟩
    have HB1 : Hid (Below w.heap.size w w1) := Lib.hid (Below.trans ((Below.refl _ _).alloc (Nat.le_refl _) _) (hb1.mono (by simp)))
    clear hb1
    go_wp2_with fail
    go_ret2
    exact ⟨rfl, HB1.out⟩
end Go.Proofs.YtgfjeaegigjnaaaGreatDoor
