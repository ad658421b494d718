/- The syndromes of a register. -/
import Derived.Test.YtldekkniammllaaCodJ
namespace Go.Proofs.Ytldekkniammllaa
open Go.RowKit
set_option linter.unusedVariables false
set_option linter.unusedSimpArgs false

theorem CodeReady.readied {w w' : World} {c t chunk gl be bl : Nat} (h : CodeReady w c t chunk gl be bl) (k : Readied c 5 w w') : CodeReady w' c t chunk gl be bl ∧ Only c 5 11 w w' := by
  obtain ⟨k1, k2⟩ := k.same h.field
  exact ⟨⟨k2.cell h.h0 (fun _ => by omega), k2.cell h.h1 (fun _ => by omega), k2.cell h.h2 (fun _ => by omega), k2.cell h.h3 (fun _ => by omega), k2.cell h.h11 (fun _ => by omega), k2.cell h.h12 (fun _ => by omega), Row.only h.low k2 h.lt h.n1, k1, h.n1, h.n2, h.n3, Nat.lt_of_lt_of_le h.lt k2.st.size, fun o => (k2.fz o).trans (h.free o)⟩, k2⟩
/-- What stands while syndromes are reckoned; B: where the call's own memory begins. -/
structure SynSt (w0 w : World) (c t chunk gl be bl : Nat) : Prop where
  cr : CodeReady w c t chunk gl be bl
  on : Only c 5 11 w0 w
  lc : c < w0.heap.size
  lg : gl < w0.heap.size
  le : be < w0.heap.size
  ll : bl < w0.heap.size
section
variable {w0 w w' : World} {c t chunk gl be bl : Nat}
theorem SynSt.readied (h : SynSt w0 w c t chunk gl be bl) (k : Readied c 5 w w') : SynSt w0 w' c t chunk gl be bl := by
  obtain ⟨k1, k2⟩ := h.cr.readied k
  exact ⟨k1, h.on.trans k2, h.lc, h.lg, h.le, h.ll⟩
theorem SynSt.new {S : Nat → Prop} (h : SynSt w0 w c t chunk gl be bl) (k : Stays S w w') (hS : ∀ q, S q → w0.heap.size ≤ q) : SynSt w0 w' c t chunk gl be bl := by
  have h1 := h.lc
  have h2 := h.lg
  have h3 := h.le
  have h4 := h.ll
  exact ⟨h.cr.stays k (fun q => by have := hS _ q; omega) (fun q => by have := hS _ q; omega) (fun q => by have := hS _ q; omega) (fun q => by have := hS _ q; omega), h.on.new k hS h1, h1, h2, h3, h4⟩
theorem SynSt.alloc (h : SynSt w0 w c t chunk gl be bl) (o : Obj) : SynSt w0 (w.alloc o) c t chunk gl be bl := h.new (S := fun _ => False) ((Stays.refl _ _).alloc o) (fun _ q => q.elim)
theorem SynSt.drew (h : SynSt w0 w c t chunk gl be bl) : SynSt w0 w.drew c t chunk gl be bl := h.new (S := fun _ => False) ((Stays.refl _ _).drew) (fun _ q => q.elim)
theorem SynSt.set (h : SynSt w0 w c t chunk gl be bl) {g : Nat} (o : Nat) (v : Value) (hg : w0.heap.size ≤ g) : SynSt w0 (w.setCell ⟨g, o, none⟩ v) c t chunk gl be bl :=
  h.new (S := (· = g)) Row.stay (fun q hq => by have : q = g := hq; omega)
theorem SynSt.start (h : CodeReady w c t chunk gl be bl) : SynSt w w c t chunk gl be bl := ⟨h, Only.refl _ _ _ _, h.lc, h.lt, h.field.lt1, h.field.lt2⟩
end
/-- Syndrome k of the first i bits of V. -/
def syn (V nb d k : Nat) : Nat → Nat
  | 0 => 0
  | i + 1 => syn V nb d k i ^^^ (if V.testBit (8 * nb - 1 - i) then expN ((k + 1) * (d - 1 - i)) else 0)
theorem syn_lt (V nb d k i : Nat) : syn V nb d k i < 8192 := by
  induction i with
  | zero => exact (by decide : (0 : Nat) < 8192)
  | succ i ih =>
    refine Nat.xor_lt_two_pow (n := 13) ih ?_
    split
    · exact expN_lt _
    · decide
def clB (V nb d : Nat) : Nat → Bool
  | 0 => true
  | k + 1 => clB V nb d k && (syn V nb d k d == 0)
def srow (V nb d k i q : Nat) : Nat := if q < k then syn V nb d q d else if q = k then syn V nb d k i else 0
def SynQ (c t chunk gl be bl V : Nat) (w : World) (e : Ending) (w' : World) : Prop := ∃ gs, e = .returned (.tuple #[.slice (some ⟨gs, 0, none⟩) (2 * t) (2 * t), .bool (clB V (parN t) (13 * t) (2 * t))]) ∧ w.heap.size ≤ gs ∧ gs < w'.heap.size ∧ NRow w' gs (2 * t) (fun q => syn V (parN t) (13 * t) q (13 * t)) ∧ SynSt w w' c t chunk gl be bl
theorem make_ints (n : Nat) (hn : n ≤ 1000000) (W : World) : (Instr.makeSlice 34 (.int .i64 (n : Int)) (.int .i64 (n : Int))).run Try.prog W = .ok (.slice (some ⟨W.heap.size, 0, none⟩) n n) (W.alloc (.cells (madeCells #[.int .i64 0] n) 3)) :=
  run_make_row' (P := Try.prog) 34 3 (.int .i64 0) 8 (by kernel_rfl) (by kernel_rfl) rfl .i64 .i64 n (by omega) (by omega) W

set_option maxHeartbeats 6400000 in
set_option maxRecDepth 100000 in
theorem syndromes_any (c t chunk gl be bl g cap V : Nat) (w : World) (ht1 : 1 ≤ t) (ht8 : t ≤ 8) (h : CodeReady w c t chunk gl be bl) (hv : SV w g (parN t) V) (hgc : g ≠ c) (lg : g < w.heap.size) :
    Calls Try.prog 24 #[.pointer (some ⟨c, 0, none⟩), .slice (some ⟨g, 0, none⟩) (parN t) cap] w (SynQ c t chunk gl be bl V w) := by
  have hps := par_spare t
  have hpl := par_le ht8
  have h0 := h.h0
  have hst0 := SynSt.start h
  obtain ⟨d, hd⟩ : ∃ d, d = 13 * t := ⟨_, rfl⟩
  obtain ⟨nb, hnb⟩ : ∃ nb, nb = parN t := ⟨_, rfl⟩
  obtain ⟨n2, hn2⟩ : ∃ n2, n2 = 2 * t := ⟨_, rfl⟩
  have hQ : ∀ e w', (∃ gs, e = .returned (.tuple #[.slice (some ⟨gs, 0, none⟩) n2 n2, .bool (clB V nb d n2)]) ∧ w.heap.size ≤ gs ∧ gs < w'.heap.size ∧ NRow w' gs n2 (fun q => syn V nb d q d) ∧ SynSt w w' c t chunk gl be bl) → SynQ c t chunk gl be bl V w e w' := by
    intro e w' h
    rw [hd, hnb, hn2] at h
    exact h
  have hmk := make_ints n2 (by omega)
  have hd104 : d ≤ 104 := by omega
  have hdn : d ≤ 8 * nb := by omega
  have hn16 : n2 ≤ 16 := by omega
  have hn2i : 2 * (t : Int) = (n2 : Int) := by omega
  have HCELL : Hid (∀ W, SynSt w W c t chunk gl be bl → W.cell? ⟨c, 11, none⟩ = some (.int .i64 (d : Int))) := Lib.hid (fun W hW => by rw [hd]; exact hW.cr.h11)
  rw [← hnb] at hv hpl ⊢
  have HV := Lib.hid hv
  have HQ := Lib.hid hQ
  have HST0 := Lib.hid hst0
  clear hps hd hnb hn2 hv hQ hst0 h
  go_enter Try.func24, Try.ntmps24
  go_wp2_with fail
  obtain ⟨gs, hgs⟩ : ∃ gs, gs = w.heap.size := ⟨_, rfl⟩
  have hrow0 : NRow (w.alloc (.cells (madeCells #[.int .i64 0] n2) 3)) gs n2 (srow V nb d 0 0) := by
    rw [hgs]
    exact Row.made _ _ _ _ _ (fun j hj => by rw [madeCells_get _ _ _ hj]; unfold srow; rw [if_neg (by omega)]; split <;> rfl)
  have hst1 := HST0.out.alloc (.cells (madeCells #[.int .i64 0] n2) 3)
  have hgs1 : gs < (w.alloc (.cells (madeCells #[.int .i64 0] n2) 3)).heap.size := by rw [hgs]; simp
  try rw [← hgs]
  have hgsw : w.heap.size ≤ gs := by omega
  have hgg : g ≠ gs := by omega
  have hgsc : gs ≠ c := by have := HST0.out.lc; omega
  generalize w.alloc (.cells (madeCells #[.int .i64 0] n2) 3) = W1 at *
  have HROW0 := Lib.hid hrow0
  have HST1 := Lib.hid hst1
  clear hrow0 hst1 hgs h0 hmk
  go_loopw [7, 18] (fun cv iv wr => ∃ k : Nat, k ≤ n2 ∧ iv = .int .i64 (k : Int) ∧ cv = .bool (clB V nb d k) ∧ gs < wr.heap.size ∧ Hid (NRow wr gs n2 (srow V nb d k 0)) ∧ Hid (SynSt w wr c t chunk gl be bl)) (fun _ iv _ => n2 - (intOf iv).toNat)
  case atStart => exact ⟨0, Nat.zero_le _, rfl, rfl, hgs1, HROW0, HST1⟩
  case round =>
    obtain ⟨k, hk, rfl, rfl, hgz, HR, HS⟩ := hrel
    obtain ⟨wq, rfl⟩ : ∃ wq : World, wq = wr := ⟨_, rfl⟩
    obtain ⟨cb, hcb⟩ : ∃ cb, cb = clB V nb d k := ⟨_, rfl⟩
    rw [← hcb]
    have HCB := Lib.hid hcb
    clear hcb
    by_cases hlt : k < n2
    · have hltI : (k : Int) < (n2 : Int) := by omega
      have c11 := HCELL.out wq HS.out
      go_wp2_with fail
      go_loopw [25] (fun iv wr => ∃ i : Nat, i ≤ d ∧ iv = .int .i64 (i : Int) ∧ gs < wr.heap.size ∧ Hid (NRow wr gs n2 (srow V nb d k i)) ∧ Hid (SynSt w wr c t chunk gl be bl)) (fun iv _ => d - (intOf iv).toNat)
      case atStart => exact ⟨0, Nat.zero_le _, rfl, hgz, HR, HS⟩
      case round =>
        clear c11
        obtain ⟨i, hid, rfl, hgz2, HR2, HS2⟩ := hrel
        obtain ⟨wz, rfl⟩ : ∃ wz : World, wz = wr := ⟨_, rfl⟩
        by_cases hil : i < d
        · obtain ⟨q, hq⟩ : ∃ q, q = i / 8 := ⟨_, rfl⟩
          obtain ⟨r, hr⟩ : ∃ r, r = 7 - i % 8 := ⟨_, rfl⟩
          have hqi : (i : Int) / 8 = (q : Int) := by omega
          have hri : (7 : Int) - (i : Int) % 8 = (r : Int) := by omega
          have hqn : q < nb := by omega
          have hqnI : (q : Int) < (nb : Int) := by omega
          have hr8 : r ≤ 7 := by omega
          have hVz : SV wz g nb V := SRow.stays HV.out HS2.out.on.st lg hgc
          have cv := hVz.cell q hqn
          have hbb := byteAt_lt nb V q
          have hbit := bit_u8 (byteAt nb V q) r hbb
          have hbv : (byteAt nb V q).testBit r = V.testBit (8 * nb - 1 - i) := by
            rw [byteAt_bit, show 8 * (nb - 1 - q) + r = 8 * nb - 1 - i by omega]
            have : r < 8 := by omega
            simp [this]
          rw [hbv] at hbit
          obtain ⟨y, hy⟩ : ∃ y, y = byteAt nb V q := ⟨_, rfl⟩
          rw [← hy] at cv hbb hbit
          have hnx : syn V nb d k (i + 1) = syn V nb d k i ^^^ (if V.testBit (8 * nb - 1 - i) then expN ((k + 1) * (d - 1 - i)) else 0) := rfl
          have HNX := Lib.hid hnx
          have hilI : (i : Int) < (d : Int) := by omega
          have c11 := HCELL.out wz HS2.out
          clear hq hr hVz hbv hy hnx
          cases hbt : V.testBit (8 * nb - 1 - i)
          · rw [hbt] at hbit HNX
            have HR3 : Hid (NRow wz gs n2 (srow V nb d k (i + 1))) := Lib.hid (HR2.out.congr fun j hj => by
              unfold srow
              split
              · rfl
              · split
                · rw [HNX.out]; simp
                · rfl)
            have hbit2 : bits BinOp.and .u8 ((y : Int) / 2 ^ r) 1 = 0 := hbit
            clear hbt hbit
            go_wp2_with fail
            go_roundw
            case rel => exact ⟨i + 1, by omega, by go_num, hgz2, HR3, HS2⟩
            case measure => simp [intOf]; omega
          · rw [hbt] at hbit HNX
            have hbit2 : bits BinOp.and .u8 ((y : Int) / 2 ^ r) 1 = 1 := hbit
            have ck : wz.cell? ⟨gs, k, none⟩ = some (.int .i64 ((syn V nb d k i : Nat) : Int)) := by
              have := HR2.out.cell k hlt
              rw [this]; unfold srow; rw [if_neg (Nat.lt_irrefl _), if_pos rfl]; rfl
            have fk := HR2.out.free k
            have hs8 := syn_lt V nb d k i
            obtain ⟨E, hE⟩ : ∃ E, E = (k + 1) * (d - 1 - i) := ⟨_, rfl⟩
            have hEl : E ≤ 17 * 104 := by rw [hE]; exact Nat.mul_le_mul (by omega) (by omega)
            obtain ⟨j, hj⟩ : ∃ j, j = d - 1 - i := ⟨_, rfl⟩
            have hji : (d : Int) - 1 - (i : Int) = (j : Int) := by omega
            have hEi : ((k : Int) + 1) * (j : Int) = (E : Int) := by
              rw [hE, ← hj, Int.natCast_mul]; rfl
            have e1 : IntKind.i64.wrap ((k : Int) + 1) = (k : Int) + 1 := (IntWalk.i64_left _).trans (IntWalk.wrap64_in _ (by omega))
            have e2 : IntKind.i64.wrap ((d : Int) - 1) = (d : Int) - 1 := (IntWalk.i64_left _).trans (IntWalk.wrap64_in _ (by omega))
            have e3 : IntKind.i64.wrap ((d : Int) - 1 - (i : Int)) = (j : Int) := by rw [hji]; exact (IntWalk.i64_left _).trans (IntWalk.wrap64_in _ (by omega))
            have e4 : IntKind.i64.wrap (((k : Int) + 1) * (j : Int)) = (E : Int) := by rw [hEi]; exact (IntWalk.i64_left _).trans (IntWalk.wrap64_in _ (by omega))
            obtain ⟨x, hx⟩ : ∃ x, x = expN E := ⟨_, rfl⟩
            have hx8 : x < 8192 := by rw [hx]; exact expN_lt _
            obtain ⟨y0, hy0⟩ : ∃ y0, y0 = syn V nb d k i := ⟨_, rfl⟩
            have hxo := xor_i64 y0 x (by omega) (by omega)
            rw [← hy0] at ck hs8
            rw [if_pos rfl, ← hE, ← hx, ← hy0] at HNX
            have HEXP := Lib.hid (Exp_any c 5 (E : Int) (E % 8191) (by omega) (by omega) (by omega) wz.drew (.inr ⟨be, bl, HS2.out.cr.field.drew⟩))
            rw [exp_mod, ← hx] at HEXP
            have HS2d := Lib.hid HS2.out.drew
            have hRd : NRow wz.drew gs n2 (srow V nb d k i) := Row.drew HR2.out
            have HRD := Lib.hid hRd
            clear hbt hbit hE hj hji hEi hx hy0 hRd
            go_wp2_with fail
            go_region_with (go_at_call 36; refine HEXP.out.mono ?_; rintro e w3 ⟨rfl, hq⟩; have HS3 := Lib.hid (HS2d.out.readied hq); have HO3 := Lib.hid (HS2d.out.cr.readied hq).2; have ck3 : w3.cell? ⟨gs, k, none⟩ = some (.int .i64 (y0 : Int)) := HO3.out.st.cell (p := ⟨gs, k, none⟩) ((World.cell?_drew _ _).trans ck) hgsc; have fk3 : w3.frozen? ⟨gs, k, none⟩ = false := (HO3.out.st.frozen (p := ⟨gs, k, none⟩) hgsc (by simp; omega)).trans ((World.frozen?_drew _ _).trans fk); have c113 := HCELL.out w3 HS3.out; clear hq)
            all_goals
              have HR4 : Hid (NRow (w3.setCell ⟨gs, k, none⟩ (.int .i64 ((y0 ^^^ x : Nat) : Int))) gs n2 (srow V nb d k (i + 1))) := Lib.hid ((NRow.set (Row.only HRD.out HO3.out (by simpa using hgz2) hgsc) k (y0 ^^^ x)).congr fun j hj => by
                by_cases e : j = k
                · subst e; rw [upd_same]; unfold srow; rw [if_neg (Nat.lt_irrefl _), if_pos rfl, HNX.out]
                · rw [upd_other _ _ e]; unfold srow
                  simp only [if_neg e])
              have HS4 := Lib.hid (HS3.out.set (g := gs) k (.int .i64 ((y0 ^^^ x : Nat) : Int)) hgsw)
              have hz4 : gs < (w3.setCell ⟨gs, k, none⟩ (.int .i64 ((y0 ^^^ x : Nat) : Int))).heap.size := by have := HO3.out.st.size; simp at this; simp; omega
              clear ck3 fk3 c113 ck fk e1 e2 e3 e4
              go_wp2_with fail
              go_roundw
              case rel => exact ⟨i + 1, by omega, by go_num, hz4, HR4, HS4⟩
              case measure => simp [intOf]; omega
        · obtain rfl : i = d := by omega
          have ck : wz.cell? ⟨gs, k, none⟩ = some (.int .i64 ((syn V nb i k i : Nat) : Int)) := by
            have := HR2.out.cell k hlt
            rw [this]; unfold srow; rw [if_neg (Nat.lt_irrefl _), if_pos rfl]; rfl
          have hcs : clB V nb i (k + 1) = (cb && (syn V nb i k i == 0)) := by rw [HCB.out]; rfl
          have HR5 : Hid (NRow wz gs n2 (srow V nb i (k + 1) 0)) := Lib.hid (HR2.out.congr fun j hj => by
            unfold srow
            by_cases e : j < k
            · rw [if_pos e, if_pos (by omega)]
            · rw [if_neg e]
              by_cases e2 : j = k
              · subst e2; rw [if_pos rfl, if_pos (Nat.lt_succ_self _)]
              · rw [if_neg e2, if_neg (by omega)]
                split <;> rfl)
          obtain ⟨y, hy⟩ : ∃ y, y = syn V nb i k i := ⟨_, rfl⟩
          rw [← hy] at ck hcs
          have HCS := Lib.hid hcs
          clear hy hcs
          cases cb
          · go_wp2_with fail
            go_roundw
            case rel => exact ⟨k + 1, by omega, by go_num, by rw [HCS.out]; rfl, hgz2, HR5, HS2⟩
            case measure => simp [intOf]; omega
          · by_cases hy0 : y = 0
            · have hb : (((y : Nat) : Int) == 0) = true := by simp [hy0]
              have HY := Lib.hid hy0
              clear hy0
              go_wp2_with fail
              go_roundw
              case rel => exact ⟨k + 1, by omega, by go_num, by rw [HCS.out, HY.out]; rfl, hgz2, HR5, HS2⟩
              case measure => simp [intOf]; omega
            · have hb : (((y : Nat) : Int) == 0) = false := by simp; omega
              have HY : Hid ((y == 0) = false) := Lib.hid (by simpa using hy0)
              clear hy0
              go_wp2_with fail
              go_roundw
              case rel => exact ⟨k + 1, by omega, by go_num, by rw [HCS.out, HY.out]; rfl, hgz2, HR5, HS2⟩
              case measure => simp [intOf]; omega
    · obtain rfl : k = n2 := by omega
      go_wp2_with fail
      go_ret2
      refine HQ.out _ _ ⟨gs, by rw [HCB.out]; rfl, hgsw, hgz, HR.out.congr fun j hj => by unfold srow; rw [if_pos hj], HS.out⟩
end Go.Proofs.Ytldekkniammllaa
