/- The field's calls: Exp, Pow, Mul, Inv, Log. -/
import Derived.Test.YtldekkniammllaaBchU
import Derived.Test.YtldekkniammllaaBchR
namespace Go.Proofs.Ytldekkniammllaa
open Go.RowKit
set_option linter.unusedVariables false
set_option linter.unusedSimpArgs false

theorem around_int (n : Int) (m : Nat) (hm : n % 8191 = (m : Int)) (h0 : -1000000000000000 ≤ n) (h1 : n ≤ 1000000000000000) (w : World) :
    Calls Try.prog 53 #[.int .i64 n] w fun e w' => e = .returned (.int .i64 ((m : Nat) : Int)) ∧ w' = w := by
  have ht := Int.tmod_eq_emod (a := n) (b := 8191)
  have he0 := Int.emod_nonneg n (show (8191 : Int) ≠ 0 by decide)
  have he1 := Int.emod_lt_of_pos n (show (0 : Int) < 8191 by decide)
  have hk : (n.tmod 8191 = (m : Int) ∧ 0 ≤ n.tmod 8191 ∨ n.tmod 8191 + 8191 = (m : Int) ∧ n.tmod 8191 < 0) ∧ n.tmod 8191 ≤ 8190 ∧ -8191 ≤ n.tmod 8191 := by
    split at ht
    · omega
    · simp only [show ((Int.natAbs 8191 : Nat) : Int) = 8191 from rfl] at ht
      omega
  obtain ⟨hk, hb1, hb2⟩ := hk
  clear ht hm he0 he1
  generalize hg : n.tmod 8191 = t at *
  rcases hk with ⟨ht, h2⟩ | ⟨ht, h2⟩
  · have HT := Lib.hid ht
    clear ht
    go_enter Try.func53, Try.ntmps53
    go_wp2
    go_ret
    exact ⟨congrArg (fun z => Ending.returned (.int .i64 z)) HT.out, rfl⟩
  · have HT := Lib.hid ht
    clear ht
    go_enter Try.func53, Try.ntmps53
    go_wp2
    go_ret
    exact ⟨congrArg (fun z => Ending.returned (.int .i64 z)) HT.out, rfl⟩

set_option maxHeartbeats 1600000 in
theorem Exp_any (b off : Nat) (n : Int) (m : Nat) (hm : n % 8191 = (m : Int)) (h0 : -1000000000000000 ≤ n) (h1 : n ≤ 1000000000000000) (w : World) (h : FieldAt w b off) :
    Calls Try.prog 36 #[.pointer (some ⟨b, off, none⟩), .int .i64 n] w fun e w' => e = .returned (.int .i64 ((expN m : Nat) : Int)) ∧ Readied b off w w' := by
  have hm8 : m < 8191 := by omega
  have hm8i : (m : Int) < 16382 := by omega
  have HM := Lib.hid hm
  have HF := Lib.hid h
  clear hm h
  go_enter Try.func36, Try.ntmps36
  go_wp2_with (go_at_call 52; refine (tables_any b off _ HF.out).mono ?_; rintro e w1 ⟨rfl, hq⟩)
  obtain ⟨be, bl, hr, ho, hk⟩ := hq
  have HK := Lib.hid hk
  clear hk
  have hex := hr.tab.exp
  have hce := hr.tab.exps m (by omega)
  have HR := Lib.hid hr
  have HO := Lib.hid ho
  clear hr ho
  go_quiet ((go_at_call 53; exact Calls.quiet_of_same (around_int n m HM.out h0 h1 _)))
  go_wp2
  go_ret
  exact ⟨rfl, be, bl, HR.out.drewN _, HO.out.drewN _, HK.out⟩

/-- A square; any power whose exponent is not 0. -/
theorem Pow_any (b off x : Nat) (n : Int) (m r : Nat) (hr : expN (logN x * m) = r) (hx0 : 0 < x) (hx : x < 8192) (hm : n % 8191 = (m : Int)) (hn : n ≠ 0) (h0 : -1000000000000000 ≤ n) (h1 : n ≤ 1000000000000000) (w : World) (h : FieldAt w b off) :
    Calls Try.prog 62 #[.pointer (some ⟨b, off, none⟩), .int .i64 (x : Int), .int .i64 n] w fun e w' => e = .returned (.int .i64 ((r : Nat) : Int)) ∧ Readied b off w w' := by
  have hm8 : m < 8191 := by omega
  have hn0 : (n == 0) = false := by simpa using hn
  have hx00 : ((x : Int) == 0) = false := by simp; omega
  have HM := Lib.hid hm
  have HF := Lib.hid h
  have HN0 := Lib.hid hn
  have HRR := Lib.hid hr
  clear hm h hn hr
  go_enter Try.func62, Try.ntmps62
  go_wp2_with (first | (go_at_call 56; (with_reducible refine (low_any x hx _).mono ?_); rintro e w' ⟨rfl, rfl⟩) | (go_at_call 52; refine (tables_any b off _ HF.out).mono ?_; rintro e w1 ⟨rfl, hq⟩))
  obtain ⟨be, bl, hr, ho, hk⟩ := hq
  have HK := Lib.hid hk
  clear hk
  have hex := hr.tab.exp
  have hlo := hr.tab.log
  have hl := logN_lt x
  obtain ⟨l, hl2⟩ : ∃ l, l = logN x := ⟨_, rfl⟩
  have hcl := hr.tab.logs x hx0 hx
  have hrr := HRR.out
  rw [← hl2] at hcl hl hrr
  have HL := Lib.hid hl2
  clear hl2
  have hp : l * m ≤ 8190 * 8190 := Nat.mul_le_mul (by omega) (by omega)
  obtain ⟨p, hp2⟩ : ∃ p, p = l * m := ⟨_, rfl⟩
  have hpm : (l : Int) * (m : Int) = (p : Int) := by rw [hp2]; exact (Int.natCast_mul l m).symm
  rw [← hp2] at hp hrr
  have HP := Lib.hid hp2
  clear hp2
  have hpr : IntKind.i64.wrap ((l : Int) * (m : Int)) = (p : Int) := by rw [hpm, IntKind.wrap_i64]; omega
  have hpt : ((p : Int).tmod 8191) = ((p % 8191 : Nat) : Int) := Int.ofNat_tmod p 8191
  have hlt : p % 8191 < 8191 := Nat.mod_lt _ (by decide)
  have hlti : ((p % 8191 : Nat) : Int) < 16382 := by omega
  have hce := hr.tab.exps (p % 8191) (by omega)
  rw [exp_mod, hrr] at hce
  clear hrr
  have hxi : (x : Int) < 8192 := by omega
  have HR := Lib.hid hr
  have HO := Lib.hid ho
  clear hr ho
  clear hpm
  go_quiet ((go_at_call 53; exact Calls.quiet_of_same (around_int n m HM.out h0 h1 _)))
  go_wp2
  go_ret
  exact ⟨rfl, be, bl, HR.out.drewN _, HO.out.drewN _, HK.out⟩

theorem add_any (a : Addr) (n s : Int) (hs : IntKind.i64.wrap (n + 1) = s) (w : World) (hc : w.cell? a = some (.int .i64 n)) (hz : w.frozen? a = false) :
    Calls Try.prog 54 #[.pointer (some a), .int .i64 1] w fun e w' => e = .returned (.int .i64 s) ∧ w' = w.setCell a (.int .i64 s) := by
  have hadd := run_call_add (P := Try.prog) Try.func71 (by kernel_rfl) (by kernel_rfl) (by kernel_rfl) .i64 (by kernel_rfl) (y := 1) (s := s) hc hz (by rw [← hs]; simp [go_sem])
  clear hs
  go_enter Try.func54, Try.ntmps54
  go_wp2
  go_ret
  exact ⟨rfl, rfl⟩

/-- The product. -/
theorem Mul_any (b off x y : Nat) (hx : x < 8192) (hy : y < 8192) (w : World) (h : FieldAt w b off) :
    Calls Try.prog 37 #[.pointer (some ⟨b, off, none⟩), .int .i64 (x : Int), .int .i64 (y : Int)] w fun e w' => e = .returned (.int .i64 ((mulP x y : Nat) : Int)) ∧ Readied b off w w' := by
  have HF := Lib.hid h
  clear h
  go_enter Try.func37, Try.ntmps37
  go_wp2_with (go_at_call 52; refine (tables_any b off _ HF.out).mono ?_; rintro e w1 ⟨rfl, hq⟩)
  obtain ⟨be, bl, hr, ho, hk⟩ := hq
  have HK := Lib.hid hk
  clear hk
  obtain ⟨n, h5⟩ := hr.h5
  have hf5 := hr.free (off + 5)
  have ho2 : Only b (off + 5) (off + 6) w1 (w1.setCell ⟨b, off + 5, none⟩ (.int .i64 (IntKind.i64.wrap (n + 1)))) := (Only.refl _ _ _ _).setCell (by omega) (by omega) _
  have hr2 : FieldReady (w1.setCell ⟨b, off + 5, none⟩ (.int .i64 (IntKind.i64.wrap (n + 1)))) b off be bl :=
    ⟨ho2.cell hr.h0 (fun _ => by omega), ho2.cell hr.h1 (fun _ => by omega), hr.tab.only ho2 hr.n1 hr.n2 (.inr (by omega)), hr.n1, hr.n2, ⟨_, World.cell?_setCell_same _ _ _ h5⟩, fun o => (ho2.fz o).trans (hr.free o)⟩
  have HO := Lib.hid (ho.trans (ho2.mono (by omega) (by omega)))
  have HR := Lib.hid hr2
  clear hr ho hr2 ho2
  generalize hs : IntKind.i64.wrap (n + 1) = s at *
  have HS := Lib.hid hs
  clear hs
  go_wp2_with (first | (go_at_call 54; (with_reducible refine (add_any ⟨b, off + 5, none⟩ n s HS.out _ h5 hf5).mono ?_); rintro e w' ⟨rfl, rfl⟩) | (go_at_call 55; (with_reducible refine (times_any b off be bl x y _ HR.out.tab hx hy).mono ?_); rintro e w2 ⟨rfl, hw2⟩))
  go_ret
  rcases hw2 with rfl | rfl
  · exact ⟨rfl, be, bl, HR.out, HO.out, HK.out⟩
  · exact ⟨rfl, be, bl, HR.out.drew, HO.out.drew, HK.out⟩

/-- The inverse, of an element that is not 0. -/
theorem Inv_any (b off x : Nat) (hx0 : 0 < x) (hx : x < 8192) (w : World) (h : FieldAt w b off) :
    Calls Try.prog 38 #[.pointer (some ⟨b, off, none⟩), .int .i64 (x : Int)] w fun e w' => e = .returned (.tuple #[.int .i64 ((expN (8191 - logN x) : Nat) : Int), .bool true]) ∧ Readied b off w w' := by
  have hx00 : ((x : Int) == 0) = false := by simp; omega
  have HF := Lib.hid h
  clear h
  go_enter Try.func38, Try.ntmps38
  go_wp2_with (first | (go_at_call 56; (with_reducible refine (low_any x hx _).mono ?_); rintro e w' ⟨rfl, rfl⟩) | (go_at_call 52; refine (tables_any b off _ HF.out).mono ?_; rintro e w1 ⟨rfl, hq⟩))
  obtain ⟨be, bl, hr, ho, hk⟩ := hq
  have HK := Lib.hid hk
  clear hk
  have hex := hr.tab.exp
  have hlo := hr.tab.log
  have hl := logN_lt x
  have hcl := hr.tab.logs x hx0 hx
  have hce := hr.tab.exps (8191 - logN x) (by omega)
  have hs : IntKind.i64.wrap (8191 - ((logN x : Nat) : Int)) = ((8191 - logN x : Nat) : Int) := by rw [IntKind.wrap_i64]; omega
  have hsi : ((8191 - logN x : Nat) : Int) < 16382 := by omega
  have hsi2 : 8191 - ((logN x : Nat) : Int) < 16382 := by omega
  have hsi3 : 0 ≤ 8191 - ((logN x : Nat) : Int) := by omega
  have hnn : (8191 - ((logN x : Nat) : Int)).toNat = 8191 - logN x := by omega
  have hxi : (x : Int) < 8192 := by omega
  have HR := Lib.hid hr
  have HO := Lib.hid ho
  clear hr ho
  go_quiet ((go_at_call 56; exact Calls.quiet_of_same (low_any x hx _)))
  go_wp2
  go_ret2
  exact ⟨rfl, be, bl, HR.out.drewN _, HO.out.drewN _, HK.out⟩

/-- The logarithm, of an element that is not 0. -/
theorem Log_any (b off x : Nat) (hx0 : 0 < x) (hx : x < 8192) (w : World) (h : FieldAt w b off) :
    Calls Try.prog 40 #[.pointer (some ⟨b, off, none⟩), .int .i64 (x : Int)] w fun e w' => e = .returned (.tuple #[.int .i64 ((logN x : Nat) : Int), .bool true]) ∧ Readied b off w w' := by
  have hx00 : ((x : Int) == 0) = false := by simp; omega
  have HF := Lib.hid h
  clear h
  go_enter Try.func40, Try.ntmps40
  go_wp2_with (first | (go_at_call 56; (with_reducible refine (low_any x hx _).mono ?_); rintro e w' ⟨rfl, rfl⟩) | (go_at_call 52; refine (tables_any b off _ HF.out).mono ?_; rintro e w1 ⟨rfl, hq⟩))
  obtain ⟨be, bl, hr, ho, hk⟩ := hq
  have HK := Lib.hid hk
  clear hk
  have hlo := hr.tab.log
  have hcl := hr.tab.logs x hx0 hx
  have hxi : (x : Int) < 8192 := by omega
  have HR := Lib.hid hr
  have HO := Lib.hid ho
  clear hr ho
  go_quiet ((go_at_call 56; exact Calls.quiet_of_same (low_any x hx _)))
  go_wp2
  go_ret2
  exact ⟨rfl, be, bl, HR.out.drewN _, HO.out.drewN _, HK.out⟩
/-- Of 0 there is none. -/
theorem Log_zero (b off : Nat) (w : World) :
    Calls Try.prog 40 #[.pointer (some ⟨b, off, none⟩), .int .i64 0] w fun e w' => e = .returned (.tuple #[.int .i64 0, .bool false]) ∧ w' = w := by
  have hl : ∀ w : World, Calls Try.prog 56 #[.int .i64 0] w fun e w' => e = .returned (.int .i64 0) ∧ w' = w := fun w => low_any 0 (by decide) w
  go_enter Try.func40, Try.ntmps40
  go_wp2_with (go_at_call 56; (with_reducible refine (hl _).mono ?_); rintro e w' ⟨rfl, rfl⟩)
  go_ret2
  exact ⟨rfl, rfl⟩
end Go.Proofs.Ytldekkniammllaa
