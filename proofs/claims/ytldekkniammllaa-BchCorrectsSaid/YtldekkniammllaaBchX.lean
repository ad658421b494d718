/- Rows of words: flip, add, degree, poly, rowOf. -/
import Derived.Test.YtldekkniammllaaBchT
import Derived.Test.YtldekkniammllaaBchW
import Derived.Test.YtldekkniammllaaShelf
import Derived.Lib.ItoaNum
namespace Go.Proofs.Ytldekkniammllaa
open Go.RowKit
set_option linter.unusedVariables false
set_option linter.unusedSimpArgs false

/-- A row of n words that is the polynomial A. -/
def WRow (w : World) (g n A : Nat) : Prop := Row w g n (fun j => .int .u64 ((wd A j : Nat) : Int))

theorem wrap_pow64 {r : Nat} (h : r < 64) : IntKind.u64.wrap ((2 : Int) ^ r) = ((2 ^ r : Nat) : Int) := by
  have h1 : 2 ^ r < 2 ^ 64 := Nat.pow_lt_pow_right (by decide) h
  have h2 : ((2 ^ r : Nat) : Int) = (2 : Int) ^ r := by simp
  rw [← h2, IntKind.wrap_u64]
  generalize 2 ^ r = p at *
  omega
theorem WRow.put {w : World} {g n A A' q v : Nat} (h : WRow w g n A) (hv : ∀ j, wd A' j = if j = q then v else wd A j) : WRow (w.setCell ⟨g, q, none⟩ (.int .u64 ((v : Nat) : Int))) g n A' := by
  refine (Row.set h q (.int .u64 ((v : Nat) : Int))).congr fun j hj => ?_
  by_cases e : j = q
  · subst e; rw [upd_same, hv, if_pos rfl]
  · rw [upd_other _ _ e, hv, if_neg e]
theorem Row.stay {w : World} {g q : Nat} {v : Value} : Stays (· = g) w (w.setCell ⟨g, q, none⟩ v) := Stays.setCell (S := (· = g)) (p := ⟨g, q, none⟩) (Stays.refl _ _) rfl v

set_option maxHeartbeats 1600000 in
theorem flip_any (g n c A e : Nat) (w : World) (h : WRow w g n A) (he : e / 64 < n) (he2 : e ≤ 16448) :
    Calls Try.prog 77 #[.slice (some ⟨g, 0, none⟩) n c, .int .i64 (e : Int)] w fun x w' => x = .returned (.tuple #[]) ∧ WRow w' g n (A ^^^ 2 ^ e) ∧ Stays (· = g) w w' := by
  obtain ⟨q, hq⟩ : ∃ q, q = e / 64 := ⟨_, rfl⟩
  obtain ⟨r, hr⟩ : ∃ r, r = e % 64 := ⟨_, rfl⟩
  have hqi : (e : Int) / 64 = (q : Int) := by omega
  have hri : (e : Int) % 64 = (r : Int) := by omega
  have hr64 : r < 64 := by omega
  rw [← hq] at he
  have hc := h.cell q he
  have hf := h.free q
  have HQ := Lib.hid hq
  have HR := Lib.hid hr
  have HH := Lib.hid h
  clear hq hr h
  go_enter Try.func77, Try.ntmps77
  go_wp2
  go_region
  go_end0
  refine ⟨rfl, ?_, Stays.drew Row.stay⟩
  have hw := wd_lt A q
  rw [wrap_pow64 hr64, bits_xor_u64_nat _ _ hw (Nat.pow_lt_pow_right (by decide) hr64)]
  refine Row.drew (WRow.put HH.out (v := wd A q ^^^ 2 ^ r) fun j => ?_)
  rw [wd_flip, HQ.out, HR.out]
  split <;> rename_i hj
  · rw [hj]
  · rfl

theorem log2_lt_pow {A n : Nat} (h : A.log2 < n) : A < 2 ^ n := by
  rcases Nat.eq_zero_or_pos A with h0 | h0
  · subst h0; exact Nat.two_pow_pos _
  · exact (Nat.log2_lt (by omega)).mp h
theorem log2_of_lt {A n : Nat} (hn : 0 < n) (h : A < 2 ^ n) : A.log2 < n := by
  rcases Nat.eq_zero_or_pos A with h0 | h0
  · subst h0; rw [Nat.log2_zero]; exact hn
  · exact (Nat.log2_lt (by omega)).mpr h
/-- The degree, as a number. -/
def degI (A : Nat) : Int := if A = 0 then -1 else (A.log2 : Int)
theorem top_word {A k : Nat} (h : A < 2 ^ (64 * (k + 1))) (h0 : wd A k ≠ 0) : A ≠ 0 ∧ A.log2 = 64 * k + (wd A k).log2 := by
  have h1 := wd_ne A k h0
  have hp : 0 < 2 ^ (64 * k) := Nat.two_pow_pos _
  have hA : A ≠ 0 := by omega
  refine ⟨hA, ?_⟩
  have hk : wd A k = A / 2 ^ (64 * k) := by
    unfold wd
    rw [Nat.shiftRight_eq_div_pow]
    refine Nat.mod_eq_of_lt (Nat.div_lt_of_lt_mul ?_)
    rw [← Nat.pow_add]
    exact h
  rw [hk] at h0 ⊢
  have e1 : 2 ^ (A / 2 ^ (64 * k)).log2 ≤ A / 2 ^ (64 * k) := Nat.log2_self_le h0
  have e2 : A / 2 ^ (64 * k) < 2 ^ ((A / 2 ^ (64 * k)).log2 + 1) := Nat.lt_log2_self
  generalize (A / 2 ^ (64 * k)).log2 = l at *
  have e3 : 2 ^ (64 * k + l) ≤ A := by
    rw [Nat.pow_add, Nat.mul_comm]
    exact (Nat.le_div_iff_mul_le hp).mp e1
  have e4 : A < 2 ^ (64 * k + l + 1) := by
    rw [Nat.add_assoc, Nat.pow_add, Nat.mul_comm]
    exact (Nat.div_lt_iff_lt_mul hp).mp e2
  have e5 : A.log2 < 64 * k + l + 1 := (Nat.log2_lt hA).mpr e4
  have e6 : ¬ A.log2 < 64 * k + l := fun h => by
    have := (Nat.log2_lt hA).mp h
    omega
  omega
theorem no_word {A k : Nat} (h : A < 2 ^ (64 * (k + 1))) (h0 : wd A k = 0) : A < 2 ^ (64 * k) := by
  have hp : 0 < 2 ^ (64 * k) := Nat.two_pow_pos _
  have hk : wd A k = A / 2 ^ (64 * k) := by
    unfold wd
    rw [Nat.shiftRight_eq_div_pow]
    refine Nat.mod_eq_of_lt (Nat.div_lt_of_lt_mul ?_)
    rw [← Nat.pow_add]
    exact h
  rw [hk] at h0
  rcases Nat.lt_or_ge A (2 ^ (64 * k)) with h1 | h1
  · exact h1
  · have := Nat.div_pos h1 hp; omega
theorem bitLen_log2 {x : Nat} (h : x ≠ 0) (h2 : x < 2 ^ 64) : Lib.bitLen x = x.log2 + 1 := by
  obtain ⟨a, b, c⟩ := Go.Lib.bitLenAux_bounds 64 x h2 h
  have hL : Lib.bitLen x = Lib.bitLenAux 64 x := rfl
  rw [hL]
  generalize Lib.bitLenAux 64 x = L at *
  have e1 : x.log2 < L := (Nat.log2_lt h).mpr c
  have e2 : ¬ x.log2 < L - 1 := fun h3 => by
    have := (Nat.log2_lt h).mp h3
    omega
  omega

set_option maxHeartbeats 1600000 in
theorem degree_any (g n c A : Nat) (w : World) (h : WRow w g n A) (hn : n ≤ 258) (hAl : A.log2 < 64 * n) :
    Calls Try.prog 65 #[.slice (some ⟨g, 0, none⟩) n c] w fun x w' => x = .returned (.int .i64 (degI A)) ∧ w' = w := by
  have hA : A < 2 ^ (64 * n) := log2_lt_pow hAl
  clear hAl
  go_enter Try.func65, Try.ntmps65
  go_wp2
  go_loop [3] (fun i => ∃ j : Int, -1 ≤ j ∧ j < n ∧ i = .int .i64 j ∧ A < 2 ^ (64 * (j + 1).toNat)) (fun i => (intOf i + 1).toNat)
  case atStart => exact ⟨(n : Int) - 1, by omega, by omega, rfl, by simpa using hA⟩
  case round =>
    obtain ⟨j, hj0, hj1, rfl, hj⟩ := hrel
    by_cases h0 : 0 ≤ j
    · obtain ⟨k, rfl⟩ := Int.eq_ofNat_of_zero_le h0
      have hc := h.cell k (by omega)
      have hj := Lib.hid hj
      have hl := wd_lt A k
      have HA := Lib.hid hA
      have HH := Lib.hid h
      clear hA h
      by_cases hz : wd A k = 0
      · have hz1 : (((wd A k : Nat) : Int) != 0) = false := by simp [hz]
        have HZ := Lib.hid hz
        clear hz
        go_wp2_with fail
        go_round
        case rel => 
          refine ⟨(k : Int) - 1, by omega, by omega, rfl, ?_⟩
          have := no_word (by simpa using hj.out) HZ.out
          simpa using this
        case measure => simp [intOf]
      · have hz1 : (((wd A k : Nat) : Int) != 0) = true := by simp [hz]
        have HZ := Lib.hid hz
        clear hz
        have hT := top_word (k := k) (by simpa using hj.out) HZ.out
        have hlt : (wd A k).log2 < 64 := (Nat.log2_lt HZ.out).mpr hl
        have hB := bitLen_log2 HZ.out hl
        obtain ⟨L, hL⟩ : ∃ L, L = Lib.bitLen (((wd A k : Nat) : Int)).toNat := ⟨_, rfl⟩
        have hLn : L = (wd A k).log2 + 1 := by rw [hL, Int.toNat_natCast]; exact hB
        have hL2 : L ≤ 64 := by omega
        have HL := Lib.hid hL
        have HT := Lib.hid hT
        have HB := Lib.hid hLn
        clear hL hT hB hLn hlt
        go_wp2_with (go_at_call 78; refine (Try.bits_Len64 ((wd A k : Nat) : Int) _ (by omega) (by omega)).mono ?_; rintro e w' ⟨rfl, hw'⟩; rw [← HL.out])
        go_ret
        refine ⟨congrArg (fun z => Ending.returned (.int .i64 z)) ?_, rfl⟩
        obtain ⟨t1, t2⟩ := HT.out
        have := HB.out
        unfold degI
        rw [if_neg t1, t2]; omega
    · have : j = -1 := by omega
      subst this
      go_wp2_with fail
      go_ret
      refine ⟨congrArg (fun z => Ending.returned (.int .i64 z)) ?_, rfl⟩
      have : A = 0 := by simpa using hj
      subst this
      rfl
end Go.Proofs.Ytldekkniammllaa
