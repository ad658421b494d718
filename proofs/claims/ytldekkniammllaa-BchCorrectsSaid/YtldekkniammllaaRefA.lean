/- The document's field: Low, Mul, Pow, Exp. -/
import Derived.Test.YtldekkniammllaaPolC
namespace Go.Proofs.Ytldekkniammllaa
open Go.RowKit
set_option linter.unusedVariables false
set_option linter.unusedSimpArgs false

theorem mulK_horn (c a t : Nat) : mulK c a (t + 1) = step (mulK (c >>> 1) a t) ^^^ (if c.testBit 0 then a else 0) := by
  induction t with
  | zero => simp [mulK, stepN, step_zero]
  | succ t ih =>
    rw [mulK, ih, mulK, step_xor, Nat.testBit_shiftRight, Nat.add_comm 1 t, Nat.xor_assoc, Nat.xor_assoc]
    congr 1
    rw [Nat.xor_comm]
    congr 1
    split
    · rfl
    · exact step_zero.symm
/-- The product so far: the t highest bits of b. -/
def horn (b a t : Nat) : Nat := mulK (b >>> (13 - t)) a t
theorem horn_step {b a t : Nat} (h : t < 13) : horn b a (t + 1) = step (horn b a t) ^^^ (if b.testBit (12 - t) then a else 0) := by
  unfold horn
  rw [mulK_horn, ← Nat.shiftRight_add, show 13 - (t + 1) + 1 = 13 - t by omega, Nat.testBit_shiftRight, show 13 - (t + 1) + 0 = 12 - t by omega]
theorem horn_lt (b : Nat) {a : Nat} (t : Nat) (h : a < 8192) : horn b a t < 8192 := mulK_lt _ _ h

theorem rlow_any (a : Nat) (ha : a < 8192) (w : World) : Calls Try.prog 69 #[.int .i64 (a : Int)] w fun e w' => e = .returned (.int .i64 (a : Int)) ∧ w' = w := by
  go_enter Try.func69, Try.ntmps69
  go_wp2
  go_ret
  refine ⟨congrArg (fun z => Ending.returned (.int .i64 z)) ?_, rfl⟩
  omega

theorem bit_int (b n : Nat) (hb : b < 4611686018427387904) : (bits BinOp.and .i64 ((b : Int) / 2 ^ n) 1 == 1) = b.testBit n := by
  rw [div_shr]
  have h1 : b >>> n ≤ b := by rw [Nat.shiftRight_eq_div_pow]; exact Nat.div_le_self _ _
  have := and_i64 (b >>> n) 1 (by omega) (by decide)
  rw [show ((1 : Nat) : Int) = 1 from rfl] at this
  rw [this, Nat.and_one_is_mod, Nat.testBit, Nat.one_and_eq_mod_two, Bool.eq_iff_iff]
  simp only [beq_iff_eq, bne_iff_ne]
  omega

set_option maxHeartbeats 1600000 in
theorem rmul_any (a b : Nat) (ha : a < 8192) (hb : b < 8192) (w : World) :
    Calls Try.prog 49 #[.int .i64 (a : Int), .int .i64 (b : Int)] w fun e w' => e = .returned (.int .i64 ((mulP b a : Nat) : Int)) ∧ w' = w := by
  have Hb := Lib.hid hb
  have Ha := Lib.hid ha
  go_enter Try.func49, Try.ntmps49
  go_wp2_with (first | (go_at_call 69; (with_reducible refine (rlow_any a ha _).mono ?_); rintro e w' ⟨rfl, rfl⟩) | (go_at_call 69; (with_reducible refine (rlow_any b hb _).mono ?_); rintro e w' ⟨rfl, rfl⟩))
  go_loop [5, 6] (fun o i => ∃ (t x : Nat), t ≤ 13 ∧ i = .int .i64 (12 - (t : Int)) ∧ o = .int .i64 ((x : Nat) : Int) ∧ Hid (x = horn b a t)) (fun _ i => (intOf i + 1).toNat)
  case atStart => exact ⟨0, 0, by omega, rfl, rfl, Lib.hid rfl⟩
  case round =>
    obtain ⟨t, x, ht, rfl, rfl, HX⟩ := hrel
    have hx := horn_lt b t ha
    rw [← HX.out] at hx
    by_cases hlt : t < 13
    · have hsx : step x < 8192 := step_lt hx
      obtain ⟨n, hn⟩ : ∃ n, n = 12 - t := ⟨_, rfl⟩
      have hni : (12 : Int) - (t : Int) = (n : Int) := by omega
      rw [hni]
      have hn12 : n ≤ 12 := by omega
      have hstep := horn_step (b := b) (a := a) hlt
      rw [← HX.out, ← hn] at hstep
      have hbit := bit_int b n (by omega)
      have HS := Lib.hid hstep
      have HN := Lib.hid hn
      have HNI := Lib.hid hni
      clear hn hstep hni
      by_cases h40 : x < 4096
      · have hd : decide (8192 ≤ (x : Int) * 2) = false := by simp; omega
        have e1 : step x = 2 * x := step_low h40
        have HE := Lib.hid e1
        clear e1
        cases hbt : b.testBit n
        · rw [hbt] at hbit
          have HB := Lib.hid hbt
          clear hbt
          go_wp2_with fail
          go_round
          case rel => exact ⟨t + 1, 2 * x, by omega, by rw [← HNI.out]; go_num, by go_num, Lib.hid (by rw [HS.out, HB.out, HE.out]; simp)⟩
          case measure => simp [intOf]
        · rw [hbt] at hbit
          have HB := Lib.hid hbt
          clear hbt
          have hxr := xor_i64 (2 * x) a (by omega) (by omega)
          have e2 : ((2 * x : Nat) : Int) = (x : Int) * 2 := by omega
          rw [e2] at hxr
          clear e2
          go_wp2_with fail
          go_round
          case rel => exact ⟨t + 1, 2 * x ^^^ a, by omega, by rw [← HNI.out]; go_num, by first | rfl | rw [hxr], Lib.hid (by rw [HS.out, HB.out, HE.out]; simp)⟩
          case measure => simp [intOf]
      · have hd : decide (8192 ≤ (x : Int) * 2) = true := by simp; omega
        have e1 : step x = 2 * x ^^^ 0x201B := step_high (by omega) hx
        have hxp := xor_i64 (2 * x) 0x201B (by omega) (by omega)
        have e2 : ((2 * x : Nat) : Int) = (x : Int) * 2 := by omega
        rw [e2] at hxp
        have e3 : ((0x201B : Nat) : Int) = 8219 := rfl
        rw [e3, ← e1] at hxp
        obtain ⟨y, hy⟩ : ∃ y, y = step x := ⟨_, rfl⟩
        rw [← hy] at hxp hsx
        have HY := Lib.hid hy
        clear e1 e2 e3 hy
        cases hbt : b.testBit n
        · rw [hbt] at hbit
          have HB := Lib.hid hbt
          clear hbt
          go_wp2_with fail
          go_round
          case rel => exact ⟨t + 1, y, by omega, by rw [← HNI.out]; go_num, by first | rfl | rw [hxp], Lib.hid (by rw [HS.out, HB.out, ← HY.out]; simp)⟩
          case measure => simp [intOf]
        · rw [hbt] at hbit
          have HB := Lib.hid hbt
          clear hbt
          have hxr := xor_i64 y a (by omega) (by omega)
          go_wp2_with fail
          go_round
          case rel => exact ⟨t + 1, y ^^^ a, by omega, by rw [← HNI.out]; go_num, by first | rfl | rw [hxr], Lib.hid (by rw [HS.out, HB.out, ← HY.out]; simp)⟩
          case measure => simp [intOf]
    · obtain rfl : t = 13 := by omega
      have he : x = mulP b a := HX.out
      have HE := Lib.hid he
      clear he
      go_wp2_with fail
      go_ret
      exact ⟨by rw [HE.out]; rfl, rfl⟩

/-- By squares. -/
def powR : Nat → Nat → Nat → Nat → Nat
  | 0, o, _, _ => o
  | f + 1, o, a, n => if n = 0 then o else powR f (if n % 2 = 1 then mulP a o else o) (mulP a a) (n / 2)
theorem powR_zero (f o a : Nat) : powR f o a 0 = o := by cases f <;> rfl

set_option maxHeartbeats 1600000 in
theorem rpow_any (x m R f : Nat) (hx : x < 8192) (hm : m < 1000) (hR : powR f 1 x m = R) (hf : m ≤ f) (w : World) :
    Calls Try.prog 68 #[.int .i64 (x : Int), .int .i64 (m : Int)] w fun e w' => e = .returned (.int .i64 ((R : Nat) : Int)) ∧ w' = w := by
  have HR := Lib.hid hR
  have HF := Lib.hid hf
  clear hR hf
  go_enter Try.func68, Try.ntmps68
  go_wp2_with (go_at_call 69; (with_reducible refine (rlow_any x hx _).mono ?_); rintro e w' ⟨rfl, rfl⟩)
  go_loop [0, 1, 5] (fun av nv ov => ∃ a n o g : Nat, a < 8192 ∧ o < 8192 ∧ n < 1000 ∧ av = .int .i64 (a : Int) ∧ nv = .int .i64 (n : Int) ∧ ov = .int .i64 (o : Int) ∧ Hid (powR g o a n = R ∧ n ≤ g)) (fun _ nv _ => (intOf nv).toNat)
  case atStart => exact ⟨x, m, 1, f, hx, by decide, hm, rfl, rfl, rfl, Lib.hid ⟨HR.out, HF.out⟩⟩
  case round =>
    obtain ⟨a, n, o, g, ha, ho, hn, rfl, rfl, rfl, HP⟩ := hrel
    by_cases h0 : 0 < n
    · have h2 : (n : Int) / 2 = ((n / 2 : Nat) : Int) := by omega
      have h3 : (n : Int) % 2 = ((n % 2 : Nat) : Int) := by omega
      obtain ⟨q, hq⟩ : ∃ q, q = n / 2 := ⟨_, rfl⟩
      obtain ⟨s, hs⟩ : ∃ s, s = n % 2 := ⟨_, rfl⟩
      have hqn : q < n := by omega
      have hs2 : s < 2 := by omega
      have HS : Hid (s = n % 2) := Lib.hid hs
      rw [← hq] at h2
      rw [← hs] at h3
      have hst : powR g o a n = R ∧ n ≤ g := HP.out
      obtain ⟨g', rfl⟩ : ∃ g', g = g' + 1 := ⟨g - 1, by omega⟩
      have hst1 := hst.1
      unfold powR at hst1
      rw [if_neg (by omega), ← hq, ← hs] at hst1
      have hg : q ≤ g' := by omega
      have hm1 := mulP_lt a ha
      have hm2 := mulP_lt a ho
      have HG := Lib.hid (And.intro hst1 hg)
      have HQ := Lib.hid hq
      clear hst hst1 hq hs
      by_cases hs1 : s = 1
      · have hb : (((s : Nat) : Int) == 1) = true := by simp; omega
        have HS1 := Lib.hid hs1
        clear hs1
        go_wp2_with (first | (go_at_call 49; (with_reducible refine (rmul_any o a ho ha _).mono ?_); rintro e w' ⟨rfl, rfl⟩) | (go_at_call 49; (with_reducible refine (rmul_any a a ha ha _).mono ?_); rintro e w' ⟨rfl, rfl⟩))
        go_round
        case rel => exact ⟨mulP a a, q, mulP a o, g', hm1, hm2, by omega, rfl, rfl, rfl, Lib.hid (by have := HG.out; rw [if_pos HS1.out] at this; exact this)⟩
        case measure => simp [intOf]; omega
      · have hb : (((s : Nat) : Int) == 1) = false := by simp; omega
        have HS1 := Lib.hid hs1
        clear hs1
        go_wp2_with (first | (go_at_call 49; (with_reducible refine (rmul_any a a ha ha _).mono ?_); rintro e w' ⟨rfl, rfl⟩))
        go_round
        case rel => exact ⟨mulP a a, q, o, g', hm1, ho, by omega, rfl, rfl, rfl, Lib.hid (by have := HG.out; rw [if_neg HS1.out] at this; exact this)⟩
        case measure => simp [intOf]; omega
    · obtain rfl : n = 0 := by omega
      have he : o = R := by have := HP.out.1; rw [powR_zero] at this; exact this
      have HE := Lib.hid he
      clear he
      go_wp2_with fail
      go_ret
      exact ⟨by rw [HE.out]; rfl, rfl⟩

theorem rexp_any (k R : Nat) (hk : k < 1000) (hR : powR 1000 1 2 k = R) (w : World) :
    Calls Try.prog 48 #[.int .i64 (k : Int)] w fun e w' => e = .returned (.int .i64 ((R : Nat) : Int)) ∧ w' = w := by
  have HP := Lib.hid (rpow_any 2 k R 1000 (by decide) hk hR (by omega))
  have hmod : (k : Int) % 8191 = (k : Int) := by omega
  clear hR
  go_enter Try.func48, Try.ntmps48
  go_wp2_with (go_at_call 68; refine (HP.out _).mono ?_; rintro e w' ⟨rfl, rfl⟩)
  go_ret
  exact ⟨rfl, rfl⟩
end Go.Proofs.Ytldekkniammllaa
