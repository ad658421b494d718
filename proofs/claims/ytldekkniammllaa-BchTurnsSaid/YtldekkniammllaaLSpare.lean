/- The law BchSpare. -/
import Derived.Test.YtldekkniammllaaCodL
namespace Go.Proofs.Ytldekkniammllaa
open Go.RowKit
set_option linter.unusedVariables false
set_option linter.unusedSimpArgs false

theorem noSpare_xor {s R X : Nat} (h : X < 2 ^ s) : noSpare s ((R <<< s) ^^^ X) = R <<< s := by
  apply Nat.eq_of_testBit_eq
  intro t
  rw [noSpare_bit, Nat.testBit_xor, Nat.testBit_shiftLeft]
  by_cases ht : s ≤ t
  · have : X.testBit t = false := bit_none h ht
    simp [ht, this]
  · simp [ht]
theorem syn_zero (nb d k i : Nat) : syn 0 nb d k i = 0 := by
  induction i with
  | zero => rfl
  | succ i ih => unfold syn; rw [ih]; simp
theorem clB_zero (nb d k : Nat) : clB 0 nb d k = true := by
  induction k with
  | zero => rfl
  | succ k ih => unfold clB; rw [ih, syn_zero]; rfl
/-- The register of a chunk is the document's rest, over the spare bits. -/
theorem reg_rest {t : Nat} (ht1 : 1 ≤ t) (ht8 : t ≤ 8) (s : ByteArray) : ∃ R, R < 2 ^ (13 * t) ∧ regI (parN t) (lowN t) (numB s.data.toList) (8 * s.size) (8 * s.size) = R <<< spare t := by
  have hsl : s.data.toList.length = s.size := by simp
  have hDlt := numB_lt s.data.toList
  rw [hsl] at hDlt
  have hend := div_end (n := parN t) (s := spare t) (d := 13 * t) (G := genA t) (M := 8 * s.size) (par_spare t) (by omega) (by rw [← gen_log (show t < 9 by omega)]; exact Nat.lt_log2_self) (by rw [← gen_log (show t < 9 by omega)]; exact Nat.testBit_log2 (gen_ne (by omega))) (numB s.data.toList) hDlt
  exact ⟨_, hend.1, hend.2⟩
theorem rest_lt {t R : Nat} (h : R < 2 ^ (13 * t)) : R <<< spare t < 2 ^ (8 * parN t) := by
  rw [par_spare]; exact shl_lt h (Nat.le_refl _)
theorem num_str {n V : Nat} (h : V < 2 ^ (8 * n)) : numB (strOf n V).data.toList = V := num_bytes h
theorem str_size (n V : Nat) : (strOf n V).size = n := by
  show (bytesOf n V).toArray.size = n
  simp [bytesOf_length]
theorem byte_low {n V X : Nat} (hX : X < 256) (hn : 0 < n) (j : Nat) (hj : j < n) : byteAt n (V ^^^ X) j = if j = n - 1 then byteAt n V j ^^^ X else byteAt n V j := by
  rw [byteAt_xor]
  have hx : byteAt n X j = if j = n - 1 then X else 0 := by
    unfold byteAt
    split
    · next h =>
      subst h
      rw [show 8 * (n - 1 - (n - 1)) = 0 by omega, Nat.shiftRight_zero]
      exact Nat.mod_eq_of_lt hX
    · next h =>
      rw [Nat.shiftRight_eq_div_pow, Nat.div_eq_of_lt (Nat.lt_of_lt_of_le (show X < 2 ^ 8 from hX) (Nat.pow_le_pow_right (by decide) (by omega)))]
  rw [hx]
  split
  · rfl
  · rw [Nat.xor_zero]
theorem shr255 (r : Nat) (h : r ≤ 8) : (255 : Int) / 2 ^ r = ((2 ^ (8 - r) - 1 : Nat) : Int) := by
  match r, h with
  | 0, _ => rfl
  | 1, _ => rfl
  | 2, _ => rfl
  | 3, _ => rfl
  | 4, _ => rfl
  | 5, _ => rfl
  | 6, _ => rfl
  | 7, _ => rfl
  | 8, _ => rfl
/-- What Decode makes of the parity with any spare bits. -/
theorem spare_decode (c t chunk : Nat) (s : ByteArray) (R X : Nat) (hR : R < 2 ^ (13 * t)) (hreg : regI (parN t) (lowN t) (numB s.data.toList) (8 * s.size) (8 * s.size) = R <<< spare t) (hX : X < 2 ^ spare t)
    (hs : s.size = chunk) (hc : chunk ≤ 256) (ht1 : 1 ≤ t) (ht8 : t ≤ 8) (w : World) (h : CodeAt w c t chunk) :
    Calls Try.prog 16 #[.pointer (some ⟨c, 0, none⟩), .string s, .string (strOf (parN t) ((R <<< spare t) ^^^ X))] w fun e w' => e = .returned (.tuple #[.string s, .string (parS t s), .int .i64 0, .bool true]) ∧ Coded c t chunk w w' := by
  have hlt : (R <<< spare t) ^^^ X < 2 ^ (8 * parN t) := Nat.xor_lt_two_pow (rest_lt hR) (Nat.lt_of_lt_of_le hX (Nat.pow_le_pow_right (by decide) (by rw [par_spare]; omega)))
  have hn : numB (strOf (parN t) ((R <<< spare t) ^^^ X)).data.toList = (R <<< spare t) ^^^ X := num_str hlt
  have hW : regW t s (strOf (parN t) ((R <<< spare t) ^^^ X)) = 0 := by
    unfold regW
    rw [hreg, hn, noSpare_xor hX, Nat.xor_self]
  refine (Decode_clean c t chunk s _ hs (str_size _ _) hc ht1 ht8 w h (by rw [hW]; exact clB_zero _ _ _)).mono fun e w' ⟨he, hk⟩ => ⟨?_, hk⟩
  rw [he, hn, noSpare_xor hX]
  unfold parS
  rw [hreg]

set_option maxHeartbeats 6400000 in
set_option maxRecDepth 100000 in
theorem BchSpare_walk (a0 : Int) (s : ByteArray) (a2 : Int) (w : World) (w0 : (Lit.int .i64 a0).wf = true) (hsz : s.size ≤ 140737488351232) (w2 : (Lit.int .u8 a2).wf = true) :
    Calls Try.prog 6 #[.int .i64 a0, .string s, .int .u8 a2] w fun e w' => e = .returned (.bool true) ∧ Below w.heap.size w w' := by
  have ha2 : 0 ≤ a2 ∧ a2 < 256 := by simp [Lit.wf, IntKind.min, IntKind.max, IntKind.signed, IntKind.bits] at w2; omega
  clear w0 w2
  have HSP := Lib.hid (fun w => speaks_ok w)
  go_enter Try.func6, Try.ntmps6
  go_wp2_with fail
  go_at_call 8
  refine (HSP.out _).mono ?_
  rintro e w1 ⟨rfl, hb1⟩
  have HB1 := Lib.hid hb1
  have hs1 := hb1.size
  clear hb1
  by_cases hok : 1 ≤ a0 ∧ a0 ≤ 8 ∧ 1 ≤ (s.size : Int) ∧ (s.size : Int) ≤ 256
  · obtain ⟨h1, h2, h3, h4⟩ := hok
    have HST := Lib.hid (fun w => settings_yes a0 (s.size : Int) h1 h2 h3 h4 w)
    obtain ⟨t, rfl⟩ := Int.eq_ofNat_of_zero_le (show 0 ≤ a0 by omega)
    obtain ⟨x2, rfl⟩ := Int.eq_ofNat_of_zero_le (show 0 ≤ a2 by omega)
    have ht1 : 1 ≤ t := by omega
    have ht8 : t ≤ 8 := by omega
    have hc1 : 1 ≤ s.size := by omega
    have hc256 : s.size ≤ 256 := by omega
    go_wp2_with fail
    go_at_call 10
    refine (HST.out _).mono ?_
    rintro e w' ⟨rfl, hw'⟩
    obtain rfl := hw'.symm
    go_wp2_with fail
    go_at_call 9
    refine (New_yes t s.size ht1 ht8 hc1 hc256 w1).mono ?_
    rintro e w2 ⟨rfl, hf, hb⟩
    obtain ⟨c, hc⟩ : ∃ c, c = w1.heap.size := ⟨_, rfl⟩
    rw [← hc] at hf ⊢
    have HB2 : Hid (Below w.heap.size w w2) := Lib.hid (HB1.out.trans (hb.mono hs1))
    have hwc : w.heap.size ≤ c := by omega
    have HE := Lib.hid (Encode_any c t s.size s rfl hc256 ht1 ht8 w2 (.inl hf))
    clear hf hb hc
    go_wp2_with fail
    go_at_call 11
    refine HE.out.mono ?_
    rintro e w3 ⟨rfl, hk⟩
    have HB3 : Hid (Below w.heap.size w w3) := Lib.hid (below_coded HB2.out hk hwc)
    obtain ⟨gl, be, bl, hr3, _, _⟩ := hk
    have HK3 := Lib.hid hr3
    obtain ⟨R, hR, hreg⟩ := reg_rest ht1 ht8 s
    have hps : parS t s = strOf (parN t) (R <<< spare t) := by unfold parS; rw [hreg]
    have hrow := bytes_row w3 (parS t s)
    have hcv := conv_str (parS t s) w3
    have hbw := below_bytes w3 (parS t s)
    have hsz3 := Lib.bytesWorld_size w3 5 (parS t s)
    have hpsz : (parS t s).size = parN t := by rw [hps]; exact str_size _ _
    have hpn : numB (parS t s).data.toList = R <<< spare t := by rw [hps]; exact num_str (rest_lt hR)
    rw [hpsz, hpn] at hrow
    rw [hpsz] at hcv
    obtain ⟨PS, hPS⟩ : ∃ PS, PS = parS t s := ⟨_, rfl⟩
    rw [← hPS] at hcv hbw hrow hsz3
    rw [← hPS]
    have HPS := Lib.hid hPS
    generalize Lib.bytesWorld w3 5 PS = w4 at *
    have HROW := Lib.hid hrow
    have HB4 : Hid (Below w.heap.size w w4) := Lib.hid (HB3.out.trans (hbw.mono HB3.out.size))
    have HK4 : Hid (CodeReady w4 c t s.size gl be bl) := Lib.hid (HK3.out.below hbw)
    obtain ⟨gq, hgq⟩ : ∃ gq, gq = w3.heap.size := ⟨_, rfl⟩
    rw [← hgq] at hcv HROW
    have hwgq : w.heap.size ≤ gq := by have := HB3.out.size; omega
    have lgq : gq < w4.heap.size := by omega
    generalize grownCap w3 (parN t) 0 5 = cap at *
    have HREG := Lib.hid (And.intro hR hreg)
    have m1 : gq ≠ c := by have := HK3.out.lc; omega
    have m2 : gq ≠ gl := by have := HK3.out.lt; omega
    have m3 : gq ≠ be := by have := HK3.out.field.lt1; omega
    have m4 : gq ≠ bl := by have := HK3.out.field.lt2; omega
    clear hr3 HE hps hrow hbw hsz3 hpsz hpn hPS hgq hR hreg HK3 HST
    go_wp2_with fail
    go_at_call 12
    have hps8 := par_spare t
    have hps0 := par_pos ht1
    have hps13 := par_le ht8
    have hsp8 : spare t < 8 := by unfold spare parN; omega
    have hdeg := rdegree_any t ht1 ht8 w4
    have HDEC := Lib.hid (fun X w hX h => spare_decode c t s.size s R X HREG.out.1 HREG.out.2 hX rfl hc256 ht1 ht8 w h)
    obtain ⟨d, hd⟩ : ∃ d, d = 13 * t := ⟨_, rfl⟩
    obtain ⟨nb, hnb⟩ : ∃ nb, nb = parN t := ⟨_, rfl⟩
    obtain ⟨sp, hsp⟩ : ∃ sp, sp = spare t := ⟨_, rfl⟩
    rw [← hd] at hdeg hps8
    rw [← hnb] at hps8 hps0 hps13 HROW HDEC
    rw [← hsp] at hps8 hsp8 HROW HDEC
    rw [← hnb]
    have HDEG := Lib.hid hdeg
    rw [← HPS.out] at HDEC
    clear hd hnb hsp hdeg HREG
    refine HDEG.out.mono ?_
    rintro e w5 ⟨rfl, hb5⟩
    have HROW5 : Hid (SV w5 gq nb (R <<< sp)) := Lib.hid (SRow.stays HROW.out (S := fun _ => False) (Stays.of_below hb5) lgq id)
    have HB5 : Hid (Below w.heap.size w w5) := Lib.hid (HB4.out.trans (hb5.mono HB4.out.size))
    have HK5 : Hid (CodeReady w5 c t s.size gl be bl) := Lib.hid (HK4.out.below hb5)
    clear hb5 hcv
    go_upto_if 49 with fail
    go_cut [49] (fun bv wz => ∃ X, X < 2 ^ sp ∧ Hid (SV wz gq nb ((R <<< sp) ^^^ X)) ∧ Hid (Below w.heap.size w wz) ∧ Hid (CodeReady wz c t s.size gl be bl))
    case first =>
      by_cases h0 : sp = 0
      · have hb : decide (0 < (d : Int) % 8) = false := by simp; omega
        have hd8 : (d : Int) % 8 = 0 := by omega
        go_wp2_with fail
        go_meet
        case rel => exact ⟨0, Nat.two_pow_pos _, Lib.hid (by rw [Nat.xor_zero]; exact HROW5.out), HB5, HK5⟩
      · obtain ⟨r, hr⟩ : ∃ r, r = 8 - sp := ⟨_, rfl⟩
        have hri : (d : Int) % 8 = (r : Int) := by omega
        have hr1 : 1 ≤ r := by omega
        have hr8 : r < 8 := by omega
        obtain ⟨q, hq⟩ : ∃ q, q = nb - 1 := ⟨_, rfl⟩
        have hqi : (nb : Int) - 1 = (q : Int) := by omega
        have hqn : q < nb := by omega
        have hqnI : (q : Int) < (nb : Int) := by omega
        have hcq := HROW5.out.cell q hqn
        have hfq := HROW5.out.free q hqn
        have hbb := byteAt_lt nb (R <<< sp) q
        have h255 := shr255 r (by omega)
        obtain ⟨mk, hmk⟩ : ∃ mk, mk = 2 ^ (8 - r) - 1 := ⟨_, rfl⟩
        rw [← hmk] at h255
        have hsp2 : 2 ^ sp ≤ 2 ^ 7 := Nat.pow_le_pow_right (by decide) (by omega)
        have h128 : (2 : Nat) ^ 7 = 128 := rfl
        have hmks : mk + 1 = 2 ^ sp := by
          rw [hmk, show 8 - r = sp by omega]
          have := Nat.two_pow_pos sp
          omega
        have hand := and_u8 x2 mk (by omega) (by omega)
        obtain ⟨X, hX⟩ : ∃ X, X = x2 &&& mk := ⟨_, rfl⟩
        have hXl : X ≤ mk := by rw [hX]; exact Nat.and_le_right
        rw [← hX] at hand
        have hset : ∀ j, j < nb → byteAt nb ((R <<< sp) ^^^ X) j = if j = q then byteAt nb (R <<< sp) q ^^^ X else byteAt nb (R <<< sp) j := fun j hj => by
          rw [byte_low (by omega) hps0 j hj, ← hq]
          split <;> rename_i hjq
          · rw [hjq]
          · rfl
        obtain ⟨y, hy⟩ : ∃ y, y = byteAt nb (R <<< sp) q := ⟨_, rfl⟩
        rw [← hy] at hcq hbb hset
        have hxo := xor_u8 y X hbb (by omega)
        have hst : SV (w5.setCell ⟨gq, q, none⟩ (.int .u8 ((y ^^^ X : Nat) : Int))).drew gq nb ((R <<< sp) ^^^ X) := by
          refine ((SRow.set HROW5.out q _).congr fun j hj => ?_).drew
          rw [hset j hj]
          by_cases e : j = q
          · subst e; rw [upd_same, if_pos rfl]
          · rw [upd_other _ _ e, if_neg e]
        have HST := Lib.hid hst
        have hXs : X < 2 ^ sp := by omega
        have HXS := Lib.hid hXs
        clear hr hq hmk hX hset hy hst hsp2 h128 hmks hXl hXs h0
        go_wp2_with fail
        go_region
        go_wp2_with fail
        go_meet
        case rel => exact ⟨X, HXS.out, HST, Lib.hid (Below.drew (HB5.out.setCell (by exact hwgq) _)), Lib.hid (HK5.out.stays (S := (· = gq)) (Stays.drew Row.stay) (Ne.symm m1) (Ne.symm m2) (Ne.symm m3) (Ne.symm m4))⟩
    case rest =>
      obtain ⟨X, hX, HV6, HB6, HK6⟩ := hcut
      obtain ⟨w6, rfl⟩ : ∃ w6 : World, w6 = wc := ⟨_, rfl⟩
      have hcs := SV.string (cap := cap) HV6.out
      obtain ⟨Q, hQ⟩ : ∃ Q, Q = strOf nb ((R <<< sp) ^^^ X) := ⟨_, rfl⟩
      have hdec := HDEC.out X w6 hX (.inr ⟨gl, be, bl, HK6.out⟩)
      rw [← hQ] at hcs hdec
      have HDC := Lib.hid hdec
      clear hdec hQ hX
      go_wp2_with fail
      go_at_call 16
      refine HDC.out.mono ?_
      rintro e w7 ⟨rfl, hk7⟩
      have HB7 : Hid (Below w.heap.size w w7) := Lib.hid (below_coded HB6.out hk7 hwc)
      clear hk7 hcs HDC
      go_wp2_with fail
      go_at_call 11
      refine (Encode_nil s w7).mono ?_
      rintro e w' ⟨rfl, hw'⟩
      obtain rfl := hw'.symm
      go_wp2_with fail
      go_ret
      refine ⟨?_, HB7.out⟩
      rfl
  · have hbad : a0 < 1 ∨ 8 < a0 ∨ (s.size : Int) < 1 ∨ 256 < (s.size : Int) := by omega
    have HST := Lib.hid (fun w => settings_no a0 (s.size : Int) hbad w)
    clear hok hbad
    go_wp2_with fail
    go_at_call 10
    refine (HST.out _).mono ?_
    rintro e w' ⟨rfl, hw'⟩
    obtain rfl := hw'.symm
    go_wp2_with fail
    go_at_call 8
    refine (HSP.out _).mono ?_
    rintro e w2 ⟨rfl, hb2⟩
    have HB2 : Hid (Below w.heap.size w w2) := Lib.hid (HB1.out.trans (hb2.mono hs1))
    clear hb2
    go_wp2_with fail
    go_ret
    refine ⟨?_, HB2.out⟩
    rfl
end Go.Proofs.Ytldekkniammllaa
