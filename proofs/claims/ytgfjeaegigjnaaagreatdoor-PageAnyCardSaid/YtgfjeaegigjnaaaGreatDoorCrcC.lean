/- Checksums: the walks of the document's Extend, Sum, Seal. -/
import Derived.Test.YtgfjeaegigjnaaaGreatDoorCrcA
import Derived.Test.YtgfjeaegigjnaaaGreatDoorOwnT
import Derived.Test.YtgfjeaegigjnaaaGreatDoorPgN
import Derived.Lib.SmallJoins
namespace Go.Proofs.YtgfjeaegigjnaaaGreatDoor
open Go.RowKit
set_option linter.unusedVariables false
set_option linter.unusedSimpArgs false

set_option maxHeartbeats 1600000 in
set_option maxRecDepth 100000 in
theorem rextend_any (c : Nat) (hc : c < 4294967296) (s : ByteArray) (hs : s.size ≤ 9223372036854775806) (w : World) :
    Calls Tryz.prog 82 #[.int .u32 (c : Int), .string s] w fun e w' => e = .returned (.int .u32 ((crcL (c ^^^ 4294967295) s.data.toList ^^^ 4294967295 : Nat) : Int)) ∧ w' = w := by
  have hx0 := xor_u32 c 4294967295 hc (by decide)
  have h0 : c ^^^ 4294967295 < 4294967296 := Nat.xor_lt_two_pow (n := 32) hc (by decide)
  obtain ⟨c0, hc0⟩ : ∃ c0, c0 = c ^^^ 4294967295 := ⟨_, rfl⟩
  rw [← hc0] at hx0 h0
  rw [← hc0]
  have hM : ((4294967295 : Nat) : Int) = 4294967295 := rfl
  rw [hM] at hx0
  have hcl : ∀ i, crcL c0 (s.data.toList.take i) < 4294967296 := fun i => crcL_lt h0 _
  have HCL := Lib.hid hcl
  clear hc0 hcl hM
  go_enter Tryz.func82, Tryz.ntmps82
  go_wp2_with fail
  go_loop [5, 6] (fun rv iv => ∃ i : Nat, i ≤ s.size ∧ iv = .int .i64 (i : Int) ∧ rv = .int .u32 ((crcL c0 (s.data.toList.take i) : Nat) : Int)) (fun _ iv => s.size - (intOf iv).toNat)
  case atStart => exact ⟨0, Nat.zero_le _, rfl, rfl⟩
  case round =>
    clear hx0
    obtain ⟨i, hi, rfl, rfl⟩ := hrel
    by_cases hlt : i < s.size
    · have hltI : (i : Int) < (s.size : Int) := by omega
      obtain ⟨b, hb, htk⟩ := str_byte hlt
      have hnx : crcL c0 (s.data.toList.take (i + 1)) = crcByte (crcL c0 (s.data.toList.take i)) b := by rw [htk, crcL_snoc]
      have HNX := Lib.hid hnx
      have hr8 := HCL.out i
      obtain ⟨r, hr⟩ : ∃ r, r = crcL c0 (s.data.toList.take i) := ⟨_, rfl⟩
      rw [← hr] at hr8 HNX
      rw [← hr]
      have hb8 : b.toNat < 256 := UInt8.toNat_lt b
      have hx1 := xor_u32 r b.toNat hr8 (by omega)
      have hr1 : r ^^^ b.toNat < 4294967296 := Nat.xor_lt_two_pow (n := 32) hr8 (by omega)
      obtain ⟨q, hq⟩ : ∃ q, q = r ^^^ b.toNat := ⟨_, rfl⟩
      have hnx2 : crcByte r b = crcIt 8 q := by rw [hq]; rfl
      have HNX2 := Lib.hid hnx2
      rw [← hq] at hx1 hr1
      clear htk hnx hr hq hnx2
      go_wp2_with fail
      go_loop [5, 7] (fun rv kv => ∃ k : Nat, k ≤ 8 ∧ kv = .int .i64 (k : Int) ∧ rv = .int .u32 ((crcIt k q : Nat) : Int)) (fun _ kv => 8 - (intOf kv).toNat)
      case atStart => exact ⟨0, Nat.zero_le _, rfl, rfl⟩
      case round =>
        clear hx1 hb
        obtain ⟨k, hk, rfl, rfl⟩ := hrel
        by_cases hk2 : k < 8
        · have hkI : (k : Int) < 8 := by omega
          have hy8 := crcIt_lt k hr1
          have HNN : Hid (crcIt (k + 1) q = crcBit (crcIt k q)) := Lib.hid rfl
          obtain ⟨y, hy⟩ : ∃ y, y = crcIt k q := ⟨_, rfl⟩
          rw [← hy] at hy8 HNN
          rw [← hy]
          have hand := and_u32 y 1 hy8 (by decide)
          rw [Nat.and_one_is_mod] at hand
          have h1 : ((1 : Nat) : Int) = 1 := rfl
          rw [h1] at hand
          obtain ⟨z, hz⟩ : ∃ z, z = y / 2 := ⟨_, rfl⟩
          have hzi : (y : Int) / 2 = (z : Int) := by omega
          have hz8 : z < 4294967296 := by omega
          have hx2 := xor_u32 z 3988292384 hz8 (by decide)
          have h2 : ((3988292384 : Nat) : Int) = 3988292384 := rfl
          rw [h2] at hx2
          by_cases hodd : y % 2 = 1
          · have hbit : crcBit y = z ^^^ 3988292384 := by unfold crcBit; rw [if_pos hodd, hz]
            have HB := Lib.hid hbit
            rw [hodd, h1] at hand
            clear hy h1 h2 hz hbit hodd
            go_wp2_with fail
            go_round
            case rel => exact ⟨k + 1, by omega, by go_num, by rw [HNN.out, HB.out]⟩
            case measure => simp [intOf]; omega
          · have hev : y % 2 = 0 := by omega
            have hbit : crcBit y = z := by unfold crcBit; rw [if_neg hodd, hz, Nat.xor_zero]
            have HB := Lib.hid hbit
            rw [hev] at hand
            have h0' : ((0 : Nat) : Int) = 0 := rfl
            rw [h0'] at hand
            clear hy h1 h2 hz hbit hodd hev hx2 h0'
            go_wp2_with fail
            go_round
            case rel => exact ⟨k + 1, by omega, by go_num, by rw [HNN.out, HB.out]⟩
            case measure => simp [intOf]; omega
        · obtain rfl : k = 8 := by omega
          go_wp2_with fail
          go_round
          case rel => exact ⟨i + 1, by omega, by go_num, by rw [HNX.out, HNX2.out]⟩
          case measure => simp [intOf]; omega
    · obtain rfl : i = s.size := by omega
      have hltI : ¬ (s.size : Int) < (s.size : Int) := by omega
      have hall : s.data.toList.take s.size = s.data.toList := List.take_of_length_le (by simp)
      have hr8 := HCL.out s.size
      rw [hall] at hr8
      rw [hall]
      obtain ⟨r, hr⟩ : ∃ r, r = crcL c0 s.data.toList := ⟨_, rfl⟩
      rw [← hr] at hr8
      rw [← hr]
      have hx3 := xor_u32 r 4294967295 hr8 (by decide)
      have hM : ((4294967295 : Nat) : Int) = 4294967295 := rfl
      rw [hM] at hx3
      have HR := Lib.hid hr
      clear hall hr hM
      go_wp2_with fail
      go_ret
      exact ⟨by rw [← HR.out]; rfl, rfl⟩
theorem rsum_any (s : ByteArray) (hs : s.size ≤ 9223372036854775806) (w : World) :
    Calls Tryz.prog 60 #[.string s] w fun e w' => e = .returned (.int .u32 ((crcSum s.data.toList : Nat) : Int)) ∧ w' = w := by
  have HE := Lib.hid (rextend_any 0 (by decide) s hs w)
  go_enter Tryz.func60, Tryz.ntmps60
  go_wp2_with fail
  go_at_call 82
  refine HE.out.mono ?_
  rintro e w' ⟨rfl, hw'⟩
  obtain rfl := hw'.symm
  go_wp2_with fail
  go_ret
  exact ⟨rfl, rfl⟩
/-- A sum's first bytes, and what is left of it. -/
def fourN (c : Nat) : Nat → List UInt8
  | 0 => []
  | n + 1 => fourN c n ++ [UInt8.ofNat (c / 256 ^ n)]
theorem fourN_four (c : Nat) : fourN c 4 = fourL c := by simp [fourN, fourL]
theorem fourN_length (c n : Nat) : (fourN c n).length = n := by
  induction n with
  | zero => rfl
  | succ n ih => simp [fourN, ih]
set_option maxHeartbeats 1600000 in
set_option maxRecDepth 100000 in
theorem rseal_any (s : ByteArray) (hs : s.size ≤ 1000000) (w : World) :
    Calls Tryz.prog 37 #[.string s] w fun e w' => e = .returned (.string (bytS (sealL s.data.toList))) ∧ Below w.heap.size w w' := by
  have HS := Lib.hid (rsum_any s (by omega) w)
  have hc := crcSum_lt s.data.toList
  obtain ⟨c, hcc⟩ : ∃ c, c = crcSum s.data.toList := ⟨_, rfl⟩
  rw [← hcc] at HS hc
  have HFIN : Hid (s.data.toList ++ fourN c 4 = sealL s.data.toList) := Lib.hid (by rw [fourN_four, hcc]; rfl)
  have hlen : s.data.toList.length = s.size := by simp
  have HL := Lib.hid hlen
  have HO : Hid (OwnT (Lib.bytesWorld w 5 s) w.heap.size (.slice (some ⟨w.heap.size, 0, none⟩) s.size (grownCap w s.size 0 5)) s.data.toList) := Lib.hid (OwnT.of_conv w s (by unfold maxLen; omega))
  have HB : Hid (Below w.heap.size w (Lib.bytesWorld w 5 s)) := Lib.hid (below_bytes w s)
  have hcv := conv_strN s w
  clear hcc hlen
  go_enter Tryz.func37, Tryz.ntmps37
  go_wp2_with fail
  go_at_call 60
  refine HS.out.mono ?_
  rintro e w' ⟨rfl, hw'⟩
  obtain rfl := hw'.symm
  go_wp2_with fail
  clear hcv HS
  generalize Lib.bytesWorld w 5 s = wb at *
  generalize grownCap w s.size 0 5 = cap at *
  go_loopw [3, 4, 5] (fun cv bv iv wr => ∃ (i x : Nat), i ≤ 4 ∧ iv = .int .i64 (i : Int) ∧ cv = .int .u32 (x : Int) ∧ x < 4294967296 ∧ Hid (x = c / 256 ^ i) ∧ Hid (OwnT wr w.heap.size bv (s.data.toList ++ fourN c i)) ∧ Hid (Below w.heap.size w wr)) (fun _ _ iv _ => 4 - (intOf iv).toNat)
  case atStart => exact ⟨0, c, by omega, rfl, rfl, hc, Lib.hid (by simp), Lib.hid (by simpa [fourN] using HO.out), HB⟩
  case round =>
    obtain ⟨i, x, hi, rfl, rfl, hx8, HX, HO2, HB2⟩ := hrel
    clear HO HB
    obtain ⟨wz, rfl⟩ : ∃ wz : World, wz = wr := ⟨_, rfl⟩
    by_cases hlt : i < 4
    · have hltI : (i : Int) < 4 := by omega
      obtain ⟨q, hq⟩ : ∃ q, q = x / 256 := ⟨_, rfl⟩
      have hqI : (x : Int) / 256 = (q : Int) := by omega
      have hq8 : q < 4294967296 := by omega
      have HQ : Hid (q = c / 256 ^ (i + 1)) := Lib.hid (by rw [hq, HX.out, Nat.div_div_eq_div_mul, Nat.pow_succ])
      have hle : (s.data.toList ++ fourN c i).length ≤ 1000004 := by rw [List.length_append, fourN_length, HL.out]; omega
      have HN : Hid (s.data.toList ++ fourN c (i + 1) = s.data.toList ++ fourN c i ++ [UInt8.ofNat x]) := Lib.hid (by
        show _ ++ (fourN c i ++ [UInt8.ofNat (c / 256 ^ i)]) = _
        rw [← HX.out, List.append_assoc])
      have hbx : (Value.int .u8 ((x : Int) % 256)) = byteW (UInt8.ofNat x) := by
        unfold byteW
        rw [UInt8.toNat_ofNat']; rfl
      have HBX := Lib.hid hbx
      clear hq hbx
      go_wp2_with (at_builtin; refine wpList_appendT rfl _ _ rfl w.heap.size _ _ rfl (HO2.out.alloc _) ⟨wz.heap.size, 0, none⟩ 1 [UInt8.ofNat x] 1 rfl rfl ?c1 ?c2 ?c3 ?_)
      case c1 =>
        intro j hj
        obtain rfl : j = 0 := by simp at hj; exact hj
        rw [addr_add0, World.cell?_alloc_new, HBX.out]; rfl
      case c2 => simp only [List.length_cons, List.length_nil]; omega
      case c3 => have := HB2.out.size; simp; omega
      intro v' w2 hown' hgrow
      have HB3 : Hid (Below w.heap.size w w2) := Lib.hid ((HB2.out.alloc HB2.out.size _).grown hgrow (by have := HB2.out.size; simp; omega) (fun q hq => (HO2.out.lt q hq).1))
      have HO5 : Hid (OwnT w2 w.heap.size v' (s.data.toList ++ fourN c (i + 1))) := Lib.hid (by rw [HN.out, List.append_assoc]; exact hown')
      clear hown' hgrow
      go_wp2_with fail
      go_roundw
      case rel => exact ⟨i + 1, q, by omega, by go_num, rfl, hq8, HQ, HO5, HB3⟩
      case measure => simp [intOf]; omega
    · obtain rfl : i = 4 := by omega
      rw [HFIN.out] at HO2
      obtain ⟨g, cp, hbv, hg1, hg2, _, _⟩ := HO2.out.row
      subst hbv
      have hcs := OwnT.string g HO2.out
      go_wp2_with fail
      go_ret
      exact ⟨rfl, HB2.out⟩
end Go.Proofs.YtgfjeaegigjnaaaGreatDoor
