/- Checksums: the walks of Extend and Sum, the program's and the document's. -/
import Derived.Test.YtgfjeaegigjnaaaGreatDoorPgG
import Derived.Test.YtgfjeaegigjnaaaGreatDoorCrcP
import Derived.Lib.LaidTab
namespace Go.Proofs.YtgfjeaegigjnaaaGreatDoor
open Go.RowKit
set_option linter.unusedVariables false
set_option linter.unusedSimpArgs false

theorem str_byte {s : ByteArray} {j : Nat} (h : j < s.size) : ∃ b : UInt8, s[j]'h = b ∧ s.data.toList.take (j + 1) = s.data.toList.take j ++ [b] := by
  have hl : j < s.data.toList.length := by simpa using h
  refine ⟨s[j]'h, rfl, ?_⟩
  rw [List.take_add_one, List.getElem?_eq_getElem hl]
  rfl
theorem xor_u32 (a b : Nat) (ha : a < 4294967296) (hb : b < 4294967296) : bits .xor .u32 (a : Int) (b : Int) = ((a ^^^ b : Nat) : Int) := by
  have hx : a ^^^ b < 2 ^ 32 := Nat.xor_lt_two_pow (by omega) (by omega)
  have h1 : (BitVec.ofInt 32 (a : Int)).toNat = a := ofInt_toNat 32 a (by omega)
  have h2 : (BitVec.ofInt 32 (b : Int)).toNat = b := ofInt_toNat 32 b (by omega)
  show IntKind.u32.wrap ((BitVec.ofInt 32 (a : Int) ^^^ BitVec.ofInt 32 (b : Int)).toNat : Int) = _
  rw [BitVec.toNat_xor, h1, h2, IntKind.wrap_u32]
  omega
theorem and_u32 (a b : Nat) (ha : a < 4294967296) (hb : b < 4294967296) : bits .and .u32 (a : Int) (b : Int) = ((a &&& b : Nat) : Int) := by
  have hx : a &&& b < 2 ^ 32 := Nat.and_lt_two_pow _ (by omega)
  have h1 : (BitVec.ofInt 32 (a : Int)).toNat = a := ofInt_toNat 32 a (by omega)
  have h2 : (BitVec.ofInt 32 (b : Int)).toNat = b := ofInt_toNat 32 b (by omega)
  show IntKind.u32.wrap ((BitVec.ofInt 32 (a : Int) &&& BitVec.ofInt 32 (b : Int)).toNat : Int) = _
  rw [BitVec.toNat_and, h1, h2, IntKind.wrap_u32]
  omega
theorem not_u32 (a : Nat) (ha : a < 4294967296) : bits .xor .u32 IntKind.u32.max (a : Int) = ((a ^^^ 4294967295 : Nat) : Int) := by
  rw [Nat.xor_comm]
  exact xor_u32 4294967295 a (by decide) ha
/-- The table of half bytes. -/
def NibAt (w : World) : Prop := ∀ i, i < 16 → w.cell? ⟨0, i, none⟩ = some (.int .u32 ((nibT.getD i 0 : Nat) : Int))
theorem NibAt.of_tab {w : World} (h : Lib.TabIs Tryz.prog w "chert/crc.nibbles" .u32 (nibT.map Int.ofNat)) : NibAt w := fun i hi => by
  rw [h.cell (by kernel_rfl) i (by simpa [nibT] using hi)]
  congr 2
  exact (by decide : ∀ i, i < 16 → (nibT.map Int.ofNat).getD i 0 = ((nibT.getD i 0 : Nat) : Int)) i hi
theorem NibAt.below {w w' : World} {B : Nat} (h : NibAt w) (k : Below B w w') (hB : 0 < B) : NibAt w' := fun i hi => (k.cell (p := ⟨0, i, none⟩) hB).trans (h i hi)

set_option maxHeartbeats 1600000 in
set_option maxRecDepth 100000 in
theorem extend_any (c : Nat) (hc : c < 4294967296) (s : ByteArray) (hs : s.size ≤ 9223372036854775806) (w : World) (hn : NibAt w) :
    Calls Tryz.prog 79 #[.int .u32 (c : Int), .string s] w fun e w' => e = .returned (.int .u32 ((crcL (c ^^^ 4294967295) s.data.toList ^^^ 4294967295 : Nat) : Int)) ∧ w' = w := by
  have hx0 := not_u32 c hc
  have h0 : c ^^^ 4294967295 < 4294967296 := Nat.xor_lt_two_pow (n := 32) hc (by decide)
  obtain ⟨c0, hc0⟩ : ∃ c0, c0 = c ^^^ 4294967295 := ⟨_, rfl⟩
  rw [← hc0] at hx0 h0
  rw [← hc0]
  have hcl : ∀ i, crcL c0 (s.data.toList.take i) < 4294967296 := fun i => crcL_lt h0 _
  have HCL := Lib.hid hcl
  have HN := Lib.hid hn
  clear hc0 hcl hn
  go_enter Tryz.func79, Tryz.ntmps79
  go_wp2_with fail
  go_loop [5, 11] (fun rv iv => ∃ i : Nat, i ≤ s.size ∧ iv = .int .i64 (i : Int) ∧ rv = .int .u32 ((crcL c0 (s.data.toList.take i) : Nat) : Int)) (fun _ iv => s.size - (intOf iv).toNat)
  case atStart => exact ⟨0, Nat.zero_le _, rfl, rfl⟩
  case round =>
    clear hx0
    obtain ⟨i, hi, rfl, rfl⟩ := hrel
    by_cases hlt : i < s.size
    · have hltI : (i : Int) < (s.size : Int) := by omega
      obtain ⟨b, hb, htk⟩ := str_byte hlt
      have hnx : crcL c0 (s.data.toList.take (i + 1)) = crcByte (crcL c0 (s.data.toList.take i)) b := by rw [htk, crcL_snoc]
      have HNX := Lib.hid hnx
      have hr8 := HCL.out i
      obtain ⟨r, hr⟩ : ∃ r, r = crcL c0 (s.data.toList.take i) := ⟨_, rfl⟩
      rw [← hr] at hr8 HNX
      rw [← hr]
      have hb8 : b.toNat < 256 := UInt8.toNat_lt b
      have hx1 := xor_u32 r b.toNat hr8 (by omega)
      have hr1 : r ^^^ b.toNat < 4294967296 := Nat.xor_lt_two_pow (n := 32) hr8 (by omega)
      obtain ⟨q, hq⟩ : ∃ q, q = r ^^^ b.toNat := ⟨_, rfl⟩
      have hnx2 : crcByte r b = crcIt 8 q := by rw [hq]; rfl
      have HNX2 := Lib.hid hnx2
      rw [← hq] at hx1 hr1
      clear htk hnx hr hq hnx2
      go_wp2_with fail
      go_loop [5, 20] (fun rv kv => ∃ k : Nat, k ≤ 2 ∧ kv = .int .i64 (k : Int) ∧ rv = .int .u32 ((crcIt (4 * k) q : Nat) : Int)) (fun _ kv => 2 - (intOf kv).toNat)
      case atStart => exact ⟨0, Nat.zero_le _, rfl, rfl⟩
      case round =>
        clear hx1 hb
        obtain ⟨k, hk, rfl, rfl⟩ := hrel
        by_cases hk2 : k < 2
        · have hy8 := crcIt_lt (4 * k) hr1
          have hnn : crcIt (4 * (k + 1)) q = crcIt 4 (crcIt (4 * k) q) := by rw [← crcIt_add]; congr 1; omega
          have HNN := Lib.hid hnn
          obtain ⟨y, hy⟩ : ∃ y, y = crcIt (4 * k) q := ⟨_, rfl⟩
          rw [← hy] at hy8 HNN
          rw [← hy]
          have hand := and_u32 y 15 hy8 (by decide)
          have ha15 : y &&& 15 = y % 16 := Nat.and_two_pow_sub_one_eq_mod y 4
          rw [ha15] at hand
          have hnib := nib_ok y
          obtain ⟨m, hm⟩ : ∃ m, m = y % 16 := ⟨_, rfl⟩
          have hm16 : m < 16 := by omega
          rw [← hm] at hand hnib
          have cn := HN.out m hm16
          have hv := nibT_lt m
          obtain ⟨v, hvv⟩ : ∃ v, v = nibT.getD m 0 := ⟨_, rfl⟩
          rw [← hvv] at cn hv hnib
          obtain ⟨z, hz⟩ : ∃ z, z = y / 16 := ⟨_, rfl⟩
          have hzi : (y : Int) / 16 = (z : Int) := by omega
          have hz8 : z < 4294967296 := by omega
          rw [← hz] at hnib
          have hx2 := xor_u32 z v hz8 hv
          have hmI : (m : Int) < 16 := by omega
          have HNB := Lib.hid hnib
          have h15 : ((15 : Nat) : Int) = 15 := rfl
          rw [h15] at hand
          clear hnn hy ha15 hm hvv hz hnib h15
          go_wp2_with fail
          go_round
          case rel => exact ⟨k + 1, by omega, by go_num, by rw [HNN.out, HNB.out]⟩
          case measure => simp [intOf]; omega
        · obtain rfl : k = 2 := by omega
          go_wp2_with fail
          go_round
          case rel => exact ⟨i + 1, by omega, by go_num, by rw [HNX.out, HNX2.out]⟩
          case measure => simp [intOf]; omega
    · obtain rfl : i = s.size := by omega
      have hltI : ¬ (s.size : Int) < (s.size : Int) := by omega
      have hall : s.data.toList.take s.size = s.data.toList := List.take_of_length_le (by simp)
      have hr8 := HCL.out s.size
      rw [hall] at hr8
      rw [hall]
      obtain ⟨r, hr⟩ : ∃ r, r = crcL c0 s.data.toList := ⟨_, rfl⟩
      rw [← hr] at hr8
      rw [← hr]
      have hx3 := not_u32 r hr8
      have HR := Lib.hid hr
      clear hall hr
      go_wp2_with fail
      go_ret
      exact ⟨by rw [← HR.out]; rfl, rfl⟩
theorem sum_any (s : ByteArray) (hs : s.size ≤ 9223372036854775806) (w : World) (hn : NibAt w) :
    Calls Tryz.prog 57 #[.string s] w fun e w' => e = .returned (.int .u32 ((crcSum s.data.toList : Nat) : Int)) ∧ w' = w := by
  have HE := Lib.hid (extend_any 0 (by decide) s hs w hn)
  go_enter Tryz.func57, Tryz.ntmps57
  go_wp2_with fail
  go_at_call 79
  refine HE.out.mono ?_
  rintro e w' ⟨rfl, hw'⟩
  obtain rfl := hw'.symm
  go_wp2_with fail
  go_ret
  exact ⟨rfl, rfl⟩
/-- A sum's bytes, as an array. -/
def fourC (c : Nat) : Array Value := #[.int .u8 ((c : Int) % 256), .int .u8 ((c : Int) / 256 % 256), .int .u8 ((c : Int) / 65536 % 256), .int .u8 ((c : Int) / 16777216 % 256)]
def fourV (c : Nat) : Value := .agg (fourC c)
theorem fourC_get (c j : Nat) (h : j < 4) : (fourC c)[j]? = some (.int .u8 (((fourL c).getD j 0).toNat : Int)) := by
  match j, h with
  | 0, _ => rfl
  | 1, _ => rfl
  | 2, _ => rfl
  | 3, _ => rfl
set_option maxHeartbeats 1600000 in
set_option maxRecDepth 100000 in
theorem four_any (c : Nat) (hc : c < 4294967296) (w : World) : Calls Tryz.prog 56 #[.int .u32 (c : Int)] w fun e w' => e = .returned (fourV c) ∧ Below w.heap.size w w' := by
  have HV : Hid (∀ z1 z2 z3 : Nat, z1 = c / 256 → z2 = c / 65536 → z3 = c / 16777216 → Value.agg #[.int .u8 ((c : Int) % 256), .int .u8 ((z1 : Int) % 256), .int .u8 ((z2 : Int) % 256), .int .u8 (z3 : Int)] = fourV c) := Lib.hid (by
    rintro _ _ _ rfl rfl rfl
    have h : (c : Int) / 16777216 % 256 = ((c / 16777216 : Nat) : Int) := by omega
    unfold fourV fourC
    rw [h]; rfl)
  obtain ⟨z1, h1⟩ : ∃ z1, z1 = c / 256 := ⟨_, rfl⟩
  obtain ⟨z2, h2⟩ : ∃ z2, z2 = c / 65536 := ⟨_, rfl⟩
  obtain ⟨z3, h3⟩ : ∃ z3, z3 = c / 16777216 := ⟨_, rfl⟩
  have e1 : (c : Int) / 256 = (z1 : Int) := by omega
  have e2 : (c : Int) / 65536 = (z2 : Int) := by omega
  have e3 : (c : Int) / 16777216 = (z3 : Int) := by omega
  have HV2 := Lib.hid (HV.out z1 z2 z3 h1 h2 h3)
  clear h1 h2 h3 HV
  go_enter Tryz.func56, Tryz.ntmps56
  go_wp2_with fail
  refine bodyPost_ret (v := .agg #[.int .u8 ((c : Int) % 256), .int .u8 ((z1 : Int) % 256), .int .u8 ((z2 : Int) % 256), .int .u8 (z3 : Int)]) (by simp [results, Tryz.results56, go_sem]) rfl ⟨by rw [HV2.out], (Below.refl _ _).alloc (Nat.le_refl _) _⟩
theorem addr_add0 (g j : Nat) : (⟨g, 0, none⟩ : Addr).add j = ⟨g, j, none⟩ := by
  cases j with
  | zero => rfl
  | succ j => simp [Addr.add]
/-- A text of a list of bytes. -/
def bytS (l : List UInt8) : ByteArray := ⟨l.toArray⟩
theorem bytS_size (l : List UInt8) : (bytS l).size = l.length := by
  show l.toArray.size = _
  simp
theorem bytS_list (l : List UInt8) : (bytS l).data.toList = l := rfl
theorem bytS_of (s : ByteArray) : bytS s.data.toList = s := by
  cases s; rfl
theorem cat_bytS (s t : ByteArray) : s ++ t = bytS (s.data.toList ++ t.data.toList) := by
  apply ByteArray.ext
  rw [ByteArray.data_append]
  simp [bytS]
set_option maxHeartbeats 1600000 in
set_option maxRecDepth 100000 in
theorem seal_any (s : ByteArray) (hs : s.size ≤ 1000000) (w : World) (hn : NibAt w) (hg : 0 < w.heap.size) :
    Calls Tryz.prog 33 #[.string s] w fun e w' => e = .returned (.string (bytS (sealL s.data.toList))) ∧ Below w.heap.size w w' := by
  have HS := Lib.hid (sum_any s (by omega) w hn)
  have hc := crcSum_lt s.data.toList
  obtain ⟨c, hcc⟩ : ∃ c, c = crcSum s.data.toList := ⟨_, rfl⟩
  rw [← hcc] at HS hc
  have HC := Lib.hid hcc
  have HF := Lib.hid (fun w => four_any c hc w)
  clear hcc hn
  go_enter Tryz.func33, Tryz.ntmps33
  go_wp2_with fail
  go_at_call 57
  refine HS.out.mono ?_
  rintro e w' ⟨rfl, hw'⟩
  obtain rfl := hw'.symm
  go_wp2_with fail
  go_at_call 56
  refine (HF.out _).mono ?_
  rintro e w1 ⟨rfl, hb1⟩
  have HB1 := Lib.hid hb1
  clear HS HF hb1
  have hcv : (convert 47 9 (.slice (some ⟨w1.heap.size, 0, none⟩) 4 4)).run Tryz.prog (w1.alloc (.cells (fourC c) 140)) = .ok (.string (bytS (fourL c))) (w1.alloc (.cells (fourC c) 140)) :=
    run_convert_bytes_back (P := Tryz.prog) (w1.alloc (.cells (fourC c) 140)) 47 9 5 ⟨w1.heap.size, 0, none⟩ 4 (fourL c) (by kernel_rfl) (by kernel_rfl) (by kernel_rfl) (by
      intro j hj
      have h4 : j < 4 := hj
      rw [addr_add0, World.cell?_alloc_new, fourC_get c j h4, List.getD_eq_getElem?_getD, List.getElem?_eq_getElem hj]; rfl)
  have hfl : (bytS (fourL c)).size = 4 := rfl
  have hfin : s ++ bytS (fourL c) = bytS (sealL s.data.toList) := by
    rw [cat_bytS, HC.out]; rfl
  obtain ⟨F, hF⟩ : ∃ F, F = bytS (fourL c) := ⟨_, rfl⟩
  rw [← hF] at hcv hfl hfin
  have HFIN := Lib.hid hfin
  have hcat : ¬ 9223372036854775807 < s.size + F.size := by omega
  clear hF hfl hfin
  unfold fourV
  unfold fourC at *
  go_wp2_with fail
  go_ret
  exact ⟨by rw [HFIN.out]; rfl, (HB1.out.alloc HB1.out.size _)⟩
end Go.Proofs.YtgfjeaegigjnaaaGreatDoor
