/- The document's bits of a text. -/
import Derived.Test.YtldekkniammllaaCodE
namespace Go.Proofs.Ytldekkniammllaa
open Go.RowKit
set_option linter.unusedVariables false
set_option linter.unusedSimpArgs false

/-- T bits, the highest first. -/
def bitL (B T : Nat) : List Nat := (List.range T).map (fun j => if B.testBit (T - 1 - j) then 1 else 0)
theorem bitL_length (B T : Nat) : (bitL B T).length = T := by simp [bitL]
theorem bitL_get (B T j : Nat) (h : j < T) : (bitL B T).getD j 0 = if B.testBit (T - 1 - j) then 1 else 0 := by
  unfold bitL
  rw [List.getD_eq_getElem?_getD, List.getElem?_map, List.getElem?_range h]; rfl
theorem half_bit (B k : Nat) : (B / 2).testBit k = B.testBit (k + 1) := by
  have := Nat.testBit_shiftRight (x := B) (i := 1) (j := k)
  rw [Nat.shiftRight_eq_div_pow, Nat.pow_one, Nat.add_comm] at this
  exact this
theorem bitL_snoc (B T : Nat) : bitL B (T + 1) = bitL (B / 2) T ++ [if B.testBit 0 then 1 else 0] := by
  unfold bitL
  rw [List.range_succ, List.map_append, List.map_singleton]
  congr 1
  · apply List.map_congr_left
    intro j hj
    rw [List.mem_range] at hj
    rw [half_bit, show T - 1 - j + 1 = T + 1 - 1 - j by omega]
  · rw [show T + 1 - 1 - T = 0 by omega]
theorem shr_half (D k : Nat) : (D >>> k) / 2 = D >>> (k + 1) := by
  rw [Nat.shiftRight_add, Nat.shiftRight_eq_div_pow (D >>> k) 1]
theorem shr_low (D k : Nat) : (D >>> k).testBit 0 = D.testBit k := by rw [Nat.testBit_shiftRight, Nat.add_zero]

set_option maxHeartbeats 6400000 in
set_option maxRecDepth 100000 in
theorem rbitsT_any (s : ByteArray) (hs : s.size ≤ 100000) (w : World) :
    Calls Try.prog 21 #[.string s] w fun x w' => ∃ v, x = .returned v ∧ w'.ownsRow w.heap.size 3 1 v (8 * s.size) ((bitL (numB s.data.toList) (8 * s.size)).map intV) ∧ Below w.heap.size w w' := by
  obtain ⟨i0, hi0, hz0, hz1, hz2⟩ := info_parts info_int
  have hsl : s.data.toList.length = s.size := by simp
  obtain ⟨D, hD⟩ : ∃ D, D = numB s.data.toList := ⟨_, rfl⟩
  obtain ⟨m, hm⟩ : ∃ m, m = s.size := ⟨_, rfl⟩
  have hbit : ∀ i, i < m → ∃ b : UInt8, ∃ hj : i < s.size, s[i]'hj = b ∧ ∀ t, t < 8 → D.testBit (8 * m - 1 - (8 * i + t)) = b.toNat.testBit (7 - t) := by
    intro i hi
    obtain ⟨b, hb⟩ : ∃ b, s.data.toList[i]? = some b := ⟨_, List.getElem?_eq_getElem (by rw [hsl]; omega)⟩
    obtain ⟨hj, hc⟩ := str_at hb
    refine ⟨_, hj, hc, fun t ht => ?_⟩
    have := numB_bit s.data.toList i t _ hb ht
    rw [hsl, ← hD, ← hm] at this
    exact this
  have hlt : D < 2 ^ (8 * m) := by
    have := numB_lt s.data.toList
    rw [hsl, ← hD, ← hm] at this
    exact this
  rw [← hD, ← hm]
  rw [← hm] at hs
  have HBIT := Lib.hid hbit
  have HLT := Lib.hid hlt
  have Hm := Lib.hid hm
  clear hsl hD hm hbit hlt
  go_enter Try.func21, Try.ntmps21
  go_wp2_with fail
  go_loopw [3, 4] (fun v iv wr => ∃ i : Nat, i ≤ m ∧ iv = .int .i64 (i : Int) ∧ Hid (wr.ownsRow w.heap.size 3 1 v (8 * i) ((bitL (D >>> (8 * m - 8 * i)) (8 * i)).map intV)) ∧ Hid (Below w.heap.size w wr)) (fun _ iv _ => m - (intOf iv).toNat)
  case atStart => exact ⟨0, Nat.zero_le _, rfl, Lib.hid (World.ownsRow_nil _ _ _ _), Lib.hid (Below.refl _ _)⟩
  case round =>
    obtain ⟨i, him, rfl, HO, HB⟩ := hrel
    obtain ⟨wq, rfl⟩ : ∃ wq : World, wq = wr := ⟨_, rfl⟩
    have hmi : ((s.size : Nat) : Int) = (m : Int) := by rw [Hm.out]
    by_cases hlt : i < m
    · obtain ⟨b, hj, hsb, hbits⟩ := HBIT.out i hlt
      have HBS := Lib.hid hbits
      have HHJ := Lib.hid hsb
      have hltI : (i : Int) < (m : Int) := by omega
      clear hbits hsb
      go_wp2_with fail
      go_loopw [3, 5] (fun v kv wz => ∃ t : Nat, t ≤ 8 ∧ kv = .int .i64 (7 - (t : Int)) ∧ Hid (wz.ownsRow w.heap.size 3 1 v (8 * i + t) ((bitL (D >>> (8 * m - (8 * i + t))) (8 * i + t)).map intV)) ∧ Hid (Below w.heap.size w wz)) (fun _ kv _ => (intOf kv + 1).toNat)
      case atStart => exact ⟨0, by omega, rfl, HO, HB⟩
      case round =>
        obtain ⟨t, ht, rfl, HOz, HBz⟩ := hrel
        obtain ⟨wz, rfl⟩ : ∃ wz : World, wz = wr := ⟨_, rfl⟩
        by_cases ht8 : t < 8
        · obtain ⟨k, hk⟩ : ∃ k, k = 7 - t := ⟨_, rfl⟩
          have hki : (7 : Int) - (t : Int) = (k : Int) := by omega
          rw [hki]
          have hk7 : k ≤ 7 := by omega
          have hb256 : b.toNat < 256 := UInt8.toNat_lt b
          have hba := bit_u8 b.toNat k hb256
          have hsb := HHJ.out
          have hnx : bitL (D >>> (8 * m - (8 * i + (t + 1)))) (8 * i + (t + 1)) = bitL (D >>> (8 * m - (8 * i + t))) (8 * i + t) ++ [if b.toNat.testBit k then 1 else 0] := by
            rw [show 8 * i + (t + 1) = 8 * i + t + 1 by omega, bitL_snoc, shr_half, shr_low, show 8 * m - (8 * i + t + 1) + 1 = 8 * m - (8 * i + t) by omega, show 8 * m - (8 * i + t + 1) = 8 * m - 1 - (8 * i + t) by omega, HBS.out t ht8, ← hk]
          obtain ⟨o, ho⟩ : ∃ o : Nat, o = if b.toNat.testBit k then 1 else 0 := ⟨_, rfl⟩
          rw [← ho] at hba hnx
          have ho2 : o < 2 := by rw [ho]; split <;> omega
          have HNX := Lib.hid hnx
          have HK := Lib.hid hk
          obtain ⟨LL, hLL⟩ : ∃ LL, LL = bitL (D >>> (8 * m - (8 * i + t))) (8 * i + t) := ⟨_, rfl⟩
          rw [← hLL] at HOz HNX
          obtain ⟨nn, hnn⟩ : ∃ nn, nn = 8 * i + t := ⟨_, rfl⟩
          rw [← hnn] at HOz
          have hnn8 : nn ≤ 800000 := by omega
          have HNN := Lib.hid hnn
          clear hnx hk hki hLL ho hnn
          go_wp2_with (at_builtin; refine wpList_append_own _ rfl _ _ 34 rfl w.heap.size 3 i0 (.int .i64 0) 1 8 (by kernel_rfl) hi0 hz0 hz1 hz2 rfl (by decide) _ _ _ rfl (HOz.out.alloc _) ⟨wz.heap.size, 0, none⟩ 1 1 [.int .i64 (o : Int)] rfl rfl ?c1 ?c2 ?c3 ?c4 ?c5 ?_)
          case c1 =>
            intro i u hu
            cases i with
            | zero => simp at hu; subst hu; simp [Addr.add]
            | succ i => simp at hu
          case c2 => intro u hu; simp at hu; subst hu; rfl
          case c3 => unfold maxLen; omega
          case c4 => omega
          case c5 => have := HBz.out.size; simp; omega
          intro v' w2 hown' hgrow _
          have HB4 : Hid (Below w.heap.size w w2) := Lib.hid ((HBz.out.alloc HBz.out.size _).grown hgrow (by have := HBz.out.size; simp; omega) (fun q hq => (HOz.out.lt q hq).1))
          have HO4 : Hid (w2.ownsRow w.heap.size 3 1 v' (8 * i + (t + 1)) ((bitL (D >>> (8 * m - (8 * i + (t + 1)))) (8 * i + (t + 1))).map intV)) := Lib.hid (by
            rw [HNX.out, List.map_append, show 8 * i + (t + 1) = nn + 1 by have := HNN.out; omega]
            exact hown')
          clear hown' hgrow
          go_wp2_with fail
          go_roundw
          case rel => exact ⟨t + 1, by omega, by have := HK.out; go_num, HO4, HB4⟩
          case measure => simp [intOf]
        · obtain rfl : t = 8 := by omega
          go_wp2_with fail
          go_roundw
          case rel => exact ⟨i + 1, by omega, by go_num, HOz, HBz⟩
          case measure => simp [intOf]; omega
    · obtain rfl : i = m := by omega
      go_wp2_with fail
      go_ret
      refine ⟨_, rfl, ?_, HB.out⟩
      have := HO.out
      rw [Nat.sub_self, Nat.shiftRight_zero] at this
      exact this
end Go.Proofs.Ytldekkniammllaa
