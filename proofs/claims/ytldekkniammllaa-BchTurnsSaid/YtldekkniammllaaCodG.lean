/- The document's text of bits. -/
import Derived.Test.YtldekkniammllaaCodF
import Derived.Deep.DeepCutAuto
namespace Go.Proofs.Ytldekkniammllaa
open Go.RowKit
set_option linter.unusedVariables false
set_option linter.unusedSimpArgs false

def byteV (b : UInt8) : Value := .int .u8 (b.toNat : Int)
theorem info_u8 : (Try.prog.info? 5).map (fun i => (i.zero, i.size, i.bytes)) = some (some (.int .u8 0), 1, 1) := by kernel_rfl
theorem own_form {w : World} {B e n : Nat} {v : Value} {xs : List Value} (h : w.ownsRow B e 1 v n xs) (hn : 0 < n) : ∃ g cap, v = .slice (some ⟨g, 0, none⟩) n cap ∧ B ≤ g ∧ n ≤ cap := by
  rcases h.2 with ⟨h1, h2⟩ | ⟨g, cap, cur, h1, h2, _, h3, _⟩
  · omega
  · exact ⟨g, cap, h1, h2, h3⟩
theorem bytes_set {n V V' q y : Nat} (hq : q < n) (hy : byteAt n V' q = y) (ho : ∀ j, j < n → j ≠ q → byteAt n V' j = byteAt n V j) :
    ((bytesOf n V).map byteV).set q (.int .u8 ((y : Nat) : Int)) = (bytesOf n V').map byteV := by
  apply List.ext_getElem?
  intro j
  rw [List.getElem?_set]
  by_cases hj : q = j
  · subst hj
    rw [if_pos rfl, if_pos (by rw [List.length_map, bytesOf_length]; exact hq), List.getElem?_map, bytesOf_get hq, hy]
    have : y < 256 := hy ▸ byteAt_lt n V' q
    show some _ = some (Value.int .u8 ((UInt8.ofNat y).toNat : Int))
    rw [UInt8.toNat_ofNat_of_lt' this]
  · rw [if_neg hj, List.getElem?_map, List.getElem?_map]
    rcases Nat.lt_or_ge j n with h | h
    · rw [bytesOf_get h, bytesOf_get h, ho j h (fun e => hj e.symm)]
    · rw [List.getElem?_eq_none (by rw [bytesOf_length]; exact h), List.getElem?_eq_none (by rw [bytesOf_length]; exact h)]
theorem bytesOf_cell {n V q : Nat} (h : q < n) : ((bytesOf n V).map byteV)[q]? = some (.int .u8 ((byteAt n V q : Nat) : Int)) := by
  rw [List.getElem?_map, bytesOf_get h]
  show some (Value.int .u8 ((UInt8.ofNat (byteAt n V q)).toNat : Int)) = _
  rw [UInt8.toNat_ofNat_of_lt' (byteAt_lt n V q)]
theorem own_string {w : World} {B g n cap V : Nat} (h : w.ownsRow B 5 1 (.slice (some ⟨g, 0, none⟩) n cap) n ((bytesOf n V).map byteV)) : (convert 43 9 (.slice (some ⟨g, 0, none⟩) n cap)).run Try.prog w = .ok (.string (strOf n V)) w := by
  have := run_convert_bytes_back (P := Try.prog) w 43 9 5 ⟨g, 0, none⟩ cap (bytesOf n V) (by kernel_rfl) (by kernel_rfl) (by kernel_rfl) (by
    intro j hj
    rw [addr_add, Nat.zero_add, h.cellAt j (by rw [bytesOf_length] at hj; omega), List.getElem?_map, List.getElem?_eq_getElem hj]; rfl)
  rw [bytesOf_length] at this
  exact this

set_option maxHeartbeats 6400000 in
set_option maxRecDepth 100000 in
theorem rtext_any (g o d c R : Nat) (w : World) (hc : ∀ j, j < d → w.cell? ⟨g, o + j, none⟩ = some (.int .i64 ((if R.testBit (d - 1 - j) then 1 else 0 : Nat) : Int))) (hd : d ≤ 1000) (hd0 : 0 < d) (hR : R < 2 ^ d) (lg : g < w.heap.size) :
    Calls Try.prog 22 #[.slice (some ⟨g, o, none⟩) d c] w fun x w' => x = .returned (.string (strOf ((d + 7) / 8) (R <<< (8 * ((d + 7) / 8) - d)))) ∧ Below w.heap.size w w' := by
  obtain ⟨i0, hi0, hz0, hz1, hz2⟩ := info_parts info_u8
  have HC := Lib.hid hc
  have HR := Lib.hid hR
  clear hc hR
  go_enter Try.func22, Try.ntmps22
  go_wp2_with fail
  go_loopg [3, 4] d (fun gk v iv wr => ∃ i : Nat, i + gk = d ∧ iv = .int .i64 (i : Int) ∧ Hid (wr.ownsRow w.heap.size 5 1 v ((i + 7) / 8) ((bytesOf ((i + 7) / 8) ((R >>> (d - i)) <<< (8 * ((i + 7) / 8) - i))).map byteV)) ∧ Hid (Below w.heap.size w wr))
  case atStart => exact ⟨0, by omega, rfl, Lib.hid (World.ownsRow_nil _ _ _ _), Lib.hid (Below.refl _ _)⟩
  case round =>
    obtain ⟨i, hik, rfl, HO, HB⟩ := hrel
    obtain ⟨wq, rfl⟩ : ∃ wq : World, wq = wr := ⟨_, rfl⟩
    by_cases hlt : i < d
    · obtain ⟨r, hr⟩ : ∃ r, r = i % 8 := ⟨_, rfl⟩
      obtain ⟨q, hq⟩ : ∃ q, q = i / 8 := ⟨_, rfl⟩
      have hri : (i : Int) % 8 = (r : Int) := by omega
      have hqi : (i : Int) / 8 = (q : Int) := by omega
      have hr8 : r < 8 := by omega
      have hiq : i = 8 * q + r := by omega
      have hltI : (i : Int) < (d : Int) := by omega
      have HIQ := Lib.hid hiq
      clear hr hq hiq
      go_upto_if 13 with fail
      go_cut [3] (fun v wz => Hid (wz.ownsRow w.heap.size 5 1 v (q + 1) ((bytesOf (q + 1) ((R >>> (d - i)) <<< (8 * (q + 1) - i))).map byteV)) ∧ Hid (Below w.heap.size w wz))
      case first =>
        by_cases h0 : r = 0
        · have hb : (((r : Nat) : Int) == 0) = true := by simp; omega
          have e1 : (i + 7) / 8 = q := by have := HIQ.out; omega
          have hV : (R >>> (d - i)) <<< (8 * (q + 1) - i) = ((R >>> (d - i)) <<< (8 * q - i)) * 256 := by
            have e2 : 8 * (q + 1) - i = 8 := by have := HIQ.out; omega
            have e3 : 8 * q - i = 0 := by have := HIQ.out; omega
            rw [e2, e3, Nat.shiftLeft_zero, Nat.shiftLeft_eq]
          rw [e1] at HO
          have HV := Lib.hid hV
          have hq1 : q ≤ 1000 := by have := HIQ.out; omega
          clear hV e1 h0
          go_wp2_with (at_builtin; refine wpList_append_own _ rfl _ _ 43 rfl w.heap.size 5 i0 (.int .u8 0) 1 1 (by kernel_rfl) hi0 hz0 hz1 hz2 rfl (by decide) _ _ _ rfl (HO.out.alloc _) ⟨wq.heap.size, 0, none⟩ 1 1 [.int .u8 0] rfl rfl ?c1 ?c2 ?c3 ?c4 ?c5 ?_)
          case c1 =>
            intro i u hu
            cases i with
            | zero => simp at hu; subst hu; simp [Addr.add]
            | succ i => simp at hu
          case c2 => intro u hu; simp at hu; subst hu; rfl
          case c3 => unfold maxLen; omega
          case c4 => omega
          case c5 => have := HB.out.size; simp; omega
          intro v' w2 hown' hgrow _
          have HB4 : Hid (Below w.heap.size w w2) := Lib.hid ((HB.out.alloc HB.out.size _).grown hgrow (by have := HB.out.size; simp; omega) (fun q hq => (HO.out.lt q hq).1))
          have HO4 : Hid (w2.ownsRow w.heap.size 5 1 v' (q + 1) ((bytesOf (q + 1) ((R >>> (d - i)) <<< (8 * (q + 1) - i))).map byteV)) := Lib.hid (by
            rw [HV.out, bytesOf_snoc, List.map_append]
            exact hown')
          clear hown' hgrow
          go_wp2_with fail
          go_meet
          case rel => exact ⟨HO4, HB4⟩
        · have hb : (((r : Nat) : Int) == 0) = false := by simp; omega
          have e1 : (i + 7) / 8 = q + 1 := by have := HIQ.out; omega
          rw [e1] at HO
          clear e1
          go_wp2_with fail
          go_meet
          case rel => exact ⟨HO, HB⟩
      case rest =>
        obtain ⟨HO5, HB5⟩ := hcut
        obtain ⟨wz, rfl⟩ : ∃ wz : World, wz = wc := ⟨_, rfl⟩
        have c0 := (HB5.out.cell (p := ⟨g, o + i, none⟩) (by exact lg)).trans (HC.out i hlt)
        obtain ⟨V, hV⟩ : ∃ V, V = (R >>> (d - i)) <<< (8 * (q + 1) - i) := ⟨_, rfl⟩
        rw [← hV] at HO5
        obtain ⟨go, co, hs3, hgo, hcap⟩ := own_form HO5.out (Nat.succ_pos q)
        subst hs3
        have c1 : wz.cell? ⟨go, q, none⟩ = some (.int .u8 ((byteAt (q + 1) V q : Nat) : Int)) := (HO5.out.cellAt q (by omega)).trans (bytesOf_cell (Nat.lt_succ_self q))
        have f1 := HO5.out.frozenAt q
        have hpos : 8 * (q + 1) - 1 - i = 7 - r := by have := HIQ.out; omega
        have hVb : V.testBit (7 - r) = false := by
          rw [hV, Nat.testBit_shiftLeft]
          have : ¬ (7 - r ≥ 8 * (q + 1) - i) := by have := HIQ.out; omega
          simp [this]
        have hnx : (R >>> (d - (i + 1))) <<< (8 * (q + 1) - (i + 1)) = V ^^^ (if R.testBit (d - 1 - i) then 2 ^ (7 - r) else 0) := by
          rw [hV]
          have e1 : 8 * (q + 1) - i = 8 * (q + 1) - (i + 1) + 1 := by have := HIQ.out; omega
          have e2 : 8 * (q + 1) - (i + 1) = 7 - r := by have := HIQ.out; omega
          have e3 : d - i = d - (i + 1) + 1 := by omega
          have e4 : d - 1 - i = d - (i + 1) := by omega
          rw [e1, e2, e3, e4, Nat.shiftRight_add]
          apply Nat.eq_of_testBit_eq
          intro t
          have hif : ∀ (c : Bool) (X : Nat), (if c = true then X else 0).testBit t = (c && X.testBit t) := by
            intro c X; cases c <;> simp
          rw [Nat.testBit_xor, hif, Nat.testBit_shiftLeft, Nat.testBit_shiftLeft, Nat.testBit_two_pow, Nat.testBit_shiftRight, Nat.testBit_shiftRight, Nat.testBit_shiftRight]
          rcases Nat.lt_trichotomy t (7 - r) with h | h | h
          · have a1 : ¬ (t ≥ 7 - r) := by omega
            have a2 : ¬ (t ≥ 7 - r + 1) := by omega
            have a3 : ¬ (7 - r = t) := by omega
            simp [a1, a2, a3]
          · subst h
            have a2 : decide (7 - r + 1 ≤ 7 - r) = false := by simp
            simp [a2]
          · have a1 : t ≥ 7 - r := by omega
            have a2 : t ≥ 7 - r + 1 := by omega
            have a3 : ¬ (7 - r = t) := by omega
            have a4 : 1 + (t - (7 - r + 1)) = t - (7 - r) := by omega
            simp [a1, a2, a3, a4]
        have e7 : (i + 1 + 7) / 8 = q + 1 := by have := HIQ.out; omega
        have hqc : (q : Int) < ((q : Nat) : Int) + 1 := by omega
        have HNX := Lib.hid hnx
        have HVB := Lib.hid hVb
        have E7 := Lib.hid e7
        have HPOS := Lib.hid hpos
        have hd1000 : i ≤ 1000 := by omega
        clear hnx hV hVb e7 hpos
        cases hbt : R.testBit (d - 1 - i)
        · rw [hbt] at c0 HNX
          have HO6 : Hid (wz.ownsRow w.heap.size 5 1 (.slice (some ⟨go, 0, none⟩) (q + 1) co) ((i + 1 + 7) / 8) ((bytesOf ((i + 1 + 7) / 8) ((R >>> (d - (i + 1))) <<< (8 * ((i + 1 + 7) / 8) - (i + 1)))).map byteV)) := Lib.hid (by
            rw [E7.out, HNX.out]
            simpa using HO5.out)
          clear hbt c1 f1
          go_wp2_with fail
          go_roundg (gk - 1)
          case rel => exact ⟨i + 1, by omega, by go_num, HO6, HB5⟩
          case measure => omega
        · rw [hbt] at c0 HNX
          have hbb := byteAt_lt (q + 1) V q
          have hby : (byteAt (q + 1) V q).testBit (7 - r) = false := by
            rw [byteAt_bit, show 8 * (q + 1 - 1 - q) + (7 - r) = 7 - r by omega, HVB.out]; simp
          have hnew : byteAt (q + 1) (V ^^^ 2 ^ (7 - r)) q = byteAt (q + 1) V q ||| 2 ^ (7 - r) := by
            have h := byte_set (n := q + 1) (V := V) (i := i) (by have := HIQ.out; omega) q (Nat.lt_succ_self q)
            rw [HPOS.out, if_pos (by have := HIQ.out; omega), show i % 8 = r by have := HIQ.out; omega] at h
            rw [h, or_is_xor hby]
          have hold : ∀ j, j < q + 1 → j ≠ q → byteAt (q + 1) (V ^^^ 2 ^ (7 - r)) j = byteAt (q + 1) V j := fun j hj hne => by
            have h := byte_set (n := q + 1) (V := V) (i := i) (by have := HIQ.out; omega) j hj
            rw [HPOS.out, if_neg (by have := HIQ.out; omega)] at h
            exact h
          obtain ⟨y, hy⟩ : ∃ y, y = byteAt (q + 1) V q := ⟨_, rfl⟩
          rw [← hy] at c1 hbb hnew
          have hor := or_u8 y (2 ^ (7 - r)) hbb (Nat.lt_of_le_of_lt (Nat.pow_le_pow_right (by decide) (show 7 - r ≤ 7 by omega)) (by decide))
          have h128 := shr128 hr8
          have hst := (HO5.out.stored q (.int .u8 ((y ||| 2 ^ (7 - r) : Nat) : Int))).1
          rw [bytes_set (Nat.lt_succ_self q) hnew hold] at hst
          have HO6 : Hid ((wz.setCell ⟨go, q, none⟩ (.int .u8 ((y ||| 2 ^ (7 - r) : Nat) : Int))).drew.ownsRow w.heap.size 5 1 (.slice (some ⟨go, 0, none⟩) (q + 1) co) ((i + 1 + 7) / 8) ((bytesOf ((i + 1 + 7) / 8) ((R >>> (d - (i + 1))) <<< (8 * ((i + 1 + 7) / 8) - (i + 1)))).map byteV)) := Lib.hid (by
            rw [E7.out, HNX.out]
            exact hst.drew)
          obtain ⟨z, hz⟩ : ∃ z, z = 2 ^ (7 - r) := ⟨_, rfl⟩
          rw [← hz] at hor h128 HO6
          obtain ⟨u, hu⟩ : ∃ u, u = y ||| z := ⟨_, rfl⟩
          rw [← hu] at hor HO6
          have HB6 : Hid (Below w.heap.size w (wz.setCell ⟨go, q, none⟩ (.int .u8 ((u : Nat) : Int))).drew) := Lib.hid (Below.drew (HB5.out.setCell (by exact hgo) _))
          clear hbt hby hnew hold hy hst hz hu
          go_wp2_with fail
          go_region
          go_wp2_with fail
          go_roundg (gk - 1)
          case rel => exact ⟨i + 1, by omega, by go_num, HO6, HB6⟩
          case measure => omega
    · obtain rfl : i = d := by omega
      have hO := HO.out
      rw [Nat.sub_self, Nat.shiftRight_zero] at hO
      obtain ⟨go, co, hs3, hgo, hcap⟩ := own_form hO (by omega)
      subst hs3
      have hcv := own_string hO
      obtain ⟨X, hX⟩ : ∃ X, X = strOf ((i + 7) / 8) (R <<< (8 * ((i + 7) / 8) - i)) := ⟨_, rfl⟩
      rw [← hX] at hcv
      have HX := Lib.hid hX
      clear hO hX HO
      go_wp2_with fail
      go_ret
      exact ⟨by rw [HX.out]; rfl, HB.out⟩
end Go.Proofs.Ytldekkniammllaa
