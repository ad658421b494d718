/- The walk of the law NandNoise. -/
import Derived.Test.YthoadcibknaelaaNoiseP
import Derived.Test.YthoadcibknaelaaSpeaks
import Derived.Outline
import Derived.Deep.DeepCutAuto
import Derived.Deep.CutBlock
namespace Go.Proofs.Ythoadcibknaelaa
open Go.RowKit
set_option linter.unusedVariables false
set_option linter.unusedSimpArgs false

def wantL : List UInt8 := [97, 98, 99, 100, 101, 102, 103, 104, 105, 106, 107, 108, 109, 110, 111, 112, 113, 114, 115, 116, 117, 118, 119, 120, 121, 122, 48, 49, 50, 51, 52, 53]
def wantS : ByteArray := ⟨wantL.toArray⟩
def nC (sd most piece : Int) (r : Nat → Int) : Chp := { (programC (freshC 1 4 32) 0 0 wantS).2 with seed := sd, most := most, piece := piece, rd := r }
theorem nC_read (sd most piece : Int) (r : Nat → Int) : readC (nC sd most piece r) 0 0 = (readS (nC sd most piece r) 0 0, 0, nC sd most piece (upd r 0 (wrap64 (r 0 + 1)))) := by
  unfold readC
  have h1 : hasPB (nC sd most piece r) 0 0 = true := by kernel_rfl
  have h2 : (nC sd most piece r).off = false := by kernel_rfl
  rw [if_pos h1, if_neg (by rw [h2]; decide)]
  rfl
theorem nC_data (sd most piece : Int) (r : Nat → Int) : dataC (nC sd most piece r).bytes ((nC sd most piece r).pg 0 0) = wantS := rfl
theorem nC_off (sd most piece : Int) (r : Nat → Int) (h : most < 1) : readS (nC sd most piece r) 0 0 = wantS := by
  unfold readS; rw [if_pos (.inl h)]; rfl
theorem nC_on (sd most : Int) (piece : Nat) (r : Nat → Int) (h1 : 1 ≤ most) (h2 : 1 ≤ piece) : ∃ hh, readS (nC sd most piece r) 0 0 = ⟨(noiseL most piece hh wantL).toArray⟩ := by
  refine ⟨hashC sd (wrap64 (r 0 + 1)) 0 0, ?_⟩
  unfold readS
  rw [if_neg (by show ¬ (most < 1 ∨ (piece : Int) < 1); omega)]
  rfl

theorem and1_all : ((List.range 256).all fun y => bits BinOp.and IntKind.u8 (y : Int) 1 == ((y % 2 : Nat) : Int)) = true := by decide +kernel
theorem and1 (y : Nat) (h : y < 256) : bits BinOp.and IntKind.u8 (y : Int) 1 = ((y % 2 : Nat) : Int) := by
  have := and1_all
  rw [List.all_eq_true] at this
  have := this y (by simp; omega)
  simpa using this

theorem pop_all8 : ((List.range 256).all fun z => decide (popF 8 z ≤ 8)) = true := by decide +kernel
theorem pop_le (x : UInt8) : pop x ≤ 8 := by
  have h := pop_all8
  rw [List.all_eq_true] at h
  have := h x.toNat (by have := x.toNat_lt; simp; omega)
  simpa [pop] using this
theorem next_piece (i p : Nat) (hp : 1 ≤ p) : (i + 1) % p = 0 ∨ (i + 1) / p = i / p := by
  have h := Nat.div_add_mod i p
  have h2 : i % p < p := Nat.mod_lt i hp
  generalize i / p = d at *
  generalize i % p = r at *
  by_cases e : r + 1 = p
  · left
    have h3 : i + 1 = p * (d + 1) := by rw [Nat.mul_add, Nat.mul_one, ← h]; omega
    rw [h3]; exact Nat.mul_mod_right _ _
  · right
    have h3 : i + 1 = p * d + (r + 1) := by omega
    have h4 : r + 1 < p := by omega
    rw [h3, Nat.mul_add_div (by omega), Nat.div_eq_of_lt h4, Nat.add_zero]

theorem at_byte (b : ByteArray) (i : Nat) (h : i < b.size) : b[i] = b.data.toList.getD i 0 := by
  have h2 : i < b.data.toList.length := by simpa using h
  rw [List.getD_eq_getElem?_getD, List.getElem?_eq_getElem h2]
  simp
  rfl

set_option maxHeartbeats 1000000 in
set_option maxRecDepth 100000 in
theorem NandNoise_walk (a0 a1 a2 : Int) (w0 : (Lit.int .i64 a0).wf = true) (w1 : (Lit.int .i64 a1).wf = true) (w2 : (Lit.int .i64 a2).wf = true) (w : World) :
    Calls Try.prog 5 #[.int .i64 a0, .int .i64 a1, .int .i64 a2] w fun e w' => e = .returned (.bool true) ∧ Below w.heap.size w w' := by
  clear w0 w1 w2
  go_enter Try.func5, Try.ntmps5
  go_wp2_with fail
  refine (speaks_ok _).mono ?_; rintro e w1 ⟨rfl, hb⟩
  go_upto_region 3 with fail
  go_cut [33] (fun v24 wx => ∃ o : Bool, v24 = .bool o ∧ Hid (o = true ↔ ¬ (1 ≤ a1 ∧ a1 ≤ 64 ∧ 1 ≤ a2 ∧ a2 ≤ 32)) ∧ Below w.heap.size w wx)
  case first =>
    by_cases h1 : a1 < 1
    · go_wp2_with fail
      go_meet
      case rel => exact ⟨_, rfl, Lib.hid (by simp; omega), hb⟩
    by_cases h2 : 64 < a1
    · go_wp2_with fail
      go_meet
      case rel => exact ⟨_, rfl, Lib.hid (by simp; omega), hb⟩
    by_cases h3 : a2 < 1
    · go_wp2_with fail
      go_meet
      case rel => exact ⟨_, rfl, Lib.hid (by simp; omega), hb⟩
    · go_wp2_with fail
      go_meet
      case rel => exact ⟨_, rfl, Lib.hid (by simp; omega), hb⟩
  case rest =>
    obtain ⟨o, rfl, ho, hb1⟩ := hcut
    obtain ⟨wa, rfl⟩ : ∃ wa : World, wa = wc := ⟨_, rfl⟩
    go_upto_if 33 with fail
    go_cut [1, 2] (fun v1 v2 wx => ∃ (m : Int) (p : Nat), 1 ≤ m ∧ m ≤ 64 ∧ 1 ≤ p ∧ p ≤ 32 ∧ v1 = .int .i64 m ∧ v2 = .int .i64 p ∧ Below w.heap.size w wx)
    case first =>
      cases o with
      | true =>
        go_wp2_with fail
        go_meet
        case rel => exact ⟨3, 7, by omega, by omega, by omega, by omega, rfl, rfl, hb1⟩
      | false =>
        have hr : 1 ≤ a1 ∧ a1 ≤ 64 ∧ 1 ≤ a2 ∧ a2 ≤ 32 := by have := ho.out; simp at this; omega
        obtain ⟨n, rfl⟩ : ∃ n : Nat, a2 = n := ⟨a2.toNat, by omega⟩
        go_wp2_with fail
        go_meet
        case rel => exact ⟨a1, n, by omega, by omega, by omega, by omega, rfl, rfl, hb1⟩
    case rest =>
      obtain ⟨m, p, m1, m2, p1, p2, rfl, rfl, hb2⟩ := hcut
      clear hb hb1 ho
      go_wp2_with fail
      refine (new_at 1 4 32 w _ hb2 (by unfold newOk; omega)).mono ?_; rintro e w2 ⟨L, rfl, H2⟩
      go_upto_region 6 with fail
      go_cut [9] (fun v9 wx => v9 = .string wantS ∧ w2 = wx)
      case first =>
        go_wp2_with fail
        go_meet
        case rel => exact ⟨rfl, rfl⟩
      case rest =>
      obtain ⟨rfl, rfl⟩ := hcut
      go_wp2_with fail
      refine (program_h H2 0 0 wantS).mono ?_; rintro e w3 ⟨rfl, H3⟩
      go_wp2_with fail
      refine (noise_h H3 a0 m p).mono ?_; rintro e w4 ⟨rfl, H4⟩
      have H4' : Hid (∃ r, Holds w w4 L (nC a0 m p r)) := ⟨_, H4⟩
      clear H2 H3 H4
      go_wp2_with fail
      go_loopw [10] (fun v10 wr => ∃ k : Nat, k ≤ 5 ∧ v10 = .int .i64 k ∧ Hid (∃ r, Holds w wr L (nC a0 m p r))) (fun v10 _ => 5 - (intOf v10).toNat)
      case atStart => exact ⟨0, by omega, rfl, H4'⟩
      case round =>
        obtain ⟨k, hk, rfl, HH⟩ := hrel
        obtain ⟨r, H⟩ := HH.out
        clear H4'
        by_cases hlt : k < 5
        · go_wp2_with fail
          refine (read_h H 0 0).mono ?_; rintro e w5 ⟨rfl, H5⟩
          rw [nC_read] at H5
          rw [nC_read]
          have H5' : Hid (∃ r, Holds w w5 L (nC a0 m p r)) := ⟨_, H5⟩
          obtain ⟨hh, hrs⟩ := nC_on a0 m p r m1 p1
          rw [hrs]
          clear H5 hrs H
          have hD := Lib.hid (noiseL_D m m1 m2 p p1 hh wantL)
          have hlen : (noiseL m p hh wantL).length = 32 := by unfold noiseL; rw [nTo_len]; rfl
          generalize noiseL m p hh wantL = s at *
          have hsz : (⟨s.toArray⟩ : ByteArray).size = 32 := by show s.toArray.size = 32; simp [hlen]
          have hws : wantS.size = 32 := rfl
          have hget : ∀ i, (⟨s.toArray⟩ : ByteArray).data.toList.getD i 0 = s.getD i 0 := fun i => by simp
          generalize (⟨s.toArray⟩ : ByteArray) = bs at *
          go_wp2_with fail
          go_loopw [13, 14] (fun v13 v14 wx => ∃ (i : Nat) (t : Nat), i ≤ 32 ∧ v13 = .int .i64 t ∧ v14 = .int .i64 i ∧ t ≤ 512 ∧ Hid (i % p = 0 ∨ t = D (dif wantL s) (i / p * p) (i - i / p * p)) ∧ ∃ q, wx = w5.drewN q) (fun _ v14 _ => 32 - (intOf v14).toNat)
          case atStart => exact ⟨0, 0, by omega, rfl, rfl, by omega, .inl (by simp), 0, rfl⟩
          case round =>
            obtain ⟨i, t, hi, rfl, rfl, ht, hT, q, rfl⟩ := hrel
            by_cases hi2 : i < 32
            · have hp0 : ((p : Int) == 0) = false := by simp; omega
              go_upto_if 69 with fail
              go_cut [13] (fun v13 wx => ∃ t2 : Nat, v13 = .int .i64 t2 ∧ t2 ≤ 512 ∧ Hid (t2 = D (dif wantL s) (i / p * p) (i - i / p * p)) ∧ w5.drewN q = wx)
              case first =>
                by_cases hz : i % p = 0
                · have hzz : decide (((i : Int).tmod p) = 0) = true := by
                    rw [← Int.ofNat_tmod, hz]; rfl
                  go_wp2_with fail
                  go_meet
                  case rel => exact ⟨0, rfl, by omega, Lib.hid (by rw [show i - i / p * p = 0 by have := Nat.div_add_mod i p; rw [Nat.mul_comm] at this; omega]; rfl), rfl⟩
                · have hzz : decide (((i : Int).tmod p) = 0) = false := by
                    rw [← Int.ofNat_tmod]; exact decide_eq_false (by omega)
                  go_wp2_with fail
                  go_meet
                  case rel => exact ⟨t, rfl, ht, Lib.hid (hT.out.resolve_left hz), rfl⟩
              case rest =>
                obtain ⟨t2, rfl, ht2, hT2, rfl⟩ := hcut
                go_upto_region 21 with fail
                go_quiet (fail)
                go_wp2_with fail
                have hx : ∃ x : UInt8, bits BinOp.xor IntKind.u8 (bs[i].toNat : Int) (wantS[i].toNat : Int) = (x.toNat : Int) ∧ pop x = dif wantL s i := by
                  refine ⟨bs[i] ^^^ wantS[i], ?_, ?_⟩
                  · rw [UInt8.toNat_xor]
                    exact bits_xor .u8 8 (by decide) wraps_u8 _ _ bs[i].toNat_lt wantS[i].toNat_lt
                  · unfold dif
                    rw [← hget i, ← at_byte bs i (by omega), show wantL.getD i 0 = wantS[i] from (at_byte wantS i (by omega)).symm]
                obtain ⟨x, hx1, hx2⟩ := hx
                have HX := Lib.hid hx2
                have HX1 := Lib.hid hx1
                clear hx1 hx2
                go_loopw [13, 15] (fun v13 v15 wx => ∃ (t3 y f : Nat), v13 = .int .i64 t3 ∧ v15 = .int .u8 y ∧ Hid (y < 2 ^ f ∧ f ≤ 8 ∧ t3 + popF f y = t2 + pop x) ∧ (w5.drewN q).drewN nq = wx) (fun _ v15 _ => (intOf v15).toNat)
                case atStart => exact ⟨t2, x.toNat, 8, rfl, congrArg _ HX1.out, Lib.hid ⟨x.toNat_lt, by omega, rfl⟩, rfl⟩
                case round =>
                  obtain ⟨t3, y, f, rfl, rfl, HY, rfl⟩ := hrel
                  by_cases hy : y = 0
                  · subst hy
                    have ht3 : t3 = D (dif wantL s) (i / p * p) (i - i / p * p + 1) := by
                      have h1 := HY.out.2.2
                      have h2 : popF f 0 = 0 := by cases f <;> rfl
                      have h3 := Nat.div_mul_le_self i p
                      rw [D, show i / p * p + (i - i / p * p) = i by omega, ← hT2.out, ← HX.out]
                      omega
                    have hm3 : (t3 : Int) ≤ m := by
                      have h3 := Nat.div_mul_le_self i p
                      have h4 := Nat.div_add_mod i p
                      have h5 := Nat.mod_lt i p1
                      rw [Nat.mul_comm] at h4
                      have h6 := hD.out (i / p) (by show i / p * p < 32; omega)
                      have h7 := D_mono (f := dif wantL s) (a := i / p * p) (show i - i / p * p + 1 ≤ min p (wantL.length - i / p * p) by show _ ≤ min p (32 - i / p * p); omega)
                      omega
                    have HT3 := Lib.hid ht3
                    clear ht3
                    have hm4 : decide (m < (t3 : Int)) = false := by simp; omega
                    go_wp2_with fail
                    go_roundw
                    case rel =>
                      refine ⟨i + 1, t3, by omega, rfl, rfl, by omega, Lib.hid ?_, _, rfl⟩
                      rcases next_piece i p p1 with h | h
                      · exact .inl h
                      · right
                        have h3 := Nat.div_mul_le_self i p
                        rw [h, HT3.out]
                        congr 1; omega
                    case measure => simp [intOf]; omega
                  · have hand := and1 y (by have := HY.out; have := Nat.pow_le_pow_right (show 0 < 2 by omega) this.2.1; omega)
                    have hyb : y < 256 := by have := HY.out; have := Nat.pow_le_pow_right (show 0 < 2 by omega) this.2.1; omega
                    go_wp2_with fail
                    obtain ⟨f, rfl⟩ : ∃ g, f = g + 1 := ⟨f - 1, by have := HY.out; cases f with | zero => simp at this; omega | succ g => rfl⟩
                    have HY2 : y / 2 < 2 ^ f ∧ f ≤ 8 ∧ t3 + y % 2 + popF f (y / 2) = t2 + pop x := by
                      have := HY.out
                      rw [popF, if_neg hy, Nat.pow_succ] at this
                      omega
                    have HY3 := Lib.hid HY2
                    clear HY2 HY
                    go_roundw
                    case rel =>
                      refine ⟨t3 + y % 2, y / 2, f, ?_, ?_, HY3, World.drewN_drewN _ _ _⟩
                      · have h1 := HY3.out.2.2
                        have h2 : pop x ≤ 8 := pop_le x
                        rw [IntWalk.wrap64_in _ ⟨by omega, by omega⟩]
                        rfl
                      · rfl
                    case measure =>
                      simp [intOf]
                      omega
            · go_wp2_with fail
              obtain ⟨r', Hr⟩ := H5'.out
              have Hd : Hid (∃ r, Holds w (w5.drewN q) L (nC a0 m (↑p) r)) := ⟨r', Hr.drewN q⟩
              go_roundw
              case rel => exact ⟨k + 1, by omega, rfl, Hd⟩
              case measure => simp [intOf]; omega
        · go_wp2_with fail
          refine (noise_h H a0 0 p).mono ?_; rintro e w6 ⟨rfl, H6⟩
          have H6' : Holds w w6 L (nC a0 0 p r) := H6
          clear H6 H
          go_wp2_with fail
          refine (read_h H6' 0 0).mono ?_; rintro e w7 ⟨rfl, H7⟩
          rw [nC_read] at H7
          rw [nC_read, nC_off _ _ _ _ (by omega)]
          have hb7 := H7.below
          clear H6' H7
          go_wp2_with fail
          go_ret
          exact ⟨rfl, hb7⟩

end Go.Proofs.Ythoadcibknaelaa
