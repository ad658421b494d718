/- The walk of the law NandCounts. -/
import Derived.Test.YthoadcibknaelaaSpeaks
import Derived.Test.YthoadcibknaelaaOpen
import Derived.Outline
import Derived.Deep.DeepCutAuto
import Derived.Deep.CutBlock
namespace Go.Proofs.Ythoadcibknaelaa
open Go.RowKit
set_option linter.unusedVariables false
set_option linter.unusedSimpArgs false

def zeroPg : Pg := ⟨0, ⟨#[]⟩, false⟩
/-- k pages of block 1 are written. -/
def pgP (k : Nat) : Nat → Nat → Pg := fun i j => if i = 1 ∧ j < k then ⟨1, ⟨#[97]⟩, false⟩ else zeroPg
def cN (er : Nat → Int) (n : Int) (k : Nat) : Chp := { freshC 4 8 1 with er := er, changes := n, pg := pgP k }

theorem pgP_zero : pgP 0 = fun _ _ => zeroPg := by funext i j; simp [pgP]
theorem cN_zero : cN (fun _ => 0) 0 0 = freshC 4 8 1 := by unfold cN; rw [pgP_zero]; rfl
theorem like_cN (er er' : Nat → Int) (n n' : Int) (k k' : Nat) : Like (cN er n k) (cN er' n' k') := ⟨rfl, rfl, rfl⟩
theorem good_cN (er : Nat → Int) (n : Int) (k : Nat) : Good (cN er n k) := by
  intro i j _ _
  show GoodPg 1 (pgP k i j)
  unfold pgP
  split
  · exact .inr (.inr ⟨rfl, rfl⟩)
  · exact .inl rfl
theorem cN_erase (er : Nat → Int) (n : Int) (b : Nat) (hb : b < 4) : eraseC (cN er n 0) b = (0, cN (upd er b (wrap64 (er b + 1))) (wrap64 (n + 1)) 0) := by
  have h1 : hasB (cN er n 0) (b : Int) = true := by
    show (decide (0 ≤ (b : Int)) && decide ((b : Int) < ((4 : Nat) : Int))) = true
    simp; omega
  have h2 : mayC (cN er n 0) ((b : Int)).toNat = 0 := rfl
  have ht : tornC (cN er n 0) = ((0, false), { cN er n 0 with changes := wrap64 (n + 1) }) := rfl
  unfold eraseC
  rw [if_pos h1, if_pos h2, ht, Int.toNat_natCast]
  have hpg : pgTo (erasePg 0 false) (pgP 0) b 8 = pgP 0 := by
    funext i j
    unfold pgTo pgP erasePg
    split
    · simp [zeroPg]
    · rfl
  have hrd : upd (fun _ : Nat => (0 : Int)) b 0 = fun _ => 0 := by funext j; unfold upd; split <;> rfl
  unfold eraseTo cN
  dsimp only [freshC]
  rw [hpg, hrd]
  rfl

theorem cN_program (er : Nat → Int) (n : Int) (k : Nat) (hk : k < 8) : programC (cN er n k) 1 k ⟨#[97]⟩ = (0, cN er (wrap64 (n + 1)) (k + 1)) := by
  have h1 : hasPB (cN er n k) 1 (k : Int) = true := by
    show (decide ((0 : Int) ≤ 1) && decide ((1 : Int) < ((4 : Nat) : Int)) && decide (0 ≤ (k : Int)) && decide ((k : Int) < ((8 : Nat) : Int))) = true
    simp; omega
  have hsz : ((⟨#[97]⟩ : ByteArray).size : Int) = (cN er n k).bytes := rfl
  have h2 : mayC (cN er n k) ((1 : Int)).toNat = 0 := rfl
  have ht : tornC (cN er n k) = ((0, false), { cN er n k with changes := wrap64 (n + 1) }) := rfl
  have hc : cleanB (cN er n k) ((1 : Int)).toNat ((k : Int)).toNat = true := by
    rw [cleanB_iff]
    intro j _
    rw [Int.toNat_natCast]
    show (pgP k 1 (k + j)).st = 0 ∧ (pgP k 1 (k + j)).touched = false
    unfold pgP
    rw [if_neg (by omega)]
    exact ⟨rfl, rfl⟩
  unfold programC
  rw [if_pos ⟨h1, hsz⟩, if_pos h2, if_pos hc, ht]
  dsimp only
  rw [if_neg (by decide), Int.toNat_natCast]
  have hpg : upd2 (pgP k) 1 k { pgP k 1 k with st := 1, data := ⟨#[97]⟩ } = pgP (k + 1) := by
    funext i j
    unfold upd2
    by_cases h : i = 1 ∧ j = k
    · rw [if_pos h]
      unfold pgP
      rw [if_neg (by omega), if_pos (by omega)]
      rfl
    · rw [if_neg h]
      unfold pgP
      by_cases h3 : i = 1 ∧ j < k
      · rw [if_pos h3, if_pos (by omega)]
      · rw [if_neg h3, if_neg (by omega)]
  unfold progFine cN
  dsimp only [freshC]
  show (0, _) = (0, _)
  rw [show ((1 : Int).toNat) = 1 from rfl, hpg]

theorem cN_again (er : Nat → Int) (n : Int) (k : Nat) (hk : k ≤ 8) : ((programC (cN er n k) 1 0 ⟨#[97]⟩).1 == 21) = decide (0 < k) := by
  by_cases h : k = 0
  · subst h
    rw [show ((0 : Int)) = ((0 : Nat) : Int) from rfl, cN_program er n 0 (by omega)]
    rfl
  · have h1 : hasPB (cN er n k) 1 0 = true := by simp [hasPB, hasB, cN, freshC]
    have hsz : ((⟨#[97]⟩ : ByteArray).size : Int) = (cN er n k).bytes := rfl
    have h2 : mayC (cN er n k) ((1 : Int)).toNat = 0 := rfl
    have hc : ¬ cleanB (cN er n k) ((1 : Int)).toNat ((0 : Int)).toNat = true := by
      rw [cleanB_iff]
      intro hh
      have h3 := (hh 0 (by show 0 < 8 - 0; omega)).1
      have h4 : (pgP k 1 (0 + 0)).st = 0 := h3
      unfold pgP at h4
      rw [if_pos (by omega)] at h4
      exact absurd h4 (by decide)
    unfold programC
    rw [if_pos ⟨h1, hsz⟩, if_pos h2, if_neg hc]
    simp; omega

theorem wrap_succ (k : Nat) (hk : k ≤ 1000) : wrap64 ((k : Int) + 1) = ((k + 1 : Nat) : Int) := by
  rw [IntWalk.wrap64_in _ ⟨by omega, by omega⟩]; omega
theorem wrap_add (k j : Nat) (hk : k + j ≤ 1000) : wrap64 ((k : Int) + (j : Int) + 1) = (k : Int) + ((j + 1 : Nat) : Int) := by
  rw [IntWalk.wrap64_in _ ⟨by omega, by omega⟩]; omega
theorem cN_counts (er : Nat → Int) (n : Int) (k b : Nat) (hb : b < 4) : countsC (cN er n k) (b : Int) = (er b, 0) := by
  unfold countsC
  rw [if_pos (by
    show (decide (0 ≤ (b : Int)) && decide ((b : Int) < ((4 : Nat) : Int))) = true
    simp; omega), Int.toNat_natCast]
  rfl
theorem and3 (x : Int) : bits BinOp.and IntKind.i64 x 3 = x % 4 := by
  have h : bits BinOp.and IntKind.i64 x 3 = IntKind.i64.wrap ((BitVec.ofInt 64 x &&& BitVec.ofInt 64 3).toNat : Int) := rfl
  rw [h]
  have h2 : ((BitVec.ofInt 64 x &&& BitVec.ofInt 64 3).toNat) = (x % 18446744073709551616).toNat % 4 := by
    rw [BitVec.toNat_and, BitVec.toNat_ofInt, BitVec.toNat_ofInt]
    have : ((3 : Int) % ((2 ^ 64 : Nat) : Int)).toNat = 2 ^ 2 - 1 := by decide
    rw [this, Nat.and_two_pow_sub_one_eq_mod]
    rfl
  rw [h2, IntKind.wrap_i64]
  omega

set_option maxHeartbeats 1000000 in
set_option maxRecDepth 100000 in
theorem NandCounts_walk (A : Option Addr) (len cap : Nat) (zs : List Int) (a1 : Int) (w : World) (h0 : IntRow .i64 w A len cap zs) (w1 : (Lit.int .i64 a1).wf = true) :
    Calls Try.prog 7 #[.slice A len cap, .int .i64 a1] w fun e w' => e = .returned (.bool true) ∧ Below w.heap.size w w' := by
  clear w1
  have hlen : len ≤ 9223372036854775807 := by
    rcases h0 with ⟨_, h, _⟩ | ⟨_, _, h1, h2, _⟩
    · omega
    · unfold maxLen at h2; omega
  have HROW := Lib.hid h0
  clear h0
  go_enter Try.func7, Try.ntmps7
  go_wp2_with fail
  refine (speaks_ok _).mono ?_; rintro e w1 ⟨rfl, hb⟩
  go_wp2_with fail
  refine (new_at 4 8 1 w _ hb (by unfold newOk; omega)).mono ?_; rintro e w2 ⟨L, rfl, H2⟩
  have hft : ∀ k, Foot L 4 k → k < w2.heap.size := by
    rintro k (h | h | ⟨i, hi, h⟩)
    · rw [h]; exact World.block_lt_of_cell? _ _ H2.at_.c0
    · rw [h]; exact World.block_lt_of_cell? _ _ (H2.at_.b0 0 H2.at_.nb0)
    · rw [h]; exact World.block_lt_of_cell? _ _ (H2.at_.p0 i hi 0 H2.at_.np0)
  have hw2 : w.heap.size ≤ w2.heap.size := H2.below.size
  have H2' : Holds w w2 L (cN (fun _ => 0) 0 0) := by rw [cN_zero]; exact H2
  have HF := Lib.hid hft
  have HH2 := Lib.hid H2'
  clear hft H2 H2'
  go_upto_block 0 with fail
  go_cut [8] (fun vn wx => ∃ (k : Nat) (er : Nat → Int), k ≤ 100 ∧ vn = .int .i64 k ∧ Hid (Holds w wx L (cN er k 0)) ∧ Hid (∀ j, j < 4 → 0 ≤ er j ∧ er j ≤ k) ∧
      Hid (∀ j, j < 4 → wx.cell? ⟨w2.heap.size, j, none⟩ = some (.int .i64 (er j))) ∧ Hid (∀ j, wx.frozen? ⟨w2.heap.size, j, none⟩ = false))
  case first =>
    go_wp2_with fail
    go_loopw [8, 9] (fun vn vi wr => ∃ (k : Nat) (er : Nat → Int), k ≤ len ∧ k ≤ 100 ∧ vn = .int .i64 k ∧ vi = .int .i64 k ∧ Hid (Holds w wr L (cN er k 0)) ∧ Hid (∀ j, j < 4 → 0 ≤ er j ∧ er j ≤ k) ∧
        Hid (∀ j, j < 4 → wr.cell? ⟨w2.heap.size, j, none⟩ = some (.int .i64 (er j))) ∧ Hid (∀ j, wr.frozen? ⟨w2.heap.size, j, none⟩ = false)) (fun _ vi _ => len - (intOf vi).toNat)
    case atStart =>
      refine ⟨0, fun _ => 0, by omega, by omega, rfl, rfl, HH2.out.alloc _, fun j _ => by simp, ?_, ?_⟩
      · intro j hj
        rw [World.cell?_alloc_new]
        match j, hj with
        | 0, _ => rfl
        | 1, _ => rfl
        | 2, _ => rfl
        | 3, _ => rfl
      · intro j; simp
    case round =>
      obtain ⟨k, er, hk, hk1, rfl, rfl, H, hE, hC, hFz⟩ := hrel
      by_cases hlt : k < len
      · by_cases hlt1 : k < 100
        · obtain ⟨x, rfl, hlc, hcm, hzl, hcell, hwf⟩ : ∃ x, A = some x ∧ len ≤ cap ∧ cap ≤ maxLen ∧ zs.length = cap ∧ (∀ i, i < zs.length → w.cell? (x.add i) = some (.int .i64 (zs.getD i 0))) ∧ ∀ n ∈ zs, (Lit.int .i64 n).wf = true := by
            rcases HROW.out with ⟨_, h, _⟩ | h
            · omega
            · exact h
          have hck := H.out.below.cell (p := x.add k) (by
            have := World.block_lt_of_cell? _ _ (hcell k (by omega))
            exact this)
          rw [hcell k (by omega)] at hck
          generalize zs.getD k 0 = z at hck
          have ha3 := and3 z
          obtain ⟨b, hb4, hbz⟩ : ∃ b : Nat, b < 4 ∧ z % 4 = (b : Int) := ⟨(z % 4).toNat, by omega, by omega⟩
          rw [hbz] at ha3
          have hcb := hC.out b hb4
          have hfb := hFz.out b
          clear hcell hwf hcm hzl
          have hi1 : (b : Int) < 4 := by omega
          go_wp2_with fail
          refine (erase_any H.out.at_ b).mono ?_; rintro e w3 ⟨rfl, HC3, HS3⟩
          rw [cN_erase er k b hb4] at HC3
          rw [cN_erase er k b hb4]
          have hnf : ¬ Foot L 4 w2.heap.size := fun h => by have := HF.out _ h; omega
          have hsz2 : w2.heap.size < wr.heap.size := World.block_lt_of_cell? _ _ hcb
          have hcb3 := HS3.cell hcb hnf
          have hfb3 := (HS3.frozen (p := ⟨w2.heap.size, b, none⟩) hnf hsz2).trans hfb
          have hEb := hE.out b hb4
          have hw3 := Lib.hid (IntWalk.wrap64_in (er b + 1) ⟨by omega, by omega⟩)
          have hw := Lib.hid (wrap_succ k (by omega))
          have H3 := H.out.step HC3 (good_cN _ _ _) (like_cN _ _ _ _ _ _) HS3
          rw [hw.out, hw3.out] at H3
          have HH3 := Lib.hid H3
          have HHS3 := Lib.hid HS3
          have HNF := Lib.hid hnf
          clear HC3 H3 HS3 hcb hfb hck hnf
          go_wp2_with fail
          go_roundw
          case rel =>
            refine ⟨k + 1, upd er b (er b + 1), by omega, by omega, by go_num, by go_num, ?_, ?_, ?_, ?_⟩
            · exact HH3.out.beside (by have := HH3.out.below.size; omega) HNF.out
            · intro j hj
              have := hE.out j hj
              have h2 := hE.out b hb4
              by_cases e : j = b
              · rw [e, upd_same]; omega
              · rw [upd_other _ _ e]; omega
            · intro j hj
              have hcj := HHS3.out.cell (hC.out j hj) HNF.out
              by_cases e : j = b
              · rw [e, upd_same, setA_same _ _ _ _ _ hcb3]
              · rw [upd_other _ _ e, setA_other _ _ _ _ _ (Ne.symm e)]; exact hcj
            · intro j
              rw [World.frozen?_setCell]
              exact (HHS3.out.frozen (p := ⟨w2.heap.size, j, none⟩) HNF.out hsz2).trans (hFz.out j)
          case measure => simp [intOf]; omega
        · have hcd : decide ((k : Int) < 100) = false := by simp; omega
          go_wp2_with fail
          go_meet
          case rel => exact ⟨k, er, hk1, rfl, H, hE, hC, hFz⟩
      · have hcd : decide ((k : Int) < (len : Int)) = false := by simp; omega
        go_wp2_with fail
        go_meet
        case rel => exact ⟨k, er, hk1, rfl, H, hE, hC, hFz⟩
  case rest =>
    obtain ⟨k, er, hk1, rfl, H, hE, hC, hFz⟩ := hcut
    obtain ⟨wa, rfl⟩ : ∃ wa : World, wa = wc := ⟨_, rfl⟩
    clear HROW hb HH2
    have hnf : Hid (¬ Foot L 4 w2.heap.size) := fun h => by have := HF.out _ h; omega
    go_upto_region 14 with fail
    go_cut [52] (fun v24 wx => ∃ o : Bool, v24 = .bool o ∧ Hid (o = true ↔ ¬ (0 ≤ a1 ∧ a1 ≤ 8)) ∧ wa = wx)
    case first =>
      by_cases h1 : a1 < 0
      · go_wp2_with fail
        go_meet
        case rel => exact ⟨_, rfl, Lib.hid (by simp; omega), rfl⟩
      · go_wp2_with fail
        go_meet
        case rel => exact ⟨_, rfl, Lib.hid (by simp; omega), rfl⟩
    case rest =>
      obtain ⟨o, rfl, ho, rfl⟩ := hcut
      go_upto_if 52 with fail
      go_cut [1] (fun v0 wx => ∃ n : Nat, n ≤ 8 ∧ v0 = .int .i64 n ∧ wa = wx)
      case first =>
        cases o with
        | true =>
          go_wp2_with fail
          go_meet
          case rel => exact ⟨5, by omega, rfl, rfl⟩
        | false =>
          have hr : 0 ≤ a1 ∧ a1 ≤ 8 := by have := ho.out; simp at this; omega
          obtain ⟨n, rfl⟩ : ∃ n : Nat, a1 = n := ⟨a1.toNat, by omega⟩
          go_wp2_with fail
          go_meet
          case rel => exact ⟨n, by omega, rfl, rfl⟩
      case rest =>
        obtain ⟨n, hn, rfl, rfl⟩ := hcut
        clear ho
        go_wp2_with fail
        go_loopw [8, 11] (fun vn vp wr => ∃ j : Nat, j ≤ n ∧ vn = .int .i64 ((k : Int) + j) ∧ vp = .int .i64 j ∧ Hid (Holds w wr L (cN er ((k : Int) + j) j)) ∧ Hid (Stays (Foot L 4) wa wr)) (fun _ vp _ => n - (intOf vp).toNat)
        case atStart => exact ⟨0, by omega, by simp, rfl, by simpa using H, Lib.hid (Stays.refl _ _)⟩
        case round =>
          obtain ⟨j, hj, rfl, rfl, HJ, HS⟩ := hrel
          by_cases hlt : j < n
          · go_wp2_with fail
            refine (program_any HJ.out.at_ 1 j ⟨#[97]⟩).mono ?_; rintro e w3 ⟨rfl, HC3, HS3⟩
            rw [cN_program er _ j (by omega)] at HC3
            rw [cN_program er _ j (by omega)]
            have hw := wrap_add k j (by omega)
            have H3 := HJ.out.step HC3 (good_cN _ _ _) (like_cN _ _ _ _ _ _) HS3
            rw [hw] at H3
            have HH3 := Lib.hid H3
            have HHS3 := Lib.hid (HS.out.trans HS3)
            clear HC3 H3 HS3 hw
            go_wp2_with fail
            go_roundw
            case rel => exact ⟨j + 1, by omega, by go_num, by go_num, HH3, HHS3⟩
            case measure => simp [intOf]; omega
          · obtain rfl : j = n := by omega
            have hag := cN_again er ((k : Int) + j) j hn
            have HAG := Lib.hid hag
            have HC4 := Lib.hid (fun i (hi : i < 4) => HS.out.cell (hC.out i hi) hnf.out)
            clear hag hlt
            go_wp2_with fail
            go_loopw [12] (fun vb wr => ∃ b : Nat, b ≤ 4 ∧ vb = .int .i64 b ∧ Hid (Holds w wr L (cN er ((k : Int) + j) j)) ∧ Hid (∀ i, i < 4 → wr.cell? ⟨w2.heap.size, i, none⟩ = some (.int .i64 (er i)))) (fun vb _ => 4 - (intOf vb).toNat)
            case atStart => exact ⟨0, by omega, rfl, HJ, HC4⟩
            case round =>
              obtain ⟨b, hb4, rfl, HB, HCb⟩ := hrel
              by_cases hlt : b < 4
              · have hcb := HCb.out b hlt
                have hct : countsC (cN er ((k : Int) + j) j) b = (er b, 0) := cN_counts _ _ _ _ hlt
                have HCT := Lib.hid hct
                clear hct
                go_wp2_with fail
                refine (counts_any HB.out.at_ b).mono ?_; rintro e w3 ⟨rfl, q, rfl⟩
                rw [HCT.out]
                go_wp2_with fail
                go_roundw
                case rel => exact ⟨b + 1, by omega, by go_num, HB.out.drewN _, HCb.out⟩
                case measure => simp [intOf]; omega
              · have hcd : decide ((b : Int) < 4) = false := by simp; omega
                go_wp2_with fail
                refine (changes_any HB.out.at_).mono ?_; rintro e w3 ⟨rfl, rfl⟩
                rw [show (cN er ((k : Int) + j) j).changes = (k : Int) + j from rfl]
                go_wp2_with fail
                refine (program_h HB.out 1 0 ⟨#[97]⟩).mono ?_; rintro e w4 ⟨rfl, H9⟩
                have hag := HAG.out
                go_wp2_with fail
                go_ret
                exact ⟨by simp, H9.below⟩

end Go.Proofs.Ythoadcibknaelaa
