/- The walk of the law NandTorn. -/
import Derived.Test.YthoadcibknaelaaSpeaks
import Derived.Outline
import Derived.Deep.DeepCutAuto
import Derived.Deep.CutBlock
namespace Go.Proofs.Ythoadcibknaelaa
open Go.RowKit
set_option linter.unusedVariables false
set_option linter.unusedSimpArgs false

def one (b : Nat) : ByteArray := ⟨#[UInt8.ofNat b]⟩
/-- The chip behind k writes. -/
def tW : Nat → Chp
  | 0 => (programC (freshC 2 8 1) 1 0 ⟨#[122]⟩).2
  | k + 1 => (programC (tW k) 0 k (one (97 + k))).2
def tC (n : Nat) (m : Int) : Chp := { tW n with left := max 1 1, mode := m }
def tT (n : Nat) (m : Int) : Chp := (programC (tC n m) 0 n ⟨#[116]⟩).2
def tO (n : Nat) (m : Int) : Chp := { tT n m with off := false, left := 0, mode := 0 }

/-- Of the mode only what modeC makes of it matters. -/
theorem program_mode (c : Chp) (m : Int) (b p : Int) (data : ByteArray) :
    (programC { c with mode := m } b p data).1 = (programC { c with mode := modeC m } b p data).1 ∧
    { (programC { c with mode := m } b p data).2 with off := false, left := 0, mode := 0 } = { (programC { c with mode := modeC m } b p data).2 with off := false, left := 0, mode := 0 } ∧
    (programC { c with mode := m } b p data).2.off = (programC { c with mode := modeC m } b p data).2.off := by
  have hm : modeC (modeC m) = modeC m := by have := modeC_bd m; unfold modeC at *; split <;> split <;> omega
  have ht : tornC { c with mode := m } = ((tornC { c with mode := modeC m }).1, { (tornC { c with mode := modeC m }).2 with mode := m }) := by
    unfold tornC
    by_cases h0 : c.left = 0
    · simp [h0]
    · by_cases h1 : 1 < c.left
      · simp [h0, h1]
      · simp [h0, h1, hm]
  have hc : ∀ x y, cleanB { c with mode := m } x y = cleanB { c with mode := modeC m } x y := fun _ _ => rfl
  have hh : hasPB { c with mode := m } b p = hasPB { c with mode := modeC m } b p := rfl
  have hy : mayC { c with mode := m } b.toNat = mayC { c with mode := modeC m } b.toNat := rfl
  unfold programC
  rw [hh, hy, ht, hc]
  by_cases h1 : hasPB { c with mode := modeC m } b p = true ∧ (data.size : Int) = c.bytes
  · rw [if_pos h1, if_pos h1]
    by_cases h2 : mayC { c with mode := modeC m } b.toNat = 0
    · rw [if_pos h2, if_pos h2]
      by_cases h3 : cleanB { c with mode := modeC m } b.toNat p.toNat = true
      · rw [if_pos h3, if_pos h3]
        generalize tornC { c with mode := modeC m } = T
        by_cases h4 : T.1.2 = true
        · dsimp only
          rw [if_pos h4, if_pos h4]
          by_cases h5 : 2 ≤ p.toNat % 4 ∧ 4 ≤ T.1.1 ∧ (T.2.pg b.toNat (p.toNat - 2)).st = 1
          · rw [progTorn_yes h5, progTorn_yes (c1 := { T.2 with mode := m }) h5]; exact ⟨rfl, rfl, rfl⟩
          · rw [progTorn_no h5, progTorn_no (c1 := { T.2 with mode := m }) h5]; exact ⟨rfl, rfl, rfl⟩
        · dsimp only
          rw [if_neg h4, if_neg h4]; exact ⟨rfl, rfl, rfl⟩
      · rw [if_neg h3, if_neg h3]; exact ⟨rfl, rfl, rfl⟩
    · rw [if_neg h2, if_neg h2]; exact ⟨rfl, rfl, rfl⟩
  · rw [if_neg h1, if_neg h1]; exact ⟨rfl, rfl, rfl⟩

theorem tO_mode (n : Nat) (m : Int) : tO n m = tO n (modeC m) := (program_mode { tW n with left := max 1 1 } m 0 n ⟨#[116]⟩).2.1
theorem tT_off (n : Nat) (m : Int) : (tT n m).off = (tT n (modeC m)).off := (program_mode { tW n with left := max 1 1 } m 0 n ⟨#[116]⟩).2.2
theorem tP_mode (n : Nat) (m : Int) : (programC (tC n m) 0 n ⟨#[116]⟩).1 = (programC (tC n (modeC m)) 0 n ⟨#[116]⟩).1 := (program_mode { tW n with left := max 1 1 } m 0 n ⟨#[116]⟩).1

def bytesL (s : ByteArray) : List UInt8 := s.data.toList
/-- All that the law looks at, for one number of pages and one way of tearing. -/
def tOk (n q : Nat) : Bool :=
  (programC (tC n q) 0 n ⟨#[116]⟩).1 == 20 && (tT n q).off && (tO n q).bytes == 1 && (tO n q).most == 0 && (tO n q).nb == 2 && (tO n q).np == 8 &&
  ((List.range n).all fun k => bytesL (dataC 1 ((tO n q).pg 0 k)) == [UInt8.ofNat (97 + k)] || (decide (2 ≤ n % 4) && (k == n - 2 && bytesL (dataC 1 ((tO n q).pg 0 k)) == [0]))) &&
  (bytesL (dataC 1 ((tO n q).pg 0 n)) == [116] || (bytesL (dataC 1 ((tO n q).pg 0 n)) == [255] || bytesL (dataC 1 ((tO n q).pg 0 n)) == [0])) &&
  bytesL (dataC 1 ((tO n q).pg 1 0)) == [122] && (programC (tO n q) 0 n ⟨#[117]⟩).1 == 21
theorem tAll : ((List.range 8).all fun n => (List.range 8).all fun q => tOk n q) = true := by decide +kernel

structure TFacts (n : Nat) (c : Chp) (up : Bool) : Prop where
  by1 : c.bytes = 1
  most : c.most = 0
  nb : c.nb = 2
  np : c.np = 8
  off : c.off = false
  each : ∀ k, k < n → bytesL (dataC 1 (c.pg 0 k)) = [UInt8.ofNat (97 + k)] ∨ (2 ≤ n % 4 ∧ k = n - 2 ∧ bytesL (dataC 1 (c.pg 0 k)) = [0])
  last : bytesL (dataC 1 (c.pg 0 n)) = [116] ∨ bytesL (dataC 1 (c.pg 0 n)) = [255] ∨ bytesL (dataC 1 (c.pg 0 n)) = [0]
  other : bytesL (dataC 1 (c.pg 1 0)) = [122]
  again : (programC c 0 n ⟨#[117]⟩).1 = 21

theorem t_facts (n : Nat) (hn : n < 8) (m : Int) : (programC (tC n m) 0 n ⟨#[116]⟩).1 = 20 ∧ (tT n m).off = true ∧ TFacts n (tO n m) true := by
  have hq := modeC_bd m
  obtain ⟨q, hqq⟩ : ∃ q : Nat, modeC m = q := ⟨(modeC m).toNat, by omega⟩
  rw [tP_mode, tT_off, tO_mode, hqq]
  have hall := tAll
  rw [List.all_eq_true] at hall
  have h1 := hall n (by simp; omega)
  rw [List.all_eq_true] at h1
  have h2 := h1 q (by simp; omega)
  unfold tOk at h2
  simp only [Bool.and_eq_true, Bool.or_eq_true, beq_iff_eq, List.all_eq_true, List.mem_range, decide_eq_true_eq] at h2
  obtain ⟨⟨⟨⟨⟨⟨⟨⟨⟨a1, a2⟩, a3⟩, a4⟩, a5⟩, a6⟩, a7⟩, a8⟩, a9⟩, a10⟩ := h2
  exact ⟨a1, a2, ⟨a3, a4, a5, a6, rfl, a7, a8, a9, a10⟩⟩

theorem t_read {n : Nat} {c : Chp} {up : Bool} (h : TFacts n c up) (r : Nat → Int) (b p : Nat) (hb : b < 2) (hp : p < 8) :
    readC { c with rd := r } b p = (dataC 1 (c.pg b p), 0, { c with rd := upd r b (wrap64 (r b + 1)) }) := by
  unfold readC
  rw [if_pos (by simp [hasPB, hasB, h.nb, h.np]; omega), if_neg (by simp [h.off])]
  unfold readS
  rw [if_pos (.inl (by simp [h.most]))]
  simp [h.by1]
theorem program_rd (c : Chp) (r : Nat → Int) (b p : Int) (data : ByteArray) : (programC { c with rd := r } b p data).1 = (programC c b p data).1 := by
  have ht : (tornC { c with rd := r }).1 = (tornC c).1 := by
    by_cases h0 : c.left = 0 <;> by_cases h1 : 1 < c.left <;> simp [tornC, h0, h1]
  have hh : hasPB { c with rd := r } b p = hasPB c b p := rfl
  have hy : mayC { c with rd := r } b.toNat = mayC c b.toNat := rfl
  have hc : cleanB { c with rd := r } b.toNat p.toNat = cleanB c b.toNat p.toNat := rfl
  unfold programC
  rw [hh, hy, hc, ht]
  by_cases h1 : hasPB c b p = true ∧ (data.size : Int) = c.bytes
  · rw [if_pos h1, if_pos h1]
    by_cases h2 : mayC c b.toNat = 0
    · rw [if_pos h2, if_pos h2]
      by_cases h3 : cleanB c b.toNat p.toNat = true
      · rw [if_pos h3, if_pos h3]
        by_cases h4 : (tornC c).1.2 = true
        · rw [if_pos h4, if_pos h4]
        · rw [if_neg h4, if_neg h4]
      · rw [if_neg h3, if_neg h3]
    · rw [if_neg h2, if_neg h2]
  · rw [if_neg h1, if_neg h1]
theorem u8_97 (k : Nat) (hk : k ≤ 7) : ∃ b : UInt8, Hid ((97 + (k : Int)) = (b.toNat : Int)) ∧ Hid (b = UInt8.ofNat (97 + k)) := by
  refine ⟨UInt8.ofNat (97 + k), Lib.hid ?_, Lib.hid rfl⟩
  have : (UInt8.ofNat (97 + k)).toNat = 97 + k := by rw [UInt8.toNat_ofNat']; omega
  rw [this]; omega
theorem conv_one (W : World) (g cap : Nat) (b : UInt8) (h : W.cell? ⟨g, 0, none⟩ = some (.int .u8 b.toNat)) : (convert 31 9 (.slice (some ⟨g, 0, none⟩) 1 cap)).run Try.prog W = .ok (.string ⟨#[b]⟩) W :=
  run_convert_bytes_back (P := Try.prog) W 31 9 5 ⟨g, 0, none⟩ cap [b] (by kernel_rfl) (by kernel_rfl) (by kernel_rfl) (by
    intro j hj
    have : j = 0 := by simpa using hj
    subst this
    exact h)

set_option maxHeartbeats 1000000 in
set_option maxRecDepth 100000 in
theorem NandTorn_walk (a0 a1 : Int) (w0 : (Lit.int .i64 a0).wf = true) (w1 : (Lit.int .i64 a1).wf = true) (w : World) :
    Calls Try.prog 4 #[.int .i64 a0, .int .i64 a1] w fun e w' => e = .returned (.bool true) ∧ Below w.heap.size w w' := by
  have hm : -9223372036854775808 ≤ a1 ∧ a1 ≤ 9223372036854775807 := by simp [Lit.wf, IntKind.min, IntKind.max, IntKind.signed, IntKind.bits] at w1; omega
  clear w0 w1
  go_enter Try.func4, Try.ntmps4
  go_wp2_with fail
  refine (speaks_ok _).mono ?_; rintro e w1 ⟨rfl, hb⟩
  go_upto_region 3 with fail
  go_cut [24] (fun v24 wx => ∃ o : Bool, v24 = .bool o ∧ Hid (o = true ↔ ¬ (0 ≤ a0 ∧ a0 ≤ 7)) ∧ Below w.heap.size w wx)
  case first =>
    by_cases h1 : a0 < 0
    · go_wp2_with fail
      go_meet
      case rel => exact ⟨_, rfl, Lib.hid (by simp; omega), hb⟩
    · go_wp2_with fail
      go_meet
      case rel => exact ⟨_, rfl, Lib.hid (by simp; omega), hb⟩
  case rest =>
    obtain ⟨o, rfl, ho, hb1⟩ := hcut
    obtain ⟨wa, rfl⟩ : ∃ wa : World, wa = wc := ⟨_, rfl⟩
    go_upto_if 24 with fail
    go_cut [0] (fun v0 wx => ∃ n : Nat, n ≤ 7 ∧ v0 = .int .i64 n ∧ Below w.heap.size w wx)
    case first =>
      cases o with
      | true =>
        go_wp2_with fail
        go_meet
        case rel => exact ⟨2, by omega, rfl, hb1⟩
      | false =>
        have hr : 0 ≤ a0 ∧ a0 ≤ 7 := by have := ho.out; simp at this; omega
        obtain ⟨n, rfl⟩ : ∃ n : Nat, a0 = n := ⟨a0.toNat, by omega⟩
        go_wp2_with fail
        go_meet
        case rel => exact ⟨n, by omega, rfl, hb1⟩
    case rest =>
      obtain ⟨n, hn, rfl, hb2⟩ := hcut
      clear hb hb1 ho
      obtain ⟨hF1, hF2, hF3⟩ := t_facts n (by omega) a1
      have HF1 := Lib.hid hF1
      have HF2 := Lib.hid hF2
      clear hF1 hF2
      go_wp2_with fail
      refine (new_at 2 8 1 w _ hb2 (by unfold newOk; omega)).mono ?_; rintro e w2 ⟨L, rfl, H2⟩
      go_wp2_with fail
      refine (program_h H2 1 0 ⟨#[122]⟩).mono ?_; rintro e w3 ⟨rfl, H3⟩
      have H3' : Holds w w3 L (tW 0) := H3
      clear H2 H3
      go_wp2_with fail
      go_loopw [7] (fun v7 wr => ∃ k : Nat, k ≤ n ∧ v7 = .int .i64 k ∧ Holds w wr L (tW k)) (fun v7 _ => n - (intOf v7).toNat)
      case atStart => exact ⟨0, by omega, rfl, H3'⟩
      case round =>
        obtain ⟨k, hk, rfl, H⟩ := hrel
        by_cases hlt : k < n
        · obtain ⟨bv, hbi, hbv⟩ := u8_97 k (by omega)
          have hcv := conv_one (wr.alloc (Obj.cells #[.int .u8 (97 + (k : Int))] 5)) wr.heap.size 1 bv (by rw [World.cell?_alloc_new, hbi.out]; rfl)
          go_wp2_with fail
          refine (program_h (H.alloc _) 0 k ⟨#[bv]⟩).mono ?_; rintro e w4 ⟨rfl, H4⟩
          rw [hbv.out] at H4
          go_wp2_with fail
          go_roundw
          case rel => exact ⟨k + 1, by omega, by go_num, H4⟩
          case measure => simp [intOf]; omega
        · obtain rfl : k = n := by omega
          go_wp2_with fail
          refine (cut_h H 1 a1 (by omega) (by omega) (by omega)).mono ?_; rintro e w4 ⟨rfl, H4⟩
          have H4' : Holds w w4 L (tC k a1) := H4
          clear H H4 H3'
          go_wp2_with fail
          refine (program_h H4' 0 k ⟨#[116]⟩).mono ?_; rintro e w5 ⟨rfl, H5⟩
          rw [HF1.out]
          have H5' : Holds w w5 L (tT k a1) := H5
          clear H4' H5
          go_wp2_with fail
          refine (off_h H5').mono ?_; rintro e w6 ⟨rfl, rfl⟩
          rw [HF2.out]
          go_wp2_with fail
          refine (on_h H5').mono ?_; rintro e w6 ⟨rfl, H6⟩
          have H6' : Holds w w6 L (tO k a1) := H6
          clear H5' H6 HF1 HF2
          have hpr := fun W => pair_any (k : Int) W (by omega)
          have HPR := Lib.hid hpr
          clear hpr
          go_wp2_with fail
          refine (HPR.out _).mono ?_; rintro e w7 ⟨rfl, rfl⟩
          generalize hcf : tO k a1 = cf at *
          clear hcf
          have hpc : (pairC (k : Int)).2 = decide (2 ≤ k % 4) ∧ (2 ≤ k % 4 → (pairC (k : Int)).1 = ((k - 2 : Nat) : Int)) := by
            unfold pairC
            rw [if_neg (by omega)]
            by_cases h2 : 2 ≤ k % 4
            · rw [if_pos (by omega)]; exact ⟨by simp [h2], fun _ => by dsimp only; omega⟩
            · rw [if_neg (by omega)]; exact ⟨by simp [h2], fun h => absurd h h2⟩
          have HPC := Lib.hid hpc
          clear hpc
          have HF3 := Lib.hid hF3
          clear hF3
          generalize pairC (k : Int) = pq at *
          obtain ⟨lo, up⟩ := pq
          go_wp2_with fail
          go_loopw [10] (fun v10 wr => ∃ (j : Nat) (r : Nat → Int), j ≤ k ∧ v10 = .int .i64 j ∧ Holds w wr L { cf with rd := r }) (fun v10 _ => k - (intOf v10).toNat)
          case atStart => exact ⟨0, cf.rd, by omega, rfl, H6'⟩
          case round =>
            obtain ⟨j, r, hj, rfl, H⟩ := hrel
            by_cases hlt : j < k
            · go_wp2_with fail
              refine (read_h H 0 j).mono ?_; rintro e w7 ⟨rfl, H7⟩
              have hrd : readC { cf with rd := r } 0 j = (dataC 1 (cf.pg 0 j), 0, { cf with rd := upd r 0 (wrap64 (r 0 + 1)) }) := t_read HF3.out r 0 j (by omega) (by omega)
              rw [hrd] at H7
              rw [hrd]
              clear hrd
              obtain ⟨bv, hbi, hbv⟩ := u8_97 j (by omega)
              have hcv := conv_one (w7.alloc (Obj.cells #[.int .u8 (97 + (j : Int))] 5)) w7.heap.size 1 bv (by rw [World.cell?_alloc_new, hbi.out]; rfl)
              have hE := HF3.out.each j hlt
              rw [← hbv.out] at hE
              generalize dataC 1 (cf.pg 0 j) = s at *
              obtain ⟨⟨sl⟩⟩ := s
              unfold bytesL at hE
              dsimp only at hE
              rcases hE with rfl | ⟨hu, hjk, rfl⟩
              · go_wp2_with fail
                go_roundw
                case rel => exact ⟨j + 1, _, by omega, by go_num, H7.alloc _⟩
                case measure => simp [intOf]; omega
              · obtain rfl : up = true := by rw [show up = _ from HPC.out.1]; simp [hu]
                obtain rfl : lo = (j : Int) := by rw [show lo = _ from HPC.out.2 hu, hjk]
                have hne : ((0 : UInt8) == bv) = false := by
                  have := hbi.out
                  rw [beq_eq_false_iff_ne]
                  intro e
                  rw [← e] at this
                  have h0 : ((0 : UInt8).toNat : Int) = 0 := rfl
                  omega
                clear hjk
                go_wp2_with fail
                go_roundw
                case rel => exact ⟨j + 1, _, by omega, by go_num, H7.alloc _⟩
                case measure => simp [intOf]; omega
            · have hrd : readC { cf with rd := r } 0 k = (dataC 1 (cf.pg 0 k), 0, { cf with rd := upd r 0 (wrap64 (r 0 + 1)) }) := t_read HF3.out r 0 k (by omega) (by omega)
              have hrd2 : ∀ r', readC { cf with rd := r' } 1 0 = (dataC 1 (cf.pg 1 0), 0, { cf with rd := upd r' 1 (wrap64 (r' 1 + 1)) }) := fun r' => t_read HF3.out r' 1 0 (by omega) (by omega)
              have HRD := Lib.hid hrd
              have HRD2 := Lib.hid hrd2
              clear hrd hrd2
              go_wp2_with fail
              refine (read_h H 0 k).mono ?_; rintro e w7 ⟨rfl, H7⟩
              rw [HRD.out] at H7
              rw [HRD.out]
              go_wp2_with fail
              refine (read_h H7 1 0).mono ?_; rintro e w8 ⟨rfl, H8⟩
              rw [HRD2.out] at H8
              rw [HRD2.out]
              have hL := HF3.out.last
              have hO := HF3.out.other
              generalize dataC 1 (cf.pg 0 k) = s at *
              generalize dataC 1 (cf.pg 1 0) = t at *
              obtain ⟨⟨sl⟩⟩ := s
              obtain ⟨⟨tl⟩⟩ := t
              unfold bytesL at hL hO
              dsimp only at hL hO
              subst hO
              have hag := program_rd cf (upd (upd r 0 (wrap64 (r 0 + 1))) 1 (wrap64 (upd r 0 (wrap64 (r 0 + 1)) 1 + 1))) 0 k ⟨#[117]⟩
              rw [HF3.out.again] at hag
              have HAG := Lib.hid hag
              clear hag
              rcases hL with rfl | rfl | rfl
              all_goals
                go_wp2_with fail
                refine (program_h H8 0 k ⟨#[117]⟩).mono ?_; rintro e w9 ⟨rfl, H9⟩
                rw [HAG.out]
                go_wp2_with fail
                go_ret
                exact ⟨rfl, H9.below⟩

end Go.Proofs.Ythoadcibknaelaa
