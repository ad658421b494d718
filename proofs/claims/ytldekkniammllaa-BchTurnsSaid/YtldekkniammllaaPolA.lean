/- Rows of words: their terms as a list (poly), and back (rowOf). -/
import Derived.Test.YtldekkniammllaaBchY
namespace Go.Proofs.Ytldekkniammllaa
open Go.RowKit
set_option linter.unusedVariables false
set_option linter.unusedSimpArgs false

def intV (n : Nat) : Value := .int .i64 ((n : Nat) : Int)
theorem top_lt {u : Nat} (h : u ≠ 0) : u ^^^ 2 ^ u.log2 < 2 ^ u.log2 ∧ 2 ^ u.log2 ≤ u := by
  refine ⟨?_, Nat.log2_self_le h⟩
  apply Nat.lt_pow_two_of_testBit
  intro i hi
  rw [Nat.testBit_xor, Nat.testBit_two_pow]
  rcases Nat.lt_or_ge u.log2 i with h1 | h1
  · have : u.testBit i = false := Nat.testBit_lt_two_pow ((Nat.log2_lt h).mp h1)
    have h2 : ¬ (u.log2 = i) := by omega
    simp [this, h2]
  · have : i = u.log2 := by omega
    subst this
    simp [Nat.testBit_log2 h]
theorem info_int : (Try.prog.info? 3).map (fun i => (i.zero, i.size, i.bytes)) = some (some (.int .i64 0), 1, 8) := by kernel_rfl

set_option maxHeartbeats 3200000 in
set_option maxRecDepth 100000 in
/-- The terms of a row, falling, in memory of the call's own. -/
theorem terms_any (g n c A : Nat) (w : World) (h : WRow w g n A) (hn : n ≤ 258) (lg : g < w.heap.size) :
    Calls Try.prog 66 #[.slice (some ⟨g, 0, none⟩) n c] w fun x w' => ∃ v, x = .returned v ∧ w'.ownsRow w.heap.size 3 1 v (bl (64 * n) A).length ((bl (64 * n) A).map intV) ∧ Below w.heap.size w w' := by
  obtain ⟨i0, hi, hz0, hz1, hz2⟩ := info_parts info_int
  obtain ⟨F, hF⟩ : ∃ F, F = bl (64 * n) A := ⟨_, rfl⟩
  have hFl : F.length ≤ 16512 := by
    have := bl_length (64 * n) A
    rw [hF]; omega
  have HH := Lib.hid h
  have HF := Lib.hid hF
  have HFL := Lib.hid hFl
  rw [← hF]
  clear h hF hFl
  go_enter Try.func66, Try.ntmps66
  go_wp2
  go_loopw [3, 4] (fun v i wr => ∃ (j : Int) (T : List Nat), -1 ≤ j ∧ j < n ∧ i = .int .i64 j ∧ Hid (F = T ++ bl (64 * (j + 1).toNat) A) ∧ Hid (wr.ownsRow w.heap.size 3 1 v T.length (T.map intV)) ∧ Hid (Below w.heap.size w wr)) (fun _ i _ => (intOf i + 1).toNat)
  case atStart => exact ⟨(n : Int) - 1, [], by omega, by omega, rfl, Lib.hid (by simpa using HF.out), Lib.hid (World.ownsRow_nil _ _ _ _), Lib.hid (Below.refl _ _)⟩
  case round =>
    obtain ⟨j, T, hj0, hj1, rfl, HT, HO, HB⟩ := hrel
    obtain ⟨wq, rfl⟩ : ∃ wq : World, wq = wr := ⟨_, rfl⟩
    by_cases h0 : 0 ≤ j
    · obtain ⟨k, rfl⟩ := Int.eq_ofNat_of_zero_le h0
      have hk : k < n := by omega
      have hcv : wq.cell? ⟨g, k, none⟩ = some (.int .u64 ((wd A k : Nat) : Int)) := HB.out.cell (p := ⟨g, k, none⟩) (by exact lg) |>.trans (HH.out.cell k hk)
      have HT2 : Hid (F = T ++ ((bl 64 (wd A k)).map (64 * k + ·) ++ bl (64 * k) A)) := Lib.hid (by
        have := HT.out
        rw [show ((k : Int) + 1).toNat = k + 1 by omega, bl_words] at this
        exact this)
      go_wp2_with fail
      go_loopw [3, 5] (fun v sw wz => ∃ (u : Nat) (T' : List Nat), u < 18446744073709551616 ∧ sw = .int .u64 ((u : Nat) : Int) ∧ Hid (F = T' ++ ((bl 64 u).map (64 * k + ·) ++ bl (64 * k) A)) ∧ Hid (wz.ownsRow w.heap.size 3 1 v T'.length (T'.map intV)) ∧ Hid (Below w.heap.size w wz)) (fun _ sw _ => (intOf sw).toNat)
      case atStart => exact ⟨wd A k, T, wd_lt A k, rfl, HT2, HO, HB⟩
      case round =>
        obtain ⟨u, T', hu, rfl, HT3, HO3, HB3⟩ := hrel
        obtain ⟨wz, rfl⟩ : ∃ wz : World, wz = wr := ⟨_, rfl⟩
        clear hcv
        by_cases hz : u = 0
        · subst hz
          have HT4 : Hid (F = T' ++ bl (64 * k) A) := Lib.hid (by
            have := HT3.out
            rw [bl_zero] at this
            simpa using this)
          clear HT3 HT2
          go_wp2_with fail
          go_roundw
          case rel => exact ⟨(k : Int) - 1, T', by omega, by omega, rfl, Lib.hid (by have := HT4.out; rw [show ((k : Int) - 1 + 1).toNat = k by omega]; exact this), HO3, HB3⟩
          case measure => simp [intOf]
        · have hun : (((u : Nat) : Int) != 0) = true := by simp [hz]
          have hlog : u.log2 < 64 := (Nat.log2_lt hz).mpr hu
          have hbl := bitLen_log2 hz hu
          obtain ⟨hx1, hx2⟩ := top_lt hz
          have hbt := bl_top (n := 64) hz hu
          have hT4 := HT3.out
          rw [hbt] at hT4
          have hxv : bits BinOp.xor .u64 ((u : Nat) : Int) (((2 ^ u.log2 : Nat)) : Int) = ((u ^^^ 2 ^ u.log2 : Nat) : Int) := bits_xor_u64_nat _ _ hu (Nat.pow_lt_pow_right (by decide) hlog)
          obtain ⟨t, ht⟩ : ∃ t, t = u.log2 := ⟨_, rfl⟩
          rw [← ht] at hlog hbl hx1 hx2 hT4 hxv
          obtain ⟨u', hu'⟩ : ∃ u', u' = u ^^^ 2 ^ t := ⟨_, rfl⟩
          rw [← hu'] at hx1 hT4 hxv
          rw [← wrap_pow64 hlog] at hxv
          have hlt : u' < u := by omega
          have HLT := Lib.hid hlt
          have hu2 : u' < 18446744073709551616 := by omega
          have HT4 : Hid (F = (T' ++ [64 * k + t]) ++ ((bl 64 u').map (64 * k + ·) ++ bl (64 * k) A)) := Lib.hid (by rw [hT4]; simp)
          have hlen : T'.length + 1 ≤ 16512 := by
            have h1 := congrArg List.length HT4.out
            have h2 := HFL.out
            simp at h1
            omega
          have HBL : Hid (Lib.bitLen (((u : Nat) : Int)).toNat = t + 1) := Lib.hid (by rw [Int.toNat_natCast]; exact hbl)
          have HU2 := Lib.hid hu'
          have HT5 := Lib.hid ht
          clear hbl hx1 hx2 hbt hT4 hu' ht hz hlt
          go_wp2_with (first | (go_at_call 78; refine (Try.bits_Len64 ((u : Nat) : Int) _ (by omega) (by omega)).mono ?_; rintro e w' ⟨rfl, hw'⟩; obtain rfl := hw'.symm; rw [HBL.out]) | (at_builtin; refine wpList_append_own _ rfl _ _ 76 rfl w.heap.size 3 i0 (.int .i64 0) 1 8 (by kernel_rfl) hi hz0 hz1 hz2 rfl (by decide) _ _ _ rfl (HO3.out.alloc _) ⟨wz.heap.size, 0, none⟩ 1 1 [.int .i64 (64 * (k : Int) + (t : Int))] rfl rfl ?c1 ?c2 ?c3 ?c4 ?c5 ?_))
          case c1 =>
            intro i u hu
            cases i with
            | zero => simp at hu; subst hu; simp [Addr.add]
            | succ i => simp at hu
          case c2 => intro u hu; simp at hu; subst hu; rfl
          case c3 => unfold maxLen; omega
          case c4 => omega
          case c5 => have := HB3.out.size; simp; omega
          intro v' w2 hown' hgrow _
          have HB4 : Hid (Below w.heap.size w w2) := Lib.hid ((HB3.out.alloc HB3.out.size _).grown hgrow (by have := HB3.out.size; simp; omega) (fun q hq => (HO3.out.lt q hq).1))
          have HO4 : Hid (w2.ownsRow w.heap.size 3 1 v' (T' ++ [64 * k + t]).length ((T' ++ [64 * k + t]).map intV)) := Lib.hid (by
            have e : intV (64 * k + t) = .int .i64 (64 * (k : Int) + (t : Int)) := by unfold intV; congr 1
            rw [List.length_append, List.map_append, List.map_singleton, e]
            exact hown')
          clear hown' hgrow
          go_wp2_with fail
          go_roundw
          case rel => exact ⟨u', T' ++ [64 * k + t], hu2, by first | rfl | rw [hxv], HT4, HO4, HB4⟩
          case measure =>
            have := HLT.out
            simp [intOf]; omega
    · have : j = -1 := by omega
      subst this
      have hT : F = T := by simpa [bl] using HT.out
      subst hT
      go_wp2_with fail
      go_ret
      exact ⟨_, rfl, HO.out, HB.out⟩

/-- A slice that begins at the head of block a and holds these numbers. -/
def IntsAt (w : World) (a : Nat) (L : List Nat) : Prop := ∀ j, j < L.length → w.cell? ⟨a, j, none⟩ = some (intV (L.getD j 0))

set_option maxHeartbeats 3200000 in
set_option maxRecDepth 100000 in
theorem rowOf_any (a c : Nat) (L : List Nat) (w : World) (h : IntsAt w a L) (hL : ∀ e ∈ L, e ≤ 16384) (hl : L.length ≤ 16512) (la : a < w.heap.size) :
    Calls Try.prog 64 #[.slice (some ⟨a, 0, none⟩) L.length c] w fun x w' => x = .returned (.slice (some ⟨w.heap.size, 0, none⟩) 257 257) ∧ WRow w' w.heap.size 257 (sumL 0 L) ∧ Below w.heap.size w w' := by
  obtain ⟨N, hN⟩ : ∃ N : Nat, N = 257 := ⟨257, rfl⟩
  have hmk : ∀ W : World, (Instr.makeSlice 105 (.int .i64 257) (.int .i64 257)).run Try.prog W = .ok (.slice (some ⟨W.heap.size, 0, none⟩) N N) (W.alloc (.cells (madeCells #[.int .u64 0] N) 117)) := by
    intro W
    have h := run_make_row' (P := Try.prog) 105 117 (.int .u64 0) 8 (by kernel_rfl) (by kernel_rfl) rfl .i64 .i64 N (by omega) (by omega) W
    have hc : ((N : Nat) : Int) = 257 := by omega
    rw [hc] at h
    exact h
  have HN := Lib.hid hN
  have HH := Lib.hid h
  have HL := Lib.hid hL
  clear hN h hL
  obtain ⟨g, hg⟩ : ∃ g, g = w.heap.size := ⟨_, rfl⟩
  have hr0 : WRow (w.alloc (.cells (madeCells #[.int .u64 0] N) 117)) g N 0 := by
    rw [hg]
    exact Row.made _ _ _ _ _ (fun j hj => by rw [madeCells_get _ _ _ hj, wd_zero]; rfl)
  have hb0 : Below g w (w.alloc (.cells (madeCells #[.int .u64 0] N) 117)) := by rw [hg]; exact (Below.refl _ _).alloc (Nat.le_refl _) _
  rw [← hg] at la ⊢
  have HR0 := Lib.hid hr0
  have HB0 := Lib.hid hb0
  have HG := Lib.hid hg
  clear hr0 hb0
  go_enter Try.func64, Try.ntmps64
  go_wp2
  try rw [← HG.out]
  generalize w.alloc (.cells (madeCells #[.int .u64 0] N) 117) = W0 at *
  clear hg
  go_loopw [9] (fun i wr => ∃ k : Nat, k ≤ L.length ∧ i = .int .i64 k ∧ Hid (WRow wr g N (sumL 0 (L.take k))) ∧ Hid (Below g w wr)) (fun i _ => L.length - (intOf i).toNat)
  case atStart => exact ⟨0, Nat.zero_le _, rfl, HR0, HB0⟩
  case round =>
    obtain ⟨k, hk, rfl, HR, HB⟩ := hrel
    obtain ⟨wq, rfl⟩ : ∃ wq : World, wq = wr := ⟨_, rfl⟩
    by_cases hlt : k < L.length
    · obtain ⟨e, he⟩ : ∃ e, e = L.getD k 0 := ⟨_, rfl⟩
      have hel : L[k]? = some e := by
        rw [he, List.getD_eq_getElem?_getD, List.getElem?_eq_getElem hlt]; rfl
      have he2 : e ≤ 16384 := HL.out e (List.mem_of_getElem? hel)
      have hce : wq.cell? ⟨a, k, none⟩ = some (.int .i64 (e : Int)) := by
        have := HB.out.cell (p := ⟨a, k, none⟩) (by exact la) |>.trans (HH.out k hlt)
        rw [← he] at this
        exact this
      have HT : Hid (L.take (k + 1) = L.take k ++ [e]) := Lib.hid (by rw [List.take_add_one, hel]; rfl)
      clear hel he
      go_wp2_with (go_at_call 77; refine (flip_any g N _ _ e _ HR.out (by rw [HN.out]; omega) (by omega)).mono ?_; rintro x w2 ⟨rfl, hr2, hs2⟩)
      have HR2 := Lib.hid hr2
      have HB2 : Hid (Below g w w2) := Lib.hid (Below.stays HB.out hs2 (fun q hq => by omega) (by have := HB.out.size; have := HG.out; omega))
      clear hr2 hs2
      go_wp2_with fail
      go_roundw
      case rel => exact ⟨k + 1, by omega, by go_num, Lib.hid (by rw [HT.out, sumL_snoc]; exact HR2.out), HB2⟩
      case measure => simp [intOf]; omega
    · have hk2 : k = L.length := by omega
      subst hk2
      go_wp2_with fail
      go_ret
      refine ⟨by rw [HN.out]; rfl, ?_, HB.out⟩
      have := HR.out
      rw [List.take_length, HN.out] at this
      exact this
end Go.Proofs.Ytldekkniammllaa
