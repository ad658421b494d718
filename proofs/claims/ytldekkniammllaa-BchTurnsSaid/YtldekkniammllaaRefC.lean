/- The document's polynomials: Bits, List, Mul. -/
import Derived.Test.YtldekkniammllaaRefB
namespace Go.Proofs.Ytldekkniammllaa
open Go.RowKit
set_option linter.unusedVariables false
set_option linter.unusedSimpArgs false

/-- A row of n bools that is the polynomial A. -/
def BRow (w : World) (g n A : Nat) : Prop := Row w g n (fun j => .bool (A.testBit j))
theorem BRow.flip {w : World} {g n A e : Nat} (h : BRow w g n A) : BRow (w.setCell ⟨g, e, none⟩ (.bool (!A.testBit e))) g n (A ^^^ 2 ^ e) := by
  refine (Row.set h _ _).congr fun j hj => ?_
  rw [Nat.testBit_xor, Nat.testBit_two_pow]
  by_cases h1 : j = e
  · subst h1; rw [upd_same]; simp
  · rw [upd_other _ _ h1]
    have : ¬ e = j := fun h => h1 h.symm
    simp [this]
theorem BRow.below {w w' : World} {g n A : Nat} (h : BRow w g n A) (k : Below w.heap.size w w') (hg : g < w.heap.size) : BRow w' g n A := Row.stays h (S := fun _ => False) (Stays.of_below k) hg id
theorem info_bool : (Try.prog.info? 4).map (fun i => (i.zero, i.size, i.bytes)) = some (some (.bool false), 1, 1) := by kernel_rfl
theorem make_bits (N : Nat) (hN : N = 16385) (W : World) : (Instr.makeSlice 68 (.int .i64 16385) (.int .i64 16385)).run Try.prog W = .ok (.slice (some ⟨W.heap.size, 0, none⟩) N N) (W.alloc (.cells (madeCells #[.bool false] N) 4)) := by
  have h := run_make_row' (P := Try.prog) 68 4 (.bool false) 1 (by kernel_rfl) (by kernel_rfl) rfl .i64 .i64 N (by omega) (by omega) W
  have hc : ((N : Nat) : Int) = 16385 := by omega
  rw [hc] at h
  exact h
theorem zero_bits (w : World) (N : Nat) : BRow (w.alloc (.cells (madeCells #[.bool false] N) 4)) w.heap.size N 0 := Row.made _ _ _ _ _ (fun j hj => by rw [madeCells_get _ _ _ hj]; simp)

set_option maxHeartbeats 3200000 in
set_option maxRecDepth 100000 in
theorem rbits_any (a c N : Nat) (hN : N = 16385) (L : List Nat) (w : World) (h : IntsAt w a L) (hL : ∀ e ∈ L, e ≤ 16384) (hl : L.length ≤ 16512) (la : a < w.heap.size) :
    Calls Try.prog 51 #[.slice (some ⟨a, 0, none⟩) L.length c] w fun x w' => x = .returned (.slice (some ⟨w.heap.size, 0, none⟩) N N) ∧ BRow w' w.heap.size N (sumL 0 L) ∧ Below w.heap.size w w' := by
  have hmk := make_bits N hN
  have HN := Lib.hid hN
  have HH := Lib.hid h
  have HL := Lib.hid hL
  obtain ⟨g, hg⟩ : ∃ g, g = w.heap.size := ⟨_, rfl⟩
  have hr0 : BRow (w.alloc (.cells (madeCells #[.bool false] N) 4)) g N 0 := by rw [hg]; exact zero_bits w N
  have hb0 : Below g w (w.alloc (.cells (madeCells #[.bool false] N) 4)) := by rw [hg]; exact (Below.refl _ _).alloc (Nat.le_refl _) _
  rw [← hg] at la ⊢
  have HR0 := Lib.hid hr0
  have HB0 := Lib.hid hb0
  have HG := Lib.hid hg
  clear hr0 hb0 hN h hL
  go_enter Try.func51, Try.ntmps51
  go_wp2_with fail
  try rw [← HG.out]
  generalize w.alloc (.cells (madeCells #[.bool false] N) 4) = W0 at *
  clear hg hmk
  go_loopw [4] (fun i wr => ∃ k : Nat, k ≤ L.length ∧ i = .int .i64 k ∧ Hid (BRow wr g N (sumL 0 (L.take k))) ∧ Hid (Below g w wr)) (fun i _ => L.length - (intOf i).toNat)
  case atStart => exact ⟨0, Nat.zero_le _, rfl, HR0, HB0⟩
  case round =>
    obtain ⟨k, hk, rfl, HR, HB⟩ := hrel
    obtain ⟨wq, rfl⟩ : ∃ wq : World, wq = wr := ⟨_, rfl⟩
    by_cases hlt : k < L.length
    · obtain ⟨e, he⟩ : ∃ e, e = L.getD k 0 := ⟨_, rfl⟩
      have hel : L[k]? = some e := by
        rw [he, List.getD_eq_getElem?_getD, List.getElem?_eq_getElem hlt]; rfl
      have he2 : e ≤ 16384 := HL.out e (List.mem_of_getElem? hel)
      have hce : wq.cell? ⟨a, k, none⟩ = some (.int .i64 (e : Int)) := by
        have := HB.out.cell (p := ⟨a, k, none⟩) (by exact la) |>.trans (HH.out k hlt)
        rw [← he] at this
        exact this
      have heN : e < N := by rw [HN.out]; omega
      have hcb : wq.cell? ⟨g, e, none⟩ = some (.bool ((sumL 0 (L.take k)).testBit e)) := HR.out.cell e heN
      have hfb := HR.out.free e
      have hfl := BRow.flip (e := e) HR.out
      obtain ⟨t, ht⟩ : ∃ t, t = (sumL 0 (L.take k)).testBit e := ⟨_, rfl⟩
      rw [← ht] at hcb hfl
      have HFL := Lib.hid hfl
      have heNi : (e : Int) < (N : Int) := by omega
      have hki : (k : Int) < (L.length : Int) := by omega
      have HT : Hid (L.take (k + 1) = L.take k ++ [e]) := Lib.hid (by rw [List.take_add_one, hel]; rfl)
      clear hel he hfl ht
      go_wp2_with fail
      go_region
      go_wp2_with fail
      go_roundw
      case rel => exact ⟨k + 1, by omega, by go_num, Lib.hid (by rw [HT.out, sumL_snoc]; exact Row.drew HFL.out), Lib.hid (Below.drew (HB.out.setCell (by exact Nat.le_refl _) _))⟩
      case measure => simp [intOf]; omega
    · have hk2 : k = L.length := by omega
      subst hk2
      go_wp2_with fail
      go_ret
      refine ⟨rfl, ?_, HB.out⟩
      have := HR.out
      rw [List.take_length] at this
      exact this

set_option maxHeartbeats 3200000 in
set_option maxRecDepth 100000 in
theorem rlist_any (g n c A : Nat) (w : World) (h : BRow w g n A) (hn : n ≤ 20000) (lg : g < w.heap.size) :
    Calls Try.prog 50 #[.slice (some ⟨g, 0, none⟩) n c] w fun x w' => ∃ v, x = .returned v ∧ w'.ownsRow w.heap.size 3 1 v (bl n A).length ((bl n A).map intV) ∧ Below w.heap.size w w' := by
  obtain ⟨i0, hi, hz0, hz1, hz2⟩ := info_parts info_int
  obtain ⟨F, hF⟩ : ∃ F, F = bl n A := ⟨_, rfl⟩
  have hFl : F.length ≤ 20000 := by
    have := bl_length n A
    rw [hF]; omega
  have HH := Lib.hid h
  have HF := Lib.hid hF
  have HFL := Lib.hid hFl
  rw [← hF]
  clear h hF hFl
  go_enter Try.func50, Try.ntmps50
  go_wp2
  go_loopw [3, 4] (fun v i wr => ∃ (j : Int) (T : List Nat), -1 ≤ j ∧ j < n ∧ i = .int .i64 j ∧ Hid (F = T ++ bl (j + 1).toNat A) ∧ Hid (wr.ownsRow w.heap.size 3 1 v T.length (T.map intV)) ∧ Hid (Below w.heap.size w wr)) (fun _ i _ => (intOf i + 1).toNat)
  case atStart => exact ⟨(n : Int) - 1, [], by omega, by omega, rfl, Lib.hid (by simpa using HF.out), Lib.hid (World.ownsRow_nil _ _ _ _), Lib.hid (Below.refl _ _)⟩
  case round =>
    obtain ⟨j, T, hj0, hj1, rfl, HT, HO, HB⟩ := hrel
    obtain ⟨wq, rfl⟩ : ∃ wq : World, wq = wr := ⟨_, rfl⟩
    by_cases h0 : 0 ≤ j
    · obtain ⟨k, rfl⟩ := Int.eq_ofNat_of_zero_le h0
      have hk : k < n := by omega
      have hcv : wq.cell? ⟨g, k, none⟩ = some (.bool (A.testBit k)) := HB.out.cell (p := ⟨g, k, none⟩) (by exact lg) |>.trans (HH.out.cell k hk)
      have hT2 := HT.out
      rw [show ((k : Int) + 1).toNat = k + 1 by omega] at hT2
      unfold bl at hT2
      cases hbt : A.testBit k
      · rw [hbt] at hcv hT2
        have HT2 : Hid (F = T ++ bl k A) := Lib.hid (by simpa using hT2)
        clear hT2 hbt
        go_wp2_with fail
        go_roundw
        case rel => exact ⟨(k : Int) - 1, T, by omega, by omega, rfl, Lib.hid (by have := HT2.out; rw [show ((k : Int) - 1 + 1).toNat = k by omega]; exact this), HO, HB⟩
        case measure => simp [intOf]
      · rw [hbt] at hcv hT2
        have HT2 : Hid (F = (T ++ [k]) ++ bl k A) := Lib.hid (by rw [hT2]; simp)
        have hTl : T.length + 1 ≤ 20000 := by
          have h1 := congrArg List.length HT2.out
          have h2 := HFL.out
          simp at h1
          omega
        clear hT2 hbt
        go_wp2_with (at_builtin; refine wpList_append_own _ rfl _ _ 34 rfl w.heap.size 3 i0 (.int .i64 0) 1 8 (by kernel_rfl) hi hz0 hz1 hz2 rfl (by decide) _ _ _ rfl (HO.out.alloc _) ⟨wq.heap.size, 0, none⟩ 1 1 [.int .i64 (k : Int)] rfl rfl ?c1 ?c2 ?c3 ?c4 ?c5 ?_)
        case c1 =>
          intro i u hu
          cases i with
          | zero => simp at hu; subst hu; simp [Addr.add]
          | succ i => simp at hu
        case c2 => intro u hu; simp at hu; subst hu; rfl
        case c3 => unfold maxLen; omega
        case c4 => omega
        case c5 => have := HB.out.size; simp; omega
        intro v' w2 hown' hgrow _
        have HB4 : Hid (Below w.heap.size w w2) := Lib.hid ((HB.out.alloc HB.out.size _).grown hgrow (by have := HB.out.size; simp; omega) (fun q hq => (HO.out.lt q hq).1))
        have HO4 : Hid (w2.ownsRow w.heap.size 3 1 v' (T ++ [k]).length ((T ++ [k]).map intV)) := Lib.hid (by
          rw [List.length_append, List.map_append]
          exact hown')
        clear hown' hgrow
        go_wp2_with fail
        go_roundw
        case rel => exact ⟨(k : Int) - 1, T ++ [k], by omega, by omega, rfl, Lib.hid (by have := HT2.out; rw [show ((k : Int) - 1 + 1).toNat = k by omega]; exact this), HO4, HB4⟩
        case measure => simp [intOf]
    · have : j = -1 := by omega
      subst this
      have hT : F = T := by simpa [bl] using HT.out
      subst hT
      go_wp2_with fail
      go_ret
      exact ⟨_, rfl, HO.out, HB.out⟩
end Go.Proofs.Ytldekkniammllaa
