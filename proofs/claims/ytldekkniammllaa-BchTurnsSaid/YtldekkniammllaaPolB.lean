/- The product of two polynomials over two numbers. -/
import Derived.Test.YtldekkniammllaaPolA
namespace Go.Proofs.Ytldekkniammllaa
open Go.RowKit
set_option linter.unusedVariables false
set_option linter.unusedSimpArgs false

theorem WRow.below {w w' : World} {g n A : Nat} (h : WRow w g n A) (k : Below w.heap.size w w') (hg : g < w.heap.size) : WRow w' g n A := Row.stays h (S := fun _ => False) (Stays.of_below k) hg id
/-- A row that reaches farther: the words behind it are 0. -/
theorem WRow.mono {w : World} {g n m A : Nat} (h : WRow w g n A) (hm : m ≤ n) : WRow w g m A := Row.mono h hm
theorem own_ints {w : World} {B : Nat} {v : Value} {L : List Nat} (h : w.ownsRow B 3 1 v L.length (L.map intV)) (h0 : L ≠ []) : ∃ g cap, v = .slice (some ⟨g, 0, none⟩) L.length cap ∧ B ≤ g ∧ g < w.heap.size ∧ IntsAt w g L ∧ ∀ j, w.frozen? ⟨g, j, none⟩ = false := by
  rcases h.2 with ⟨_, h1⟩ | ⟨g, cap, cur, hv, hB, hb, _⟩
  · exact absurd (List.length_eq_zero_iff.mp h1) h0
  · subst hv
    refine ⟨g, cap, rfl, hB, ?_, fun j hj => ?_, h.frozenAt⟩
    · rcases Nat.lt_or_ge g w.heap.size with h2 | h2
      · exact h2
      · rw [Array.getElem?_eq_none h2] at hb; cases hb
    · rw [h.cellAt j (by omega), List.getElem?_map, List.getElem?_eq_getElem hj, List.getD_eq_getElem?_getD, List.getElem?_eq_getElem hj]; rfl
theorem IntsAt.below {w w' : World} {a : Nat} {L : List Nat} {B : Nat} (h : IntsAt w a L) (k : Below B w w') (ha : a < B) : IntsAt w' a L := fun j hj => (k.cell (p := ⟨a, j, none⟩) ha).trans (h j hj)
theorem IntsAt.stays {w w' : World} {a : Nat} {L : List Nat} {S : Nat → Prop} (h : IntsAt w a L) (k : Stays S w w') (ha : ¬ S a) : IntsAt w' a L := fun j hj => k.cell (h j hj) ha

theorem own_mono {w : World} {B B' e size : Nat} {v : Value} {n : Nat} {xs : List Value} (h : w.ownsRow B e size v n xs) (hB : B' ≤ B) : w.ownsRow B' e size v n xs := by
  refine ⟨h.1, h.2.imp id ?_⟩
  rintro ⟨g, cap, cur, h1, h2, h3⟩
  exact ⟨g, cap, cur, h1, Nat.le_trans hB h2, h3⟩
/-- The terms of a number, as the program has them. -/
def terms (A : Nat) : List Nat := bl (A.log2 + 1) A
theorem terms_bl {A n : Nat} (h : A < 2 ^ n) : bl n A = terms A := by
  unfold terms
  rcases Nat.eq_zero_or_pos A with h0 | h0
  · subst h0; rw [bl_zero, bl_zero]
  · have : A.log2 < n := (Nat.log2_lt (by omega)).mpr h
    exact bl_more Nat.lt_log2_self (by omega)
theorem terms_bl2 {A n : Nat} (h : A.log2 < n) : bl n A = terms A := terms_bl (log2_lt_pow h)
theorem mulL_log {B m n : Nat} (hB : B < 2 ^ m) (L : List Nat) (hn : 0 < n) (hL : ∀ e ∈ L, m + e ≤ n) : (mulL B 0 L).log2 < n := log2_of_lt hn (mulL_lt hB L 0 hL (Nat.two_pow_pos _))
theorem terms_ne {A : Nat} (h : A ≠ 0) : terms A ≠ [] := by
  unfold terms
  rw [bl_top h Nat.lt_log2_self]; simp
theorem terms_le {A e : Nat} (h : e ∈ terms A) : e ≤ A.log2 := by
  have := (bl_mem h).1; omega
theorem terms_sum (A : Nat) : sumL 0 (terms A) = A := sumL_self Nat.lt_log2_self
theorem terms_length (A : Nat) : (terms A).length ≤ A.log2 + 1 := bl_length _ _
theorem degI_pos {A : Nat} (h : A ≠ 0) : degI A = (A.log2 : Int) := by unfold degI; rw [if_neg h]

set_option maxHeartbeats 3200000 in
set_option maxRecDepth 100000 in
theorem polyMul_any (a b ca cb A B : Nat) (w : World) (hA : A ≠ 0) (hB : B ≠ 0) (ha : IntsAt w a (terms A)) (hb : IntsAt w b (terms B)) (hd : A.log2 + B.log2 ≤ 16384) (la : a < w.heap.size) (lb : b < w.heap.size) :
    Calls Try.prog 47 #[.slice (some ⟨a, 0, none⟩) (terms A).length ca, .slice (some ⟨b, 0, none⟩) (terms B).length cb] w fun x w' =>
      ∃ v, x = .returned (.tuple #[v, .bool true]) ∧ w'.ownsRow w.heap.size 3 1 v (terms (clmul A B)).length ((terms (clmul A B)).map intV) ∧ Below w.heap.size w w' := by
  have hAl := terms_length A
  have hBl := terms_length B
  have hdA := degI_pos hA
  have hdB := degI_pos hB
  have hA2 : A.log2 < 64 * 257 := by omega
  have hB2 : B.log2 < 64 * 257 := by omega
  have HtA : Hid (∀ e ∈ terms A, e ≤ 16384) := Lib.hid (fun e he => by have := terms_le he; omega)
  have HtB : Hid (∀ e ∈ terms B, e ≤ 16384) := Lib.hid (fun e he => by have := terms_le he; omega)
  have HM : Hid (mulL B 0 (terms A) = clmul A B) := Lib.hid rfl
  have HeA : Hid (∀ e ∈ terms A, e ≤ A.log2) := Lib.hid (fun e he => terms_le he)
  have HNE := Lib.hid (terms_ne hA)
  have HB1 : Hid (B < 2 ^ (B.log2 + 1)) := Lib.hid Nat.lt_log2_self
  have HT1 : Hid (bl (64 * 257) A = terms A) := Lib.hid (terms_bl2 hA2)
  have HT2 : Hid (∀ C : Nat, C.log2 < 64 * 258 → bl (64 * 258) C = terms C) := Lib.hid (fun C hC => terms_bl2 hC)
  obtain ⟨m, hm⟩ : ∃ m, m = A.log2 := ⟨_, rfl⟩
  obtain ⟨n, hn⟩ : ∃ n, n = B.log2 := ⟨_, rfl⟩
  obtain ⟨LA, hLA⟩ : ∃ LA, LA = terms A := ⟨_, rfl⟩
  obtain ⟨LB, hLB⟩ : ∃ LB, LB = terms B := ⟨_, rfl⟩
  obtain ⟨C, hC⟩ : ∃ C, C = clmul A B := ⟨_, rfl⟩
  obtain ⟨LC, hLC⟩ : ∃ LC, LC = terms C := ⟨_, rfl⟩
  have hsA : sumL 0 LA = A := by rw [hLA]; exact terms_sum A
  have hsB : sumL 0 LB = B := by rw [hLB]; exact terms_sum B
  rw [← hm] at hd hAl hdA HeA
  rw [← hn] at hd hBl hdB HB1
  rw [← hLA] at ha hAl HtA HeA HNE HT1 HM
  rw [← hLB] at hb hBl HtB
  rw [← hC] at HM
  rw [← hLA, ← hLB, ← hC, ← hLC]
  have HLC := Lib.hid hLC
  have HdA := Lib.hid hdA
  have HdB := Lib.hid hdB
  have HA := Lib.hid ha
  have HB := Lib.hid hb
  have HA2 := Lib.hid hA2
  have HB2 := Lib.hid hB2
  have HsA := Lib.hid hsA
  have HsB := Lib.hid hsB
  clear hdA hdB ha hb hsA hsB hC hLC hLA hLB hm hn hA2 hB2 hA hB
  obtain ⟨N, hN⟩ : ∃ N : Nat, N = 258 := ⟨258, rfl⟩
  have hmk : ∀ W : World, (Instr.makeSlice 105 (.int .i64 258) (.int .i64 258)).run Try.prog W = .ok (.slice (some ⟨W.heap.size, 0, none⟩) N N) (W.alloc (.cells (madeCells #[.int .u64 0] N) 117)) := by
    intro W
    have h := run_make_row' (P := Try.prog) 105 117 (.int .u64 0) 8 (by kernel_rfl) (by kernel_rfl) rfl .i64 .i64 N (by omega) (by omega) W
    have hc : ((N : Nat) : Int) = 258 := by omega
    rw [hc] at h
    exact h
  have HN := Lib.hid hN
  clear hN
  go_enter Try.func47, Try.ntmps47
  go_wp2_with fail
  go_at_call 64
  refine (rowOf_any a ca LA w HA.out HtA.out (by omega) la).mono ?_
  rintro x w1 ⟨rfl, hr1, hb1⟩
  have hz1 : w.heap.size < w1.heap.size := World.block_lt_of_cell? _ _ (hr1.cell 0 (by decide))
  have HR1 := Lib.hid hr1
  have HB1' := Lib.hid hb1
  obtain ⟨g1, hg1⟩ : ∃ g, g = w.heap.size := ⟨_, rfl⟩
  rw [← hg1] at HR1
  rw [← hg1]
  have HG1 := Lib.hid hg1
  clear hr1 hb1 hg1
  go_wp2_with fail
  go_at_call 64
  refine (rowOf_any b cb LB w1 (HB.out.below HB1'.out lb) HtB.out (by omega) (by omega)).mono ?_
  rintro x w2 ⟨rfl, hr2, hb2⟩
  have hz2 : w1.heap.size < w2.heap.size := World.block_lt_of_cell? _ _ (hr2.cell 0 (by decide))
  have HR2 := Lib.hid hr2
  have HB2' := Lib.hid hb2
  obtain ⟨g2, hg2⟩ : ∃ g, g = w1.heap.size := ⟨_, rfl⟩
  rw [← hg2] at HR2
  rw [← hg2]
  have HG2 := Lib.hid hg2
  clear hr2 hb2 hg2
  have HX2 : Hid (WRow w2 g1 257 A) := Lib.hid (by have := HR1.out; rw [HsA.out] at this; exact WRow.below this HB2'.out (by have := HG1.out; omega))
  have HY2 : Hid (WRow w2 g2 257 B) := Lib.hid (by have := HR2.out; rw [HsB.out] at this; exact this)
  have HBW2 : Hid (Below w.heap.size w w2) := Lib.hid (HB1'.out.trans (HB2'.out.mono (by omega)))
  go_wp2_with (first | (go_at_call 65; (with_reducible refine (degree_any g1 257 257 A _ HX2.out (by omega) HA2.out).mono ?_); rintro x w' ⟨rfl, hw'⟩; obtain rfl := hw'.symm; rw [HdA.out]) | (go_at_call 65; (with_reducible refine (degree_any g2 257 257 B _ HY2.out (by omega) HB2.out).mono ?_); rintro x w' ⟨rfl, hw'⟩; obtain rfl := hw'.symm; rw [HdB.out]))
  have hg12 := HG1.out
  have hg22 := HG2.out
  have HX3 : Hid (WRow (w2.alloc (.cells (madeCells #[.int .u64 0] N) 117)) g1 257 A) := Lib.hid (Row.alloc HX2.out (by omega) _)
  have HY3 : Hid (WRow (w2.alloc (.cells (madeCells #[.int .u64 0] N) 117)) g2 257 B) := Lib.hid (Row.alloc HY2.out (by omega) _)
  have HZ3 : Hid (WRow (w2.alloc (.cells (madeCells #[.int .u64 0] N) 117)) w2.heap.size N 0) := Lib.hid (Row.made _ _ _ _ _ (fun j hj => by rw [madeCells_get _ _ _ hj, wd_zero]; rfl))
  have HBW3 : Hid (Below w.heap.size w (w2.alloc (.cells (madeCells #[.int .u64 0] N) 117))) := Lib.hid (HBW2.out.alloc (by omega) _)
  have hsz3 : (w2.alloc (.cells (madeCells #[.int .u64 0] N) 117)).heap.size = w2.heap.size + 1 := by simp
  generalize w2.alloc (.cells (madeCells #[.int .u64 0] N) 117) = w3 at *
  clear hg12 hg22
  go_at_call 66
  refine (terms_any g1 257 257 A w3 HX3.out (by omega) (by have := HG1.out; omega)).mono ?_
  rintro x w4 ⟨v, rfl, how, hb4⟩
  rw [HT1.out] at how
  obtain ⟨gv, cv, rfl, hgv1, hgv2, hiv, hfv⟩ := own_ints how HNE.out
  obtain ⟨g3, hg3⟩ : ∃ g, g = w2.heap.size := ⟨_, rfl⟩
  rw [← hg3] at HZ3
  rw [← hg3]
  have HX4 : Hid (WRow w4 g1 257 A) := Lib.hid (WRow.below HX3.out hb4 (by have := HG1.out; omega))
  have HY4 : Hid (WRow w4 g2 257 B) := Lib.hid (WRow.below HY3.out hb4 (by have := HG2.out; omega))
  have HZ4 : Hid (WRow w4 g3 N 0) := Lib.hid (WRow.below HZ3.out hb4 (by omega))
  have HBW4 : Hid (Below w.heap.size w w4) := Lib.hid (HBW3.out.trans (hb4.mono (by omega)))
  have HIV := Lib.hid hiv
  have hn1 : g2 ≠ g3 := by have := HG2.out; omega
  have hn2 : gv ≠ g3 := by omega
  have hg3w : w.heap.size ≤ g3 := by omega
  have hz4 : w3.heap.size ≤ w4.heap.size := hb4.size
  have hg24 : g2 < w4.heap.size := by have := HG2.out; omega
  have hg34 : g3 < w4.heap.size := by omega
  have HG3 := Lib.hid hg3
  clear how hb4 hiv hg3 hsz3 hmk
  clear HX3 HY3 HZ3 HX2 HY2 HX4 HR1 HR2
  have hn64 : (n : Int) / 64 + 1 = ((n / 64 + 1 : Nat) : Int) := by omega
  obtain ⟨q, hq⟩ : ∃ q, q = n / 64 := ⟨_, rfl⟩
  have hqi : (n : Int) / 64 = (q : Int) := by omega
  have hq2 : q ≤ 256 := by omega
  have HQ := Lib.hid hq
  clear hn64 hq
  have hBq : B < 2 ^ (64 * (q + 1)) := Nat.lt_of_lt_of_le HB1.out (Nat.pow_le_pow_right (by decide) (by have := HQ.out; omega))
  have HBQ := Lib.hid hBq
  have HNP : Hid (∀ e ∈ LA, B <<< e < 2 ^ (64 * N)) := Lib.hid (fun e he => shl_lt HB1.out (by have := HeA.out e he; have := HN.out; omega))
  clear hBq
  go_wp2_with fail
  go_loopw [38] (fun i wr => ∃ k : Nat, k ≤ LA.length ∧ i = .int .i64 k ∧ Hid (WRow wr g3 N (mulL B 0 (LA.take k))) ∧ Hid (Stays (· = g3) w4 wr)) (fun i _ => LA.length - (intOf i).toNat)
  case atStart => exact ⟨0, Nat.zero_le _, rfl, HZ4, Lib.hid (Stays.refl _ _)⟩
  case round =>
    obtain ⟨k, hk, rfl, HR, HS⟩ := hrel
    obtain ⟨wq, rfl⟩ : ∃ wq : World, wq = wr := ⟨_, rfl⟩
    by_cases hlt : k < LA.length
    · obtain ⟨e, he⟩ : ∃ e, e = LA.getD k 0 := ⟨_, rfl⟩
      have hel : LA[k]? = some e := by
        rw [he, List.getD_eq_getElem?_getD, List.getElem?_eq_getElem hlt]; rfl
      have heL : e ∈ LA := List.mem_of_getElem? hel
      have he2 : e ≤ 16384 := HtA.out e heL
      have hce : wq.cell? ⟨gv, k, none⟩ = some (.int .i64 (e : Int)) := by
        have := HS.out.cell (HIV.out k hlt) hn2
        rw [← he] at this
        exact this
      have HNE2 := Lib.hid (HNP.out e heL)
      have HT : Hid (LA.take (k + 1) = LA.take k ++ [e]) := Lib.hid (by rw [List.take_add_one, hel]; rfl)
      have HY5 : Hid (WRow wq g2 (q + 1) B) := Lib.hid (WRow.mono (Row.stays HY4.out HS.out hg24 hn1) (by omega))
      have hg25 : g2 < wq.heap.size := by have := HS.out.size; omega
      clear hel he heL
      go_wp2_with (go_at_call 67; refine (rowadd_any g3 N N g2 (q + 1) 257 _ B e _ HR.out HY5.out (Ne.symm hn1) (by omega) (by omega) (by rw [HN.out]; exact Nat.le_refl _) HBQ.out HNE2.out hg25).mono ?_; rintro x w5 ⟨rfl, hr5, hs5⟩)
      have HR5 := Lib.hid hr5
      have HS5 := Lib.hid (HS.out.trans hs5)
      clear hr5 hs5
      go_wp2_with fail
      go_roundw
      case rel => exact ⟨k + 1, by omega, by go_num, Lib.hid (by rw [HT.out, mulL_snoc]; exact HR5.out), HS5⟩
      case measure => simp [intOf]; omega
    · have hk2 : k = LA.length := by omega
      subst hk2
      have hC1 : C.log2 < 64 * 258 := by
        rw [← HM.out]
        exact mulL_log HB1.out LA (by omega) (fun e he => by have := HeA.out e he; omega)
      have HC : Hid (bl (64 * 258) C = LC) := Lib.hid (by rw [HT2.out C hC1, ← HLC.out])
      have HR5 : Hid (WRow wq g3 258 C) := Lib.hid (by
        have := HR.out
        rw [List.take_length, HM.out, HN.out] at this
        exact this)
      have hg35 : g3 < wq.heap.size := by have := HS.out.size; omega
      have HB5 : Hid (Below w.heap.size w wq) := Lib.hid (Below.stays HBW4.out HS.out (fun q hq => by omega) (by omega))
      obtain rfl : N = 258 := HN.out
      clear hC1
      go_wp2_with (go_at_call 66; refine (terms_any g3 258 258 C _ HR5.out (by omega) hg35).mono ?_; rintro x w6 ⟨v6, rfl, how6, hb6⟩)
      rw [HC.out] at how6
      have hb5z := HB5.out.size
      have HO6 : Hid (w6.ownsRow w.heap.size 3 1 v6 LC.length (LC.map intV)) := Lib.hid (own_mono how6 hb5z)
      have HB6 : Hid (Below w.heap.size w w6) := Lib.hid (HB5.out.trans (hb6.mono hb5z))
      clear how6 hb6
      go_wp2_with fail
      go_ret2
      exact ⟨v6, rfl, HO6.out, HB6.out⟩
end Go.Proofs.Ytldekkniammllaa
