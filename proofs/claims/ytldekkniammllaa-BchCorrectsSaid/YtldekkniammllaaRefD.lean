/- The document's product of polynomials. -/
import Derived.Test.YtldekkniammllaaRefC
namespace Go.Proofs.Ytldekkniammllaa
open Go.RowKit
set_option linter.unusedVariables false
set_option linter.unusedSimpArgs false

theorem sumL_acc (acc : Nat) (L : List Nat) : sumL acc L = acc ^^^ sumL 0 L := by
  induction L generalizing acc with
  | nil => simp [sumL]
  | cons x L ih =>
    show sumL (acc ^^^ 2 ^ x) L = acc ^^^ sumL (0 ^^^ 2 ^ x) L
    rw [ih, ih (0 ^^^ 2 ^ x), Nat.zero_xor, Nat.xor_assoc]
theorem sumL_shift (acc e : Nat) (L : List Nat) : sumL acc (L.map (e + ·)) = acc ^^^ ((sumL 0 L) <<< e) := by
  induction L generalizing acc with
  | nil => simp [sumL]
  | cons x L ih =>
    rw [List.map_cons]
    show sumL (acc ^^^ 2 ^ (e + x)) (L.map (e + ·)) = acc ^^^ (sumL (0 ^^^ 2 ^ x) L <<< e)
    rw [ih, sumL_acc (0 ^^^ 2 ^ x), Nat.zero_xor, Nat.shiftLeft_xor_distrib, Nat.xor_assoc]
    congr 2
    rw [Nat.shiftLeft_eq, ← Nat.pow_add, Nat.add_comm]
theorem terms_head {A : Nat} (h : A ≠ 0) : (terms A).getD 0 0 = A.log2 := by
  unfold terms
  rw [bl_top h Nat.lt_log2_self]; rfl
theorem own_row {w : World} {B n : Nat} {v : Value} {L : List Nat} (h : w.ownsRow B 3 1 v n (L.map intV)) (hn : n = L.length) (h0 : L ≠ []) : ∃ g cap, v = .slice (some ⟨g, 0, none⟩) n cap ∧ B ≤ g ∧ g < w.heap.size ∧ IntsAt w g L := by
  subst hn
  obtain ⟨g, cap, h1, h2, h3, h4, _⟩ := own_ints h h0
  exact ⟨g, cap, h1, h2, h3, h4⟩

set_option maxHeartbeats 6400000 in
set_option maxRecDepth 100000 in
theorem rpolyMul_any (a b ca cb A B : Nat) (w : World) (hA : A ≠ 0) (hB : B ≠ 0) (ha : IntsAt w a (terms A)) (hb : IntsAt w b (terms B)) (hd : A.log2 + B.log2 ≤ 16384) (la : a < w.heap.size) (lb : b < w.heap.size) :
    Calls Try.prog 35 #[.slice (some ⟨a, 0, none⟩) (terms A).length ca, .slice (some ⟨b, 0, none⟩) (terms B).length cb] w fun x w' =>
      ∃ v, x = .returned (.tuple #[v, .bool true]) ∧ PolyIn w' w.heap.size v (clmul A B) ∧ Below w.heap.size w w' := by
  have hAl := terms_length A
  have hBl := terms_length B
  have HtA : Hid (∀ e ∈ terms A, e ≤ 16384) := Lib.hid (fun e he => by have := terms_le he; omega)
  have HtB : Hid (∀ e ∈ terms B, e ≤ 16384) := Lib.hid (fun e he => by have := terms_le he; omega)
  have HM : Hid (mulL B 0 (terms A) = clmul A B) := Lib.hid rfl
  have HeA : Hid (∀ e ∈ terms A, e ≤ A.log2) := Lib.hid (fun e he => terms_le he)
  have HeB : Hid (∀ e ∈ terms B, e ≤ B.log2) := Lib.hid (fun e he => terms_le he)
  have HNA := Lib.hid (terms_ne hA)
  have HNB := Lib.hid (terms_ne hB)
  have HB1 : Hid (B < 2 ^ (B.log2 + 1)) := Lib.hid Nat.lt_log2_self
  have HT1 : Hid (bl 16385 A = terms A) := Lib.hid (terms_bl2 (by omega))
  have HT2 : Hid (bl 16385 B = terms B) := Lib.hid (terms_bl2 (by omega))
  have HT3 : Hid (∀ C : Nat, C.log2 < 16385 → bl 16385 C = terms C) := Lib.hid (fun C hC => terms_bl2 hC)
  have hhA := terms_head hA
  have hhB := terms_head hB
  have hsA := terms_sum A
  have hsB := terms_sum B
  obtain ⟨m, hm⟩ : ∃ m, m = A.log2 := ⟨_, rfl⟩
  obtain ⟨n, hn⟩ : ∃ n, n = B.log2 := ⟨_, rfl⟩
  obtain ⟨LA, hLA⟩ : ∃ LA, LA = terms A := ⟨_, rfl⟩
  obtain ⟨LB, hLB⟩ : ∃ LB, LB = terms B := ⟨_, rfl⟩
  obtain ⟨C, hC⟩ : ∃ C, C = clmul A B := ⟨_, rfl⟩
  rw [← hm] at hd hAl HeA hhA
  rw [← hn] at hd hBl HB1 HeB hhB
  rw [← hLA] at ha hAl HtA HeA HNA HT1 HM hhA hsA
  rw [← hLB] at hb hBl HtB HeB HNB HT2 hhB hsB
  rw [← hC] at HM
  rw [← hLA, ← hLB, ← hC]
  have HA := Lib.hid ha
  have HB := Lib.hid hb
  have HhA := Lib.hid hhA
  have HhB := Lib.hid hhB
  have HsA := Lib.hid hsA
  have HsB := Lib.hid hsB
  obtain ⟨N, hN⟩ : ∃ N : Nat, N = 16385 := ⟨16385, rfl⟩
  rw [← hN] at HT1 HT2 HT3
  have hmk := make_bits N hN
  have HN := Lib.hid hN
  clear ha hb hhA hhB hsA hsB hC hLA hLB hm hn hA hB hN
  go_enter Try.func35, Try.ntmps35
  go_wp2_with fail
  go_at_call 51
  refine (rbits_any a ca N HN.out LA w HA.out HtA.out (by omega) la).mono ?_
  rintro x w1 ⟨rfl, hr1, hb1⟩
  rw [HsA.out] at hr1
  have lw1 : w.heap.size < w1.heap.size := World.block_lt_of_cell? _ _ (hr1.cell 0 (by rw [HN.out]; decide))
  have HR1 := Lib.hid hr1
  have HB1w := Lib.hid hb1
  clear hr1 hb1
  go_wp2_with fail
  go_at_call 50
  refine (rlist_any _ _ _ A w1 HR1.out (by rw [HN.out]; decide) lw1).mono ?_
  rintro x w2 ⟨va, rfl, ho2, hb2⟩
  rw [HT1.out] at ho2
  have HO2 := Lib.hid ho2
  have HB2w : Hid (Below w.heap.size w w2) := Lib.hid (HB1w.out.trans (hb2.mono (by omega)))
  clear ho2 hb2 HR1
  have lw2 := HB2w.out.size
  go_wp2_with fail
  go_at_call 51
  refine (rbits_any b cb N HN.out LB w2 (HB.out.below HB2w.out lb) HtB.out (by omega) (by omega)).mono ?_
  rintro x w3 ⟨rfl, hr3, hb3⟩
  rw [HsB.out] at hr3
  have lw3 : w2.heap.size < w3.heap.size := World.block_lt_of_cell? _ _ (hr3.cell 0 (by rw [HN.out]; decide))
  have HR3 := Lib.hid hr3
  have HO3 := Lib.hid (own_stays HO2.out (Stays.of_below hb3) (fun _ _ e => e))
  have HB3w : Hid (Below w.heap.size w w3) := Lib.hid (HB2w.out.trans (hb3.mono lw2))
  clear hr3 hb3 HO2
  go_wp2_with fail
  go_at_call 50
  refine (rlist_any _ _ _ B w3 HR3.out (by rw [HN.out]; decide) lw3).mono ?_
  rintro x w4 ⟨vb, rfl, ho4, hb4⟩
  rw [HT2.out] at ho4
  have hO4 := own_stays HO3.out (Stays.of_below hb4) (fun _ _ e => e)
  have HB4w : Hid (Below w.heap.size w w4) := Lib.hid (HB3w.out.trans (hb4.mono (by omega)))
  obtain ⟨ga, xa, rfl, hga1, hga2, hia⟩ := own_row hO4 rfl HNA.out
  obtain ⟨gb, xb, rfl, hgb1, hgb2, hib⟩ := own_row ho4 rfl HNB.out
  have HIA := Lib.hid hia
  have HIB := Lib.hid hib
  clear ho4 hb4 hO4 HO3 HR3
  have hla0 : 0 < LA.length := List.length_pos_iff.mpr HNA.out
  have hlb0 : 0 < LB.length := List.length_pos_iff.mpr HNB.out
  have hza : ((LA.length : Int) == 0) = false := by rw [beq_eq_false_iff_ne]; omega
  have hzb : ((LB.length : Int) == 0) = false := by rw [beq_eq_false_iff_ne]; omega
  have ca0 : w4.cell? ⟨ga, 0, none⟩ = some (.int .i64 (m : Int)) := by have := hia 0 hla0; rw [HhA.out] at this; exact this
  have cb0 : w4.cell? ⟨gb, 0, none⟩ = some (.int .i64 (n : Int)) := by have := hib 0 hlb0; rw [HhB.out] at this; exact this
  have hla0i : 0 < (LA.length : Int) := by omega
  have hlb0i : 0 < (LB.length : Int) := by omega
  clear hia hib
  go_wp2_with fail
  go_quiet (fail)
  go_wp2_with fail
  obtain ⟨g3, hg3⟩ : ∃ g, g = w4.heap.size := ⟨_, rfl⟩
  have hz5 := zero_bits (w4.drewN nq) N
  have hz5' : BRow ((w4.drewN nq).alloc (.cells (madeCells #[.bool false] N) 4)) g3 N 0 := by rw [hg3]; exact hz5
  have hst5 : Stays (fun _ => False) w4 ((w4.drewN nq).alloc (.cells (madeCells #[.bool false] N) 4)) := ((Stays.refl _ _).drewN nq).alloc _
  have hb5 : Below w.heap.size w ((w4.drewN nq).alloc (.cells (madeCells #[.bool false] N) 4)) := (Below.drewN' HB4w.out nq).alloc (by show w.heap.size ≤ w4.heap.size; omega) _
  rw [← hg3]
  have hnga : ga ≠ g3 := by omega
  have hngb : gb ≠ g3 := by omega
  have hwg : w.heap.size ≤ g3 := by omega
  generalize (w4.drewN nq).alloc (.cells (madeCells #[.bool false] N) 4) = w5 at *
  have HZ5 := Lib.hid hz5'
  have HIA5 : Hid (IntsAt w5 ga LA) := Lib.hid (HIA.out.stays hst5 id)
  have HIB5 : Hid (IntsAt w5 gb LB) := Lib.hid (HIB.out.stays hst5 id)
  have HB5 := Lib.hid hb5
  have hN16 : 16385 ≤ N := by rw [HN.out]; exact Nat.le_refl _
  have hN17 : N ≤ 16385 := by rw [HN.out]; exact Nat.le_refl _
  clear hz5 hz5' hst5 hb5 hg3 ca0 cb0 hmk HIA HIB
  go_loopw [9] (fun i wr => ∃ k : Nat, k ≤ LA.length ∧ i = .int .i64 k ∧ Hid (BRow wr g3 N (mulL B 0 (LA.take k))) ∧ Hid (Stays (· = g3) w5 wr)) (fun i _ => LA.length - (intOf i).toNat)
  case atStart => exact ⟨0, Nat.zero_le _, rfl, HZ5, Lib.hid (Stays.refl _ _)⟩
  case round =>
    obtain ⟨i, hil, rfl, HR, HS⟩ := hrel
    obtain ⟨wq, rfl⟩ : ∃ wq : World, wq = wr := ⟨_, rfl⟩
    by_cases hlt : i < LA.length
    · obtain ⟨e, he⟩ : ∃ e, e = LA.getD i 0 := ⟨_, rfl⟩
      have hel : LA[i]? = some e := by
        rw [he, List.getD_eq_getElem?_getD, List.getElem?_eq_getElem hlt]; rfl
      have heL : e ∈ LA := List.mem_of_getElem? hel
      have hem : e ≤ m := HeA.out e heL
      have hcf : Hid (∀ W, Stays (· = g3) w5 W → W.cell? ⟨ga, i, none⟩ = some (.int .i64 (e : Int))) := Lib.hid (fun W hW => by
        have := hW.cell (HIA5.out i hlt) hnga
        rw [← he] at this
        exact this)
      have HT : Hid (LA.take (i + 1) = LA.take i ++ [e]) := Lib.hid (by rw [List.take_add_one, hel]; rfl)
      obtain ⟨X, hX⟩ : ∃ X, X = mulL B 0 (LA.take i) := ⟨_, rfl⟩
      rw [← hX] at HR
      have HX := Lib.hid hX
      have hli : (i : Int) < (LA.length : Int) := by omega
      clear he hel heL hX
      go_wp2_with fail
      go_loopw [10] (fun kv wz => ∃ k : Nat, k ≤ LB.length ∧ kv = .int .i64 k ∧ Hid (BRow wz g3 N (X ^^^ (sumL 0 (LB.take k) <<< e))) ∧ Hid (Stays (· = g3) w5 wz)) (fun kv _ => LB.length - (intOf kv).toNat)
      case atStart => exact ⟨0, Nat.zero_le _, rfl, Lib.hid (by have := HR.out; simpa [sumL] using this), HS⟩
      case round =>
        obtain ⟨k, hkl, rfl, HRz, HSz⟩ := hrel
        obtain ⟨wz, rfl⟩ : ∃ wz : World, wz = wr := ⟨_, rfl⟩
        by_cases hlt2 : k < LB.length
        · obtain ⟨f, hf⟩ : ∃ f, f = LB.getD k 0 := ⟨_, rfl⟩
          have hfl : LB[k]? = some f := by
            rw [hf, List.getD_eq_getElem?_getD, List.getElem?_eq_getElem hlt2]; rfl
          have hfn : f ≤ n := HeB.out f (List.mem_of_getElem? hfl)
          have c1 := hcf.out wz HSz.out
          have c2 : wz.cell? ⟨gb, k, none⟩ = some (.int .i64 (f : Int)) := by
            have := HSz.out.cell (HIB5.out k hlt2) hngb
            rw [← hf] at this
            exact this
          obtain ⟨Y, hY⟩ : ∃ Y, Y = X ^^^ (sumL 0 (LB.take k) <<< e) := ⟨_, rfl⟩
          rw [← hY] at HRz
          have hsum : X ^^^ (sumL 0 (LB.take (k + 1)) <<< e) = Y ^^^ 2 ^ (e + f) := by
            rw [List.take_add_one, hfl, Option.toList_some, sumL_snoc, Nat.shiftLeft_xor_distrib, ← Nat.xor_assoc, ← hY]
            congr 1
            rw [Nat.shiftLeft_eq, ← Nat.pow_add, Nat.add_comm]
          have c3 : wz.cell? ⟨g3, e + f, none⟩ = some (.bool (Y.testBit (e + f))) := HRz.out.cell (e + f) (by omega)
          have f3 := HRz.out.free (e + f)
          have hflip := BRow.flip (e := e + f) HRz.out
          obtain ⟨t, ht⟩ : ∃ t, t = Y.testBit (e + f) := ⟨_, rfl⟩
          rw [← ht] at c3 hflip
          have HFL := Lib.hid hflip
          have HSUM := Lib.hid hsum
          have i1 : (k : Int) < (LB.length : Int) := by omega
          have i2 : (e : Int) + (f : Int) < (N : Int) := by omega
          have i3 : 0 ≤ (e : Int) + (f : Int) := by omega
          have i4 : ((e : Int) + (f : Int)).toNat = e + f := by omega
          have i5 : IntKind.i64.wrap ((e : Int) + (f : Int)) = (e : Int) + (f : Int) := (IntWalk.i64_left _).trans (IntWalk.wrap64_in _ (by omega))
          clear hf hfl hY hsum hflip ht
          go_wp2_with fail
          go_region
          clear i5
          go_wp2_with fail
          go_roundw
          case rel => exact ⟨k + 1, by omega, by go_num, Lib.hid (by rw [HSUM.out]; exact Row.drew HFL.out), Lib.hid (HSz.out.trans Row.stay).drew⟩
          case measure => simp [intOf]; omega
        · obtain rfl : k = LB.length := by omega
          have HX2 : Hid (BRow wz g3 N (mulL B 0 (LA.take (i + 1)))) := Lib.hid (by
            have := HRz.out
            rw [List.take_length, HsB.out, HX.out, ← mulL_snoc, ← HT.out] at this
            exact this)
          clear HRz
          go_wp2_with fail
          go_roundw
          case rel => exact ⟨i + 1, by omega, by go_num, HX2, HSz⟩
          case measure => simp [intOf]; omega
    · obtain rfl : i = LA.length := by omega
      have hC1 : C.log2 < N := by
        rw [← HM.out]
        exact mulL_log HB1.out LA (by omega) (fun e he => by have := HeA.out e he; omega)
      have HC : Hid (bl N C = terms C) := Lib.hid (HT3.out C hC1)
      have HR5 : Hid (BRow wq g3 N C) := Lib.hid (by
        have := HR.out
        rw [List.take_length, HM.out] at this
        exact this)
      have hg35 : g3 < wq.heap.size := World.block_lt_of_cell? _ _ (HR5.out.cell 0 (by omega))
      have HBq : Hid (Below w.heap.size w wq) := Lib.hid (Below.stays HB5.out HS.out (fun q hq => by omega) (by have := HB5.out.size; omega))
      have hbs := HBq.out.size
      clear hC1 HR
      go_wp2_with fail
      go_at_call 50
      have hN20 : N ≤ 20000 := by omega
      refine (rlist_any g3 N N C wq HR5.out hN20 hg35).mono ?_
      rintro x w6 ⟨v6, rfl, how6, hb6⟩
      rw [HC.out] at how6
      have HO6 : Hid (PolyIn w6 w.heap.size v6 C) := Lib.hid (own_mono how6 hbs)
      have HB6 : Hid (Below w.heap.size w w6) := Lib.hid (HBq.out.trans (hb6.mono hbs))
      clear how6 hb6
      go_wp2_with fail
      go_ret2
      exact ⟨v6, rfl, HO6.out, HB6.out⟩
end Go.Proofs.Ytldekkniammllaa
