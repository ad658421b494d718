/- The code's closure that makes the generator's row. -/
import Derived.Test.YtldekkniammllaaCodB
import Derived.Deep.DeepCutAuto
namespace Go.Proofs.Ytldekkniammllaa
open Go.RowKit
set_option linter.unusedVariables false
set_option linter.unusedSimpArgs false

/-- How many bytes a parity has, how many spare bits, the generator's row. -/
def parN (t : Nat) : Nat := (13 * t + 7) / 8
def spare (t : Nat) : Nat := 8 * parN t - 13 * t
def lowN (t : Nat) : Nat := ((genA t) ^^^ 2 ^ (13 * t)) <<< spare t
theorem par_spare (t : Nat) : 8 * parN t = 13 * t + spare t := by unfold spare parN; omega
/-- The exponents but the highest. -/
def restL (t : Nat) : List Nat := bl (13 * t) (genA t)
theorem terms_rest {t : Nat} (h : t < 9) : terms (genA t) = 13 * t :: restL t := by
  have hl := gen_log h
  unfold terms restL
  rw [hl]
  have hb : (genA t).testBit (13 * t) = true := by rw [← hl]; exact Nat.testBit_log2 (gen_ne h)
  show (if (genA t).testBit (13 * t) then _ else _) = _
  rw [hb]; rfl
theorem rest_sum {t : Nat} (h : t < 9) : sumL 0 (restL t) = (genA t) ^^^ 2 ^ (13 * t) := by
  have h1 := terms_sum (genA t)
  rw [terms_rest h] at h1
  have h2 : sumL 0 (13 * t :: restL t) = sumL (0 ^^^ 2 ^ (13 * t)) (restL t) := rfl
  rw [h2, sumL_acc, Nat.zero_xor] at h1
  rw [← h1, Nat.xor_comm (2 ^ (13 * t)), Nat.xor_assoc, Nat.xor_self, Nat.xor_zero]
theorem bl_split {n A e : Nat} {T U : List Nat} (h : bl n A = T ++ e :: U) : ∀ x ∈ T, e < x := by
  induction n generalizing T with
  | zero => simp [bl] at h
  | succ n ih =>
    unfold bl at h
    split at h
    · cases T with
      | nil => intro x hx; cases hx
      | cons y T =>
        rw [List.cons_append] at h
        injection h with h1 h2
        intro x hx
        rcases List.mem_cons.mp hx with h3 | h3
        · subst h3
          have : e ∈ bl n A := by rw [h2]; simp
          have := (bl_mem this).1
          omega
        · exact ih h2 x h3
    · exact ih h
theorem sumL_none {T : List Nat} {e acc : Nat} (h : ∀ x ∈ T, e < x) (ha : acc.testBit e = false) : (sumL acc T).testBit e = false := by
  induction T generalizing acc with
  | nil => exact ha
  | cons x T ih =>
    refine ih (acc := acc ^^^ 2 ^ x) (fun y hy => h y (List.mem_cons_of_mem _ hy)) ?_
    have := h x (List.mem_cons_self ..)
    rw [Nat.testBit_xor, Nat.testBit_two_pow, ha]
    have : ¬ (x = e) := by omega
    simp [this]
theorem or_is_xor {x p : Nat} (h : x.testBit p = false) : x ||| 2 ^ p = x ^^^ 2 ^ p := by
  apply Nat.eq_of_testBit_eq
  intro t
  rw [Nat.testBit_or, Nat.testBit_xor, Nat.testBit_two_pow]
  by_cases ht : p = t
  · subst ht; simp [h]
  · simp [ht]
theorem shr128 {r : Nat} (h : r < 8) : (128 : Int) / 2 ^ r = ((2 ^ (7 - r) : Nat) : Int) := by
  match r, h with
  | 0, _ => rfl
  | 1, _ => rfl
  | 2, _ => rfl
  | 3, _ => rfl
  | 4, _ => rfl
  | 5, _ => rfl
  | 6, _ => rfl
  | 7, _ => rfl
theorem zero_bytes (w : World) (n : Nat) : VRow (w.alloc (.cells (madeCells #[.int .u8 0] n) 5)) w.heap.size n 0 := Row.made _ _ _ _ _ (fun j hj => by rw [madeCells_get _ _ _ hj, byteAt_zero]; rfl)
/-- What the closure leaves. -/
def Made (c t : Nat) (w w' : World) : Prop := ∃ gl be bl, w'.cell? ⟨c, 11, none⟩ = some (.int .i64 ((13 * t : Nat) : Int)) ∧ w'.cell? ⟨c, 12, none⟩ = some (.slice (some ⟨gl, 0, none⟩) (parN t) (parN t)) ∧ VRow w' gl (parN t) (lowN t) ∧
  FieldReady w' c 5 be bl ∧ Only c 5 13 w w' ∧ gl ≠ c ∧ gl ≠ be ∧ gl ≠ bl ∧ gl < w'.heap.size

set_option maxHeartbeats 6400000 in
set_option maxRecDepth 100000 in
theorem ready1_any (c p t : Nat) (v11 v12 : Value) (w : World) (ht1 : 1 ≤ t) (ht8 : t ≤ 8) (hp : w.cell? ⟨p, 0, none⟩ = some (.pointer (some ⟨c, 0, none⟩))) (h0 : w.cell? ⟨c, 0, none⟩ = some (.int .i64 (t : Int)))
    (h11 : w.cell? ⟨c, 11, none⟩ = some v11) (h12 : w.cell? ⟨c, 12, none⟩ = some v12) (hf : FieldAt w c 5) (hz : ∀ o, w.frozen? ⟨c, o, none⟩ = false) (hpc : p ≠ c) :
    Calls Try.prog 30 #[.pointer (some ⟨p, 0, none⟩)] w fun e w' => e = .returned (.tuple #[]) ∧ Made c t w w' := by
  have lc := hf.lt
  have lp : p < w.heap.size := World.block_lt_of_cell? _ _ hp
  have HF := Lib.hid hf
  have HZ := Lib.hid hz
  have Hh0 := Lib.hid h0
  have Hp := Lib.hid hp
  have H11 := Lib.hid h11
  have H12 := Lib.hid h12
  have HGEN := Lib.hid (generator_any c 5 t ht1 ht8 w.drew (by
    rcases hf with h | ⟨be, bl, h⟩
    · exact .inl (h.stays (S := fun _ => False) ((Stays.refl _ _).drew) id)
    · exact .inr ⟨be, bl, h.drew⟩))
  clear hf hz h11 h12
  go_enter Try.func30, Try.ntmps30
  go_upto_region 0 with fail
  go_cut [1] (fun gv w1 => Hid (PolyIn w1 w.heap.size gv (genA t)) ∧ Hid (Readied c 5 w.drew w1))
  case first =>
    go_region_with (go_at_call 31; refine HGEN.out.mono ?_; rintro e w1 ⟨gv, rfl, hpoly, hq⟩; have HPOLY := Lib.hid hpoly; have HQ := Lib.hid hq; clear hpoly hq)
    all_goals
      go_wp2_with fail
      go_meet
      case rel => exact ⟨HPOLY, HQ⟩
  case rest =>
    obtain ⟨HPOLY, HQ⟩ := hcut
    obtain ⟨w1, rfl⟩ : ∃ w1 : World, w1 = wc := ⟨_, rfl⟩
    clear HGEN
    obtain ⟨gg, cg, hgv, hgg1, hgg2, hgi⟩ := HPOLY.out.at (gen_ne (by omega))
    subst hgv
    rw [terms_rest (by omega)] at hgi ⊢
    obtain ⟨be, bl, hr, ho, _⟩ := HQ.out
    have hrl : (restL t).length ≤ 104 := by
      have := bl_length (13 * t) (genA t)
      unfold restL; omega
    have hrs := rest_sum (show t < 9 by omega)
    have hre : ∀ e ∈ restL t, e < 13 * t := fun e he => (bl_mem he).1
    have hsplit : ∀ (e : Nat) (T U : List Nat), restL t = T ++ e :: U → ∀ x ∈ T, e < x := fun e T U h => bl_split h
    have hps := par_spare t
    have hlow : (sumL 0 (restL t)) <<< spare t = lowN t := by rw [hrs]; rfl
    have hr1 : 1 ≤ (restL t).length := by
      rcases Nat.eq_zero_or_pos (restL t).length with h | h
      · exfalso
        have := List.length_eq_zero_iff.mp h
        have h2 := rest_sum (show t < 9 by omega)
        rw [this] at h2
        have h3 : genA t = 2 ^ (13 * t) := by
          have h4 : genA t ^^^ 2 ^ (13 * t) = 0 := h2.symm
          have h5 : (genA t ^^^ 2 ^ (13 * t)) ^^^ 2 ^ (13 * t) = 0 ^^^ 2 ^ (13 * t) := by rw [h4]
          rw [Nat.xor_assoc, Nat.xor_self, Nat.xor_zero, Nat.zero_xor] at h5
          exact h5
        exact (by decide +kernel : ∀ t, t < 9 → 0 < t → genA t ≠ 2 ^ (13 * t)) t (by omega) (by omega) h3
      · exact h
    obtain ⟨d, hd⟩ : ∃ d, d = 13 * t := ⟨_, rfl⟩
    obtain ⟨nb, hnb⟩ : ∃ nb, nb = parN t := ⟨_, rfl⟩
    obtain ⟨s, hs⟩ : ∃ s, s = spare t := ⟨_, rfl⟩
    obtain ⟨RL, hRL⟩ : ∃ RL, RL = restL t := ⟨_, rfl⟩
    obtain ⟨LOW, hLOW⟩ : ∃ LOW, LOW = lowN t := ⟨_, rfl⟩
    rw [← hd, ← hRL] at hgi
    rw [← hRL] at hrl hre hsplit hlow hr1
    rw [← hd] at hre hps
    rw [← hnb, ← hs] at hps
    rw [← hs, ← hLOW] at hlow
    rw [← hd, ← hRL]
    have hnbd : nb = (d + 7) / 8 := by rw [hnb, hd]; rfl
    have hd104 : d ≤ 104 := by omega
    have hd13 : 13 ≤ d := by omega
    have hnb0 : 0 < nb := by omega
    have hnb13 : nb ≤ 13 := by omega
    have hs8 : s < 8 := by omega
    have hcg : (RL.length + 1) ≤ cg := by
      have := own_cap HPOLY.out
      rw [terms_rest (by omega), ← hRL] at this
      exact this
    have hmk := make_bytes nb (by omega)
    have hdi : ((d : Int) + 7) / 8 = (nb : Int) := by omega
    have hcg0 : w1.cell? ⟨gg, 0, none⟩ = some (.int .i64 (d : Int)) := hgi 0 (by simp)
    have q1 : w1.cell? ⟨p, 0, none⟩ = some (.pointer (some ⟨c, 0, none⟩)) := ho.cell ((World.cell?_drew _ _).trans Hp.out) (fun e => absurd e hpc)
    have q11 : w1.cell? ⟨c, 11, none⟩ = some v11 := ho.cell ((World.cell?_drew _ _).trans H11.out) (fun _ => by omega)
    have q12 : w1.cell? ⟨c, 12, none⟩ = some v12 := ho.cell ((World.cell?_drew _ _).trans H12.out) (fun _ => by omega)
    have qf : ∀ o, w1.frozen? ⟨c, o, none⟩ = false := fun o => (ho.fz o).trans ((World.frozen?_drew _ _).trans (HZ.out o))
    have qf11 := qf 11
    have qf12 := qf 12
    have hwsz : w.heap.size ≤ w1.heap.size := ho.st.size
    have hggc : gg ≠ c := by omega
    have HPS := Lib.hid hps
    have HD := Lib.hid hd
    have HNB := Lib.hid hnb
    have HS := Lib.hid hs
    have HRL := Lib.hid hRL
    have HLOW := Lib.hid hLOW
    have HSUM := Lib.hid hlow
    have HRE := Lib.hid hre
    have HSP := Lib.hid hsplit
    have HGI := Lib.hid hgi
    have HR := Lib.hid hr
    have HO := Lib.hid ho
    have HNBD := Lib.hid hnbd
    clear hps hd hnb hs hRL hLOW hlow hre hsplit hgi hr ho hrs qf HQ HPOLY h0 hnbd
    have hpw : p < w1.heap.size := by omega
    have hcw : c < w1.heap.size := by omega
    go_wp2_with fail
    go_region
    have hq1 : IntKind.i64.wrap ((d : Int) + 7) = (d : Int) + 7 := (IntWalk.i64_left _).trans (IntWalk.wrap64_in _ (by omega))
    have hq2 : IntKind.i64.wrap (((d : Int) + 7).tdiv 8) = (nb : Int) := by
      have e : ((d : Int) + 7).tdiv 8 = (nb : Int) := by rw [Int.tdiv_eq_ediv_of_nonneg (by omega)]; exact hdi
      rw [e]; exact (IntWalk.i64_left _).trans (IntWalk.wrap64_in _ (by omega))
    go_wp2_with fail
    go_region
    clear hq1 hq2
    go_wp2_with fail
    obtain ⟨gl, hgl⟩ : ∃ g, g = w1.heap.size := ⟨_, rfl⟩
    rw [← hgl]
    obtain ⟨w5, hw5⟩ : ∃ w5 : World, w5 = (((w1.setCell ⟨c, 11, none⟩ (.int .i64 (d : Int))).setCell ⟨c, 12, none⟩ (.slice (some ⟨gl, 0, none⟩) nb nb)).alloc (.cells (madeCells #[.int .u8 0] nb) 5)).drew.drew := ⟨_, rfl⟩
    rw [← hw5]
    have o5 : Only c 11 13 w1 w5 := by rw [hw5]; exact ((((Only.refl c 11 13 w1).setCell (by omega) (by omega) _).setCell (by omega) (by omega) _).alloc hcw _).drew.drew
    have HR5 := Lib.hid (HR.out.only o5 (.inr (by omega)))
    have HO5 : Hid (Only c 5 13 w w5) := Lib.hid ((((Only.refl c 5 13 w).drew).trans (HO.out.mono (by omega) (by omega))).trans (o5.mono (by omega) (by omega)))
    have r1 : w5.cell? ⟨p, 0, none⟩ = some (.pointer (some ⟨c, 0, none⟩)) := o5.cell q1 (fun e => absurd e hpc)
    have r11 : w5.cell? ⟨c, 11, none⟩ = some (.int .i64 (d : Int)) := by
      rw [hw5, World.cell?_drew, World.cell?_drew, World.cell?_alloc_lt _ _ _ (by simpa using hcw), World.cell?_setCell_other _ _ _ _ (addr_ne_off (by omega))]
      exact World.cell?_setCell_same _ _ _ q11
    have r12 : w5.cell? ⟨c, 12, none⟩ = some (.slice (some ⟨gl, 0, none⟩) nb nb) := by
      rw [hw5, World.cell?_drew, World.cell?_drew, World.cell?_alloc_lt _ _ _ (by simpa using hcw)]
      exact World.cell?_setCell_same _ _ _ ((World.cell?_setCell_other _ _ _ _ (addr_ne_off (by omega))).trans q12)
    have hgz : ((w1.setCell ⟨c, 11, none⟩ (.int .i64 (d : Int))).setCell ⟨c, 12, none⟩ (.slice (some ⟨gl, 0, none⟩) nb nb)).heap.size = gl := by rw [hgl]; simp
    have hz5 : VRow w5 gl nb 0 := by
      have hzb := zero_bytes ((w1.setCell ⟨c, 11, none⟩ (.int .i64 (d : Int))).setCell ⟨c, 12, none⟩ (.slice (some ⟨gl, 0, none⟩) nb nb)) nb
      rw [hgz] at hzb
      rw [hw5]
      exact Row.drew (Row.drew hzb)
    have hgl5 : gl < w5.heap.size := World.block_lt_of_cell? _ _ (hz5.cell 0 hnb0)
    have HZ5 := Lib.hid hz5
    have HGI5 : Hid (∀ W, Stays (· = gl) w5 W → ∀ j, j < RL.length → W.cell? ⟨gg, j + 1, none⟩ = some (intV (RL.getD j 0))) := Lib.hid (fun W hW j hj => by
      have h1 := HGI.out (j + 1) (by rw [List.length_cons]; omega)
      have h2 : w5.cell? ⟨gg, j + 1, none⟩ = _ := o5.cell h1 (fun e => absurd e hggc)
      exact hW.cell h2 (by show gg ≠ gl; omega))
    have n1 : gl ≠ c := by omega
    have n2 : gl ≠ be := by have := HR.out.lt1; omega
    have n3 : gl ≠ bl := by have := HR.out.lt2; omega
    have n4 : p ≠ gl := by omega
    have hgw : w.heap.size ≤ gl := by omega
    have HR1 := Lib.hid (And.intro r1 (And.intro r11 r12))
    clear hw5 o5 hgz hz5 hgl r1 r11 r12 q1 q11 q12 qf11 qf12 hcg0 HGI HR HO hmk hdi
    go_loopw [36] (fun iv wr => ∃ q : Nat, q ≤ RL.length ∧ iv = .int .i64 (q : Int) ∧ Hid (VRow wr gl nb ((sumL 0 (RL.take q)) <<< s)) ∧ Hid (Stays (· = gl) w5 wr)) (fun iv _ => RL.length - (intOf iv).toNat)
    case atStart => exact ⟨0, Nat.zero_le _, rfl, Lib.hid (by have := HZ5.out; simpa [sumL] using this), Lib.hid (Stays.refl _ _)⟩
    case round =>
      obtain ⟨q, hq, rfl, HV, HSt⟩ := hrel
      obtain ⟨wq, rfl⟩ : ∃ wq : World, wq = wr := ⟨_, rfl⟩
      by_cases hlt : q < RL.length
      · obtain ⟨e, he⟩ : ∃ e, e = RL.getD q 0 := ⟨_, rfl⟩
        have hel : RL[q]? = some e := by
          rw [he, List.getD_eq_getElem?_getD, List.getElem?_eq_getElem hlt]; rfl
        have hed : e < d := HRE.out e (List.mem_of_getElem? hel)
        have c1 : wq.cell? ⟨gg, 1 + q, none⟩ = some (.int .i64 (e : Int)) := by
          have := HGI5.out wq HSt.out q hlt
          rw [← he, Nat.add_comm] at this
          exact this
        have c0 : wq.cell? ⟨p, 0, none⟩ = some (.pointer (some ⟨c, 0, none⟩)) := HSt.out.cell HR1.out.1 n4
        have c11 : wq.cell? ⟨c, 11, none⟩ = some (.int .i64 (d : Int)) := HSt.out.cell HR1.out.2.1 (Ne.symm n1)
        have c12 : wq.cell? ⟨c, 12, none⟩ = some (.slice (some ⟨gl, 0, none⟩) nb nb) := HSt.out.cell HR1.out.2.2 (Ne.symm n1)
        have hT : RL.take (q + 1) = RL.take q ++ [e] := by rw [List.take_add_one, hel]; rfl
        have hT2 : RL = RL.take q ++ e :: RL.drop (q + 1) := by
          have h1 := List.take_append_drop (q + 1) RL
          rw [hT] at h1
          rw [List.append_assoc] at h1
          exact h1.symm
        have hnone : (sumL 0 (RL.take q)).testBit e = false := sumL_none (fun x hx => HSP.out e _ _ hT2 x hx) (by simp)
        obtain ⟨k, hk⟩ : ∃ k, k = d - 1 - e := ⟨_, rfl⟩
        have hki : (d : Int) - 1 - (e : Int) = (k : Int) := by omega
        have hkd : k < d := by omega
        have hkn : k < 8 * nb := by have := HPS.out; omega
        obtain ⟨X, hX⟩ : ∃ X, X = (sumL 0 (RL.take q)) <<< s := ⟨_, rfl⟩
        have hpos : 8 * nb - 1 - k = s + e := by have := HPS.out; omega
        have hXb : X.testBit (8 * nb - 1 - k) = false := by
          rw [hX, Nat.testBit_shiftLeft, hpos, Nat.add_sub_cancel_left, hnone]; simp
        have hnx : (sumL 0 (RL.take (q + 1))) <<< s = X ^^^ 2 ^ (8 * nb - 1 - k) := by
          rw [hT, sumL_snoc, Nat.shiftLeft_xor_distrib, ← hX, hpos]
          congr 1
          rw [Nat.shiftLeft_eq, ← Nat.pow_add, Nat.add_comm]
        rw [← hX] at HV
        obtain ⟨qq, hqq⟩ : ∃ qq, qq = k / 8 := ⟨_, rfl⟩
        obtain ⟨r, hr⟩ : ∃ r, r = k % 8 := ⟨_, rfl⟩
        have hqi : (k : Int) / 8 = (qq : Int) := by omega
        have hri : (k : Int) % 8 = (r : Int) := by omega
        have hr8 : r < 8 := by omega
        have hqn : qq < nb := by omega
        have hqnI : (qq : Int) < (nb : Int) := by omega
        have cb : wq.cell? ⟨gl, qq, none⟩ = some (.int .u8 ((byteAt nb X qq : Nat) : Int)) := HV.out.cell qq hqn
        have fb := HV.out.free qq
        have bb := byteAt_lt nb X qq
        have hbit : (byteAt nb X qq).testBit (7 - r) = false := by
          rw [byteAt_bit]
          have e1 : 8 * (nb - 1 - qq) + (7 - r) = 8 * nb - 1 - k := by omega
          rw [e1, hXb]; simp
        have hset : ∀ j, j < nb → byteAt nb (X ^^^ 2 ^ (8 * nb - 1 - k)) j = if j = qq then byteAt nb X qq ||| 2 ^ (7 - r) else byteAt nb X j := fun j hj => by
          rw [byte_set hkn j hj, ← hqq, ← hr]
          split <;> rename_i hjq
          · subst hjq; rw [or_is_xor hbit]
          · rfl
        obtain ⟨y, hy⟩ : ∃ y, y = byteAt nb X qq := ⟨_, rfl⟩
        rw [← hy] at cb bb hset
        have hor := or_u8 y (2 ^ (7 - r)) bb (Nat.lt_of_le_of_lt (Nat.pow_le_pow_right (by decide) (show 7 - r ≤ 7 by omega)) (by decide))
        have h128 := shr128 hr8
        have hRow : VRow (wq.setCell ⟨gl, qq, none⟩ (.int .u8 ((y ||| 2 ^ (7 - r) : Nat) : Int))).drew gl nb ((sumL 0 (RL.take (q + 1))) <<< s) := by
          rw [hnx]
          refine ((Row.set HV.out qq _).congr fun j hj => ?_).drew
          rw [hset j hj]
          by_cases ej : j = qq
          · subst ej; rw [upd_same, if_pos rfl]
          · rw [upd_other _ _ ej, if_neg ej]
        obtain ⟨z, hz⟩ : ∃ z, z = 2 ^ (7 - r) := ⟨_, rfl⟩
        rw [← hz] at hor h128 hRow
        obtain ⟨u, hu⟩ : ∃ u, u = y ||| z := ⟨_, rfl⟩
        rw [← hu] at hor hRow
        have HROW := Lib.hid hRow
        have hqL : (q : Int) < (RL.length : Int) := by omega
        clear he hel hT hT2 hnone hk hX hpos hXb hnx hqq hr hbit hset hy hz hu hRow
        go_wp2_with fail
        go_region
        go_wp2_with fail
        go_roundw
        case rel => exact ⟨q + 1, by omega, by go_num, HROW, Lib.hid (HSt.out.trans Row.stay).drew⟩
        case measure => simp [intOf]; omega
      · obtain rfl : q = RL.length := by omega
        go_wp2_with fail
        go_end0
        have hv := HV.out
        rw [List.take_length, HSUM.out, HLOW.out, HNB.out] at hv
        have h12 := HSt.out.cell HR1.out.2.2 (Ne.symm n1)
        have h11 := HSt.out.cell HR1.out.2.1 (Ne.symm n1)
        rw [HNB.out] at h12
        rw [HD.out] at h11
        have hsz := HSt.out.size
        exact ⟨rfl, gl, be, bl, h11, h12, hv, HR5.out.stays HSt.out (Ne.symm n1) (Ne.symm n2) (Ne.symm n3), HO5.out.new HSt.out (fun q hq => by have : q = gl := hq; omega) lc, n1, n2, n3, by omega⟩
end Go.Proofs.Ytldekkniammllaa
