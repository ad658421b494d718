/- A code; encoding, and the document's. -/
import Derived.Test.YtgfjeaegigjnaaaGreatDoorPgL
import Derived.Deep.DeepCutAuto
import Derived.Test.YtgfjeaegigjnaaaGreatDoorPgE
namespace Go.Proofs.YtgfjeaegigjnaaaGreatDoor
open Go.RowKit
set_option linter.unusedVariables false
set_option linter.unusedSimpArgs false

/-- How many bytes a parity has, how many spare bits, the generator's row. -/
def parN (t : Nat) : Nat := (13 * t + 7) / 8
def spare (t : Nat) : Nat := 8 * parN t - 13 * t
def lowN (t : Nat) : Nat := ((genA t) ^^^ 2 ^ (13 * t)) <<< spare t
theorem par_spare (t : Nat) : 8 * parN t = 13 * t + spare t := by unfold spare parN; omega
/-- The exponents but the highest. -/
def restL (t : Nat) : List Nat := bl (13 * t) (genA t)
theorem terms_rest {t : Nat} (h : t < 9) : terms (genA t) = 13 * t :: restL t := by
  have hl := gen_log h
  unfold terms restL
  rw [hl]
  have hb : (genA t).testBit (13 * t) = true := by rw [← hl]; exact Nat.testBit_log2 (gen_ne h)
  show (if (genA t).testBit (13 * t) then _ else _) = _
  rw [hb]; rfl
theorem rest_sum {t : Nat} (h : t < 9) : sumL 0 (restL t) = (genA t) ^^^ 2 ^ (13 * t) := by
  have h1 := terms_sum (genA t)
  rw [terms_rest h] at h1
  have h2 : sumL 0 (13 * t :: restL t) = sumL (0 ^^^ 2 ^ (13 * t)) (restL t) := rfl
  rw [h2, sumL_acc, Nat.zero_xor] at h1
  rw [← h1, Nat.xor_comm (2 ^ (13 * t)), Nat.xor_assoc, Nat.xor_self, Nat.xor_zero]
theorem bl_split {n A e : Nat} {T U : List Nat} (h : bl n A = T ++ e :: U) : ∀ x ∈ T, e < x := by
  induction n generalizing T with
  | zero => simp [bl] at h
  | succ n ih =>
    unfold bl at h
    split at h
    · cases T with
      | nil => intro x hx; cases hx
      | cons y T =>
        rw [List.cons_append] at h
        injection h with h1 h2
        intro x hx
        rcases List.mem_cons.mp hx with h3 | h3
        · subst h3
          have : e ∈ bl n A := by rw [h2]; simp
          have := (bl_mem this).1
          omega
        · exact ih h2 x h3
    · exact ih h
theorem sumL_none {T : List Nat} {e acc : Nat} (h : ∀ x ∈ T, e < x) (ha : acc.testBit e = false) : (sumL acc T).testBit e = false := by
  induction T generalizing acc with
  | nil => exact ha
  | cons x T ih =>
    refine ih (acc := acc ^^^ 2 ^ x) (fun y hy => h y (List.mem_cons_of_mem _ hy)) ?_
    have := h x (List.mem_cons_self ..)
    rw [Nat.testBit_xor, Nat.testBit_two_pow, ha]
    have : ¬ (x = e) := by omega
    simp [this]
theorem or_is_xor {x p : Nat} (h : x.testBit p = false) : x ||| 2 ^ p = x ^^^ 2 ^ p := by
  apply Nat.eq_of_testBit_eq
  intro t
  rw [Nat.testBit_or, Nat.testBit_xor, Nat.testBit_two_pow]
  by_cases ht : p = t
  · subst ht; simp [h]
  · simp [ht]
theorem shr128 {r : Nat} (h : r < 8) : (128 : Int) / 2 ^ r = ((2 ^ (7 - r) : Nat) : Int) := by
  match r, h with
  | 0, _ => rfl
  | 1, _ => rfl
  | 2, _ => rfl
  | 3, _ => rfl
  | 4, _ => rfl
  | 5, _ => rfl
  | 6, _ => rfl
  | 7, _ => rfl
theorem zero_bytes (w : World) (n : Nat) : VRow (w.alloc (.cells (madeCells #[.int .u8 0] n) 5)) w.heap.size n 0 := Row.made _ _ _ _ _ (fun j hj => by rw [madeCells_getN _ _ _ hj, byteAt_zero]; rfl)
/-- What the closure leaves. -/
def Made (c t : Nat) (w w' : World) : Prop := ∃ gl be bl, w'.cell? ⟨c, 11, none⟩ = some (.int .i64 ((13 * t : Nat) : Int)) ∧ w'.cell? ⟨c, 12, none⟩ = some (.slice (some ⟨gl, 0, none⟩) (parN t) (parN t)) ∧ VRow w' gl (parN t) (lowN t) ∧
  FieldReady w' c 5 be bl ∧ Only c 5 13 w w' ∧ gl ≠ c ∧ gl ≠ be ∧ gl ≠ bl ∧ gl < w'.heap.size
set_option maxHeartbeats 6400000 in
set_option maxRecDepth 100000 in
theorem ready1_any (c p t : Nat) (v11 v12 : Value) (w : World) (ht1 : 1 ≤ t) (ht8 : t ≤ 8) (hp : w.cell? ⟨p, 0, none⟩ = some (.pointer (some ⟨c, 0, none⟩))) (h0 : w.cell? ⟨c, 0, none⟩ = some (.int .i64 (t : Int)))
    (h11 : w.cell? ⟨c, 11, none⟩ = some v11) (h12 : w.cell? ⟨c, 12, none⟩ = some v12) (hf : FieldAt w c 5) (hz : ∀ o, w.frozen? ⟨c, o, none⟩ = false) (hpc : p ≠ c) :
    Calls Tryz.prog 70 #[.pointer (some ⟨p, 0, none⟩)] w fun e w' => e = .returned (.tuple #[]) ∧ Made c t w w' := by
  have lc := hf.lt
  have lp : p < w.heap.size := World.block_lt_of_cell? _ _ hp
  have HF := Lib.hid hf
  have HZ := Lib.hid hz
  have Hh0 := Lib.hid h0
  have Hp := Lib.hid hp
  have H11 := Lib.hid h11
  have H12 := Lib.hid h12
  have HGEN := Lib.hid (generator_any c 5 t ht1 ht8 w.drew (by
    rcases hf with h | ⟨be, bl, h⟩
    · exact .inl (h.stays (S := fun _ => False) ((Stays.refl _ _).drew) id)
    · exact .inr ⟨be, bl, h.drew⟩))
  clear hf hz h11 h12
  go_enter Tryz.func70, Tryz.ntmps70
  go_upto_region 0 with fail
  go_cut [1] (fun gv w1 => Hid (PolyIn w1 w.heap.size gv (genA t)) ∧ Hid (Readied c 5 w.drew w1))
  case first =>
    go_region_with (go_at_call 71; refine HGEN.out.mono ?_; rintro e w1 ⟨gv, rfl, hpoly, hq⟩; have HPOLY := Lib.hid hpoly; have HQ := Lib.hid hq; clear hpoly hq)
    all_goals
      go_wp2_with fail
      go_meet
      case rel => exact ⟨HPOLY, HQ⟩
  case rest =>
    obtain ⟨HPOLY, HQ⟩ := hcut
    obtain ⟨w1, rfl⟩ : ∃ w1 : World, w1 = wc := ⟨_, rfl⟩
    clear HGEN
    obtain ⟨gg, cg, hgv, hgg1, hgg2, hgi⟩ := HPOLY.out.at (gen_ne (by omega))
    subst hgv
    rw [terms_rest (by omega)] at hgi ⊢
    obtain ⟨be, bl, hr, ho, _⟩ := HQ.out
    have hrl : (restL t).length ≤ 104 := by
      have := bl_length (13 * t) (genA t)
      unfold restL; omega
    have hrs := rest_sum (show t < 9 by omega)
    have hre : ∀ e ∈ restL t, e < 13 * t := fun e he => (bl_mem he).1
    have hsplit : ∀ (e : Nat) (T U : List Nat), restL t = T ++ e :: U → ∀ x ∈ T, e < x := fun e T U h => bl_split h
    have hps := par_spare t
    have hlow : (sumL 0 (restL t)) <<< spare t = lowN t := by rw [hrs]; rfl
    have hr1 : 1 ≤ (restL t).length := by
      rcases Nat.eq_zero_or_pos (restL t).length with h | h
      · exfalso
        have := List.length_eq_zero_iff.mp h
        have h2 := rest_sum (show t < 9 by omega)
        rw [this] at h2
        have h3 : genA t = 2 ^ (13 * t) := by
          have h4 : genA t ^^^ 2 ^ (13 * t) = 0 := h2.symm
          have h5 : (genA t ^^^ 2 ^ (13 * t)) ^^^ 2 ^ (13 * t) = 0 ^^^ 2 ^ (13 * t) := by rw [h4]
          rw [Nat.xor_assoc, Nat.xor_self, Nat.xor_zero, Nat.zero_xor] at h5
          exact h5
        exact (by decide +kernel : ∀ t, t < 9 → 0 < t → genA t ≠ 2 ^ (13 * t)) t (by omega) (by omega) h3
      · exact h
    obtain ⟨d, hd⟩ : ∃ d, d = 13 * t := ⟨_, rfl⟩
    obtain ⟨nb, hnb⟩ : ∃ nb, nb = parN t := ⟨_, rfl⟩
    obtain ⟨s, hs⟩ : ∃ s, s = spare t := ⟨_, rfl⟩
    obtain ⟨RL, hRL⟩ : ∃ RL, RL = restL t := ⟨_, rfl⟩
    obtain ⟨LOW, hLOW⟩ : ∃ LOW, LOW = lowN t := ⟨_, rfl⟩
    rw [← hd, ← hRL] at hgi
    rw [← hRL] at hrl hre hsplit hlow hr1
    rw [← hd] at hre hps
    rw [← hnb, ← hs] at hps
    rw [← hs, ← hLOW] at hlow
    rw [← hd, ← hRL]
    have hnbd : nb = (d + 7) / 8 := by rw [hnb, hd]; rfl
    have hd104 : d ≤ 104 := by omega
    have hd13 : 13 ≤ d := by omega
    have hnb0 : 0 < nb := by omega
    have hnb13 : nb ≤ 13 := by omega
    have hs8 : s < 8 := by omega
    have hcg : (RL.length + 1) ≤ cg := by
      have := own_cap HPOLY.out
      rw [terms_rest (by omega), ← hRL] at this
      exact this
    have hmk := make_bytes nb (by omega)
    have hdi : ((d : Int) + 7) / 8 = (nb : Int) := by omega
    have hcg0 : w1.cell? ⟨gg, 0, none⟩ = some (.int .i64 (d : Int)) := hgi 0 (by simp)
    have q1 : w1.cell? ⟨p, 0, none⟩ = some (.pointer (some ⟨c, 0, none⟩)) := ho.cell ((World.cell?_drew _ _).trans Hp.out) (fun e => absurd e hpc)
    have q11 : w1.cell? ⟨c, 11, none⟩ = some v11 := ho.cell ((World.cell?_drew _ _).trans H11.out) (fun _ => by omega)
    have q12 : w1.cell? ⟨c, 12, none⟩ = some v12 := ho.cell ((World.cell?_drew _ _).trans H12.out) (fun _ => by omega)
    have qf : ∀ o, w1.frozen? ⟨c, o, none⟩ = false := fun o => (ho.fz o).trans ((World.frozen?_drew _ _).trans (HZ.out o))
    have qf11 := qf 11
    have qf12 := qf 12
    have hwsz : w.heap.size ≤ w1.heap.size := ho.st.size
    have hggc : gg ≠ c := by omega
    have HPS := Lib.hid hps
    have HD := Lib.hid hd
    have HNB := Lib.hid hnb
    have HS := Lib.hid hs
    have HRL := Lib.hid hRL
    have HLOW := Lib.hid hLOW
    have HSUM := Lib.hid hlow
    have HRE := Lib.hid hre
    have HSP := Lib.hid hsplit
    have HGI := Lib.hid hgi
    have HR := Lib.hid hr
    have HO := Lib.hid ho
    have HNBD := Lib.hid hnbd
    clear hps hd hnb hs hRL hLOW hlow hre hsplit hgi hr ho hrs qf HQ HPOLY h0 hnbd
    have hpw : p < w1.heap.size := by omega
    have hcw : c < w1.heap.size := by omega
    go_wp2_with fail
    go_region
    have hq1 : IntKind.i64.wrap ((d : Int) + 7) = (d : Int) + 7 := (IntWalk.i64_left _).trans (IntWalk.wrap64_in _ (by omega))
    have hq2 : IntKind.i64.wrap (((d : Int) + 7).tdiv 8) = (nb : Int) := by
      have e : ((d : Int) + 7).tdiv 8 = (nb : Int) := by rw [Int.tdiv_eq_ediv_of_nonneg (by omega)]; exact hdi
      rw [e]; exact (IntWalk.i64_left _).trans (IntWalk.wrap64_in _ (by omega))
    go_wp2_with fail
    go_region
    clear hq1 hq2
    go_wp2_with fail
    obtain ⟨gl, hgl⟩ : ∃ g, g = w1.heap.size := ⟨_, rfl⟩
    rw [← hgl]
    obtain ⟨w5, hw5⟩ : ∃ w5 : World, w5 = (((w1.setCell ⟨c, 11, none⟩ (.int .i64 (d : Int))).setCell ⟨c, 12, none⟩ (.slice (some ⟨gl, 0, none⟩) nb nb)).alloc (.cells (madeCells #[.int .u8 0] nb) 5)).drew.drew := ⟨_, rfl⟩
    rw [← hw5]
    have o5 : Only c 11 13 w1 w5 := by rw [hw5]; exact ((((Only.refl c 11 13 w1).setCell (by omega) (by omega) _).setCell (by omega) (by omega) _).alloc hcw _).drew.drew
    have HR5 := Lib.hid (HR.out.only o5 (.inr (by omega)))
    have HO5 : Hid (Only c 5 13 w w5) := Lib.hid ((((Only.refl c 5 13 w).drew).trans (HO.out.mono (by omega) (by omega))).trans (o5.mono (by omega) (by omega)))
    have r1 : w5.cell? ⟨p, 0, none⟩ = some (.pointer (some ⟨c, 0, none⟩)) := o5.cell q1 (fun e => absurd e hpc)
    have r11 : w5.cell? ⟨c, 11, none⟩ = some (.int .i64 (d : Int)) := by
      rw [hw5, World.cell?_drew, World.cell?_drew, World.cell?_alloc_lt _ _ _ (by simpa using hcw), World.cell?_setCell_other _ _ _ _ (addr_ne_off (by omega))]
      exact World.cell?_setCell_same _ _ _ q11
    have r12 : w5.cell? ⟨c, 12, none⟩ = some (.slice (some ⟨gl, 0, none⟩) nb nb) := by
      rw [hw5, World.cell?_drew, World.cell?_drew, World.cell?_alloc_lt _ _ _ (by simpa using hcw)]
      exact World.cell?_setCell_same _ _ _ ((World.cell?_setCell_other _ _ _ _ (addr_ne_off (by omega))).trans q12)
    have hgz : ((w1.setCell ⟨c, 11, none⟩ (.int .i64 (d : Int))).setCell ⟨c, 12, none⟩ (.slice (some ⟨gl, 0, none⟩) nb nb)).heap.size = gl := by rw [hgl]; simp
    have hz5 : VRow w5 gl nb 0 := by
      have hzb := zero_bytes ((w1.setCell ⟨c, 11, none⟩ (.int .i64 (d : Int))).setCell ⟨c, 12, none⟩ (.slice (some ⟨gl, 0, none⟩) nb nb)) nb
      rw [hgz] at hzb
      rw [hw5]
      exact Row.drew (Row.drew hzb)
    have hgl5 : gl < w5.heap.size := World.block_lt_of_cell? _ _ (hz5.cell 0 hnb0)
    have HZ5 := Lib.hid hz5
    have HGI5 : Hid (∀ W, Stays (· = gl) w5 W → ∀ j, j < RL.length → W.cell? ⟨gg, j + 1, none⟩ = some (intV (RL.getD j 0))) := Lib.hid (fun W hW j hj => by
      have h1 := HGI.out (j + 1) (by rw [List.length_cons]; omega)
      have h2 : w5.cell? ⟨gg, j + 1, none⟩ = _ := o5.cell h1 (fun e => absurd e hggc)
      exact hW.cell h2 (by show gg ≠ gl; omega))
    have n1 : gl ≠ c := by omega
    have n2 : gl ≠ be := by have := HR.out.lt1; omega
    have n3 : gl ≠ bl := by have := HR.out.lt2; omega
    have n4 : p ≠ gl := by omega
    have hgw : w.heap.size ≤ gl := by omega
    have HR1 := Lib.hid (And.intro r1 (And.intro r11 r12))
    clear hw5 o5 hgz hz5 hgl r1 r11 r12 q1 q11 q12 qf11 qf12 hcg0 HGI HR HO hmk hdi
    go_loopw [36] (fun iv wr => ∃ q : Nat, q ≤ RL.length ∧ iv = .int .i64 (q : Int) ∧ Hid (VRow wr gl nb ((sumL 0 (RL.take q)) <<< s)) ∧ Hid (Stays (· = gl) w5 wr)) (fun iv _ => RL.length - (intOf iv).toNat)
    case atStart => exact ⟨0, Nat.zero_le _, rfl, Lib.hid (by have := HZ5.out; simpa [sumL] using this), Lib.hid (Stays.refl _ _)⟩
    case round =>
      obtain ⟨q, hq, rfl, HV, HSt⟩ := hrel
      obtain ⟨wq, rfl⟩ : ∃ wq : World, wq = wr := ⟨_, rfl⟩
      by_cases hlt : q < RL.length
      · obtain ⟨e, he⟩ : ∃ e, e = RL.getD q 0 := ⟨_, rfl⟩
        have hel : RL[q]? = some e := by
          rw [he, List.getD_eq_getElem?_getD, List.getElem?_eq_getElem hlt]; rfl
        have hed : e < d := HRE.out e (List.mem_of_getElem? hel)
        have c1 : wq.cell? ⟨gg, 1 + q, none⟩ = some (.int .i64 (e : Int)) := by
          have := HGI5.out wq HSt.out q hlt
          rw [← he, Nat.add_comm] at this
          exact this
        have c0 : wq.cell? ⟨p, 0, none⟩ = some (.pointer (some ⟨c, 0, none⟩)) := HSt.out.cell HR1.out.1 n4
        have c11 : wq.cell? ⟨c, 11, none⟩ = some (.int .i64 (d : Int)) := HSt.out.cell HR1.out.2.1 (Ne.symm n1)
        have c12 : wq.cell? ⟨c, 12, none⟩ = some (.slice (some ⟨gl, 0, none⟩) nb nb) := HSt.out.cell HR1.out.2.2 (Ne.symm n1)
        have hT : RL.take (q + 1) = RL.take q ++ [e] := by rw [List.take_add_one, hel]; rfl
        have hT2 : RL = RL.take q ++ e :: RL.drop (q + 1) := by
          have h1 := List.take_append_drop (q + 1) RL
          rw [hT] at h1
          rw [List.append_assoc] at h1
          exact h1.symm
        have hnone : (sumL 0 (RL.take q)).testBit e = false := sumL_none (fun x hx => HSP.out e _ _ hT2 x hx) (by simp)
        obtain ⟨k, hk⟩ : ∃ k, k = d - 1 - e := ⟨_, rfl⟩
        have hki : (d : Int) - 1 - (e : Int) = (k : Int) := by omega
        have hkd : k < d := by omega
        have hkn : k < 8 * nb := by have := HPS.out; omega
        obtain ⟨X, hX⟩ : ∃ X, X = (sumL 0 (RL.take q)) <<< s := ⟨_, rfl⟩
        have hpos : 8 * nb - 1 - k = s + e := by have := HPS.out; omega
        have hXb : X.testBit (8 * nb - 1 - k) = false := by
          rw [hX, Nat.testBit_shiftLeft, hpos, Nat.add_sub_cancel_left, hnone]; simp
        have hnx : (sumL 0 (RL.take (q + 1))) <<< s = X ^^^ 2 ^ (8 * nb - 1 - k) := by
          rw [hT, sumL_snoc, Nat.shiftLeft_xor_distrib, ← hX, hpos]
          congr 1
          rw [Nat.shiftLeft_eq, ← Nat.pow_add, Nat.add_comm]
        rw [← hX] at HV
        obtain ⟨qq, hqq⟩ : ∃ qq, qq = k / 8 := ⟨_, rfl⟩
        obtain ⟨r, hr⟩ : ∃ r, r = k % 8 := ⟨_, rfl⟩
        have hqi : (k : Int) / 8 = (qq : Int) := by omega
        have hri : (k : Int) % 8 = (r : Int) := by omega
        have hr8 : r < 8 := by omega
        have hqn : qq < nb := by omega
        have hqnI : (qq : Int) < (nb : Int) := by omega
        have cb : wq.cell? ⟨gl, qq, none⟩ = some (.int .u8 ((byteAt nb X qq : Nat) : Int)) := HV.out.cell qq hqn
        have fb := HV.out.free qq
        have bb := byteAt_lt nb X qq
        have hbit : (byteAt nb X qq).testBit (7 - r) = false := by
          rw [byteAt_bit]
          have e1 : 8 * (nb - 1 - qq) + (7 - r) = 8 * nb - 1 - k := by omega
          rw [e1, hXb]; simp
        have hset : ∀ j, j < nb → byteAt nb (X ^^^ 2 ^ (8 * nb - 1 - k)) j = if j = qq then byteAt nb X qq ||| 2 ^ (7 - r) else byteAt nb X j := fun j hj => by
          rw [byte_set hkn j hj, ← hqq, ← hr]
          split <;> rename_i hjq
          · subst hjq; rw [or_is_xor hbit]
          · rfl
        obtain ⟨y, hy⟩ : ∃ y, y = byteAt nb X qq := ⟨_, rfl⟩
        rw [← hy] at cb bb hset
        have hor := or_u8 y (2 ^ (7 - r)) bb (Nat.lt_of_le_of_lt (Nat.pow_le_pow_right (by decide) (show 7 - r ≤ 7 by omega)) (by decide))
        have h128 := shr128 hr8
        have hRow : VRow (wq.setCell ⟨gl, qq, none⟩ (.int .u8 ((y ||| 2 ^ (7 - r) : Nat) : Int))).drew gl nb ((sumL 0 (RL.take (q + 1))) <<< s) := by
          rw [hnx]
          refine ((Row.set HV.out qq _).congr fun j hj => ?_).drew
          rw [hset j hj]
          by_cases ej : j = qq
          · subst ej; rw [upd_same, if_pos rfl]
          · rw [upd_other _ _ ej, if_neg ej]
        obtain ⟨z, hz⟩ : ∃ z, z = 2 ^ (7 - r) := ⟨_, rfl⟩
        rw [← hz] at hor h128 hRow
        obtain ⟨u, hu⟩ : ∃ u, u = y ||| z := ⟨_, rfl⟩
        rw [← hu] at hor hRow
        have HROW := Lib.hid hRow
        have hqL : (q : Int) < (RL.length : Int) := by omega
        clear he hel hT hT2 hnone hk hX hpos hXb hnx hqq hr hbit hset hy hz hu hRow
        go_wp2_with fail
        go_region
        go_wp2_with fail
        go_roundw
        case rel => exact ⟨q + 1, by omega, by go_num, HROW, Lib.hid (HSt.out.trans Row.stay).drew⟩
        case measure => simp [intOf]; omega
      · obtain rfl : q = RL.length := by omega
        go_wp2_with fail
        go_end0
        have hv := HV.out
        rw [List.take_length, HSUM.out, HLOW.out, HNB.out] at hv
        have h12 := HSt.out.cell HR1.out.2.2 (Ne.symm n1)
        have h11 := HSt.out.cell HR1.out.2.1 (Ne.symm n1)
        rw [HNB.out] at h12
        rw [HD.out] at h11
        have hsz := HSt.out.size
        exact ⟨rfl, gl, be, bl, h11, h12, hv, HR5.out.stays HSt.out (Ne.symm n1) (Ne.symm n2) (Ne.symm n3), HO5.out.new HSt.out (fun q hq => by have : q = gl := hq; omega) lc, n1, n2, n3, by omega⟩
end Go.Proofs.YtgfjeaegigjnaaaGreatDoor

namespace Go.Proofs.YtgfjeaegigjnaaaGreatDoor
open Go.RowKit
set_option linter.unusedVariables false
set_option linter.unusedSimpArgs false

structure CodeFresh (w : World) (c t chunk : Nat) : Prop where
  h0 : w.cell? ⟨c, 0, none⟩ = some (.int .i64 (t : Int))
  h1 : w.cell? ⟨c, 1, none⟩ = some (.int .i64 (chunk : Int))
  h2 : w.cell? ⟨c, 2, none⟩ = some (.int .u32 0)
  h3 : w.cell? ⟨c, 3, none⟩ = some (.int .i32 0)
  h11 : ∃ v, w.cell? ⟨c, 11, none⟩ = some v
  h12 : ∃ v, w.cell? ⟨c, 12, none⟩ = some v
  field : FieldAt w c 5
  free : ∀ o, w.frozen? ⟨c, o, none⟩ = false
structure CodeReady (w : World) (c t chunk gl be bl : Nat) : Prop where
  h0 : w.cell? ⟨c, 0, none⟩ = some (.int .i64 (t : Int))
  h1 : w.cell? ⟨c, 1, none⟩ = some (.int .i64 (chunk : Int))
  h2 : w.cell? ⟨c, 2, none⟩ = some (.int .u32 1)
  h3 : w.cell? ⟨c, 3, none⟩ = some (.int .i32 0)
  h11 : w.cell? ⟨c, 11, none⟩ = some (.int .i64 ((13 * t : Nat) : Int))
  h12 : w.cell? ⟨c, 12, none⟩ = some (.slice (some ⟨gl, 0, none⟩) (parN t) (parN t))
  low : VRow w gl (parN t) (lowN t)
  field : FieldReady w c 5 be bl
  n1 : gl ≠ c
  n2 : gl ≠ be
  n3 : gl ≠ bl
  lt : gl < w.heap.size
  free : ∀ o, w.frozen? ⟨c, o, none⟩ = false
def CodeAt (w : World) (c t chunk : Nat) : Prop := CodeFresh w c t chunk ∨ ∃ gl be bl, CodeReady w c t chunk gl be bl
section
variable {w w' : World} {c t chunk gl be bl lo hi : Nat} {S : Nat → Prop}
theorem CodeReady.lc (h : CodeReady w c t chunk gl be bl) : c < w.heap.size := World.block_lt_of_cell? _ _ h.h0
theorem CodeFresh.lc (h : CodeFresh w c t chunk) : c < w.heap.size := World.block_lt_of_cell? _ _ h.h0
theorem CodeAt.lc (h : CodeAt w c t chunk) : c < w.heap.size := by
  rcases h with h | ⟨_, _, _, h⟩ <;> exact h.lc
theorem CodeReady.stays (h : CodeReady w c t chunk gl be bl) (k : Stays S w w') (g0 : ¬ S c) (g1 : ¬ S gl) (g2 : ¬ S be) (g3 : ¬ S bl) : CodeReady w' c t chunk gl be bl :=
  ⟨k.cell h.h0 g0, k.cell h.h1 g0, k.cell h.h2 g0, k.cell h.h3 g0, k.cell h.h11 g0, k.cell h.h12 g0, h.low.stays k h.lt g1, h.field.stays k g0 g2 g3, h.n1, h.n2, h.n3, Nat.lt_of_lt_of_le h.lt k.size, fun o => (k.frozen (p := ⟨c, o, none⟩) g0 h.lc).trans (h.free o)⟩
theorem CodeReady.below (h : CodeReady w c t chunk gl be bl) (k : Below w.heap.size w w') : CodeReady w' c t chunk gl be bl := h.stays (S := fun _ => False) (Stays.of_below k) id id id id
theorem CodeFresh.stays (h : CodeFresh w c t chunk) (k : Stays S w w') (g0 : ¬ S c) (gf : ∀ be bl, FieldReady w c 5 be bl → ¬ S be ∧ ¬ S bl) : CodeFresh w' c t chunk :=
  ⟨k.cell h.h0 g0, k.cell h.h1 g0, k.cell h.h2 g0, k.cell h.h3 g0, h.h11.imp fun v hv => k.cell hv g0, h.h12.imp fun v hv => k.cell hv g0, by
    rcases h.field with f | ⟨be, bl, f⟩
    · exact .inl (f.stays k g0)
    · exact .inr ⟨be, bl, f.stays k g0 (gf be bl f).1 (gf be bl f).2⟩, fun o => (k.frozen (p := ⟨c, o, none⟩) g0 h.lc).trans (h.free o)⟩
theorem CodeAt.below (h : CodeAt w c t chunk) (k : Below w.heap.size w w') : CodeAt w' c t chunk := by
  rcases h with h | ⟨gl, be, bl, h⟩
  · exact .inl (h.stays (S := fun _ => False) (Stays.of_below k) id (fun _ _ _ => ⟨id, id⟩))
  · exact .inr ⟨gl, be, bl, h.below k⟩
end

set_option maxRecDepth 100000 in
set_option maxHeartbeats 1600000 in
theorem New_no (t chunk : Int) (h : t < 1 ∨ 8 < t ∨ chunk < 1 ∨ 256 < chunk) (w : World) :
    Calls Tryz.prog 48 #[.int .i64 t, .int .i64 chunk] w fun e w' => e = .returned (.tuple #[.pointer none, .int .i64 1]) ∧ w' = w := by
  by_cases h1 : t < 1
  · go_enter Tryz.func48, Tryz.ntmps48
    go_wp2_with fail
    go_ret2
    exact ⟨rfl, rfl⟩
  · by_cases h2 : 8 < t
    · go_enter Tryz.func48, Tryz.ntmps48
      go_wp2_with fail
      go_ret2
      exact ⟨rfl, rfl⟩
    · by_cases h3 : chunk < 1
      · go_enter Tryz.func48, Tryz.ntmps48
        go_wp2_with fail
        go_ret2
        exact ⟨rfl, rfl⟩
      · have h4 : 256 < chunk := by omega
        go_enter Tryz.func48, Tryz.ntmps48
        go_wp2_with fail
        go_ret2
        exact ⟨rfl, rfl⟩
set_option maxRecDepth 100000 in
set_option maxHeartbeats 1600000 in
theorem New_yes (t chunk : Nat) (h1 : 1 ≤ t) (h2 : t ≤ 8) (h3 : 1 ≤ chunk) (h4 : chunk ≤ 256) (w : World) :
    Calls Tryz.prog 48 #[.int .i64 (t : Int), .int .i64 (chunk : Int)] w fun e w' => e = .returned (.tuple #[.pointer (some ⟨w.heap.size, 0, none⟩), .int .i64 0]) ∧ CodeFresh w' w.heap.size t chunk ∧ Below w.heap.size w w' := by
  go_enter Tryz.func48, Tryz.ntmps48
  go_wp2_with fail
  go_ret2
  refine ⟨rfl, ⟨by go_simp, by go_simp, by go_simp, by go_simp, ⟨.int .i64 0, by go_simp⟩, ⟨.slice none 0 0, by go_simp⟩, .inl ⟨by go_simp, by go_simp, ⟨.slice none 0 0, by go_simp⟩, ⟨.slice none 0 0, by go_simp⟩, ⟨0, by go_simp⟩, fun o => by go_simp⟩, fun o => by go_simp⟩, (Below.refl _ _).alloc (Nat.le_refl _) _⟩
/-- Ready behind the call; only the code's own cells from 2 on may differ. -/
def Coded (c t chunk : Nat) (w w' : World) : Prop := ∃ gl be bl, CodeReady w' c t chunk gl be bl ∧ Only c 2 13 w w' ∧ ∀ gl' be' bl', CodeReady w c t chunk gl' be' bl' → gl' = gl ∧ be' = be ∧ bl' = bl
set_option maxRecDepth 100000 in
set_option maxHeartbeats 1600000 in
theorem ready_ready (c t chunk gl be bl : Nat) (w : World) (h : CodeReady w c t chunk gl be bl) :
    Calls Tryz.prog 49 #[.pointer (some ⟨c, 0, none⟩)] w fun e w' => e = .returned (.tuple #[]) ∧ w' = w.alloc (.cells #[.pointer (some ⟨c, 0, none⟩)] 65) := by
  have h0 := h.h2
  have lb := h.lc
  clear h
  go_enter Tryz.func49, Tryz.ntmps49
  go_wp2_with (go_at_call 69; refine (do_done ⟨c, 2, none⟩ 1 (by decide) _ _ (by go_simp)).mono ?_; rintro e w' ⟨rfl, rfl⟩)
  go_end0
  exact ⟨rfl, rfl⟩
set_option maxRecDepth 100000 in
set_option maxHeartbeats 1600000 in
theorem ready_fresh (c t chunk : Nat) (ht1 : 1 ≤ t) (ht8 : t ≤ 8) (w : World) (h : CodeFresh w c t chunk) :
    Calls Tryz.prog 49 #[.pointer (some ⟨c, 0, none⟩)] w fun e w' => e = .returned (.tuple #[]) ∧ Coded c t chunk w w' := by
  obtain ⟨h0, h1, h2, h3, ⟨v11, h11⟩, ⟨v12, h12⟩, hfld, hf⟩ := h
  have lc : c < w.heap.size := World.block_lt_of_cell? _ _ h0
  have nc : w.heap.size ≠ c := by omega
  have f2 := hf 2
  have f3 := hf 3
  have HF := Lib.hid hf
  obtain ⟨wa, hwa⟩ : ∃ wa : World, wa = (w.alloc (.cells #[.pointer (some ⟨c, 0, none⟩)] 65)).setCell ⟨c, 3, none⟩ (.int .i32 1) := ⟨_, rfl⟩
  have oa : Only c 3 4 w wa := by rw [hwa]; exact ((Only.refl c 3 4 w).alloc lc _).setCell (by omega) (by omega) _
  have fa : FieldAt wa c 5 := by
    rcases hfld with f | ⟨be, bl, f⟩
    · exact .inl (f.only oa (.inl (by omega)))
    · exact .inr ⟨be, bl, f.only oa (.inl (by omega))⟩
  have pa : wa.cell? ⟨w.heap.size, 0, none⟩ = some (.pointer (some ⟨c, 0, none⟩)) := by rw [hwa]; go_simp
  have ca3 : wa.cell? ⟨c, 3, none⟩ = some (.int .i32 1) := by rw [hwa]; go_simp
  have ca2 : wa.cell? ⟨c, 2, none⟩ = some (.int .u32 0) := oa.cell h2 (fun _ => by omega)
  have hfill := ready1_any c w.heap.size t v11 v12 wa ht1 ht8 pa (oa.cell h0 (fun _ => by omega)) (oa.cell h11 (fun _ => by omega)) (oa.cell h12 (fun _ => by omega)) fa (fun o => (oa.fz o).trans (hf o)) nc
  have hdo := do_code c 2 #[.pointer (some ⟨w.heap.size, 0, none⟩)] (fun w1 => Made c t wa w1) (w.alloc (.cells #[.pointer (some ⟨c, 0, none⟩)] 65)) (by go_simp) (by go_simp) (by go_simp) (by go_simp) (by
    rw [← hwa]
    refine hfill.mono fun e w1 ⟨he, hm⟩ => ?_
    obtain ⟨gl, be, bl, m1, m2, m3, m4, m5, m6, m7, m8, m9⟩ := hm
    exact ⟨he, m5.cell ca2 (fun _ => by omega), m5.cell ca3 (fun _ => by omega), (m5.fz _).trans ((oa.fz _).trans (hf _)), (m5.fz _).trans ((oa.fz _).trans (hf _)), gl, be, bl, m1, m2, m3, m4, m5, m6, m7, m8, m9⟩)
  have HD := Lib.hid hdo
  have HOA := Lib.hid oa
  have H0 := Lib.hid h0
  have H1 := Lib.hid h1
  have H2 := Lib.hid h2
  have HC := Lib.hid (And.intro ca2 ca3)
  clear hdo hfill hwa oa fa pa ca2 ca3 hf hfld h11 h12 h0 h1
  go_enter Tryz.func49, Tryz.ntmps49
  go_wp2_with (go_at_call 69; refine HD.out.mono ?_; rintro e w' ⟨rfl, hq⟩)
  go_end0
  refine ⟨rfl, ?_⟩
  obtain ⟨w1, ⟨gl, be, bl, m1, m2, m3, m4, m5, m6, m7, m8, m9⟩, rfl⟩ := hq
  have ob : Only c 2 4 w1 ((w1.drew.setCell ⟨c, 2, none⟩ (.int .u32 1)).setCell ⟨c, 3, none⟩ (.int .i32 0)) := ((Only.refl c 2 4 w1).drew.setCell (by omega) (by omega) _).setCell (by omega) (by omega) _
  have hall : Only c 2 13 w ((w1.drew.setCell ⟨c, 2, none⟩ (.int .u32 1)).setCell ⟨c, 3, none⟩ (.int .i32 0)) := ((HOA.out.mono (by omega) (by omega)).trans (m5.mono (by omega) (by omega))).trans (ob.mono (by omega) (by omega))
  have k2 : w1.cell? ⟨c, 2, none⟩ = some (.int .u32 0) := m5.cell HC.out.1 (fun _ => by omega)
  have k3 : w1.cell? ⟨c, 3, none⟩ = some (.int .i32 1) := m5.cell HC.out.2 (fun _ => by omega)
  refine ⟨gl, be, bl, ⟨hall.cell H0.out (fun _ => by omega), hall.cell H1.out (fun _ => by omega), ?_, ?_, ob.cell m1 (fun _ => by omega), ob.cell m2 (fun _ => by omega), Row.only m3 ob m9 m6, m4.only ob (.inl (by omega)), m6, m7, m8, Nat.lt_of_lt_of_le m9 ob.st.size, fun o => (hall.fz o).trans (HF.out o)⟩, hall, fun gl' be' bl' hk => ?_⟩
  · rw [World.cell?_setCell_other _ _ _ _ (addr_ne_off (by omega))]
    exact World.cell?_setCell_same _ _ _ (by rw [World.cell?_drew]; exact k2)
  · exact World.cell?_setCell_same _ _ _ ((World.cell?_setCell_other _ _ _ _ (addr_ne_off (by omega))).trans (by rw [World.cell?_drew]; exact k3))
  · have := hk.h2; rw [H2.out] at this; simp at this
theorem CodeReady.one {w : World} {c t chunk gl be bl gl' be' bl' : Nat} (h : CodeReady w c t chunk gl be bl) (k : CodeReady w c t chunk gl' be' bl') : gl' = gl ∧ be' = be ∧ bl' = bl := by
  have h1 := k.h12
  rw [h.h12] at h1
  simp at h1
  exact ⟨h1.symm, h.field.one k.field⟩
theorem ready_any (c t chunk : Nat) (ht1 : 1 ≤ t) (ht8 : t ≤ 8) (w : World) (h : CodeAt w c t chunk) :
    Calls Tryz.prog 49 #[.pointer (some ⟨c, 0, none⟩)] w fun e w' => e = .returned (.tuple #[]) ∧ Coded c t chunk w w' := by
  rcases h with h | ⟨gl, be, bl, h⟩
  · exact ready_fresh c t chunk ht1 ht8 w h
  · refine (ready_ready c t chunk gl be bl w h).mono fun e w' ⟨he, hw⟩ => ⟨he, gl, be, bl, ?_, ?_, fun gl' be' bl' hk => h.one hk⟩
    · rw [hw]; exact h.below ((Below.refl _ _).alloc (Nat.le_refl _) _)
    · rw [hw]; exact (Only.refl _ _ _ _).alloc h.lc _
set_option maxRecDepth 100000 in
theorem Parity_any (c t chunk : Nat) (ht1 : 1 ≤ t) (ht8 : t ≤ 8) (w : World) (h : CodeAt w c t chunk) :
    Calls Tryz.prog 28 #[.pointer (some ⟨c, 0, none⟩)] w fun e w' => e = .returned (.int .i64 ((parN t : Nat) : Int)) ∧ Coded c t chunk w w' := by
  have HR := Lib.hid (ready_any c t chunk ht1 ht8 w h)
  clear h
  go_enter Tryz.func28, Tryz.ntmps28
  go_wp2_with fail
  go_at_call 49
  refine HR.out.mono ?_
  rintro e w' ⟨rfl, hq⟩
  obtain ⟨gl, be, bl, hr, ho, hk⟩ := hq
  have h12 := hr.h12
  have HC : Hid (Coded c t chunk w w') := Lib.hid ⟨gl, be, bl, hr, ho, hk⟩
  clear hr ho hk
  go_wp2_with fail
  go_ret
  exact ⟨rfl, HC.out⟩
set_option maxRecDepth 100000 in
theorem Parity_nil (w : World) : Calls Tryz.prog 28 #[.pointer none] w fun e w' => e = .returned (.int .i64 0) ∧ w' = w := by
  go_enter Tryz.func28, Tryz.ntmps28
  go_wp2_with fail
  go_ret
  exact ⟨rfl, rfl⟩
end Go.Proofs.YtgfjeaegigjnaaaGreatDoor

namespace Go.Proofs.YtgfjeaegigjnaaaGreatDoor
open Go.RowKit
set_option linter.unusedVariables false
set_option linter.unusedSimpArgs false

theorem Coded.below {c t chunk : Nat} {w w' w'' : World} (h : Coded c t chunk w w') (lc : c < w.heap.size) (k : Below w'.heap.size w' w'') : Coded c t chunk w w'' := by
  obtain ⟨gl, be, bl, h1, h2, h3⟩ := h
  exact ⟨gl, be, bl, h1.below k, h2.below k lc, h3⟩
/-- The parity of a chunk, as the program has it. -/
def parS (t : Nat) (s : ByteArray) : ByteArray := strOf (parN t) (regI (parN t) (lowN t) (numB s.data.toList) (8 * s.size) (8 * s.size))
theorem row_string {w : World} {g n V cap : Nat} (h : VRow w g n V) : (convert 47 9 (.slice (some ⟨g, 0, none⟩) n cap)).run Tryz.prog w = .ok (.string (strOf n V)) w := by
  have := run_convert_bytes_back (P := Tryz.prog) w 47 9 5 ⟨g, 0, none⟩ cap (bytesOf n V) (by kernel_rfl) (by kernel_rfl) (by kernel_rfl) (by
    intro j hj
    rw [bytesOf_length] at hj
    have h1 := bytesOf_get (V := V) hj
    rw [List.getElem?_eq_getElem (by rw [bytesOf_length]; exact hj)] at h1
    rw [Option.some.inj h1, addr_add, Nat.zero_add, h.cell j hj, UInt8.toNat_ofNat_of_lt' (byteAt_lt n V j)])
  rw [bytesOf_length] at this
  exact this
theorem par_pos {t : Nat} (h : 1 ≤ t) : 0 < parN t := by unfold parN; omega
theorem par_le {t : Nat} (h : t ≤ 8) : parN t ≤ 13 := by unfold parN; omega
set_option maxRecDepth 100000 in
theorem Encode_nil (s : ByteArray) (w : World) : Calls Tryz.prog 34 #[.pointer none, .string s] w fun e w' => e = .returned (.tuple #[.string ⟨#[]⟩, .int .i64 1]) ∧ w' = w := by
  go_enter Tryz.func34, Tryz.ntmps34
  go_wp2_with fail
  go_ret2
  exact ⟨rfl, rfl⟩
set_option maxRecDepth 100000 in
theorem Encode_long (c t chunk : Nat) (s : ByteArray) (hs : s.size ≠ chunk) (w : World) (h1 : w.cell? ⟨c, 1, none⟩ = some (.int .i64 (chunk : Int))) :
    Calls Tryz.prog 34 #[.pointer (some ⟨c, 0, none⟩), .string s] w fun e w' => e = .returned (.tuple #[.string ⟨#[]⟩, .int .i64 2]) ∧ w' = w := by
  have hne : ((s.size : Int) != (chunk : Int)) = true := by simp; omega
  clear hs
  go_enter Tryz.func34, Tryz.ntmps34
  go_wp2_with fail
  go_ret2
  exact ⟨rfl, rfl⟩
set_option maxRecDepth 100000 in
set_option maxHeartbeats 1600000 in
theorem Encode_any (c t chunk : Nat) (s : ByteArray) (hs : s.size = chunk) (hc : chunk ≤ 256) (ht1 : 1 ≤ t) (ht8 : t ≤ 8) (w : World) (h : CodeAt w c t chunk) :
    Calls Tryz.prog 34 #[.pointer (some ⟨c, 0, none⟩), .string s] w fun e w' => e = .returned (.tuple #[.string (parS t s), .int .i64 0]) ∧ Coded c t chunk w w' := by
  have h1 : w.cell? ⟨c, 1, none⟩ = some (.int .i64 (chunk : Int)) := by
    rcases h with h | ⟨_, _, _, h⟩ <;> exact h.h1
  have hne : ((s.size : Int) != (chunk : Int)) = false := by simp; omega
  have lc := h.lc
  have HR := Lib.hid (ready_any c t chunk ht1 ht8 w h)
  have hsz : s.size ≤ 1000000 := by omega
  have HSZ := Lib.hid hs
  clear h hs
  go_enter Tryz.func34, Tryz.ntmps34
  go_wp2_with fail
  go_at_call 49
  refine HR.out.mono ?_
  rintro e w1 ⟨rfl, hq⟩
  have HC := Lib.hid hq
  obtain ⟨gl, be, bl, hr, ho, hk⟩ := hq
  have HDV := Lib.hid (divide_any c gl (parN t) (parN t) (lowN t) s w1 hr.h12 hr.low (par_pos ht1) (by have := par_le ht8; omega) hsz)
  clear hr ho hk HR
  go_wp2_with fail
  go_at_call 58
  refine HDV.out.mono ?_
  rintro e w2 ⟨rfl, hv, hb⟩
  have hcv := row_string (cap := parN t) hv
  have HX : Hid (strOf (parN t) (regI (parN t) (lowN t) (numB s.data.toList) (8 * s.size) (8 * s.size)) = parS t s) := Lib.hid rfl
  rw [HX.out] at hcv
  have HC2 := Lib.hid (HC.out.below lc hb)
  clear hv hb HC HDV
  go_wp2_with fail
  go_ret2
  exact ⟨rfl, HC2.out⟩
/-! ## The document's -/
set_option maxRecDepth 100000 in
theorem rdegree_any (t : Nat) (ht1 : 1 ≤ t) (ht8 : t ≤ 8) (w : World) : Calls Tryz.prog 29 #[.int .i64 (t : Int)] w fun e w' => e = .returned (.int .i64 ((13 * t : Nat) : Int)) ∧ Below w.heap.size w w' := by
  have HG := Lib.hid (rgenerator_any t ht1 ht8 w)
  go_enter Tryz.func29, Tryz.ntmps29
  go_wp2_with fail
  go_at_call 50
  refine HG.out.mono ?_
  rintro e w1 ⟨v, rfl, hp, hb⟩
  obtain ⟨g, cap, rfl, _, _, hi⟩ := hp.at (gen_ne (by omega))
  rw [terms_rest (by omega)] at hi ⊢
  have hc : w1.cell? ⟨g, 0, none⟩ = some (.int .i64 ((13 * t : Nat) : Int)) := hi 0 (by simp)
  have HB := Lib.hid hb
  obtain ⟨d, hd⟩ : ∃ d, d = 13 * t := ⟨_, rfl⟩
  rw [← hd] at hc
  have HD := Lib.hid hd
  clear hi hp hb hd
  go_wp2_with fail
  go_ret
  exact ⟨by rw [← HD.out]; rfl, HB.out⟩
end Go.Proofs.YtgfjeaegigjnaaaGreatDoor

namespace Go.Proofs.YtgfjeaegigjnaaaGreatDoor
open Go.RowKit
set_option linter.unusedVariables false
set_option linter.unusedSimpArgs false

/-- T bits, the highest first. -/
def bitL (B T : Nat) : List Nat := (List.range T).map (fun j => if B.testBit (T - 1 - j) then 1 else 0)
theorem bitL_length (B T : Nat) : (bitL B T).length = T := by simp [bitL]
theorem bitL_get (B T j : Nat) (h : j < T) : (bitL B T).getD j 0 = if B.testBit (T - 1 - j) then 1 else 0 := by
  unfold bitL
  rw [List.getD_eq_getElem?_getD, List.getElem?_map, List.getElem?_range h]; rfl
theorem half_bit (B k : Nat) : (B / 2).testBit k = B.testBit (k + 1) := by
  have := Nat.testBit_shiftRight (x := B) (i := 1) (j := k)
  rw [Nat.shiftRight_eq_div_pow, Nat.pow_one, Nat.add_comm] at this
  exact this
theorem bitL_snoc (B T : Nat) : bitL B (T + 1) = bitL (B / 2) T ++ [if B.testBit 0 then 1 else 0] := by
  unfold bitL
  rw [List.range_succ, List.map_append, List.map_singleton]
  congr 1
  · apply List.map_congr_left
    intro j hj
    rw [List.mem_range] at hj
    rw [half_bit, show T - 1 - j + 1 = T + 1 - 1 - j by omega]
  · rw [show T + 1 - 1 - T = 0 by omega]
theorem shr_half (D k : Nat) : (D >>> k) / 2 = D >>> (k + 1) := by
  rw [Nat.shiftRight_add, Nat.shiftRight_eq_div_pow (D >>> k) 1]
theorem shr_low (D k : Nat) : (D >>> k).testBit 0 = D.testBit k := by rw [Nat.testBit_shiftRight, Nat.add_zero]
set_option maxHeartbeats 6400000 in
set_option maxRecDepth 100000 in
theorem rbitsT_any (s : ByteArray) (hs : s.size ≤ 100000) (w : World) :
    Calls Tryz.prog 46 #[.string s] w fun x w' => ∃ v, x = .returned v ∧ w'.ownsRow w.heap.size 3 1 v (8 * s.size) ((bitL (numB s.data.toList) (8 * s.size)).map intV) ∧ Below w.heap.size w w' := by
  obtain ⟨i0, hi0, hz0, hz1, hz2⟩ := info_parts info_int
  have hsl : s.data.toList.length = s.size := by simp
  obtain ⟨D, hD⟩ : ∃ D, D = numB s.data.toList := ⟨_, rfl⟩
  obtain ⟨m, hm⟩ : ∃ m, m = s.size := ⟨_, rfl⟩
  have hbit : ∀ i, i < m → ∃ b : UInt8, ∃ hj : i < s.size, s[i]'hj = b ∧ ∀ t, t < 8 → D.testBit (8 * m - 1 - (8 * i + t)) = b.toNat.testBit (7 - t) := by
    intro i hi
    obtain ⟨b, hb⟩ : ∃ b, s.data.toList[i]? = some b := ⟨_, List.getElem?_eq_getElem (by rw [hsl]; omega)⟩
    obtain ⟨hj, hc⟩ := str_at hb
    refine ⟨_, hj, hc, fun t ht => ?_⟩
    have := numB_bit s.data.toList i t _ hb ht
    rw [hsl, ← hD, ← hm] at this
    exact this
  have hlt : D < 2 ^ (8 * m) := by
    have := numB_lt s.data.toList
    rw [hsl, ← hD, ← hm] at this
    exact this
  rw [← hD, ← hm]
  rw [← hm] at hs
  have HBIT := Lib.hid hbit
  have HLT := Lib.hid hlt
  have Hm := Lib.hid hm
  clear hsl hD hm hbit hlt
  go_enter Tryz.func46, Tryz.ntmps46
  go_wp2_with fail
  go_loopw [3, 4] (fun v iv wr => ∃ i : Nat, i ≤ m ∧ iv = .int .i64 (i : Int) ∧ Hid (wr.ownsRow w.heap.size 3 1 v (8 * i) ((bitL (D >>> (8 * m - 8 * i)) (8 * i)).map intV)) ∧ Hid (Below w.heap.size w wr)) (fun _ iv _ => m - (intOf iv).toNat)
  case atStart => exact ⟨0, Nat.zero_le _, rfl, Lib.hid (World.ownsRow_nil _ _ _ _), Lib.hid (Below.refl _ _)⟩
  case round =>
    obtain ⟨i, him, rfl, HO, HB⟩ := hrel
    obtain ⟨wq, rfl⟩ : ∃ wq : World, wq = wr := ⟨_, rfl⟩
    have hmi : ((s.size : Nat) : Int) = (m : Int) := by rw [Hm.out]
    by_cases hlt : i < m
    · obtain ⟨b, hj, hsb, hbits⟩ := HBIT.out i hlt
      have HBS := Lib.hid hbits
      have HHJ := Lib.hid hsb
      have hltI : (i : Int) < (m : Int) := by omega
      clear hbits hsb
      go_wp2_with fail
      go_loopw [3, 5] (fun v kv wz => ∃ t : Nat, t ≤ 8 ∧ kv = .int .i64 (7 - (t : Int)) ∧ Hid (wz.ownsRow w.heap.size 3 1 v (8 * i + t) ((bitL (D >>> (8 * m - (8 * i + t))) (8 * i + t)).map intV)) ∧ Hid (Below w.heap.size w wz)) (fun _ kv _ => (intOf kv + 1).toNat)
      case atStart => exact ⟨0, by omega, rfl, HO, HB⟩
      case round =>
        obtain ⟨t, ht, rfl, HOz, HBz⟩ := hrel
        obtain ⟨wz, rfl⟩ : ∃ wz : World, wz = wr := ⟨_, rfl⟩
        by_cases ht8 : t < 8
        · obtain ⟨k, hk⟩ : ∃ k, k = 7 - t := ⟨_, rfl⟩
          have hki : (7 : Int) - (t : Int) = (k : Int) := by omega
          rw [hki]
          have hk7 : k ≤ 7 := by omega
          have hb256 : b.toNat < 256 := UInt8.toNat_lt b
          have hba := bit_u8 b.toNat k hb256
          have hsb := HHJ.out
          have hnx : bitL (D >>> (8 * m - (8 * i + (t + 1)))) (8 * i + (t + 1)) = bitL (D >>> (8 * m - (8 * i + t))) (8 * i + t) ++ [if b.toNat.testBit k then 1 else 0] := by
            rw [show 8 * i + (t + 1) = 8 * i + t + 1 by omega, bitL_snoc, shr_half, shr_low, show 8 * m - (8 * i + t + 1) + 1 = 8 * m - (8 * i + t) by omega, show 8 * m - (8 * i + t + 1) = 8 * m - 1 - (8 * i + t) by omega, HBS.out t ht8, ← hk]
          obtain ⟨o, ho⟩ : ∃ o : Nat, o = if b.toNat.testBit k then 1 else 0 := ⟨_, rfl⟩
          rw [← ho] at hba hnx
          have ho2 : o < 2 := by rw [ho]; split <;> omega
          have HNX := Lib.hid hnx
          have HK := Lib.hid hk
          obtain ⟨LL, hLL⟩ : ∃ LL, LL = bitL (D >>> (8 * m - (8 * i + t))) (8 * i + t) := ⟨_, rfl⟩
          rw [← hLL] at HOz HNX
          obtain ⟨nn, hnn⟩ : ∃ nn, nn = 8 * i + t := ⟨_, rfl⟩
          rw [← hnn] at HOz
          have hnn8 : nn ≤ 800000 := by omega
          have HNN := Lib.hid hnn
          clear hnx hk hki hLL ho hnn
          go_wp2_with (at_builtin; refine wpList_append_own _ rfl _ _ 55 rfl w.heap.size 3 i0 (.int .i64 0) 1 8 (by kernel_rfl) hi0 hz0 hz1 hz2 rfl (by decide) _ _ _ rfl (HOz.out.alloc _) ⟨wz.heap.size, 0, none⟩ 1 1 [.int .i64 (o : Int)] rfl rfl ?c1 ?c2 ?c3 ?c4 ?c5 ?_)
          case c1 =>
            intro i u hu
            cases i with
            | zero => simp at hu; subst hu; simp [Addr.add]
            | succ i => simp at hu
          case c2 => intro u hu; simp at hu; subst hu; rfl
          case c3 => unfold maxLen; omega
          case c4 => omega
          case c5 => have := HBz.out.size; simp; omega
          intro v' w2 hown' hgrow _
          have HB4 : Hid (Below w.heap.size w w2) := Lib.hid ((HBz.out.alloc HBz.out.size _).grown hgrow (by have := HBz.out.size; simp; omega) (fun q hq => (HOz.out.lt q hq).1))
          have HO4 : Hid (w2.ownsRow w.heap.size 3 1 v' (8 * i + (t + 1)) ((bitL (D >>> (8 * m - (8 * i + (t + 1)))) (8 * i + (t + 1))).map intV)) := Lib.hid (by
            rw [HNX.out, List.map_append, show 8 * i + (t + 1) = nn + 1 by have := HNN.out; omega]
            exact hown')
          clear hown' hgrow
          go_wp2_with fail
          go_roundw
          case rel => exact ⟨t + 1, by omega, by have := HK.out; go_num, HO4, HB4⟩
          case measure => simp [intOf]
        · obtain rfl : t = 8 := by omega
          go_wp2_with fail
          go_roundw
          case rel => exact ⟨i + 1, by omega, by go_num, HOz, HBz⟩
          case measure => simp [intOf]; omega
    · obtain rfl : i = m := by omega
      go_wp2_with fail
      go_ret
      refine ⟨_, rfl, ?_, HB.out⟩
      have := HO.out
      rw [Nat.sub_self, Nat.shiftRight_zero] at this
      exact this
end Go.Proofs.YtgfjeaegigjnaaaGreatDoor

namespace Go.Proofs.YtgfjeaegigjnaaaGreatDoor
open Go.RowKit
set_option linter.unusedVariables false
set_option linter.unusedSimpArgs false

def byteV (b : UInt8) : Value := .int .u8 (b.toNat : Int)
theorem info_u8 : (Tryz.prog.info? 5).map (fun i => (i.zero, i.size, i.bytes)) = some (some (.int .u8 0), 1, 1) := by kernel_rfl
theorem own_form {w : World} {B e n : Nat} {v : Value} {xs : List Value} (h : w.ownsRow B e 1 v n xs) (hn : 0 < n) : ∃ g cap, v = .slice (some ⟨g, 0, none⟩) n cap ∧ B ≤ g ∧ n ≤ cap := by
  rcases h.2 with ⟨h1, h2⟩ | ⟨g, cap, cur, h1, h2, _, h3, _⟩
  · omega
  · exact ⟨g, cap, h1, h2, h3⟩
theorem bytes_set {n V V' q y : Nat} (hq : q < n) (hy : byteAt n V' q = y) (ho : ∀ j, j < n → j ≠ q → byteAt n V' j = byteAt n V j) :
    ((bytesOf n V).map byteV).set q (.int .u8 ((y : Nat) : Int)) = (bytesOf n V').map byteV := by
  apply List.ext_getElem?
  intro j
  rw [List.getElem?_set]
  by_cases hj : q = j
  · subst hj
    rw [if_pos rfl, if_pos (by rw [List.length_map, bytesOf_length]; exact hq), List.getElem?_map, bytesOf_get hq, hy]
    have : y < 256 := hy ▸ byteAt_lt n V' q
    show some _ = some (Value.int .u8 ((UInt8.ofNat y).toNat : Int))
    rw [UInt8.toNat_ofNat_of_lt' this]
  · rw [if_neg hj, List.getElem?_map, List.getElem?_map]
    rcases Nat.lt_or_ge j n with h | h
    · rw [bytesOf_get h, bytesOf_get h, ho j h (fun e => hj e.symm)]
    · rw [List.getElem?_eq_none (by rw [bytesOf_length]; exact h), List.getElem?_eq_none (by rw [bytesOf_length]; exact h)]
theorem bytesOf_cell {n V q : Nat} (h : q < n) : ((bytesOf n V).map byteV)[q]? = some (.int .u8 ((byteAt n V q : Nat) : Int)) := by
  rw [List.getElem?_map, bytesOf_get h]
  show some (Value.int .u8 ((UInt8.ofNat (byteAt n V q)).toNat : Int)) = _
  rw [UInt8.toNat_ofNat_of_lt' (byteAt_lt n V q)]
theorem own_string {w : World} {B g n cap V : Nat} (h : w.ownsRow B 5 1 (.slice (some ⟨g, 0, none⟩) n cap) n ((bytesOf n V).map byteV)) : (convert 47 9 (.slice (some ⟨g, 0, none⟩) n cap)).run Tryz.prog w = .ok (.string (strOf n V)) w := by
  have := run_convert_bytes_back (P := Tryz.prog) w 47 9 5 ⟨g, 0, none⟩ cap (bytesOf n V) (by kernel_rfl) (by kernel_rfl) (by kernel_rfl) (by
    intro j hj
    rw [addr_add, Nat.zero_add, h.cellAt j (by rw [bytesOf_length] at hj; omega), List.getElem?_map, List.getElem?_eq_getElem hj]; rfl)
  rw [bytesOf_length] at this
  exact this
set_option maxHeartbeats 6400000 in
set_option maxRecDepth 100000 in
theorem rtext_any (g o d c R : Nat) (w : World) (hc : ∀ j, j < d → w.cell? ⟨g, o + j, none⟩ = some (.int .i64 ((if R.testBit (d - 1 - j) then 1 else 0 : Nat) : Int))) (hd : d ≤ 1000) (hd0 : 0 < d) (hR : R < 2 ^ d) (lg : g < w.heap.size) :
    Calls Tryz.prog 61 #[.slice (some ⟨g, o, none⟩) d c] w fun x w' => x = .returned (.string (strOf ((d + 7) / 8) (R <<< (8 * ((d + 7) / 8) - d)))) ∧ Below w.heap.size w w' := by
  obtain ⟨i0, hi0, hz0, hz1, hz2⟩ := info_parts info_u8
  have HC := Lib.hid hc
  have HR := Lib.hid hR
  clear hc hR
  go_enter Tryz.func61, Tryz.ntmps61
  go_wp2_with fail
  go_loopg [3, 4] d (fun gk v iv wr => ∃ i : Nat, i + gk = d ∧ iv = .int .i64 (i : Int) ∧ Hid (wr.ownsRow w.heap.size 5 1 v ((i + 7) / 8) ((bytesOf ((i + 7) / 8) ((R >>> (d - i)) <<< (8 * ((i + 7) / 8) - i))).map byteV)) ∧ Hid (Below w.heap.size w wr))
  case atStart => exact ⟨0, by omega, rfl, Lib.hid (World.ownsRow_nil _ _ _ _), Lib.hid (Below.refl _ _)⟩
  case round =>
    obtain ⟨i, hik, rfl, HO, HB⟩ := hrel
    obtain ⟨wq, rfl⟩ : ∃ wq : World, wq = wr := ⟨_, rfl⟩
    by_cases hlt : i < d
    · obtain ⟨r, hr⟩ : ∃ r, r = i % 8 := ⟨_, rfl⟩
      obtain ⟨q, hq⟩ : ∃ q, q = i / 8 := ⟨_, rfl⟩
      have hri : (i : Int) % 8 = (r : Int) := by omega
      have hqi : (i : Int) / 8 = (q : Int) := by omega
      have hr8 : r < 8 := by omega
      have hiq : i = 8 * q + r := by omega
      have hltI : (i : Int) < (d : Int) := by omega
      have HIQ := Lib.hid hiq
      clear hr hq hiq
      go_upto_if 13 with fail
      go_cut [3] (fun v wz => Hid (wz.ownsRow w.heap.size 5 1 v (q + 1) ((bytesOf (q + 1) ((R >>> (d - i)) <<< (8 * (q + 1) - i))).map byteV)) ∧ Hid (Below w.heap.size w wz))
      case first =>
        by_cases h0 : r = 0
        · have hb : (((r : Nat) : Int) == 0) = true := by simp; omega
          have e1 : (i + 7) / 8 = q := by have := HIQ.out; omega
          have hV : (R >>> (d - i)) <<< (8 * (q + 1) - i) = ((R >>> (d - i)) <<< (8 * q - i)) * 256 := by
            have e2 : 8 * (q + 1) - i = 8 := by have := HIQ.out; omega
            have e3 : 8 * q - i = 0 := by have := HIQ.out; omega
            rw [e2, e3, Nat.shiftLeft_zero, Nat.shiftLeft_eq]
          rw [e1] at HO
          have HV := Lib.hid hV
          have hq1 : q ≤ 1000 := by have := HIQ.out; omega
          clear hV e1 h0
          go_wp2_with (at_builtin; refine wpList_append_own _ rfl _ _ 47 rfl w.heap.size 5 i0 (.int .u8 0) 1 1 (by kernel_rfl) hi0 hz0 hz1 hz2 rfl (by decide) _ _ _ rfl (HO.out.alloc _) ⟨wq.heap.size, 0, none⟩ 1 1 [.int .u8 0] rfl rfl ?c1 ?c2 ?c3 ?c4 ?c5 ?_)
          case c1 =>
            intro i u hu
            cases i with
            | zero => simp at hu; subst hu; simp [Addr.add]
            | succ i => simp at hu
          case c2 => intro u hu; simp at hu; subst hu; rfl
          case c3 => unfold maxLen; omega
          case c4 => omega
          case c5 => have := HB.out.size; simp; omega
          intro v' w2 hown' hgrow _
          have HB4 : Hid (Below w.heap.size w w2) := Lib.hid ((HB.out.alloc HB.out.size _).grown hgrow (by have := HB.out.size; simp; omega) (fun q hq => (HO.out.lt q hq).1))
          have HO4 : Hid (w2.ownsRow w.heap.size 5 1 v' (q + 1) ((bytesOf (q + 1) ((R >>> (d - i)) <<< (8 * (q + 1) - i))).map byteV)) := Lib.hid (by
            rw [HV.out, bytesOf_snoc, List.map_append]
            exact hown')
          clear hown' hgrow
          go_wp2_with fail
          go_meet
          case rel => exact ⟨HO4, HB4⟩
        · have hb : (((r : Nat) : Int) == 0) = false := by simp; omega
          have e1 : (i + 7) / 8 = q + 1 := by have := HIQ.out; omega
          rw [e1] at HO
          clear e1
          go_wp2_with fail
          go_meet
          case rel => exact ⟨HO, HB⟩
      case rest =>
        obtain ⟨HO5, HB5⟩ := hcut
        obtain ⟨wz, rfl⟩ : ∃ wz : World, wz = wc := ⟨_, rfl⟩
        have c0 := (HB5.out.cell (p := ⟨g, o + i, none⟩) (by exact lg)).trans (HC.out i hlt)
        obtain ⟨V, hV⟩ : ∃ V, V = (R >>> (d - i)) <<< (8 * (q + 1) - i) := ⟨_, rfl⟩
        rw [← hV] at HO5
        obtain ⟨go, co, hs3, hgo, hcap⟩ := own_form HO5.out (Nat.succ_pos q)
        subst hs3
        have c1 : wz.cell? ⟨go, q, none⟩ = some (.int .u8 ((byteAt (q + 1) V q : Nat) : Int)) := (HO5.out.cellAt q (by omega)).trans (bytesOf_cell (Nat.lt_succ_self q))
        have f1 := HO5.out.frozenAt q
        have hpos : 8 * (q + 1) - 1 - i = 7 - r := by have := HIQ.out; omega
        have hVb : V.testBit (7 - r) = false := by
          rw [hV, Nat.testBit_shiftLeft]
          have : ¬ (7 - r ≥ 8 * (q + 1) - i) := by have := HIQ.out; omega
          simp [this]
        have hnx : (R >>> (d - (i + 1))) <<< (8 * (q + 1) - (i + 1)) = V ^^^ (if R.testBit (d - 1 - i) then 2 ^ (7 - r) else 0) := by
          rw [hV]
          have e1 : 8 * (q + 1) - i = 8 * (q + 1) - (i + 1) + 1 := by have := HIQ.out; omega
          have e2 : 8 * (q + 1) - (i + 1) = 7 - r := by have := HIQ.out; omega
          have e3 : d - i = d - (i + 1) + 1 := by omega
          have e4 : d - 1 - i = d - (i + 1) := by omega
          rw [e1, e2, e3, e4, Nat.shiftRight_add]
          apply Nat.eq_of_testBit_eq
          intro t
          have hif : ∀ (c : Bool) (X : Nat), (if c = true then X else 0).testBit t = (c && X.testBit t) := by
            intro c X; cases c <;> simp
          rw [Nat.testBit_xor, hif, Nat.testBit_shiftLeft, Nat.testBit_shiftLeft, Nat.testBit_two_pow, Nat.testBit_shiftRight, Nat.testBit_shiftRight, Nat.testBit_shiftRight]
          rcases Nat.lt_trichotomy t (7 - r) with h | h | h
          · have a1 : ¬ (t ≥ 7 - r) := by omega
            have a2 : ¬ (t ≥ 7 - r + 1) := by omega
            have a3 : ¬ (7 - r = t) := by omega
            simp [a1, a2, a3]
          · subst h
            have a2 : decide (7 - r + 1 ≤ 7 - r) = false := by simp
            simp [a2]
          · have a1 : t ≥ 7 - r := by omega
            have a2 : t ≥ 7 - r + 1 := by omega
            have a3 : ¬ (7 - r = t) := by omega
            have a4 : 1 + (t - (7 - r + 1)) = t - (7 - r) := by omega
            simp [a1, a2, a3, a4]
        have e7 : (i + 1 + 7) / 8 = q + 1 := by have := HIQ.out; omega
        have hqc : (q : Int) < ((q : Nat) : Int) + 1 := by omega
        have HNX := Lib.hid hnx
        have HVB := Lib.hid hVb
        have E7 := Lib.hid e7
        have HPOS := Lib.hid hpos
        have hd1000 : i ≤ 1000 := by omega
        clear hnx hV hVb e7 hpos
        cases hbt : R.testBit (d - 1 - i)
        · rw [hbt] at c0 HNX
          have HO6 : Hid (wz.ownsRow w.heap.size 5 1 (.slice (some ⟨go, 0, none⟩) (q + 1) co) ((i + 1 + 7) / 8) ((bytesOf ((i + 1 + 7) / 8) ((R >>> (d - (i + 1))) <<< (8 * ((i + 1 + 7) / 8) - (i + 1)))).map byteV)) := Lib.hid (by
            rw [E7.out, HNX.out]
            simpa using HO5.out)
          clear hbt c1 f1
          go_wp2_with fail
          go_roundg (gk - 1)
          case rel => exact ⟨i + 1, by omega, by go_num, HO6, HB5⟩
          case measure => omega
        · rw [hbt] at c0 HNX
          have hbb := byteAt_lt (q + 1) V q
          have hby : (byteAt (q + 1) V q).testBit (7 - r) = false := by
            rw [byteAt_bit, show 8 * (q + 1 - 1 - q) + (7 - r) = 7 - r by omega, HVB.out]; simp
          have hnew : byteAt (q + 1) (V ^^^ 2 ^ (7 - r)) q = byteAt (q + 1) V q ||| 2 ^ (7 - r) := by
            have h := byte_set (n := q + 1) (V := V) (i := i) (by have := HIQ.out; omega) q (Nat.lt_succ_self q)
            rw [HPOS.out, if_pos (by have := HIQ.out; omega), show i % 8 = r by have := HIQ.out; omega] at h
            rw [h, or_is_xor hby]
          have hold : ∀ j, j < q + 1 → j ≠ q → byteAt (q + 1) (V ^^^ 2 ^ (7 - r)) j = byteAt (q + 1) V j := fun j hj hne => by
            have h := byte_set (n := q + 1) (V := V) (i := i) (by have := HIQ.out; omega) j hj
            rw [HPOS.out, if_neg (by have := HIQ.out; omega)] at h
            exact h
          obtain ⟨y, hy⟩ : ∃ y, y = byteAt (q + 1) V q := ⟨_, rfl⟩
          rw [← hy] at c1 hbb hnew
          have hor := or_u8 y (2 ^ (7 - r)) hbb (Nat.lt_of_le_of_lt (Nat.pow_le_pow_right (by decide) (show 7 - r ≤ 7 by omega)) (by decide))
          have h128 := shr128 hr8
          have hst := (HO5.out.stored q (.int .u8 ((y ||| 2 ^ (7 - r) : Nat) : Int))).1
          rw [bytes_set (Nat.lt_succ_self q) hnew hold] at hst
          have HO6 : Hid ((wz.setCell ⟨go, q, none⟩ (.int .u8 ((y ||| 2 ^ (7 - r) : Nat) : Int))).drew.ownsRow w.heap.size 5 1 (.slice (some ⟨go, 0, none⟩) (q + 1) co) ((i + 1 + 7) / 8) ((bytesOf ((i + 1 + 7) / 8) ((R >>> (d - (i + 1))) <<< (8 * ((i + 1 + 7) / 8) - (i + 1)))).map byteV)) := Lib.hid (by
            rw [E7.out, HNX.out]
            exact hst.drew)
          obtain ⟨z, hz⟩ : ∃ z, z = 2 ^ (7 - r) := ⟨_, rfl⟩
          rw [← hz] at hor h128 HO6
          obtain ⟨u, hu⟩ : ∃ u, u = y ||| z := ⟨_, rfl⟩
          rw [← hu] at hor HO6
          have HB6 : Hid (Below w.heap.size w (wz.setCell ⟨go, q, none⟩ (.int .u8 ((u : Nat) : Int))).drew) := Lib.hid (Below.drew (HB5.out.setCell (by exact hgo) _))
          clear hbt hby hnew hold hy hst hz hu
          go_wp2_with fail
          go_region
          go_wp2_with fail
          go_roundg (gk - 1)
          case rel => exact ⟨i + 1, by omega, by go_num, HO6, HB6⟩
          case measure => omega
    · obtain rfl : i = d := by omega
      have hO := HO.out
      rw [Nat.sub_self, Nat.shiftRight_zero] at hO
      obtain ⟨go, co, hs3, hgo, hcap⟩ := own_form hO (by omega)
      subst hs3
      have hcv := own_string hO
      obtain ⟨X, hX⟩ : ∃ X, X = strOf ((i + 7) / 8) (R <<< (8 * ((i + 7) / 8) - i)) := ⟨_, rfl⟩
      rw [← hX] at hcv
      have HX := Lib.hid hX
      clear hO hX HO
      go_wp2_with fail
      go_ret
      exact ⟨by rw [HX.out]; rfl, HB.out⟩
end Go.Proofs.YtgfjeaegigjnaaaGreatDoor

namespace Go.Proofs.YtgfjeaegigjnaaaGreatDoor
open Go.RowKit
set_option linter.unusedVariables false
set_option linter.unusedSimpArgs false

/-- A row of T bits, the highest first. -/
def BitRow (w : World) (g T B : Nat) : Prop := Row w g T (fun j => .int .i64 ((if B.testBit (T - 1 - j) then 1 else 0 : Nat) : Int))
theorem BitRow.flip {w : World} {g T B p : Nat} (h : BitRow w g T B) (hp : p < T) : BitRow (w.setCell ⟨g, p, none⟩ (.int .i64 (((if B.testBit (T - 1 - p) then 1 else 0) ^^^ 1 : Nat) : Int))) g T (B ^^^ 2 ^ (T - 1 - p)) := by
  refine (Row.set h _ _).congr fun j hj => ?_
  rw [Nat.testBit_xor, Nat.testBit_two_pow]
  by_cases h1 : j = p
  · subst h1; rw [upd_same]
    cases B.testBit (T - 1 - j) <;> simp
  · rw [upd_other _ _ h1]
    have : ¬ (T - 1 - p = T - 1 - j) := by omega
    simp [this]
theorem BitRow.of_own {w : World} {Bs g T cap B : Nat} (h : w.ownsRow Bs 3 1 (.slice (some ⟨g, 0, none⟩) T cap) T ((bitL B T).map intV)) : BitRow w g T B :=
  ⟨fun j hj => by
    rw [h.cellAt j (by omega), List.getElem?_map, List.getElem?_eq_getElem (by rw [bitL_length]; exact hj)]
    have := bitL_get B T j hj
    rw [List.getD_eq_getElem?_getD, List.getElem?_eq_getElem (by rw [bitL_length]; exact hj)] at this
    rw [Option.getD_some] at this
    rw [this]; rfl, h.frozenAt⟩
set_option maxHeartbeats 6400000 in
set_option maxRecDepth 100000 in
theorem rencode_any (t : Nat) (ht1 : 1 ≤ t) (ht8 : t ≤ 8) (s : ByteArray) (hs : s.size ≤ 1000) (w : World) :
    Calls Tryz.prog 38 #[.int .i64 (t : Int), .string s] w fun x w' => x = .returned (.string (parS t s)) ∧ Below w.heap.size w w' := by
  obtain ⟨i0, hi0, hz0, hz1, hz2⟩ := info_parts info_int
  have HGEN := Lib.hid (rgenerator_any t ht1 ht8 w)
  have hsl : s.data.toList.length = s.size := by simp
  have hDlt := numB_lt s.data.toList
  rw [hsl] at hDlt
  have HBT := fun w => rbitsT_any s (by omega) w
  have hps := par_spare t
  have hend := div_end (n := parN t) (s := spare t) (d := 13 * t) (G := genA t) (M := 8 * s.size) hps (by omega) (by rw [← gen_log (show t < 9 by omega)]; exact Nat.lt_log2_self) (by rw [← gen_log (show t < 9 by omega)]; exact Nat.testBit_log2 (gen_ne (by omega))) (numB s.data.toList) hDlt
  have hpar : parS t s = strOf ((13 * t + 7) / 8) (docI (genA t) (13 * t) (8 * s.size + 13 * t) (numB s.data.toList <<< (13 * t)) (8 * s.size) <<< (8 * ((13 * t + 7) / 8) - 13 * t)) := by
    unfold parS
    rw [show lowN t = ((genA t) ^^^ 2 ^ (13 * t)) <<< spare t from rfl, hend.2]
    rfl
  obtain ⟨D, hD⟩ : ∃ D, D = numB s.data.toList := ⟨_, rfl⟩
  obtain ⟨M, hM⟩ : ∃ M, M = 8 * s.size := ⟨_, rfl⟩
  obtain ⟨d, hd⟩ : ∃ d, d = 13 * t := ⟨_, rfl⟩
  rw [← hD, ← hM, ← hd] at hpar hend
  rw [hpar]
  have hdr := hend.1
  have hM8 : M ≤ 8000 := by omega
  have hd13 : 13 ≤ d := by omega
  have hd104 : d ≤ 104 := by omega
  have htr := terms_rest (show t < 9 by omega)
  have hts := terms_sum (genA t)
  have hte : ∀ e ∈ terms (genA t), e ≤ 13 * t := fun e he => by have := terms_le he; rw [gen_log (by omega)] at this; exact this
  have htl : (terms (genA t)).length ≤ 105 := by have := terms_length (genA t); rw [gen_log (by omega)] at this; omega
  have htn := terms_ne (gen_ne (show t < 9 by omega))
  have HBT2 : Hid (∀ w, Calls Tryz.prog 46 #[.string s] w fun x w' => ∃ v, x = .returned v ∧ w'.ownsRow w.heap.size 3 1 v M ((bitL D M).map intV) ∧ Below w.heap.size w w') := Lib.hid (fun w => by rw [hM, hD]; exact HBT w)
  obtain ⟨G, hG⟩ : ∃ G, G = genA t := ⟨_, rfl⟩
  have HGEN2 : Hid (Calls Tryz.prog 50 #[.int .i64 (t : Int)] w fun x w' => ∃ v, x = .returned v ∧ PolyIn w' w.heap.size v G ∧ Below w.heap.size w w') := Lib.hid (by rw [hG]; exact HGEN.out)
  rw [← hG] at hts hte htl htr htn hdr
  rw [← hG]
  rw [← hd] at hte htr
  obtain ⟨LG, hLG⟩ : ∃ LG, LG = terms G := ⟨_, rfl⟩
  rw [← hLG] at hts hte htl htr htn
  have hlg0 : LG.getD 0 0 = d := by rw [htr]; rfl
  have HTS := Lib.hid hts
  have HTE := Lib.hid hte
  have HTN := Lib.hid htn
  have HLG := Lib.hid hLG
  have HLG0 := Lib.hid hlg0
  have HDR := Lib.hid hdr
  have hlgp : 0 < LG.length := List.length_pos_iff.mpr htn
  clear HGEN HBT hsl hDlt hps hend hpar hD hM hd htr hts hte htn hG hLG hlg0 hdr
  go_enter Tryz.func38, Tryz.ntmps38
  go_wp2_with fail
  go_at_call 50
  refine HGEN2.out.mono ?_
  rintro x w1 ⟨gv, rfl, hgp, hb1⟩
  obtain ⟨gg, cg, rfl, hgg1, hgg2, hgi⟩ := own_row (L := LG) (by have := hgp; unfold PolyIn at this; rw [← HLG.out] at this; exact this) rfl HTN.out
  have c0 : w1.cell? ⟨gg, 0, none⟩ = some (.int .i64 (d : Int)) := by
    have := hgi 0 hlgp
    rw [HLG0.out] at this
    exact this
  have HGI := Lib.hid hgi
  have HB1 := Lib.hid hb1
  have hsz1 := hb1.size
  clear hgp hgi hb1 HGEN2
  go_wp2_with fail
  go_at_call 46
  refine (HBT2.out w1).mono ?_
  rintro x w2 ⟨bv, rfl, hbo, hb2⟩
  have HO2 := Lib.hid hbo
  have HB2 := Lib.hid hb2
  clear hbo hb2 HBT2 c0
  go_wp2_with fail
  go_loopw [7, 8] (fun v iv wr => ∃ i : Nat, i ≤ d ∧ iv = .int .i64 (i : Int) ∧ Hid (wr.ownsRow w1.heap.size 3 1 v (M + i) ((bitL (D <<< i) (M + i)).map intV)) ∧ Hid (Below w1.heap.size w1 wr)) (fun _ iv _ => d - (intOf iv).toNat)
  case atStart => exact ⟨0, Nat.zero_le _, rfl, Lib.hid (by have := HO2.out; simpa using this), HB2⟩
  case round =>
    obtain ⟨i, hid, rfl, HO, HB⟩ := hrel
    obtain ⟨wq, rfl⟩ : ∃ wq : World, wq = wr := ⟨_, rfl⟩
    by_cases hlt : i < d
    · have hltI : (i : Int) < (d : Int) := by omega
      have hMi : M + i + 1 ≤ 10000 := by omega
      go_wp2_with (at_builtin; refine wpList_append_own _ rfl _ _ 55 rfl w1.heap.size 3 i0 (.int .i64 0) 1 8 (by kernel_rfl) hi0 hz0 hz1 hz2 rfl (by decide) _ _ _ rfl (HO.out.alloc _) ⟨wq.heap.size, 0, none⟩ 1 1 [.int .i64 0] rfl rfl ?c1 ?c2 ?c3 ?c4 ?c5 ?_)
      case c1 =>
        intro i u hu
        cases i with
        | zero => simp at hu; subst hu; simp [Addr.add]
        | succ i => simp at hu
      case c2 => intro u hu; simp at hu; subst hu; rfl
      case c3 => unfold maxLen; omega
      case c4 => omega
      case c5 => have := HB.out.size; simp; omega
      intro v' w3 hown' hgrow _
      have HB4 : Hid (Below w1.heap.size w1 w3) := Lib.hid ((HB.out.alloc HB.out.size _).grown hgrow (by have := HB.out.size; simp; omega) (fun q hq => (HO.out.lt q hq).1))
      have HO4 : Hid (w3.ownsRow w1.heap.size 3 1 v' (M + (i + 1)) ((bitL (D <<< (i + 1)) (M + (i + 1))).map intV)) := Lib.hid (by
        have e1 : (D <<< (i + 1)) / 2 = D <<< i := by
          rw [Nat.shiftLeft_eq, Nat.shiftLeft_eq, Nat.pow_succ, ← Nat.mul_assoc]
          exact Nat.mul_div_cancel _ (by decide)
        have e2 : (D <<< (i + 1)).testBit 0 = false := by rw [Nat.testBit_shiftLeft]; simp
        rw [← Nat.add_assoc, bitL_snoc, e1, e2, List.map_append]
        exact hown')
      clear hown' hgrow
      go_wp2_with fail
      go_roundw
      case rel => exact ⟨i + 1, by omega, by go_num, HO4, HB4⟩
      case measure => simp [intOf]; omega
    · obtain rfl : d = i := by omega
      obtain ⟨T, hT⟩ : ∃ T, T = M + d := ⟨_, rfl⟩
      rw [← hT] at HO
      obtain ⟨gb, cb, hbv, hgb1, hcb⟩ := own_form HO.out (by omega)
      subst hbv
      have hbr := BitRow.of_own HO.out
      obtain ⟨B0, hB0⟩ : ∃ B0, B0 = D <<< d := ⟨_, rfl⟩
      rw [← hB0] at hbr
      have HBR := Lib.hid hbr
      have lgb : gb < wq.heap.size := World.block_lt_of_cell? _ _ (hbr.cell 0 (by omega))
      have HGI2 : Hid (IntsAt wq gg LG) := Lib.hid (HGI.out.below HB.out hgg2)
      have hgne : gg ≠ gb := by omega
      have HT := Lib.hid hT
      have HBE := Lib.hid hB0
      have hT2 : T ≤ 9000 := by omega
      have hTM : M + d ≤ T ∧ T ≤ M + d := by omega
      obtain ⟨hTM1, hTM2⟩ := hTM
      clear hbr hT hB0 HO HGI
      go_wp2_with fail
      go_loopw [9] (fun iv wr => ∃ i : Nat, i ≤ M ∧ iv = .int .i64 (i : Int) ∧ Hid (BitRow wr gb T (docI G d T B0 i)) ∧ Hid (Stays (· = gb) wq wr)) (fun iv _ => M - (intOf iv).toNat)
      case atStart => exact ⟨0, Nat.zero_le _, rfl, HBR, Lib.hid (Stays.refl _ _)⟩
      case round =>
        obtain ⟨i, hiM, rfl, HR, HS⟩ := hrel
        obtain ⟨wz, rfl⟩ : ∃ wz : World, wz = wr := ⟨_, rfl⟩
        by_cases hlt2 : i < M
        · have htest : (i : Int) + (d : Int) < (T : Int) := by omega
          have hiT : (i : Int) < (T : Int) := by omega
          obtain ⟨C, hC⟩ : ∃ C, C = docI G d T B0 i := ⟨_, rfl⟩
          rw [← hC] at HR
          have hnext : docI G d T B0 (i + 1) = if C.testBit (T - 1 - i) then C ^^^ (G <<< (T - 1 - d - i)) else C := by rw [hC]; rfl
          have hcb : wz.cell? ⟨gb, i, none⟩ = some (.int .i64 ((if C.testBit (T - 1 - i) then 1 else 0 : Nat) : Int)) := HR.out.cell i (by omega)
          have HNX := Lib.hid hnext
          clear hC hnext
          cases hbt : C.testBit (T - 1 - i)
          · rw [hbt] at hcb HNX
            have HR2 : Hid (BitRow wz gb T (docI G d T B0 (i + 1))) := Lib.hid (by rw [HNX.out]; simpa using HR.out)
            clear hbt
            go_wp2_with fail
            go_roundw
            case rel => exact ⟨i + 1, by omega, by go_num, HR2, HS⟩
            case measure => simp [intOf]; omega
          · rw [hbt] at hcb HNX
            obtain ⟨sh, hsh⟩ : ∃ sh, sh = T - 1 - d - i := ⟨_, rfl⟩
            have hsh2 : sh + d + i + 1 ≤ T ∧ T ≤ sh + d + i + 1 := by omega
            obtain ⟨hs1, hs2⟩ := hsh2
            rw [← hsh] at HNX
            clear hbt hsh
            go_wp2_with fail
            go_loopw [10] (fun kv wr => ∃ k : Nat, k ≤ LG.length ∧ kv = .int .i64 (k : Int) ∧ Hid (BitRow wr gb T (C ^^^ (sumL 0 (LG.take k) <<< sh))) ∧ Hid (Stays (· = gb) wq wr)) (fun kv _ => LG.length - (intOf kv).toNat)
            case atStart => exact ⟨0, Nat.zero_le _, rfl, Lib.hid (by have := HR.out; simpa [sumL] using this), HS⟩
            case round =>
              obtain ⟨k, hk, rfl, HRk, HSk⟩ := hrel
              obtain ⟨wy, rfl⟩ : ∃ wy : World, wy = wr := ⟨_, rfl⟩
              by_cases hkl : k < LG.length
              · obtain ⟨e, he⟩ : ∃ e, e = LG.getD k 0 := ⟨_, rfl⟩
                have hel : LG[k]? = some e := by
                  rw [he, List.getD_eq_getElem?_getD, List.getElem?_eq_getElem hkl]; rfl
                have hed : e ≤ d := HTE.out e (List.mem_of_getElem? hel)
                have ce : wy.cell? ⟨gg, k, none⟩ = some (.int .i64 (e : Int)) := by
                  have := HSk.out.cell (HGI2.out k hkl) hgne
                  rw [← he] at this
                  exact this
                obtain ⟨p, hp⟩ : ∃ p, p = i + d - e := ⟨_, rfl⟩
                have hpi : (i : Int) + (d : Int) - (e : Int) = (p : Int) := by omega
                have hpT : p < T := by omega
                have hpTI : (p : Int) < (T : Int) := by omega
                have hpos : T - 1 - p = sh + e := by omega
                obtain ⟨Y, hY⟩ : ∃ Y, Y = C ^^^ (sumL 0 (LG.take k) <<< sh) := ⟨_, rfl⟩
                rw [← hY] at HRk
                have hT3 : LG.take (k + 1) = LG.take k ++ [e] := by rw [List.take_add_one, hel]; rfl
                have hY2 : C ^^^ (sumL 0 (LG.take (k + 1)) <<< sh) = Y ^^^ 2 ^ (T - 1 - p) := by
                  rw [hT3, sumL_snoc, Nat.shiftLeft_xor_distrib, ← Nat.xor_assoc, ← hY, hpos]
                  congr 1
                  rw [Nat.shiftLeft_eq, ← Nat.pow_add, Nat.add_comm]
                have cp := HRk.out.cell p hpT
                have fp := HRk.out.free p
                have hfl := BitRow.flip HRk.out hpT
                rw [← hY2] at hfl
                obtain ⟨y, hy⟩ : ∃ y : Nat, y = if Y.testBit (T - 1 - p) then 1 else 0 := ⟨_, rfl⟩
                have hcp : wy.cell? ⟨gb, p, none⟩ = some (.int .i64 ((y : Nat) : Int)) := by rw [hy]; exact cp
                rw [← hy] at hfl
                have hy2 : y < 2 := by rw [hy]; split <;> omega
                have hxo := xor_i64 y 1 (by omega) (by omega)
                rw [show ((1 : Nat) : Int) = 1 from rfl] at hxo
                obtain ⟨z, hz⟩ : ∃ z, z = y ^^^ 1 := ⟨_, rfl⟩
                rw [← hz] at hfl hxo
                have HFL := Lib.hid hfl
                have hkI : (k : Int) < (LG.length : Int) := by omega
                clear he hel hp hpos hY hT3 hY2 cp hfl hy hz
                go_wp2_with fail
                go_roundw
                case rel => exact ⟨k + 1, by omega, by go_num, HFL, Lib.hid (HSk.out.trans Row.stay)⟩
                case measure => simp [intOf]; omega
              · obtain rfl : k = LG.length := by omega
                have HR2 : Hid (BitRow wy gb T (docI G d T B0 (i + 1))) := Lib.hid (by
                  have := HRk.out
                  rw [List.take_length, HTS.out] at this
                  rw [HNX.out]
                  exact this)
                go_wp2_with fail
                go_roundw
                case rel => exact ⟨i + 1, by omega, by go_num, HR2, HSk⟩
                case measure => simp [intOf]; omega
        · obtain rfl : M = i := by omega
          have htest : ¬ (M : Int) + (d : Int) < (T : Int) := by omega
          have hTd : (T : Int) - (d : Int) = (M : Int) := by omega
          have hcb2 : M < cb := by omega
          have hTMd : T - M = d := by omega
          have hTx := HT.out
          obtain ⟨R, hRe⟩ : ∃ R, R = docI G d T B0 M := ⟨_, rfl⟩
          rw [← hRe] at HR
          have hRlt : R < 2 ^ d := by
            have := HDR.out
            rw [hRe, HBE.out, hTx]
            exact this
          have HTXT := Lib.hid (rtext_any gb M d (cb - M) R wz (fun j hj => by
            have := HR.out.cell (M + j) (by omega)
            rw [this, show T - 1 - (M + j) = d - 1 - j by omega]) (by omega) (by omega) hRlt (by have := HS.out.size; omega))
          have HRE := Lib.hid hRe
          have HTX := Lib.hid hTx
          have hsz : wq.heap.size ≤ wz.heap.size := HS.out.size
          clear hRe hTx hRlt
          go_wp2_with fail
          go_at_call 61
          refine HTXT.out.mono ?_
          rintro x w6 ⟨rfl, hb6⟩
          have HB6 := Lib.hid hb6
          have hfin : R = docI G d (M + d) (D <<< d) M := by rw [HRE.out, HBE.out, HTX.out]
          have HFIN := Lib.hid hfin
          clear hb6 HTXT hfin
          obtain ⟨X, hX⟩ : ∃ X, X = strOf ((d + 7) / 8) (R <<< (8 * ((d + 7) / 8) - d)) := ⟨_, rfl⟩
          rw [← hX]
          have HX := Lib.hid hX
          clear hX
          go_wp2_with fail
          go_ret
          refine ⟨by rw [← HFIN.out, ← HX.out]; rfl, ?_⟩
          have k1 : Below w.heap.size w wq := HB1.out.trans (HB.out.mono hsz1)
          exact (Below.stays k1 HS.out (fun q hq => by have : q = gb := hq; omega) k1.size).trans (HB6.out.mono (by have := k1.size; omega))
end Go.Proofs.YtgfjeaegigjnaaaGreatDoor

namespace Go.Proofs.YtgfjeaegigjnaaaGreatDoor
open Go.RowKit
set_option linter.unusedVariables false
set_option linter.unusedSimpArgs false

theorem below_coded {w w1 w2 : World} {c t chunk : Nat} (h : Below w.heap.size w w1) (k : Coded c t chunk w1 w2) (hc : w.heap.size ≤ c) : Below w.heap.size w w2 := by
  obtain ⟨gl, be, bl, k1, k2, k3⟩ := k
  exact Below.stays h k2.st (fun q hq => by have : q = c := hq; omega) h.size
theorem Coded.at {w w' : World} {c t chunk : Nat} (k : Coded c t chunk w w') : CodeAt w' c t chunk := by
  obtain ⟨gl, be, bl, k1, _⟩ := k
  exact .inr ⟨gl, be, bl, k1⟩
theorem par_one : parS 1 ⟨#[1]⟩ = ⟨#[0, 216]⟩ := by
  have h : (parS 1 ⟨#[1]⟩).data = #[0, 216] := by decide +kernel
  generalize parS 1 ⟨#[1]⟩ = x at h
  cases x
  exact congrArg ByteArray.mk h
end Go.Proofs.YtgfjeaegigjnaaaGreatDoor

