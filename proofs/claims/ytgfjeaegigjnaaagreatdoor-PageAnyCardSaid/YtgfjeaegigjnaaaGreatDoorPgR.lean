/- The document's word and distance; turned bits. -/
import Derived.Test.YtgfjeaegigjnaaaGreatDoorPgQ
import Derived.Test.YtgfjeaegigjnaaaGreatDoorOpen
namespace Go.Proofs.YtgfjeaegigjnaaaGreatDoor
open Go.RowKit
set_option linter.unusedVariables false
set_option linter.unusedSimpArgs false

theorem bitL_append {V R M d : Nat} (hR : R < 2 ^ d) : bitL V M ++ bitL R d = bitL ((V <<< d) ^^^ R) (M + d) := by
  apply List.ext_getElem?
  intro j
  have hb : ∀ B T j, j < T → (bitL B T)[j]? = some (if B.testBit (T - 1 - j) then 1 else 0) := fun B T j h => by
    unfold bitL
    rw [List.getElem?_map, List.getElem?_range h]; rfl
  rw [List.getElem?_append, bitL_length]
  rcases Nat.lt_or_ge j M with h | h
  · rw [if_pos h, hb _ _ _ h, hb _ _ _ (by omega), Nat.testBit_xor, Nat.testBit_shiftLeft, bit_none hR (by omega)]
    have e1 : M + d - 1 - j ≥ d := by omega
    have e2 : M + d - 1 - j - d = M - 1 - j := by omega
    simp [e1, e2]
  · rw [if_neg (by omega)]
    rcases Nat.lt_or_ge j (M + d) with h2 | h2
    · rw [hb _ _ _ (by omega), hb _ _ _ h2, Nat.testBit_xor, Nat.testBit_shiftLeft]
      have e1 : ¬ (M + d - 1 - j ≥ d) := by omega
      have e2 : d - 1 - (j - M) = M + d - 1 - j := by omega
      simp [e1, e2]
    · rw [List.getElem?_eq_none (by rw [bitL_length]; omega), List.getElem?_eq_none (by rw [bitL_length]; omega)]
theorem own_below {w w' : World} {B e n size : Nat} {v : Value} {xs : List Value} (h : w.ownsRow B e size v n xs) (k : Below w.heap.size w w') : w'.ownsRow B e size v n xs := by
  refine ⟨h.1, h.2.imp id ?_⟩
  rintro ⟨g, cap, cur, h1, h2, h3, h4⟩
  refine ⟨g, cap, cur, h1, h2, ?_, h4⟩
  have hg : g < w.heap.size := by
    rcases Nat.lt_or_ge g w.heap.size with h | h
    · exact h
    · rw [Array.getElem?_eq_none h] at h3; cases h3
  rw [k.block g hg]; exact h3
set_option maxHeartbeats 6400000 in
set_option maxRecDepth 100000 in
theorem rword_any (t : Nat) (s q : ByteArray) (ht1 : 1 ≤ t) (ht8 : t ≤ 8) (hs0 : 0 < s.size) (hs : s.size ≤ 256) (hq : q.size = parN t) (w : World) :
    Calls Tryz.prog 23 #[.int .i64 (t : Int), .string s, .string q] w fun x w' => ∃ g cap, x = .returned (.slice (some ⟨g, 0, none⟩) (8 * s.size + 13 * t) cap) ∧ BitRow w' g (8 * s.size + 13 * t) (wordN (13 * t) (spare t) (numB s.data.toList) (numB q.data.toList)) ∧ w.heap.size ≤ g ∧ g < w'.heap.size ∧ Below w.heap.size w w' := by
  have hps := par_spare t
  have hpl := par_le ht8
  have HB := Lib.hid (fun w => rbitsT_any s (by omega) w)
  have HB2 := Lib.hid (fun w => rbitsT_any q (by omega) w)
  have HDG := Lib.hid (fun w => rdegree_any t ht1 ht8 w)
  have hql := numB_lt q.data.toList
  rw [show q.data.toList.length = parN t by rw [← hq]; simp] at hql
  have hR := shr_lt hql hps
  obtain ⟨d, hd⟩ : ∃ d, d = 13 * t := ⟨_, rfl⟩
  obtain ⟨M, hM⟩ : ∃ M, M = 8 * s.size := ⟨_, rfl⟩
  obtain ⟨Q, hQ⟩ : ∃ Q, Q = 8 * q.size := ⟨_, rfl⟩
  have hdQ : d ≤ Q ∧ d ≤ 104 ∧ 13 ≤ d ∧ M ≤ 2048 ∧ 8 ≤ M ∧ Q ≤ 104 := by rw [hQ, hq]; omega
  obtain ⟨hdQ, hd104, hd13, hM1, hM8, hQ104⟩ := hdQ
  obtain ⟨V, hV⟩ : ∃ V, V = numB s.data.toList := ⟨_, rfl⟩
  obtain ⟨P, hP⟩ : ∃ P, P = numB q.data.toList := ⟨_, rfl⟩
  obtain ⟨sp, hsp⟩ : ∃ sp, sp = spare t := ⟨_, rfl⟩
  have hQd : Q = d + sp := by rw [hQ, hq, hd, hsp]; exact hps
  rw [← hd, ← hM, ← hV, ← hP, ← hsp]
  rw [← hP, ← hd, ← hsp] at hR
  rw [← hd] at HDG
  rw [← hM, ← hV] at HB
  rw [← hQ, ← hP] at HB2
  have HR := Lib.hid hR
  have HQD := Lib.hid hQd
  clear hd hM hQ hV hP hsp hps hpl hql hq hR hs hs0 hQd
  go_enter Tryz.func23, Tryz.ntmps23
  go_wp2_with fail
  go_at_call 46
  refine (HB.out _).mono ?_
  rintro x w1 ⟨bv, rfl, hbo, hb1⟩
  have HO1 := Lib.hid hbo
  have HBL1 := Lib.hid hb1
  have hz1 := hb1.size
  clear hbo hb1 HB
  go_wp2_with fail
  go_at_call 46
  refine (HB2.out _).mono ?_
  rintro x w2 ⟨pv, rfl, hpo, hb2⟩
  obtain ⟨gp, cp, rfl, hgp1, hcp⟩ := own_form hpo (by omega)
  have hpr := BitRow.of_own hpo
  have HPR := Lib.hid hpr
  have lgp : gp < w2.heap.size := World.block_lt_of_cell? _ _ (hpr.cell 0 (by omega))
  have HBL2 : Hid (Below w.heap.size w w2) := Lib.hid (HBL1.out.trans (hb2.mono hz1))
  have HO2 : Hid (w2.ownsRow w.heap.size 3 1 bv M ((bitL V M).map intV)) := Lib.hid (own_below HO1.out hb2)
  have hz2 := hb2.size
  clear hpo hpr hb2 HO1 HBL1 HB2
  go_wp2_with fail
  go_at_call 29
  refine (HDG.out _).mono ?_
  rintro x w3 ⟨rfl, hb3⟩
  have HBL3 : Hid (Below w.heap.size w w3) := Lib.hid (HBL2.out.trans (hb3.mono HBL2.out.size))
  have HO3 : Hid (w3.ownsRow w.heap.size 3 1 bv M ((bitL V M).map intV)) := Lib.hid (own_below HO2.out hb3)
  have HPR3 : Hid (BitRow w3 gp Q P) := Lib.hid (Row.stays HPR.out (S := fun _ => False) (Stays.of_below hb3) lgp id)
  have hz3 := hb3.size
  have hdcp : (d : Int) ≤ (cp : Int) := by omega
  clear hb3 HO2 HBL2 HPR HDG
  go_wp2_with (at_builtin; refine append_ints rfl _ _ rfl w.heap.size bv M ((bitL V M).map intV) rfl HO3.out _ d _ rfl (bitL (P >>> sp) d) (bitL_length _ _) ?c1 ?c2 ?c3 ?c4 ?_)
  case c1 =>
    intro ad had j hj
    obtain rfl := Option.some.inj had
    rw [addr_add, Nat.zero_add, HPR3.out.cell j (by omega), bitL_get _ _ _ hj, Nat.testBit_shiftRight]
    have e : Q - 1 - j = sp + (d - 1 - j) := by have := HQD.out; omega
    rw [e]
    cases P.testBit (sp + (d - 1 - j)) <;> rfl
  case c2 => intro h; cases h
  case c3 => omega
  case c4 => exact HBL3.out.size
  intro v4 w4 hown4 hgrow4
  have HBL4 : Hid (Below w.heap.size w w4) := Lib.hid (HBL3.out.grown hgrow4 HBL3.out.size (fun q hq => (HO3.out.lt q hq).1))
  rw [← List.map_append, bitL_append HR.out] at hown4
  obtain ⟨g4, c4, rfl, hg41, hc4⟩ := own_form hown4 (by omega)
  have hr4 := BitRow.of_own hown4
  have lg4 : g4 < w4.heap.size := World.block_lt_of_cell? _ _ (hr4.cell 0 (by omega))
  have HR4 := Lib.hid hr4
  clear hown4 hgrow4 hr4
  go_wp2_with fail
  go_ret
  exact ⟨_, _, rfl, HR4.out, hg41, lg4, HBL4.out⟩
/-- In how many of the first i places of T two words differ. -/
def ham (A B T : Nat) : Nat → Nat
  | 0 => 0
  | i + 1 => ham A B T i + if (A ^^^ B).testBit (T - 1 - i) then 1 else 0
theorem ham_le (A B T i : Nat) : ham A B T i ≤ i := by
  induction i with
  | zero => exact Nat.le_refl _
  | succ i ih => unfold ham; split <;> omega
theorem cnt_step {es : List Nat} (h : es.Nodup) (x : Nat) : es.countP (fun e => decide (x ≤ e)) = es.countP (fun e => decide (x + 1 ≤ e)) + if x ∈ es then 1 else 0 := by
  induction es with
  | nil => rfl
  | cons a l ih =>
    obtain ⟨h1, h2⟩ := List.nodup_cons.1 h
    rw [List.countP_cons, List.countP_cons, ih h2]
    by_cases e : a = x
    · subst e
      have : ¬ (a + 1 ≤ a) := by omega
      simp [h1, this]
    · have e2 : (x ≤ a) ↔ (x + 1 ≤ a) := by omega
      have e3 : (x ∈ a :: l) ↔ (x ∈ l) := by
        rw [List.mem_cons]
        constructor
        · rintro (h | h)
          · exact absurd h.symm e
          · exact h
        · exact .inr
      simp only [e2, e3]
      omega
theorem ham_cnt {es : List Nat} (h : es.Nodup) {A B T : Nat} (hX : A ^^^ B = xorI es es.length) (hT : ∀ x ∈ es, x < T) (i : Nat) (hi : i ≤ T) : ham A B T i = es.countP (fun e => decide (T - i ≤ e)) := by
  induction i with
  | zero =>
    symm
    show es.countP (fun e => decide (T - 0 ≤ e)) = 0
    rw [List.countP_eq_zero]
    intro x hx
    have := hT x hx
    simp; omega
  | succ i ih =>
    show ham A B T i + _ = _
    rw [ih (by omega), hX, xorI_all h]
    have := cnt_step h (T - (i + 1))
    rw [this, show T - (i + 1) + 1 = T - i by omega, show T - 1 - i = T - (i + 1) by omega]
    congr 1
    by_cases h1 : T - (i + 1) ∈ es <;> simp [h1]
theorem ham_all {es : List Nat} (h : es.Nodup) {A B T : Nat} (hX : A ^^^ B = xorI es es.length) (hT : ∀ x ∈ es, x < T) : ham A B T T = es.length := by
  rw [ham_cnt h hX hT T (Nat.le_refl _), List.countP_eq_length]
  intro x hx
  simp
set_option maxHeartbeats 6400000 in
set_option maxRecDepth 100000 in
theorem apart_any (ga ca gb cb T A B : Nat) (w : World) (hT : T ≤ 100000) (ha : BitRow w ga T A) (hb : BitRow w gb T B) :
    Calls Tryz.prog 22 #[.slice (some ⟨ga, 0, none⟩) T ca, .slice (some ⟨gb, 0, none⟩) T cb] w fun x w' => x = .returned (.int .i64 ((ham A B T T : Nat) : Int)) ∧ Below w.heap.size w w' := by
  have HA := Lib.hid ha
  have HB := Lib.hid hb
  clear ha hb
  go_enter Tryz.func22, Tryz.ntmps22
  go_wp2_with fail
  go_loopw [5, 6] (fun nv iv wr => ∃ i : Nat, i ≤ T ∧ iv = .int .i64 (i : Int) ∧ nv = .int .i64 ((ham A B T i : Nat) : Int) ∧ Hid (Below w.heap.size w wr) ∧ Hid (∀ a, wr.cell? a = w.cell? a)) (fun _ iv _ => T - (intOf iv).toNat)
  case atStart => exact ⟨0, Nat.zero_le _, rfl, rfl, Lib.hid (Below.refl _ _), Lib.hid (fun _ => rfl)⟩
  case round =>
    obtain ⟨i, hi, rfl, rfl, HBL, HC⟩ := hrel
    obtain ⟨wz, rfl⟩ : ∃ wz : World, wz = wr := ⟨_, rfl⟩
    by_cases hlt : i < T
    · have hltI : (i : Int) < (T : Int) := by omega
      have hhl := ham_le A B T i
      have hnx : ham A B T (i + 1) = ham A B T i + if (A ^^^ B).testBit (T - 1 - i) then 1 else 0 := rfl
      rw [Nat.testBit_xor] at hnx
      have c1 : wz.cell? ⟨ga, i, none⟩ = some (.int .i64 ((if A.testBit (T - 1 - i) then 1 else 0 : Nat) : Int)) := by rw [HC.out]; exact HA.out.cell i hlt
      have c2 : wz.cell? ⟨gb, i, none⟩ = some (.int .i64 ((if B.testBit (T - 1 - i) then 1 else 0 : Nat) : Int)) := by rw [HC.out]; exact HB.out.cell i hlt
      obtain ⟨n, hn⟩ : ∃ n, n = ham A B T i := ⟨_, rfl⟩
      rw [← hn] at hhl hnx
      rw [← hn]
      clear hn
      have hn100 : n ≤ 100000 := by omega
      cases hA : A.testBit (T - 1 - i) <;> cases hB : B.testBit (T - 1 - i)
      all_goals
        rw [hA] at c1 hnx
        rw [hB] at c2 hnx
        have HNX := Lib.hid hnx
        clear hA hB hnx
        simp only [if_true, if_false, Bool.false_eq_true] at c1 c2
        go_wp2_with fail
        go_region
        go_wp2_with fail
        go_roundw
        case rel => exact ⟨i + 1, by omega, by go_num, by rw [HNX.out]; first | rfl | (simp; done) | (simp; go_num), Lib.hid HBL.out.drew, Lib.hid (fun a => (World.cell?_drew _ _).trans (HC.out a))⟩
        case measure => simp [intOf]; omega
    · obtain rfl : i = T := by omega
      have hltI : ¬ (i : Int) < (i : Int) := by omega
      go_wp2_with fail
      go_ret
      exact ⟨rfl, HBL.out⟩
end Go.Proofs.YtgfjeaegigjnaaaGreatDoor
namespace Go.Proofs.YtgfjeaegigjnaaaGreatDoor
open Go.RowKit
set_option linter.unusedVariables false
set_option linter.unusedSimpArgs false

end Go.Proofs.YtgfjeaegigjnaaaGreatDoor

namespace Go.Proofs.YtgfjeaegigjnaaaGreatDoor
open Go.RowKit
set_option linter.unusedVariables false
set_option linter.unusedSimpArgs false

/-- The exponent of a place. -/
def placeE (n : Nat) (z : Int) : Nat := n - 1 - (z % (n : Int)).toNat
/-- The exponents that are turned, of the first i places. -/
def flipS (n t : Nat) (zs : List Int) : Nat → List Nat
  | 0 => []
  | i + 1 => if placeE n (zs.getD i 0) ∈ flipS n t zs i ∨ t + 2 ≤ (flipS n t zs i).length then flipS n t zs i else flipS n t zs i ++ [placeE n (zs.getD i 0)]
theorem flipS_ok {n : Nat} (hn : 0 < n) (t : Nat) (zs : List Int) (i : Nat) : (flipS n t zs i).Nodup ∧ (∀ x ∈ flipS n t zs i, x < n) ∧ (flipS n t zs i).length ≤ t + 2 := by
  induction i with
  | zero => exact ⟨List.nodup_nil, by simp [flipS], by simp [flipS]⟩
  | succ i ih =>
    obtain ⟨h1, h2, h3⟩ := ih
    unfold flipS
    split
    · exact ⟨h1, h2, h3⟩
    · next h =>
      obtain ⟨h4, h5⟩ := not_or.1 h
      refine ⟨?_, ?_, by rw [List.length_append]; simp; omega⟩
      · refine List.nodup_append.2 ⟨h1, by simp, ?_⟩
        intro a ha b hb e
        rw [List.mem_singleton] at hb
        subst hb; subst e
        exact h4 ha
      · intro x hx
        rcases List.mem_append.1 hx with h | h
        · exact h2 x h
        · rw [List.mem_singleton] at h
          rw [h]; unfold placeE; omega
theorem decI_append (chunk nb deg V P : Nat) (L M : List Nat) (i : Nat) (hi : i ≤ L.length) : decI chunk nb deg V P (L ++ M) i = decI chunk nb deg V P L i := by
  induction i with
  | zero => rfl
  | succ i ih =>
    show decStep _ _ _ _ _ = decStep _ _ _ _ _
    rw [ih (by omega)]
    congr 1
    rw [List.getD_eq_getElem?_getD, List.getD_eq_getElem?_getD, List.getElem?_append_left (by omega)]
theorem decI_snoc (chunk nb deg V P : Nat) (L : List Nat) (e : Nat) : decI chunk nb deg V P (L ++ [e]) (L ++ [e]).length = decStep chunk nb deg (decI chunk nb deg V P L L.length) e := by
  rw [List.length_append]
  show decStep _ _ _ (decI chunk nb deg V P (L ++ [e]) L.length) ((L ++ [e]).getD L.length 0) = _
  rw [decI_append _ _ _ _ _ _ _ _ (Nat.le_refl _)]
  congr 1
  rw [List.getD_eq_getElem?_getD, List.getElem?_append_right (Nat.le_refl _)]
  simp
theorem make_bools (n : Nat) (hn : n ≤ 1000000) (W : World) : (Instr.makeSlice 176 (.int .i64 (n : Int)) (.int .i64 (n : Int))).run Tryz.prog W = .ok (.slice (some ⟨W.heap.size, 0, none⟩) n n) (W.alloc (.cells (madeCells #[.bool false] n) 4)) :=
  run_make_row' (P := Tryz.prog) 176 4 (.bool false) 1 (by kernel_rfl) (by kernel_rfl) rfl .i64 .i64 n (by omega) (by omega) W
/-- What stands while bits are turned. -/
structure FlipSt (w0 w : World) (gt gw gp n chunk nb d V P : Nat) (es : List Nat) : Prop where
  bel : Below w0.heap.size w0 w
  tr : Row w gt n (fun j => .bool (decide (n - 1 - j ∈ es)))
  wd : SV w gw chunk (decI chunk nb d V P es es.length).1
  pr : SV w gp nb (decI chunk nb d V P es es.length).2
  gt1 : w0.heap.size ≤ gt
  gt2 : gt < w.heap.size
  gw1 : w0.heap.size ≤ gw
  gw2 : gw < w.heap.size
  gp1 : w0.heap.size ≤ gp
  gp2 : gp < w.heap.size
  n1 : gt ≠ gw
  n2 : gt ≠ gp
  n3 : gw ≠ gp
section
variable {w0 w : World} {gt gw gp n chunk nb d V P k : Nat} {es : List Nat}
theorem FlipSt.mark (h : Row w gt n (fun j => .bool (decide (n - 1 - j ∈ es)))) (hk : k < n) : Row (w.setCell ⟨gt, k, none⟩ (.bool true)) gt n (fun j => .bool (decide (n - 1 - j ∈ es ++ [n - 1 - k]))) :=
  (Row.set h k (.bool true)).congr fun j hj => by
    by_cases e : j = k
    · rw [e, upd_same]; simp
    · rw [upd_other _ _ e]
      have : ¬ (n - 1 - j = n - 1 - k) := by omega
      simp [this]
/-- A place of the chunk is turned. -/
theorem FlipSt.turnW (h : FlipSt w0 w gt gw gp n chunk nb d V P es) (hn : n = 8 * chunk + d) (hk : k < n) (hlow : k < 8 * chunk) :
    FlipSt w0 ((w.setCell ⟨gt, k, none⟩ (.bool true)).setCell ⟨gw, k / 8, none⟩ (.int .u8 ((byteAt chunk (decI chunk nb d V P es es.length).1 (k / 8) ^^^ 128 / 2 ^ (k % 8) : Nat) : Int))).drew gt gw gp n chunk nb d V P (es ++ [n - 1 - k]) := by
  obtain ⟨h1, h2, h3, h4, h5, h6, h7, h8, h9, h10, h11, h12, h13⟩ := h
  have s1 : Stays (· = gt) w (w.setCell ⟨gt, k, none⟩ (.bool true)) := Row.stay
  have e1 := SV.turn (SRow.stays h3 s1 h8 (Ne.symm h11)) hlow
  refine ⟨((h1.setCell h5 _).setCell h7 _).drew, ((FlipSt.mark h2 hk).other _ _ (Ne.symm h11)).drew, ?_, ?_, h5, by simpa using h6, h7, by simpa using h8, h9, by simpa using h10, h11, h12, h13⟩
  · rw [decI_snoc]
    unfold decStep
    rw [if_pos (by omega), show 8 * chunk + d - 1 - (n - 1 - k) = k by omega]
    exact SRow.drew e1
  · rw [decI_snoc]
    unfold decStep
    rw [if_pos (by omega)]
    exact SRow.drew (SRow.stays (S := (· = gw)) (SRow.stays h4 s1 h10 (Ne.symm h12)) Row.stay (by simpa using h10) (Ne.symm h13))
theorem FlipSt.turnP (h : FlipSt w0 w gt gw gp n chunk nb d V P es) (hn : n = 8 * chunk + d) (hk : k < n) (hlow : ¬ k < 8 * chunk) (hnb : d ≤ 8 * nb) :
    FlipSt w0 ((w.setCell ⟨gt, k, none⟩ (.bool true)).setCell ⟨gp, (k - 8 * chunk) / 8, none⟩ (.int .u8 ((byteAt nb (decI chunk nb d V P es es.length).2 ((k - 8 * chunk) / 8) ^^^ 128 / 2 ^ ((k - 8 * chunk) % 8) : Nat) : Int))).drew gt gw gp n chunk nb d V P (es ++ [n - 1 - k]) := by
  obtain ⟨h1, h2, h3, h4, h5, h6, h7, h8, h9, h10, h11, h12, h13⟩ := h
  have s1 : Stays (· = gt) w (w.setCell ⟨gt, k, none⟩ (.bool true)) := Row.stay
  have e1 := SV.turn (SRow.stays h4 s1 h10 (Ne.symm h12)) (show k - 8 * chunk < 8 * nb by omega)
  refine ⟨((h1.setCell h5 _).setCell h9 _).drew, ((FlipSt.mark h2 hk).other _ _ (Ne.symm h12)).drew, ?_, ?_, h5, by simpa using h6, h7, by simpa using h8, h9, by simpa using h10, h11, h12, h13⟩
  · rw [decI_snoc]
    unfold decStep
    rw [if_neg (by omega)]
    exact SRow.drew (SRow.stays (S := (· = gp)) (SRow.stays h3 s1 h8 (Ne.symm h11)) Row.stay (by simpa using h8) h13)
  · rw [decI_snoc]
    unfold decStep
    rw [if_neg (by omega), show 8 * chunk + d - 1 - (n - 1 - k) - 8 * chunk = k - 8 * chunk by omega]
    exact SRow.drew e1
end

theorem tmod_place {n : Nat} (hn : 0 < n) (z : Int) : (z % (n : Int)).toNat < n ∧ -(n : Int) < z.tmod n ∧ z.tmod n < n ∧ (((z % (n : Int)).toNat : Nat) : Int) = if z.tmod n < 0 then z.tmod n + n else z.tmod n := by
  have h1 := Int.emod_nonneg z (show (n : Int) ≠ 0 by omega)
  have h2 := Int.emod_lt_of_pos z (show (0 : Int) < n by omega)
  have h3 := Int.tmod_eq_emod (a := z) (b := n)
  have h4 : (n : Int).natAbs = n := by simp
  rw [h4] at h3
  by_cases hd : 0 ≤ z ∨ (n : Int) ∣ z
  · rw [if_pos hd] at h3
    refine ⟨by omega, by omega, by omega, ?_⟩
    rw [if_neg (by omega)]
    omega
  · rw [if_neg hd] at h3
    have h5 : z % (n : Int) ≠ 0 := fun h => hd (.inr (Int.dvd_of_emod_eq_zero h))
    refine ⟨by omega, by omega, by omega, ?_⟩
    rw [if_pos (by omega)]
    omega
def FlipQ (t : Nat) (s q : ByteArray) (zs : List Int) (len : Nat) (w : World) (e : Ending) (w' : World) : Prop :=
  ∃ es, es = flipS (8 * s.size + 13 * t) t zs len ∧ e = .returned (.tuple #[.string (strOf s.size (decI s.size (parN t) (13 * t) (numB s.data.toList) (numB q.data.toList) es es.length).1), .string (strOf (parN t) (decI s.size (parN t) (13 * t) (numB s.data.toList) (numB q.data.toList) es es.length).2), .int .i64 (es.length : Int)]) ∧ Below w.heap.size w w'
end Go.Proofs.YtgfjeaegigjnaaaGreatDoor

namespace Go.Proofs.YtgfjeaegigjnaaaGreatDoor
open Go.RowKit
set_option linter.unusedVariables false
set_option linter.unusedSimpArgs false

theorem decV_form (t chunk : Nat) (r : Option (Nat × Nat × Nat)) : ∃ (a b : ByteArray) (k : Int) (ok : Bool), decV t chunk r = .tuple #[.string a, .string b, .int .i64 k, .bool ok] := by
  cases r with
  | none => exact ⟨_, _, _, _, rfl⟩
  | some z => exact ⟨_, _, _, _, rfl⟩
theorem IntRow.len_le {w : World} {a : Option Addr} {len cap : Nat} {zs : List Int} {k : IntKind} (h : IntRow k w a len cap zs) : len ≤ 9223372036854775807 := by
  rcases h with ⟨_, h, _⟩ | ⟨x, _, h1, h2, _⟩
  · omega
  · unfold maxLen at h2; omega
/-- What Decode makes of a code word with turned bits. -/
theorem flip_facts {t : Nat} (ht1 : 1 ≤ t) (ht8 : t ≤ 8) (s : ByteArray) (hs0 : 0 < s.size) (hs : s.size ≤ 256) {es : List Nat} (h1 : es.Nodup) (h2 : ∀ x ∈ es, x < 8 * s.size + 13 * t) (x y : ByteArray)
    (hx : x = strOf s.size (decI s.size (parN t) (13 * t) (numB s.data.toList) (numB (parS t s).data.toList) es es.length).1) (hy : y = strOf (parN t) (decI s.size (parN t) (13 * t) (numB s.data.toList) (numB (parS t s).data.toList) es es.length).2) :
    x.size = s.size ∧ y.size = parN t ∧ (es.length ≤ t → decV t s.size (decR t s.size (numB x.data.toList) (numB y.data.toList)) = .tuple #[.string s, .string (parS t s), .int .i64 (es.length : Int), .bool true]) := by
  have hV := numB_lt s.data.toList
  rw [show s.data.toList.length = s.size by simp] at hV
  have hR := regV_lt ht1 ht8 s.size _ hV
  have hpn : numB (parS t s).data.toList = regV t s.size (numB s.data.toList) := num_str hR
  rw [hpn] at hx hy
  have hl := decI_lt (deg := 13 * t) hV hR hs0 (par_pos ht1) es es.length
  subst hx hy
  refine ⟨str_size _ _, str_size _ _, fun hle => ?_⟩
  rw [num_str hl.1, num_str hl.2, decR_right ht1 ht8 hs0 hs hV h1 h2 hle _ _ hl.1 hl.2 (word_dec (par_spare t) h2 _ (Nat.le_refl _))]
  show Value.tuple #[.string (strOf s.size (numB s.data.toList)), .string (strOf (parN t) (regV t s.size (numB s.data.toList))), .int .i64 (es.length : Int), .bool true] = _
  rw [str_num]
  rfl
end Go.Proofs.YtgfjeaegigjnaaaGreatDoor

namespace Go.Proofs.YtgfjeaegigjnaaaGreatDoor
open Go.RowKit
set_option linter.unusedVariables false
set_option linter.unusedSimpArgs false

/-- A code word is decoded as it is. -/
theorem code_as_is {t : Nat} (ht1 : 1 ≤ t) (ht8 : t ≤ 8) (s : ByteArray) (hs0 : 0 < s.size) (hs : s.size ≤ 256) : decV t s.size (decR t s.size (numB s.data.toList) (numB (parS t s).data.toList)) = .tuple #[.string s, .string (parS t s), .int .i64 0, .bool true] := by
  have hV := numB_lt s.data.toList
  rw [show s.data.toList.length = s.size by simp] at hV
  have hR := regV_lt ht1 ht8 s.size _ hV
  have hpn : numB (parS t s).data.toList = regV t s.size (numB s.data.toList) := num_str hR
  rw [hpn, decR_right ht1 ht8 hs0 hs hV (es := []) List.nodup_nil (by simp) (Nat.zero_le _) _ _ hV hR (by show _ = _ ^^^ 0; rw [Nat.xor_zero])]
  show Value.tuple #[.string (strOf s.size (numB s.data.toList)), .string (strOf (parN t) (regV t s.size (numB s.data.toList))), .int .i64 ((0 : Nat) : Int), .bool true] = _
  rw [str_num]
  rfl
/-- What is answered: nothing, or a code word. -/
theorem dec_cases {t chunk : Nat} (ht1 : 1 ≤ t) (ht8 : t ≤ 8) (x y : ByteArray) (hx : x.size = chunk) (hy : y.size = parN t) (hc0 : 0 < chunk) :
    decV t chunk (decR t chunk (numB x.data.toList) (numB y.data.toList)) = .tuple #[.string ⟨#[]⟩, .string ⟨#[]⟩, .int .i64 0, .bool false] ∨
    ∃ (a : ByteArray) (k : Int), a.size = chunk ∧ decV t chunk (decR t chunk (numB x.data.toList) (numB y.data.toList)) = .tuple #[.string a, .string (parS t a), .int .i64 k, .bool true] := by
  have hxl := numB_lt x.data.toList
  rw [show x.data.toList.length = chunk by rw [← hx]; simp] at hxl
  have hyl := numB_lt y.data.toList
  rw [show y.data.toList.length = parN t by rw [← hy]; simp] at hyl
  cases hr : decR t chunk (numB x.data.toList) (numB y.data.toList) with
  | none => exact .inl rfl
  | some z =>
    obtain ⟨V, P, n⟩ := z
    obtain ⟨h1, h2, _⟩ := decR_word ht1 ht8 hc0 hxl hyl hr
    have hsz : (strOf chunk V).size = chunk := str_size _ _
    refine .inr ⟨strOf chunk V, n, hsz, ?_⟩
    have hpar : parS t (strOf chunk V) = strOf (parN t) P := by
      unfold parS
      rw [num_str h1, hsz, h2]; rfl
    rw [hpar]; rfl
end Go.Proofs.YtgfjeaegigjnaaaGreatDoor

