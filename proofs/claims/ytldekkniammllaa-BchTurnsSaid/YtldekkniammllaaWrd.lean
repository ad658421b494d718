/- The document's word and distance; the law's look at an answer of Decode. -/
import Derived.Test.YtldekkniammllaaDecA
namespace Go.Proofs.Ytldekkniammllaa
open Go.RowKit
set_option linter.unusedVariables false
set_option linter.unusedSimpArgs false

theorem bitL_append {V R M d : Nat} (hR : R < 2 ^ d) : bitL V M ++ bitL R d = bitL ((V <<< d) ^^^ R) (M + d) := by
  apply List.ext_getElem?
  intro j
  have hb : ∀ B T j, j < T → (bitL B T)[j]? = some (if B.testBit (T - 1 - j) then 1 else 0) := fun B T j h => by
    unfold bitL
    rw [List.getElem?_map, List.getElem?_range h]; rfl
  rw [List.getElem?_append, bitL_length]
  rcases Nat.lt_or_ge j M with h | h
  · rw [if_pos h, hb _ _ _ h, hb _ _ _ (by omega), Nat.testBit_xor, Nat.testBit_shiftLeft, bit_none hR (by omega)]
    have e1 : M + d - 1 - j ≥ d := by omega
    have e2 : M + d - 1 - j - d = M - 1 - j := by omega
    simp [e1, e2]
  · rw [if_neg (by omega)]
    rcases Nat.lt_or_ge j (M + d) with h2 | h2
    · rw [hb _ _ _ (by omega), hb _ _ _ h2, Nat.testBit_xor, Nat.testBit_shiftLeft]
      have e1 : ¬ (M + d - 1 - j ≥ d) := by omega
      have e2 : d - 1 - (j - M) = M + d - 1 - j := by omega
      simp [e1, e2]
    · rw [List.getElem?_eq_none (by rw [bitL_length]; omega), List.getElem?_eq_none (by rw [bitL_length]; omega)]

theorem own_below {w w' : World} {B e n size : Nat} {v : Value} {xs : List Value} (h : w.ownsRow B e size v n xs) (k : Below w.heap.size w w') : w'.ownsRow B e size v n xs := by
  refine ⟨h.1, h.2.imp id ?_⟩
  rintro ⟨g, cap, cur, h1, h2, h3, h4⟩
  refine ⟨g, cap, cur, h1, h2, ?_, h4⟩
  have hg : g < w.heap.size := by
    rcases Nat.lt_or_ge g w.heap.size with h | h
    · exact h
    · rw [Array.getElem?_eq_none h] at h3; cases h3
  rw [k.block g hg]; exact h3
set_option maxHeartbeats 6400000 in
set_option maxRecDepth 100000 in
theorem rword_any (t : Nat) (s q : ByteArray) (ht1 : 1 ≤ t) (ht8 : t ≤ 8) (hs0 : 0 < s.size) (hs : s.size ≤ 256) (hq : q.size = parN t) (w : World) :
    Calls Try.prog 28 #[.int .i64 (t : Int), .string s, .string q] w fun x w' => ∃ g cap, x = .returned (.slice (some ⟨g, 0, none⟩) (8 * s.size + 13 * t) cap) ∧ BitRow w' g (8 * s.size + 13 * t) (wordN (13 * t) (spare t) (numB s.data.toList) (numB q.data.toList)) ∧ w.heap.size ≤ g ∧ g < w'.heap.size ∧ Below w.heap.size w w' := by
  have hps := par_spare t
  have hpl := par_le ht8
  have HB := Lib.hid (fun w => rbitsT_any s (by omega) w)
  have HB2 := Lib.hid (fun w => rbitsT_any q (by omega) w)
  have HDG := Lib.hid (fun w => rdegree_any t ht1 ht8 w)
  have hql := numB_lt q.data.toList
  rw [show q.data.toList.length = parN t by rw [← hq]; simp] at hql
  have hR := shr_lt hql hps
  obtain ⟨d, hd⟩ : ∃ d, d = 13 * t := ⟨_, rfl⟩
  obtain ⟨M, hM⟩ : ∃ M, M = 8 * s.size := ⟨_, rfl⟩
  obtain ⟨Q, hQ⟩ : ∃ Q, Q = 8 * q.size := ⟨_, rfl⟩
  have hdQ : d ≤ Q ∧ d ≤ 104 ∧ 13 ≤ d ∧ M ≤ 2048 ∧ 8 ≤ M ∧ Q ≤ 104 := by rw [hQ, hq]; omega
  obtain ⟨hdQ, hd104, hd13, hM1, hM8, hQ104⟩ := hdQ
  obtain ⟨V, hV⟩ : ∃ V, V = numB s.data.toList := ⟨_, rfl⟩
  obtain ⟨P, hP⟩ : ∃ P, P = numB q.data.toList := ⟨_, rfl⟩
  obtain ⟨sp, hsp⟩ : ∃ sp, sp = spare t := ⟨_, rfl⟩
  have hQd : Q = d + sp := by rw [hQ, hq, hd, hsp]; exact hps
  rw [← hd, ← hM, ← hV, ← hP, ← hsp]
  rw [← hP, ← hd, ← hsp] at hR
  rw [← hd] at HDG
  rw [← hM, ← hV] at HB
  rw [← hQ, ← hP] at HB2
  have HR := Lib.hid hR
  have HQD := Lib.hid hQd
  clear hd hM hQ hV hP hsp hps hpl hql hq hR hs hs0 hQd
  go_enter Try.func28, Try.ntmps28
  go_wp2_with fail
  go_at_call 21
  refine (HB.out _).mono ?_
  rintro x w1 ⟨bv, rfl, hbo, hb1⟩
  have HO1 := Lib.hid hbo
  have HBL1 := Lib.hid hb1
  have hz1 := hb1.size
  clear hbo hb1 HB
  go_wp2_with fail
  go_at_call 21
  refine (HB2.out _).mono ?_
  rintro x w2 ⟨pv, rfl, hpo, hb2⟩
  obtain ⟨gp, cp, rfl, hgp1, hcp⟩ := own_form hpo (by omega)
  have hpr := BitRow.of_own hpo
  have HPR := Lib.hid hpr
  have lgp : gp < w2.heap.size := World.block_lt_of_cell? _ _ (hpr.cell 0 (by omega))
  have HBL2 : Hid (Below w.heap.size w w2) := Lib.hid (HBL1.out.trans (hb2.mono hz1))
  have HO2 : Hid (w2.ownsRow w.heap.size 3 1 bv M ((bitL V M).map intV)) := Lib.hid (own_below HO1.out hb2)
  have hz2 := hb2.size
  clear hpo hpr hb2 HO1 HBL1 HB2
  go_wp2_with fail
  go_at_call 12
  refine (HDG.out _).mono ?_
  rintro x w3 ⟨rfl, hb3⟩
  have HBL3 : Hid (Below w.heap.size w w3) := Lib.hid (HBL2.out.trans (hb3.mono HBL2.out.size))
  have HO3 : Hid (w3.ownsRow w.heap.size 3 1 bv M ((bitL V M).map intV)) := Lib.hid (own_below HO2.out hb3)
  have HPR3 : Hid (BitRow w3 gp Q P) := Lib.hid (Row.stays HPR.out (S := fun _ => False) (Stays.of_below hb3) lgp id)
  have hz3 := hb3.size
  have hdcp : (d : Int) ≤ (cp : Int) := by omega
  clear hb3 HO2 HBL2 HPR HDG
  go_wp2_with (at_builtin; refine append_ints rfl _ _ rfl w.heap.size bv M ((bitL V M).map intV) rfl HO3.out _ d _ rfl (bitL (P >>> sp) d) (bitL_length _ _) ?c1 ?c2 ?c3 ?c4 ?_)
  case c1 =>
    intro ad had j hj
    obtain rfl := Option.some.inj had
    rw [addr_add, Nat.zero_add, HPR3.out.cell j (by omega), bitL_get _ _ _ hj, Nat.testBit_shiftRight]
    have e : Q - 1 - j = sp + (d - 1 - j) := by have := HQD.out; omega
    rw [e]
    cases P.testBit (sp + (d - 1 - j)) <;> rfl
  case c2 => intro h; cases h
  case c3 => omega
  case c4 => exact HBL3.out.size
  intro v4 w4 hown4 hgrow4
  have HBL4 : Hid (Below w.heap.size w w4) := Lib.hid (HBL3.out.grown hgrow4 HBL3.out.size (fun q hq => (HO3.out.lt q hq).1))
  rw [← List.map_append, bitL_append HR.out] at hown4
  obtain ⟨g4, c4, rfl, hg41, hc4⟩ := own_form hown4 (by omega)
  have hr4 := BitRow.of_own hown4
  have lg4 : g4 < w4.heap.size := World.block_lt_of_cell? _ _ (hr4.cell 0 (by omega))
  have HR4 := Lib.hid hr4
  clear hown4 hgrow4 hr4
  go_wp2_with fail
  go_ret
  exact ⟨_, _, rfl, HR4.out, hg41, lg4, HBL4.out⟩

/-- In how many of the first i places of T two words differ. -/
def ham (A B T : Nat) : Nat → Nat
  | 0 => 0
  | i + 1 => ham A B T i + if (A ^^^ B).testBit (T - 1 - i) then 1 else 0
theorem ham_le (A B T i : Nat) : ham A B T i ≤ i := by
  induction i with
  | zero => exact Nat.le_refl _
  | succ i ih => unfold ham; split <;> omega
theorem cnt_step {es : List Nat} (h : es.Nodup) (x : Nat) : es.countP (fun e => decide (x ≤ e)) = es.countP (fun e => decide (x + 1 ≤ e)) + if x ∈ es then 1 else 0 := by
  induction es with
  | nil => rfl
  | cons a l ih =>
    obtain ⟨h1, h2⟩ := List.nodup_cons.1 h
    rw [List.countP_cons, List.countP_cons, ih h2]
    by_cases e : a = x
    · subst e
      have : ¬ (a + 1 ≤ a) := by omega
      simp [h1, this]
    · have e2 : (x ≤ a) ↔ (x + 1 ≤ a) := by omega
      have e3 : (x ∈ a :: l) ↔ (x ∈ l) := by
        rw [List.mem_cons]
        constructor
        · rintro (h | h)
          · exact absurd h.symm e
          · exact h
        · exact .inr
      simp only [e2, e3]
      omega
theorem ham_cnt {es : List Nat} (h : es.Nodup) {A B T : Nat} (hX : A ^^^ B = xorI es es.length) (hT : ∀ x ∈ es, x < T) (i : Nat) (hi : i ≤ T) : ham A B T i = es.countP (fun e => decide (T - i ≤ e)) := by
  induction i with
  | zero =>
    symm
    show es.countP (fun e => decide (T - 0 ≤ e)) = 0
    rw [List.countP_eq_zero]
    intro x hx
    have := hT x hx
    simp; omega
  | succ i ih =>
    show ham A B T i + _ = _
    rw [ih (by omega), hX, xorI_all h]
    have := cnt_step h (T - (i + 1))
    rw [this, show T - (i + 1) + 1 = T - i by omega, show T - 1 - i = T - (i + 1) by omega]
    congr 1
    by_cases h1 : T - (i + 1) ∈ es <;> simp [h1]
theorem ham_all {es : List Nat} (h : es.Nodup) {A B T : Nat} (hX : A ^^^ B = xorI es es.length) (hT : ∀ x ∈ es, x < T) : ham A B T T = es.length := by
  rw [ham_cnt h hX hT T (Nat.le_refl _), List.countP_eq_length]
  intro x hx
  simp

set_option maxHeartbeats 6400000 in
set_option maxRecDepth 100000 in
theorem apart_any (ga ca gb cb T A B : Nat) (w : World) (hT : T ≤ 100000) (ha : BitRow w ga T A) (hb : BitRow w gb T B) :
    Calls Try.prog 27 #[.slice (some ⟨ga, 0, none⟩) T ca, .slice (some ⟨gb, 0, none⟩) T cb] w fun x w' => x = .returned (.int .i64 ((ham A B T T : Nat) : Int)) ∧ Below w.heap.size w w' := by
  have HA := Lib.hid ha
  have HB := Lib.hid hb
  clear ha hb
  go_enter Try.func27, Try.ntmps27
  go_wp2_with fail
  go_loopw [5, 6] (fun nv iv wr => ∃ i : Nat, i ≤ T ∧ iv = .int .i64 (i : Int) ∧ nv = .int .i64 ((ham A B T i : Nat) : Int) ∧ Hid (Below w.heap.size w wr) ∧ Hid (∀ a, wr.cell? a = w.cell? a)) (fun _ iv _ => T - (intOf iv).toNat)
  case atStart => exact ⟨0, Nat.zero_le _, rfl, rfl, Lib.hid (Below.refl _ _), Lib.hid (fun _ => rfl)⟩
  case round =>
    obtain ⟨i, hi, rfl, rfl, HBL, HC⟩ := hrel
    obtain ⟨wz, rfl⟩ : ∃ wz : World, wz = wr := ⟨_, rfl⟩
    by_cases hlt : i < T
    · have hltI : (i : Int) < (T : Int) := by omega
      have hhl := ham_le A B T i
      have hnx : ham A B T (i + 1) = ham A B T i + if (A ^^^ B).testBit (T - 1 - i) then 1 else 0 := rfl
      rw [Nat.testBit_xor] at hnx
      have c1 : wz.cell? ⟨ga, i, none⟩ = some (.int .i64 ((if A.testBit (T - 1 - i) then 1 else 0 : Nat) : Int)) := by rw [HC.out]; exact HA.out.cell i hlt
      have c2 : wz.cell? ⟨gb, i, none⟩ = some (.int .i64 ((if B.testBit (T - 1 - i) then 1 else 0 : Nat) : Int)) := by rw [HC.out]; exact HB.out.cell i hlt
      obtain ⟨n, hn⟩ : ∃ n, n = ham A B T i := ⟨_, rfl⟩
      rw [← hn] at hhl hnx
      rw [← hn]
      clear hn
      have hn100 : n ≤ 100000 := by omega
      cases hA : A.testBit (T - 1 - i) <;> cases hB : B.testBit (T - 1 - i)
      all_goals
        rw [hA] at c1 hnx
        rw [hB] at c2 hnx
        have HNX := Lib.hid hnx
        clear hA hB hnx
        simp only [if_true, if_false, Bool.false_eq_true] at c1 c2
        go_wp2_with fail
        go_region
        go_wp2_with fail
        go_roundw
        case rel => exact ⟨i + 1, by omega, by go_num, by rw [HNX.out]; first | rfl | (simp; done) | (simp; go_num), Lib.hid HBL.out.drew, Lib.hid (fun a => (World.cell?_drew _ _).trans (HC.out a))⟩
        case measure => simp [intOf]; omega
    · obtain rfl : i = T := by omega
      have hltI : ¬ (i : Int) < (i : Int) := by omega
      go_wp2_with fail
      go_ret
      exact ⟨rfl, HBL.out⟩
end Go.Proofs.Ytldekkniammllaa
namespace Go.Proofs.Ytldekkniammllaa
open Go.RowKit
set_option linter.unusedVariables false
set_option linter.unusedSimpArgs false

set_option maxRecDepth 100000 in
theorem word_none (p : Option Addr) (t : Int) (x y : ByteArray) (w : World) :
    Calls Try.prog 17 #[.pointer p, .int .i64 t, .string x, .string y, .string ⟨#[]⟩, .string ⟨#[]⟩, .int .i64 0, .bool false] w fun e w' => e = .returned (.bool true) ∧ w' = w := by
  go_enter Try.func17, Try.ntmps17
  go_wp2_with fail
  go_ret
  exact ⟨rfl, rfl⟩
set_option maxHeartbeats 3200000 in
set_option maxRecDepth 100000 in
theorem word_some (c t chunk : Nat) (x y a : ByteArray) (k : Nat) (hx : x.size = chunk) (hy : y.size = parN t) (ha : a.size = chunk) (hc0 : 0 < chunk) (hc : chunk ≤ 256) (ht1 : 1 ≤ t) (ht8 : t ≤ 8) (hk : k ≤ t)
    (hap : ham (wordN (13 * t) (spare t) (numB x.data.toList) (numB y.data.toList)) (wordN (13 * t) (spare t) (numB a.data.toList) (numB (parS t a).data.toList)) (8 * chunk + 13 * t) (8 * chunk + 13 * t) = k) (w : World) (h : CodeAt w c t chunk) :
    Calls Try.prog 17 #[.pointer (some ⟨c, 0, none⟩), .int .i64 (t : Int), .string x, .string y, .string a, .string (parS t a), .int .i64 (k : Int), .bool true] w fun e w' => e = .returned (.bool true) ∧ Coded c t chunk w w' := by
  have lc := h.lc
  have hps : (parS t a).size = parN t := str_size _ _
  have HE := Lib.hid (Encode_any c t chunk a ha hc ht1 ht8 w h)
  have HW1 := Lib.hid (fun w => rword_any t x y ht1 ht8 (by omega) (by omega) hy w)
  have HW2 := Lib.hid (fun w => rword_any t a (parS t a) ht1 ht8 (by omega) (by omega) hps w)
  rw [hx] at HW1
  rw [ha] at HW2
  obtain ⟨T, hT⟩ : ∃ T, T = 8 * chunk + 13 * t := ⟨_, rfl⟩
  have hT2 : T ≤ 100000 := by omega
  rw [← hT] at HW1 HW2 hap
  obtain ⟨A, hA⟩ : ∃ A, A = wordN (13 * t) (spare t) (numB x.data.toList) (numB y.data.toList) := ⟨_, rfl⟩
  obtain ⟨B, hB⟩ : ∃ B, B = wordN (13 * t) (spare t) (numB a.data.toList) (numB (parS t a).data.toList) := ⟨_, rfl⟩
  rw [← hA] at HW1 hap
  rw [← hB] at HW2 hap
  obtain ⟨S, hS⟩ : ∃ S, S = parS t a := ⟨_, rfl⟩
  rw [← hS] at HE HW2
  rw [← hS]
  have hss : (S.toList == S.toList) = true := by simp
  have HAP := Lib.hid hap
  have hkI : (k : Int) ≤ (t : Int) := by omega
  clear hx hy ha hps hT hA hB hS hap h
  go_enter Try.func17, Try.ntmps17
  go_wp2_with fail
  go_at_call 11
  refine HE.out.mono ?_
  rintro e w1 ⟨rfl, hk1⟩
  have HK1 := Lib.hid hk1
  clear hk1 HE
  go_wp2_with fail
  go_at_call 28
  refine (HW1.out _).mono ?_
  rintro e w2 ⟨g2, c2, rfl, hr2, hg2, lg2, hb2⟩
  have HR2 := Lib.hid hr2
  have HK2 : Hid (Coded c t chunk w w2) := Lib.hid (HK1.out.below lc hb2)
  clear hr2 hb2 HW1
  go_wp2_with fail
  go_at_call 28
  refine (HW2.out _).mono ?_
  rintro e w3 ⟨g3, c3, rfl, hr3, hg3, lg3, hb3⟩
  have HR3 := Lib.hid hr3
  have HR23 : Hid (BitRow w3 g2 T A) := Lib.hid (Row.stays HR2.out (S := fun _ => False) (Stays.of_below hb3) lg2 id)
  have HK3 : Hid (Coded c t chunk w w3) := Lib.hid (HK2.out.below lc hb3)
  have HAPA := Lib.hid (apart_any g2 c2 g3 c3 T A B w3 hT2 HR23.out HR3.out)
  rw [HAP.out] at HAPA
  clear hr3 hb3 HW2 HR2
  go_wp2_with fail
  go_at_call 27
  refine HAPA.out.mono ?_
  rintro e w4 ⟨rfl, hb4⟩
  have HK4 : Hid (Coded c t chunk w w4) := Lib.hid (HK3.out.below lc hb4)
  clear hb4
  go_wp2_with fail
  go_ret
  exact ⟨rfl, HK4.out⟩
/-- Whatever Decode has answered. -/
theorem word_of (c t chunk : Nat) (x y : ByteArray) (hx : x.size = chunk) (hy : y.size = parN t) (hc0 : 0 < chunk) (hc : chunk ≤ 256) (ht1 : 1 ≤ t) (ht8 : t ≤ 8) (a b : ByteArray) (k : Int) (ok : Bool)
    (hd : decV t chunk (decR t chunk (numB x.data.toList) (numB y.data.toList)) = .tuple #[.string a, .string b, .int .i64 k, .bool ok]) (w : World) (h : CodeAt w c t chunk) :
    Calls Try.prog 17 #[.pointer (some ⟨c, 0, none⟩), .int .i64 (t : Int), .string x, .string y, .string a, .string b, .int .i64 k, .bool ok] w fun e w' => e = .returned (.bool true) ∧ (w' = w ∨ Coded c t chunk w w') := by
  have hxl := numB_lt x.data.toList
  rw [show x.data.toList.length = chunk by rw [← hx]; simp] at hxl
  have hyl := numB_lt y.data.toList
  rw [show y.data.toList.length = parN t by rw [← hy]; simp] at hyl
  cases hr : decR t chunk (numB x.data.toList) (numB y.data.toList) with
  | none =>
    rw [hr] at hd
    simp only [decV, Value.tuple.injEq, Array.mk.injEq, List.cons.injEq, Value.string.injEq, Value.int.injEq, Value.bool.injEq, and_true, true_and] at hd
    obtain ⟨rfl, rfl, rfl, rfl⟩ := hd
    exact (word_none _ _ x y w).mono fun e w' ⟨h1, h2⟩ => ⟨h1, .inl h2⟩
  | some z =>
    obtain ⟨V, P, n⟩ := z
    obtain ⟨h1, h2, h3, es, h4, h5, h6, h7⟩ := decR_word ht1 ht8 hc0 hxl hyl hr
    rw [hr] at hd
    simp only [decV, Value.tuple.injEq, Array.mk.injEq, List.cons.injEq, Value.string.injEq, Value.int.injEq, Value.bool.injEq, and_true, true_and] at hd
    obtain ⟨rfl, rfl, rfl, rfl⟩ := hd
    have hsz : (strOf chunk V).size = chunk := str_size _ _
    have hnum : numB (strOf chunk V).data.toList = V := num_str h1
    have hpar : parS t (strOf chunk V) = strOf (parN t) P := by
      unfold parS
      rw [hnum, hsz, h2]; rfl
    have hpn : numB (strOf (parN t) P).data.toList = P := num_str (by rw [h2]; exact regV_lt ht1 ht8 _ _ h1)
    rw [← hpar]
    refine (word_some c t chunk x y (strOf chunk V) n hx hy hsz hc0 hc ht1 ht8 h3 ?_ w h).mono fun e w' ⟨k1, k2⟩ => ⟨k1, .inr k2⟩
    rw [hpar, hnum, hpn, ← h6]
    exact ham_all h4 (by rw [h7, ← Nat.xor_assoc, Nat.xor_self, Nat.zero_xor]) h5
end Go.Proofs.Ytldekkniammllaa
