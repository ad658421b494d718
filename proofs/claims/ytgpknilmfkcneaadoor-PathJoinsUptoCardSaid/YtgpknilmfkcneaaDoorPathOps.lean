/- Within, Parent and Join of package path, and Join of the document. -/
import Derived.Test.YtgpknilmfkcneaaDoorStrs
import Derived.Deep.RegionHeld3
namespace Go.Proofs.YtgpknilmfkcneaaDoor
open Go.RowKit
set_option linter.unusedVariables false
set_option linter.unusedSimpArgs false

def withinP (p q : List UInt8) : Bool := decide ((splitP p).2 = 0) && decide ((splitP q).2 = 0) && decide ((splitP q).1.length ≤ (splitP p).1.length) && decide ((splitP p).1.take (splitP q).1.length = (splitP q).1)
theorem splitP_code (l : List UInt8) : (splitP l).2 = 0 ∨ (splitP l).2 = 105 ∨ (splitP l).2 = 107 := by
  unfold splitP
  split
  · exact .inr (.inr rfl)
  · split
    · exact .inl rfl
    · split
      · exact .inr (.inr rfl)
      · split
        · exact .inr (.inl rfl)
        · exact .inl rfl
theorem splitP_few (l : List UInt8) : (splitP l).1.length ≤ 16 := by
  unfold splitP
  split
  · simp
  · split
    · simp
    · split
      · simp
      · rename_i h
        split
        · simp
        · have : ¬ 16 < (cutL l.tail).length := fun e => h (.inr e)
          simpa using this

theorem strsAt_take {w : World} {a : Option Addr} {n c : Nat} {ps : List (List UInt8)} (h : StrsAt w (.slice a n c) ps) {m : Nat} (hm : m ≤ ps.length) : StrsAt w (.slice a m c) (ps.take m) := by
  obtain ⟨a', c', e, hc, h⟩ := h
  cases e
  have hl : (ps.take m).length = m := by rw [List.length_take]; omega
  refine ⟨a, c, by rw [hl], by omega, ?_⟩
  rcases h with h | ⟨b, o, rfl, h⟩
  · left; rw [h]; simp
  · right
    refine ⟨b, o, rfl, fun j hj => ?_⟩
    rw [hl] at hj
    rw [h j (by omega)]
    simp
theorem strsAt_form {w : World} {v : Value} {ps : List (List UInt8)} (h : StrsAt w v ps) : ∃ a c, v = .slice a ps.length c ∧ ps.length ≤ c := by
  obtain ⟨a, c, e, hc, _⟩ := h
  exact ⟨a, c, e, hc⟩

theorem below_drewN {B : Nat} {w w' : World} (h : Below B w w') (n : Nat) : Below B w (w'.drewN n) := ⟨h.os, h.tape, h.output, h.size, h.block⟩
set_option maxHeartbeats 1000000 in
theorem within_any (p q : ByteArray) (m : Int) (w : World) (hm : w.cell? ⟨0, 0, none⟩ = some (.int .i64 m)) (hp : p.size ≤ 140737488351232) (hq : q.size ≤ 140737488351232) :
    Calls Tryd.prog 10 #[.string p, .string q] w fun e w' => e = .returned (.bool (withinP p.data.toList q.data.toList)) ∧ Below w.heap.size w w' := by
  have H1 := Lib.hid (psplit_any p m w hm hp)
  have H2 := Lib.hid (fun w1 hm1 => psplit_any q m w1 hm1 hq)
  have HV : Hid (withinP p.data.toList q.data.toList = (decide ((splitP p.data.toList).2 = 0) && decide ((splitP q.data.toList).2 = 0) && decide ((splitP q.data.toList).1.length ≤ (splitP p.data.toList).1.length) && decide ((splitP p.data.toList).1.take (splitP q.data.toList).1.length = (splitP q.data.toList).1))) := Lib.hid rfl
  have hf1 := splitP_few p.data.toList
  have hf2 := splitP_few q.data.toList
  have hc1 := splitP_code p.data.toList
  have hc2 := splitP_code q.data.toList
  unfold SplitPost tup2 at H1 H2
  generalize splitP p.data.toList = r1 at *
  generalize splitP q.data.toList = r2 at *
  obtain ⟨ps, n1⟩ := r1
  obtain ⟨qs, n2⟩ := r2
  dsimp only at hf1 hf2 hc1 hc2 H1 H2 HV
  generalize withinP p.data.toList q.data.toList = res at *
  have HC1 := Lib.hid hc1
  have HC2 := Lib.hid hc2
  clear hc1 hc2
  go_enter Tryd.func10, Tryd.ntmps10
  go_wp2_with fail
  refine H1.out.mono ?_; rintro e w1 ⟨v, rfl, P1, B1⟩
  have hm1 := below_cell B1 _ _ hm
  have S1 := StrsAt.of_parts P1
  obtain ⟨a, c, rfl, hac⟩ := strsAt_form S1
  have HP1 := Lib.hid S1
  have HB1 := Lib.hid B1
  clear P1 B1 S1
  go_wp2_with fail
  refine (H2.out w1 hm1).mono ?_; rintro e w2 ⟨u, rfl, P2, B2⟩
  have S2 := StrsAt.of_parts P2
  have S1 := HP1.out.below B2
  have HB2 := Lib.hid (HB1.out.trans (B2.mono HB1.out.size))
  obtain ⟨a', c', rfl, hac'⟩ := strsAt_form S2
  have HP2 := Lib.hid S2
  have HP3 := Lib.hid S1
  clear P2 B2 S1 S2 HP1 HB1 hm1
  by_cases e1 : n1 = 0
  · by_cases e2 : n2 = 0
    · subst e1 e2
      by_cases e3 : (qs.length : Int) ≤ (ps.length : Int)
      · have HE := Lib.hid (equals_any (strsAt_take HP3.out (show qs.length ≤ ps.length by omega)) HP2.out (by rw [List.length_take]; omega) (by omega))
        have HV2 : Hid (res = decide (ps.take qs.length = qs)) := Lib.hid (by rw [HV.out]; simp; omega)
        clear HV
        go_wp2_with fail
        refine HE.out.mono ?_; rintro e w3 ⟨rfl, n, rfl⟩
        go_wp2_with fail
        go_ret
        exact ⟨by rw [HV2.out]; rfl, below_drewN HB2.out n⟩
      · have HV2 : Hid (res = false) := Lib.hid (by rw [HV.out]; simp; intro h; omega)
        clear HV
        go_wp2_with fail
        go_ret
        exact ⟨by rw [HV2.out]; rfl, HB2.out⟩
    · have HV2 : Hid (res = false) := Lib.hid (by rw [HV.out]; simp [e2])
      subst e1
      clear HV
      rcases HC2.out.resolve_left e2 with rfl | rfl
      all_goals
        clear HC2 e2
        go_wp2_with fail
        go_ret
        exact ⟨by rw [HV2.out]; rfl, HB2.out⟩
  · have HV2 : Hid (res = false) := Lib.hid (by rw [HV.out]; simp [e1])
    clear HV
    rcases HC1.out.resolve_left e1 with rfl | rfl
    all_goals
      clear HC1 e1
      go_wp2_with fail
      go_ret
      exact ⟨by rw [HV2.out]; rfl, HB2.out⟩

/-! ### Join of the document -/
/-- The text behind k rounds. -/
def pre (ps : List (List UInt8)) (k : Nat) : List UInt8 := 47 :: [47].intercalate (ps.take k)
theorem inter_snoc (ps : List (List UInt8)) (h : ps ≠ []) (x : List UInt8) : [47].intercalate (ps ++ [x]) = [47].intercalate ps ++ 47 :: x := by
  induction ps with
  | nil => exact absurd rfl h
  | cons a l ih =>
    cases l with
    | nil => rw [List.singleton_append, inter_cons, inter_one, inter_one]
    | cons b l =>
      rw [List.cons_append, List.cons_append, inter_cons, inter_cons, ← List.cons_append, ih (by simp), List.append_assoc]; rfl
theorem pre_first {ps : List (List UInt8)} (h : 0 < ps.length) : pre ps 1 = (47 : UInt8) :: ps[0] := by
  unfold pre
  rw [List.take_succ_eq_append_getElem h]
  simp [inter_one]
theorem pre_next {ps : List (List UInt8)} {k : Nat} (h : k < ps.length) (h0 : 0 < k) : pre ps (k + 1) = pre ps k ++ 47 :: ps[k] := by
  unfold pre
  rw [List.take_succ_eq_append_getElem h, inter_snoc _ (by intro e; have h2 := congrArg List.length e; rw [List.length_take] at h2; simp only [List.length_nil] at h2; omega)]
  rfl
theorem pre_all (ps : List (List UInt8)) : pre ps ps.length = pathOf ps := by unfold pre pathOf; rw [List.take_length]
theorem pre_le (ps : List (List UInt8)) (k : Nat) : (pre ps k).length ≤ (pathOf ps).length := by
  unfold pre pathOf
  have : ∀ m j, j + m = ps.length → ([47].intercalate (ps.take j)).length ≤ ([47].intercalate ps).length := by
    intro m
    induction m with
    | zero => intro j hj; rw [List.take_of_length_le (by omega)]; exact Nat.le_refl _
    | succ m ih =>
      intro j hj
      have h1 := ih (j + 1) (by omega)
      rw [List.take_succ_eq_append_getElem (by omega)] at h1
      have h2 := inter_snoc_le (ps.take j) ps[j]
      omega
  rcases Nat.lt_or_ge k ps.length with h | h
  · have := this (ps.length - k) k (by omega)
    simp; omega
  · rw [List.take_of_length_le h]; exact Nat.le_refl _

def joinP (ps : List (List UInt8)) : List UInt8 × Int :=
  if (splitP (pathOf ps)).2 ≠ 0 then ([], (splitP (pathOf ps)).2) else if (splitP (pathOf ps)).1 = ps then (pathOf ps, 0) else ([], 107)
def strB (l : List UInt8) : ByteArray := ⟨l.toArray⟩
theorem strB_size (l : List UInt8) : (strB l).size = l.length := by unfold strB; show l.toArray.size = _; simp
theorem strB_list (l : List UInt8) : (strB l).data.toList = l := by unfold strB; simp

theorem strB_append (a b : List UInt8) : strB a ++ strB b = strB (a ++ b) := by
  apply ByteArray.ext
  unfold strB
  simp
set_option maxHeartbeats 2000000 in
theorem rjoin_any {v : Value} {ps : List (List UInt8)} (w : World) (h : StrsAt w v ps) (hN : ps.length ≤ 140737488355328) (hlen : (pathOf ps).length ≤ 140737488351232) :
    Calls Tryd.prog 13 #[v] w fun e w' => e = .returned (.tuple #[.string (strB (joinP ps).1), .int .i64 (joinP ps).2]) ∧ Below w.heap.size w w' := by
  have hv : joinP ps = if (splitP (pathOf ps)).2 ≠ 0 then ([], (splitP (pathOf ps)).2) else if (splitP (pathOf ps)).1 = ps then (pathOf ps, 0) else ([], 107) := rfl
  have HV := Lib.hid hv
  have H1 := Lib.hid (fun w1 => rsplit_any (strB (pathOf ps)) w1 (by rw [strB_size]; exact hlen))
  unfold SplitPost tup2 at H1
  rw [strB_list] at H1
  have hf := splitP_few (pathOf ps)
  have HC := Lib.hid (splitP_code (pathOf ps))
  clear hv
  obtain ⟨a, c, rfl, hc⟩ := strsAt_form h
  go_enter Tryd.func13, Tryd.ntmps13
  go_wp2_with fail
  go_loop [4, 5] (fun s i => ∃ k : Nat, k ≤ ps.length ∧ i = .int .i64 k ∧ s = .string (strB (pre ps k))) (fun _ i => ps.length - (intOf i).toNat)
  case atStart => exact ⟨0, Nat.zero_le _, rfl, rfl⟩
  case round =>
    obtain ⟨k, hk, rfl, rfl⟩ := hrel
    by_cases hlt : k < ps.length
    · obtain ⟨a', c2, e, hz1, h4⟩ := id h
      cases e
      obtain ⟨b, o, rfl, h3⟩ := h4.resolve_left (by intro e; rw [e] at hlt; simp at hlt)
      have hcell : w.cell? ⟨b, o + k, none⟩ = some (.string (strB ps[k])) := h3 k hlt
      clear h3 h4
      have hpl := pre_le ps (k + 1)
      have hpl0 := pre_le ps k
      have hsz0 : (strB (pre ps k)).size ≤ 140737488351232 := by rw [strB_size]; omega
      by_cases h0 : k = 0
      · subst h0
        have hp := pre_first hlt
        have hsz1 : (strB ps[0]).size ≤ 140737488351232 := by rw [strB_size]; rw [hp] at hpl; simp at hpl; omega
        have HP : Hid (strB (pre ps 0) ++ strB ps[0] = strB (pre ps (0 + 1))) := Lib.hid (by rw [strB_append, hp]; rfl)
        rw [Nat.add_zero] at hcell
        clear hp hpl hpl0
        generalize strB (pre ps 0) = X at *
        generalize strB ps[0] = Y at *
        go_wp2_with fail
        go_round
        case rel => exact ⟨1, by omega, rfl, by rw [← HP.out]⟩
        case measure => simp [intOf]; omega
      · have hk0 : 0 < k := by omega
        have hp := pre_next hlt hk0
        have hsz1 : (strB ps[k]).size + (strB (pre ps k)).size + 1 ≤ 140737488351232 := by rw [strB_size, strB_size]; rw [hp] at hpl; simp at hpl; omega
        have HP : Hid ((strB (pre ps k) ++ ⟨#[47]⟩) ++ strB ps[k] = strB (pre ps (k + 1))) := Lib.hid (by
          rw [show (⟨#[47]⟩ : ByteArray) = strB [47] from rfl, strB_append, strB_append, hp, List.append_assoc]; rfl)
        clear h0 hp hpl hpl0
        generalize strB (pre ps k) = X at *
        generalize strB ps[k] = Y at *
        go_wp2_with fail
        go_round
        case rel => exact ⟨k + 1, by omega, by go_num, by rw [← HP.out]⟩
        case measure => simp [intOf]; omega
    · obtain rfl : k = ps.length := by omega
      rw [pre_all]
      go_wp2_with fail
      refine (H1.out _).mono ?_; rintro e w1 ⟨v, rfl, P1, B1⟩
      have S1 := StrsAt.of_parts P1
      have S2 := h.below B1
      have HB1 := Lib.hid B1
      clear P1 B1 h
      generalize splitP (pathOf ps) = r at *
      obtain ⟨qs, n⟩ := r
      dsimp only at *
      obtain ⟨a', c', rfl, hac⟩ := strsAt_form S1
      have HS1 := Lib.hid S1
      have HS2 := Lib.hid S2
      clear S1 S2
      by_cases hn : n = 0
      · subst hn
        have hv := HV.out
        rw [if_neg (by simp)] at hv
        by_cases hl : (qs.length : Int) = (ps.length : Int)
        · have bl : ((qs.length : Int) != (ps.length : Int)) = false := by simp; omega
          have HLL := Lib.hid hl
          have hv3 := Lib.hid hv
          clear hl hv HV
          go_wp2_with fail
          go_loopw [8] (fun i wr => ∃ j n : Nat, j ≤ ps.length ∧ i = .int .i64 j ∧ wr = w1.drewN n ∧ Hid (ps.take j = qs.take j)) (fun i _ => ps.length - (intOf i).toNat)
          case atStart => exact ⟨0, 0, by omega, rfl, rfl, Lib.hid rfl⟩
          case round =>
            obtain ⟨j, n, hj, rfl, rfl, HE⟩ := hrel
            by_cases hlt2 : j < ps.length
            · have hlq : j < qs.length := by have := HLL.out; omega
              obtain ⟨ax, cx, ex, _, h3⟩ := HS1.out
              obtain ⟨ay, cy, ey, _, h4⟩ := HS2.out
              cases ex
              cases ey
              obtain ⟨b, o, rfl, h5⟩ := h3.resolve_left (by intro e; rw [e] at hlq; simp at hlq)
              obtain ⟨b', o', rfl, h6⟩ := h4.resolve_left (by intro e; rw [e] at hlt2; simp at hlt2)
              have hc1 : w1.cell? ⟨b, o + j, none⟩ = some (.string (strB qs[j])) := h5 j hlq
              have hc2 : w1.cell? ⟨b', o' + j, none⟩ = some (.string (strB ps[j])) := h6 j hlt2
              have HT : Hid (ps[j] = qs[j] → ps.take (j + 1) = qs.take (j + 1)) := Lib.hid (fun e => by
                rw [List.take_succ_eq_append_getElem hlt2, List.take_succ_eq_append_getElem hlq, HE.out, e])
              have HF : Hid (¬ ps[j] = qs[j] → ¬ qs = ps) := Lib.hid (fun e e2 => e (by simp [e2]))
              generalize ps[j] = x at *
              generalize qs[j] = y at *
              obtain ⟨X, hX⟩ : ∃ X : ByteArray, X = strB x := ⟨_, rfl⟩
              obtain ⟨Y, hY⟩ : ∃ Y : ByteArray, Y = strB y := ⟨_, rfl⟩
              rw [← hX] at hc2
              rw [← hY] at hc1
              have HX2 : Hid (X.toList = Y.toList ↔ x = y) := Lib.hid (by rw [hX, hY, ByteArray.toList_eq, ByteArray.toList_eq, strB_list, strB_list])
              clear hX hY h3 h4 h5 h6
              have h0 : (0 : Int) ≤ (j : Int) := by omega
              have h1 : (j : Int) < (ps.length : Int) := by omega
              have h1q : (j : Int) < (qs.length : Int) := by omega
              by_cases hxy : X.toList = Y.toList
              · have e1 : (X.toList == Y.toList) = true := by simpa using hxy
                have e2 : (X.toList != Y.toList) = false := by simpa using hxy
                have HE2 := Lib.hid (HT.out (HX2.out.1 hxy))
                clear hxy
                go_upto_region 16 with fail
                go_quiet (fail)
                go_wp2_with fail
                go_roundw
                case rel => exact ⟨j + 1, _, by omega, by go_num, rfl, HE2⟩
                case measure => simp [intOf]; omega
              · have e1 : (X.toList == Y.toList) = false := by simpa using hxy
                have e2 : (X.toList != Y.toList) = true := by simpa using hxy
                have HE2 := Lib.hid (HF.out (fun e => hxy (HX2.out.2 e)))
                have hv4 := hv3.out
                rw [if_neg HE2.out] at hv4
                have HV2 := Lib.hid hv4
                clear hxy hv4
                go_upto_region 16 with fail
                go_quiet (fail)
                go_wp2_with fail
                go_ret2
                exact ⟨by rw [HV2.out]; rfl, below_drewN (below_drewN HB1.out n) _⟩
            · have HQ : Hid (qs = ps) := Lib.hid (by
                have := HE.out
                rw [List.take_of_length_le (by omega), List.take_of_length_le (by have := HLL.out; omega)] at this
                exact this.symm)
              have hv4 := hv3.out
              rw [if_pos HQ.out] at hv4
              have HV2 := Lib.hid hv4
              clear hv4
              go_wp2_with fail
              go_ret2
              exact ⟨by rw [HV2.out]; rfl, below_drewN HB1.out n⟩
        · have bl : ((qs.length : Int) != (ps.length : Int)) = true := by simpa using hl
          rw [if_neg (by intro e; exact hl (by rw [e]))] at hv
          have HV2 := Lib.hid hv
          clear hv HV hl
          go_wp2_with fail
          go_ret2
          exact ⟨by rw [HV2.out]; rfl, HB1.out⟩
      · have hv := HV.out
        rw [if_pos hn] at hv
        have HV2 := Lib.hid hv
        clear hv HV
        rcases HC.out.resolve_left hn with rfl | rfl
        all_goals
          clear HC hn
          go_wp2_with fail
          go_ret2
          exact ⟨by rw [HV2.out]; rfl, HB1.out⟩

end Go.Proofs.YtgpknilmfkcneaaDoor
