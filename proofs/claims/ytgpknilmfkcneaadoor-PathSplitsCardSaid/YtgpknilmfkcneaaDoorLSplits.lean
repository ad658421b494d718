/- PathSplits of chertlaw18: the parts of every text, and the path above. -/
import Derived.Test.YtgpknilmfkcneaaDoorSpk
namespace Go.Proofs.YtgpknilmfkcneaaDoor
open Go.RowKit
set_option linter.unusedVariables false
set_option linter.unusedSimpArgs false

theorem joinP_ok {ps : List (List UInt8)} (h : OkParts ps) : joinP ps = (pathOf ps, 0) := by
  unfold joinP
  rw [splitP_path h]
  simp

set_option maxHeartbeats 2000000 in
theorem PathSplits_walk (p : ByteArray) (w : World) (hm : MaxAt w) (hp : p.size ≤ 140737488351232) :
    Calls Tryd.prog 4 #[.string p] w fun e w' => e = .returned (.bool true) ∧ Below w.heap.size w w' := by
  have H1 : Hid (∀ W, MaxAt W → Calls Tryd.prog 11 #[.string p] W (SplitPost W p tup2)) := Lib.hid (fun W ⟨m, hm⟩ => psplit_any p m W hm hp)
  have H2 := Lib.hid (fun W => rsplit_any p W hp)
  have H3 : Hid (∀ W, MaxAt W → Calls Tryd.prog 12 #[.string p] W fun e w' => e = .returned (.tuple #[.string (strB (parentP p.data.toList).1), .string (strB (parentP p.data.toList).2.1), .int .i64 (parentP p.data.toList).2.2]) ∧ Below W.heap.size W w') :=
    Lib.hid (fun W ⟨m, hm⟩ => pparent_any p m W hm hp)
  have HV : Hid (parentP p.data.toList = if (splitP p.data.toList).2 ≠ 0 then ([], [], (splitP p.data.toList).2) else if (splitP p.data.toList).1 = [] then ([], [], 107) else (pathOf (splitP p.data.toList).1.dropLast, (splitP p.data.toList).1.getLastD [], 0)) := Lib.hid rfl
  have hf := splitP_few p.data.toList
  have HC := Lib.hid (splitP_code p.data.toList)
  have HOK := Lib.hid (fun ps (h : splitP p.data.toList = (ps, 0)) => (splitP_ok h).2)
  have HF := Lib.hid (fun h => splitP_fail (l := p.data.toList) h)
  unfold SplitPost tup2 at H1 H2
  generalize splitP p.data.toList = r at *
  generalize parentP p.data.toList = pr at *
  obtain ⟨ps, n⟩ := r
  obtain ⟨up, last, g⟩ := pr
  dsimp only at *
  have HM := Lib.hid hm
  clear hm
  go_enter Tryd.func4, Tryd.ntmps4
  go_wp2_with fail
  refine (speaks_ok w HM.out).mono ?_; rintro e w0 ⟨rfl, B0⟩
  have HB0 := Lib.hid B0
  clear B0
  go_wp2_with fail
  refine (H1.out w0 (HM.out.below HB0.out)).mono ?_; rintro e w1 ⟨v, rfl, P1, B1⟩
  have S1 := StrsAt.of_parts P1
  have HB1 := Lib.hid (below_on HB0.out B1)
  obtain ⟨a, c, rfl, hac⟩ := strsAt_form S1
  have HS1 := Lib.hid S1
  clear P1 B1 S1 HB0
  go_wp2_with fail
  refine (H2.out w1).mono ?_; rintro e w2 ⟨u, rfl, P2, B2⟩
  have S2 := StrsAt.of_parts P2
  have HS3 := Lib.hid (HS1.out.below B2)
  have HB2 := Lib.hid (below_on HB1.out B2)
  obtain ⟨a', c', rfl, hac'⟩ := strsAt_form S2
  have HS2 := Lib.hid S2
  clear P2 B2 S2 HB1 HS1
  have HE := Lib.hid (texts_any HS3.out HS2.out (by omega) (by omega))
  rw [decide_eq_true rfl] at HE
  have bn : (n != n) = false := by simp
  go_wp2_with fail
  refine HE.out.mono ?_; rintro e w3 ⟨rfl, q, rfl⟩
  have HB3 := Lib.hid (below_drewN HB2.out q)
  have HS4 := Lib.hid (HS2.out.drewN q)
  clear HS2 HS3 HB2 HE
  go_wp2_with fail
  refine (H3.out _ (HM.out.below HB3.out)).mono ?_; rintro e w4 ⟨rfl, B4⟩
  have HS5 := Lib.hid (HS4.out.below B4)
  have HB4 := Lib.hid (below_on HB3.out B4)
  clear B4 HB3 HS4
  by_cases hn : n = 0
  · subst hn
    have hv := HV.out
    rw [if_neg (by simp)] at hv
    by_cases hq : ps = []
    · rw [if_pos hq] at hv
      cases hv
      have bl : ((ps.length : Int) == 0) = true := by rw [hq]; rfl
      have es : strB [] = ⟨#[]⟩ := rfl
      rw [es]
      clear hq HV es
      go_wp2_with fail
      go_ret
      exact ⟨rfl, HB4.out⟩
    · rw [if_neg hq] at hv
      cases hv
      obtain ⟨qs, L, rfl⟩ : ∃ qs L, ps = qs ++ [L] := ⟨ps.dropLast, ps.getLast hq, (List.dropLast_concat_getLast hq).symm⟩
      have hok := HOK.out (qs ++ [L]) rfl
      have hup := hok.up
      have HJ : Hid (Calls Tryd.prog 13 #[.slice a' qs.length c'] w4 fun e w' => e = .returned (.tuple #[.string (strB (joinP qs).1), .int .i64 (joinP qs).2]) ∧ Below w4.heap.size w4 w') :=
        Lib.hid (rjoin_any w4 (by have h := strsAt_take HS5.out (show qs.length ≤ (qs ++ [L]).length by simp); rwa [List.take_left] at h) (by have := hup.few; omega) (by have := hup.size; omega))
      rw [joinP_ok hup] at HJ
      rw [List.dropLast_concat, List.getLastD_concat]
      have hql : (qs ++ [L]).length = qs.length + 1 := by simp
      obtain ⟨a2, c2, e, hcc, h4⟩ := HS5.out
      cases e
      obtain ⟨b, o, rfl, h5⟩ := h4.resolve_left hq
      have hcell : w4.cell? ⟨b, o + qs.length, none⟩ = some (.string (strB L)) := by
        rw [h5 qs.length (by omega)]
        simp [strV, strB]
      have HCE := Lib.hid hcell
      rw [hql]
      have bl : (((qs.length + 1 : Nat) : Int) == 0) = false := by simp; omega
      have hf2 : qs.length ≤ 16 := by omega
      have hac2 : qs.length + 1 ≤ c' := by omega
      clear hq HV hok hup h4 h5 hql HS5 hcell H1 H2 H3 HF HOK hcc hf hac hac' HC
      generalize qs.length = k at *
      obtain ⟨X, hX⟩ : ∃ X, X = strB (pathOf qs) := ⟨_, rfl⟩
      obtain ⟨Y, hY⟩ : ∃ Y, Y = strB L := ⟨_, rfl⟩
      dsimp only at HJ
      rw [← hX, ← hY]
      rw [← hX] at HJ
      rw [← hY] at HCE
      clear hX hY
      go_wp2_with fail
      refine HJ.out.mono ?_; rintro e w5 ⟨rfl, B5⟩
      have hcell := below_cell B5 _ _ HCE.out
      have HB5 := Lib.hid (below_on HB4.out B5)
      have s1 : (X.toList == X.toList) = true := by simp
      have s2 : (Y.toList == Y.toList) = true := by simp
      clear B5 HB4
      go_wp2_with fail
      go_ret
      exact ⟨rfl, HB5.out⟩
  · have hv := HV.out
    rw [if_pos hn] at hv
    cases hv
    have hp0 := HF.out hn
    subst hp0
    have es : strB [] = ⟨#[]⟩ := rfl
    rw [es]
    rcases codes_ne HC.out hn with rfl | rfl
    all_goals
      clear HC hn HV es
      go_wp2_with fail
      go_ret
      exact ⟨rfl, HB4.out⟩

end Go.Proofs.YtgpknilmfkcneaaDoor
