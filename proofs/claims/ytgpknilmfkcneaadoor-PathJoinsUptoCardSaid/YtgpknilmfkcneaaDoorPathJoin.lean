/- Parent and Join of package path. -/
import Derived.Test.YtgpknilmfkcneaaDoorPathOps
namespace Go.Proofs.YtgpknilmfkcneaaDoor
open Go.RowKit
set_option linter.unusedVariables false
set_option linter.unusedSimpArgs false

theorem codes_ne {n : Int} (h : n = 0 ∨ n = 105 ∨ n = 107) (h0 : ¬ n = 0) : n = 105 ∨ n = 107 := h.resolve_left h0

set_option maxHeartbeats 1000000 in
theorem pjoin_any {v : Value} {ps : List (List UInt8)} (m : Int) (w : World) (hm : w.cell? ⟨0, 0, none⟩ = some (.int .i64 m)) (h : StrsAt w v ps) (hN : ps.length ≤ 140737488355328) (hlen : (pathOf ps).length ≤ 140737488351232) :
    Calls Tryd.prog 14 #[v] w fun e w' => e = .returned (.tuple #[.string (strB (joinP ps).1), .int .i64 (joinP ps).2]) ∧ Below w.heap.size w w' := by
  have HV : Hid (joinP ps = if (splitP (pathOf ps)).2 ≠ 0 then ([], (splitP (pathOf ps)).2) else if (splitP (pathOf ps)).1 = ps then (pathOf ps, 0) else ([], 107)) := Lib.hid rfl
  have H1 := Lib.hid (fun w1 hm1 => psplit_any (strB (pathOf ps)) m w1 hm1 (by rw [strB_size]; exact hlen))
  unfold SplitPost tup2 at H1
  rw [strB_list] at H1
  have hl2 : ([47].intercalate ps).length + 1 ≤ 140737488351232 := by unfold pathOf at hlen; simpa using hlen
  have HJ := Lib.hid (joins_any h hN (by omega))
  have HP : Hid (⟨#[47]⟩ ++ strB ([47].intercalate ps) = strB (pathOf ps)) := Lib.hid (by
    rw [show (⟨#[47]⟩ : ByteArray) = strB [47] from rfl, strB_append]; rfl)
  have hsz : (strB ([47].intercalate ps)).size + 1 ≤ 140737488351232 := by rw [strB_size]; exact hl2
  have hf := splitP_few (pathOf ps)
  have HC := Lib.hid (splitP_code (pathOf ps))
  clear hl2
  obtain ⟨a, c, rfl, hc⟩ := strsAt_form h
  have HS := Lib.hid h
  clear h
  go_enter Tryd.func14, Tryd.ntmps14
  go_wp2_with fail
  refine HJ.out.mono ?_; rintro e w1 ⟨rfl, B1⟩
  rw [show (⟨([47].intercalate ps).toArray⟩ : ByteArray) = strB ([47].intercalate ps) from rfl]
  generalize strB ([47].intercalate ps) = X at *
  have hm1 := below_cell B1 _ _ hm
  have S1 := HS.out.below B1
  have HB1 := Lib.hid B1
  have HS1 := Lib.hid S1
  clear B1 S1 HS
  go_wp2_with fail
  rw [HP.out]
  refine (H1.out w1 hm1).mono ?_; rintro e w2 ⟨u, rfl, P2, B2⟩
  have S2 := StrsAt.of_parts P2
  have S3 := HS1.out.below B2
  have HB2 := Lib.hid (HB1.out.trans (B2.mono HB1.out.size))
  clear P2 B2 HB1 HS1 hm1
  generalize splitP (pathOf ps) = r at *
  obtain ⟨qs, n⟩ := r
  dsimp only at *
  have HE := Lib.hid (equals_any S2 S3 (by omega) hN)
  obtain ⟨a', c', rfl, hac⟩ := strsAt_form S2
  clear S2 S3 H1
  by_cases hn : n = 0
  · subst hn
    have hv := HV.out
    rw [if_neg (by simp)] at hv
    by_cases hq : qs = ps
    · rw [if_pos hq] at hv
      rw [decide_eq_true hq] at HE
      have HV2 := Lib.hid hv
      clear hv HV hq
      go_wp2_with fail
      refine HE.out.mono ?_; rintro e w3 ⟨rfl, q, rfl⟩
      go_wp2_with fail
      go_ret2
      exact ⟨by rw [HV2.out]; rfl, below_drewN HB2.out q⟩
    · rw [if_neg hq] at hv
      rw [decide_eq_false hq] at HE
      have HV2 := Lib.hid hv
      clear hv HV hq
      go_wp2_with fail
      refine HE.out.mono ?_; rintro e w3 ⟨rfl, q, rfl⟩
      go_wp2_with fail
      go_ret2
      exact ⟨by rw [HV2.out]; rfl, below_drewN HB2.out q⟩
  · have hv := HV.out
    rw [if_pos hn] at hv
    have HV2 := Lib.hid hv
    clear hv HV
    rcases codes_ne HC.out hn with rfl | rfl
    all_goals
      clear HC hn HE
      go_wp2_with fail
      go_ret2
      exact ⟨by rw [HV2.out]; rfl, HB2.out⟩

/-- The path above, its last part, the error's number. -/
def parentP (l : List UInt8) : List UInt8 × List UInt8 × Int :=
  if (splitP l).2 ≠ 0 then ([], [], (splitP l).2) else if (splitP l).1 = [] then ([], [], 107) else (pathOf (splitP l).1.dropLast, (splitP l).1.getLastD [], 0)

set_option maxHeartbeats 1000000 in
theorem pparent_any (s : ByteArray) (m : Int) (w : World) (hm : w.cell? ⟨0, 0, none⟩ = some (.int .i64 m)) (hs : s.size ≤ 140737488351232) :
    Calls Tryd.prog 12 #[.string s] w fun e w' => e = .returned (.tuple #[.string (strB (parentP s.data.toList).1), .string (strB (parentP s.data.toList).2.1), .int .i64 (parentP s.data.toList).2.2]) ∧ Below w.heap.size w w' := by
  have HV : Hid (parentP s.data.toList = if (splitP s.data.toList).2 ≠ 0 then ([], [], (splitP s.data.toList).2) else if (splitP s.data.toList).1 = [] then ([], [], 107) else (pathOf (splitP s.data.toList).1.dropLast, (splitP s.data.toList).1.getLastD [], 0)) := Lib.hid rfl
  have H1 := Lib.hid (psplit_any s m w hm hs)
  unfold SplitPost tup2 at H1
  have hf := splitP_few s.data.toList
  have HC := Lib.hid (splitP_code s.data.toList)
  have HOK := Lib.hid (fun ps (h : splitP s.data.toList = (ps, 0)) => (splitP_ok h).2.size)
  generalize splitP s.data.toList = r at *
  obtain ⟨ps, n⟩ := r
  dsimp only at *
  go_enter Tryd.func12, Tryd.ntmps12
  go_wp2_with fail
  refine H1.out.mono ?_; rintro e w1 ⟨v, rfl, P1, B1⟩
  have S1 := StrsAt.of_parts P1
  have HB1 := Lib.hid B1
  have HP1 := Lib.hid P1
  have HS1 := Lib.hid S1
  obtain ⟨a, c, rfl, hac⟩ := strsAt_form S1
  clear B1 P1 S1
  by_cases hn : n = 0
  · subst hn
    have hv := HV.out
    rw [if_neg (by simp)] at hv
    by_cases hp : ps = []
    · rw [if_pos hp] at hv
      have HV2 := Lib.hid hv
      have bl : ((ps.length : Int) == 0) = true := by rw [hp]; rfl
      clear hv HV hp
      go_wp2_with fail
      go_ret3
      exact ⟨by rw [HV2.out]; rfl, HB1.out⟩
    · rw [if_neg hp] at hv
      have HV2 := Lib.hid hv
      obtain ⟨qs, L, rfl⟩ : ∃ qs L, ps = qs ++ [L] := ⟨ps.dropLast, ps.getLast hp, (List.dropLast_concat_getLast hp).symm⟩
      have hql : (qs ++ [L]).length = qs.length + 1 := by simp
      have hos := HOK.out (qs ++ [L]) rfl
      have hle : (pathOf qs).length ≤ 256 := by
        have h1 := inter_snoc_le qs L
        unfold pathOf at hos ⊢
        simp only [List.length_cons] at hos ⊢
        omega
      have hil : ([47].intercalate qs).length ≤ 255 := by unfold pathOf at hle; simpa using hle
      have ST := strsAt_take HS1.out (show qs.length ≤ (qs ++ [L]).length by omega)
      rw [List.take_left] at ST
      obtain ⟨a', c', e, hcc, h4⟩ := HS1.out
      cases e
      obtain ⟨b, o, rfl, h5⟩ := h4.resolve_left hp
      have hcell : w1.cell? ⟨b, o + qs.length, none⟩ = some (.string (strB L)) := by
        rw [h5 qs.length (by omega)]
        simp [strV, strB]
      have HJ : Hid (∀ W, (∀ a u, w1.cell? a = some u → W.cell? a = some u) → Calls Tryd.prog 19 #[.slice (some ⟨b, o, none⟩) qs.length c, .string ⟨#[47]⟩] W fun e w' => e = .returned (.string (strB ([47].intercalate qs))) ∧ Below W.heap.size W w') :=
        Lib.hid (fun W hW => joins_any (ST.keep hW) (by omega) (by omega))
      have HP : Hid (⟨#[47]⟩ ++ strB ([47].intercalate qs) = strB (pathOf qs)) := Lib.hid (by
        rw [show (⟨#[47]⟩ : ByteArray) = strB [47] from rfl, strB_append]; rfl)
      have hsz : (strB ([47].intercalate qs)).size + 1 ≤ 256 := by rw [strB_size]; omega
      rw [List.dropLast_concat, List.getLastD_concat] at hv
      have HV2 := Lib.hid hv
      rw [hql]
      have hf2 : qs.length ≤ 16 := by omega
      have hac2 : qs.length + 1 ≤ c := by omega
      have bl : (((qs.length + 1 : Nat) : Int) == 0) = false := by simp; omega
      clear hv HV h4 h5 ST hle hil HS1 HP1 hos HOK H1 hp hf hac hql hcc
      generalize strB ([47].intercalate qs) = X at *
      generalize qs.length = q at *
      obtain ⟨Y, hY⟩ : ∃ Y, Y = strB L := ⟨_, rfl⟩
      rw [← hY] at hcell
      have HY := Lib.hid hY
      clear hY
      have q0 : (0 : Int) ≤ (q : Int) := by omega
      have q1 : (q : Int) < (q : Int) + 1 := by omega
      have q2 : (q : Int) ≤ (c : Int) := by omega
      have q3 : q ≤ c := by omega
      have q4 : ¬ 9223372036854775807 < 1 + X.size := by omega
      go_wp2_with fail
      go_region_held3 (fun w' => w'.cell? ⟨b, o + q, none⟩ = some (.string Y))
        (first | go_keep | (exact below_cell hb2 _ _ (by first | assumption | go_keep)))
        ((go_at_call 19; refine (HJ.out _ (by exact fun _ _ h => h)).mono ?_; rintro e w2 ⟨rfl, hb2⟩))
      all_goals
        go_wp2_with fail
        go_ret3
        exact ⟨by rw [HV2.out, ← HP.out, ← HY.out]; rfl, (below_drewN HB1.out 1).trans (hb2.mono HB1.out.size)⟩
  · have hv := HV.out
    rw [if_pos hn] at hv
    have HV2 := Lib.hid hv
    clear hv HV
    rcases codes_ne HC.out hn with rfl | rfl
    all_goals
      clear HC hn
      go_wp2_with fail
      go_ret3
      exact ⟨by rw [HV2.out]; rfl, HB1.out⟩

end Go.Proofs.YtgpknilmfkcneaaDoor
