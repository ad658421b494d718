/- PathUp of chertlaw18: a path is what is above it and its last part; going up it ends at the root. -/
import Derived.Test.YtgpknilmfkcneaaDoorSpk
namespace Go.Proofs.YtgpknilmfkcneaaDoor
open Go.RowKit
set_option linter.unusedVariables false
set_option linter.unusedSimpArgs false

theorem parentP_up {qs : List (List UInt8)} {L : List UInt8} (h : OkParts (qs ++ [L])) : parentP (pathOf (qs ++ [L])) = (pathOf qs, L, 0) := by
  unfold parentP
  rw [splitP_path h]
  simp
theorem joinP_ok2 {ps : List (List UInt8)} (h : OkParts ps) : joinP ps = (pathOf ps, 0) := by
  unfold joinP
  rw [splitP_path h]
  simp
theorem withinP_up {qs : List (List UInt8)} {L : List UInt8} (h : OkParts (qs ++ [L])) : withinP (pathOf (qs ++ [L])) (pathOf qs) = true ∧ withinP (pathOf qs) (pathOf (qs ++ [L])) = false := by
  unfold withinP
  rw [splitP_path h, splitP_path h.up]
  simp
  intro h2
  omega
theorem take_parts {ps : List (List UInt8)} {k : Nat} (hk : k + 1 ≤ ps.length) : ∃ L, ps.take (k + 1) = ps.take k ++ [L] := ⟨ps[k], by rw [List.take_succ_eq_append_getElem (by omega)]⟩

set_option maxHeartbeats 4000000 in
theorem PathUp_walk (p : ByteArray) (w : World) (hm : MaxAt w) (hp : p.size ≤ 140737488351232) :
    Calls Tryd.prog 6 #[.string p] w fun e w' => e = .returned (.bool true) ∧ Below w.heap.size w w' := by
  have H1 : Hid (∀ W, MaxAt W → ∀ s : ByteArray, s.size ≤ 140737488351232 → Calls Tryd.prog 11 #[.string s] W (SplitPost W s tup2)) := Lib.hid (fun W ⟨m, hm⟩ s hs => psplit_any s m W hm hs)
  have H3 : Hid (∀ W, MaxAt W → ∀ s : ByteArray, s.size ≤ 140737488351232 → Calls Tryd.prog 12 #[.string s] W fun e w' => e = .returned (.tuple #[.string (strB (parentP s.data.toList).1), .string (strB (parentP s.data.toList).2.1), .int .i64 (parentP s.data.toList).2.2]) ∧ Below W.heap.size W w') :=
    Lib.hid (fun W ⟨m, hm⟩ s hs => pparent_any s m W hm hs)
  have HV : Hid ((splitP p.data.toList).2 ≠ 0 → parentP p.data.toList = ([], [], (splitP p.data.toList).2)) := Lib.hid (fun h => by unfold parentP; rw [if_pos h])
  have hf := splitP_few p.data.toList
  have HC := Lib.hid (splitP_code p.data.toList)
  have HOK := Lib.hid (fun ps (h : splitP p.data.toList = (ps, 0)) => splitP_ok h)
  have HF := Lib.hid (fun h => splitP_fail (l := p.data.toList) h)
  have HS := Lib.hid (H1.out · · p hp)
  have HPA := Lib.hid (H3.out · · p hp)
  unfold SplitPost tup2 at HS
  generalize splitP p.data.toList = r at *
  obtain ⟨ps, n⟩ := r
  dsimp only at *
  have HM := Lib.hid hm
  clear hm
  obtain ⟨i0, hi, hz0, hz1, hz2⟩ := info_parts infoStr
  go_enter Tryd.func6, Tryd.ntmps6
  go_wp2_with fail
  refine (speaks_ok w HM.out).mono ?_; rintro e w0 ⟨rfl, B0⟩
  have HB0 := Lib.hid B0
  clear B0
  go_wp2_with fail
  refine (HS.out w0 (HM.out.below HB0.out)).mono ?_; rintro e w1 ⟨v, rfl, P1, B1⟩
  have S1 := StrsAt.of_parts P1
  have HB1 := Lib.hid (below_on HB0.out B1)
  obtain ⟨a, c, rfl, hac⟩ := strsAt_form S1
  clear P1 B1 S1 HB0
  by_cases hn : n = 0
  · subst hn
    obtain ⟨hpp, hok⟩ := HOK.out ps rfl
    have HOKP := Lib.hid hok
    have HPP : Hid (p = strB (pathOf ps)) := Lib.hid (by
      apply ByteArray.ext
      rw [← hpp]; unfold strB; simp)
    clear hpp hok HV HF HS HPA HC HOK
    go_wp2_with fail
    rw [HPP.out]
    go_loopw [0, 8] (fun s i wr => ∃ k : Nat, k ≤ ps.length ∧ i = .int .i64 k ∧ s = .string (strB (pathOf (ps.take k))) ∧ Hid (OkParts (ps.take k)) ∧ Hid (Below w.heap.size w wr)) (fun _ i _ => (intOf i).toNat)
    case atStart => exact ⟨ps.length, Nat.le_refl _, rfl, by rw [List.take_length], Lib.hid (by rw [List.take_length]; exact HOKP.out), HB1⟩
    case round =>
      obtain ⟨k, hk, rfl, rfl, HO, HB⟩ := hrel
      obtain ⟨wa, rfl⟩ : ∃ wa : World, wa = wr := ⟨_, rfl⟩
      by_cases h0 : k = 0
      · subst h0
        have e0 : strB (pathOf (ps.take 0)) = ⟨#[47]⟩ := rfl
        rw [e0]
        go_wp2_with fail
        go_ret
        exact ⟨rfl, HB.out⟩
      · obtain ⟨j, rfl⟩ : ∃ j, k = j + 1 := ⟨k - 1, by omega⟩
        obtain ⟨L, hL⟩ := take_parts hk
        have hlj : (ps.take j).length = j := by rw [List.length_take]; omega
        rw [hL] at HO ⊢
        have hok := HO.out
        have hup := hok.up
        have sz1 : (strB (pathOf (ps.take j ++ [L]))).size ≤ 140737488351232 := by rw [strB_size]; have := hok.size; omega
        have sz2 : (strB (pathOf (ps.take j))).size ≤ 140737488351232 := by rw [strB_size]; have := hup.size; omega
        have A1 := Lib.hid (fun W h => H3.out W h _ sz1)
        rw [strB_list, parentP_up hok] at A1
        have A2 := Lib.hid (fun W h => H1.out W h _ sz2)
        unfold SplitPost tup2 at A2
        rw [strB_list, splitP_path hup] at A2
        have A3 := Lib.hid (fun W v m hm h => pjoin_any (v := v) (ps := ps.take j ++ [L]) m W hm h (by simp; omega) (by have := hok.size; omega))
        rw [joinP_ok2 hok] at A3
        have A4 := Lib.hid (fun W h => within_w (w := W) (strB (pathOf (ps.take j ++ [L]))) (strB (pathOf (ps.take j))) h sz1 sz2)
        rw [strB_list, strB_list, (withinP_up hok).1] at A4
        have A5 := Lib.hid (fun W h => within_w (w := W) (strB (pathOf (ps.take j))) (strB (pathOf (ps.take j ++ [L]))) h sz2 sz1)
        rw [strB_list, strB_list, (withinP_up hok).2] at A5
        unfold Ret1 at A4 A5
        have HU := Lib.hid hup
        clear hok hup hL HO sz1 sz2
        dsimp only at A1 A2 A3
        generalize hqs : ps.take j = qs at *
        have HQS := Lib.hid hqs
        clear hqs
        generalize strB (pathOf (qs ++ [L])) = X at *
        obtain ⟨U, hU⟩ : ∃ U, U = strB (pathOf qs) := ⟨_, rfl⟩
        obtain ⟨Y, hY⟩ : ∃ Y, Y = strB L := ⟨_, rfl⟩
        rw [← hU] at A1 A2 A4 A5
        rw [← hY] at A1
        have HUU := Lib.hid hU
        have HYY := Lib.hid hY
        clear hU hY
        go_wp2_with fail
        refine (A1.out wa (HM.out.below HB.out)).mono ?_; rintro e w2 ⟨rfl, B2⟩
        have HB2 := Lib.hid (below_on HB.out B2)
        clear B2 HB
        go_wp2_with fail
        refine (A2.out w2 (HM.out.below HB2.out)).mono ?_; rintro e w3 ⟨v3, rfl, P3, B3⟩
        have HB3 := Lib.hid (below_on HB2.out B3)
        obtain ⟨a3, c3, rfl, hac3⟩ := strsAt_form (StrsAt.of_parts P3)
        have HP3 := Lib.hid P3
        have hB3 := B3.size
        clear B3 P3
        rw [hlj]
        have hn : j + 1 ≤ maxLen := by unfold maxLen; omega
        have hbd : (j + 1) * 16 ≤ 140737488355328 := by omega
        have hown : w3.ownsRow w2.heap.size 9 1 (.slice a3 j c3) j (qs.map strV) := by
          have := HP3.out
          unfold Parts at this
          rwa [hlj] at this
        have HOW := Lib.hid hown
        clear hown HP3
        go_wp2_with (at_builtin; refine wpList_append_own _ rfl _ _ 23 rfl w2.heap.size 9 i0 (.string ⟨#[]⟩) 1 16 (by kernel_rfl) hi hz0 hz1 hz2 rfl (by decide) _ j (qs.map strV) rfl (HOW.out.alloc _) ⟨w3.heap.size, 0, none⟩ 1 1 [.string Y] rfl rfl ?c1 ?c2 hn hbd ?c5 ?_)
        case c1 =>
          intro j u hu
          cases j with
          | zero => simp at hu; subst hu; simp [Addr.add]
          | succ j => simp at hu
        case c2 => simp [Value.oneCell']
        case c5 => first | omega | (simp; omega)
        intro v4 w4 hown4 hgrow _
        have HB4 := Lib.hid (((HB3.out.alloc (by have := HB3.out.size; omega) _)).grown hgrow (by have := HB3.out.size; simp; omega) (fun k hk => by have h1 := (HOW.out.lt k hk).1; have h2 := HB2.out.size; omega))
        have HP4 : Hid (StrsAt w4 v4 (qs ++ [L])) := Lib.hid (StrsAt.of_parts (B := w2.heap.size) (by
          unfold Parts
          rw [List.map_append, List.map_singleton, List.length_append, hlj]
          have hs : strV L = .string Y := by rw [HYY.out]; rfl
          rw [hs]
          exact hown4))
        clear hown4 hgrow HB3 HOW hB3
        obtain ⟨m4, hm4⟩ := HM.out.below HB4.out
        have A3b := Lib.hid (A3.out w4 v4 m4 hm4 HP4.out)
        clear A3 hm4
        go_wp2_with fail
        refine A3b.out.mono ?_; rintro e w5 ⟨rfl, B5⟩
        have HB5 := Lib.hid (below_on HB4.out B5)
        clear B5 HB4 A3b
        have s1 : (X.toList == X.toList) = true := by simp
        have s2 : (X.toList != X.toList) = false := by simp
        have s3 : ((j : Int) != (j : Int)) = false := by simp
        go_wp2_with fail
        refine (A4.out w5 (HM.out.below HB5.out)).mono ?_; rintro e w6 ⟨rfl, B6⟩
        have HB6 := Lib.hid (below_on HB5.out B6)
        clear B6 HB5
        go_wp2_with fail
        refine (A5.out w6 (HM.out.below HB6.out)).mono ?_; rintro e w7 ⟨rfl, B7⟩
        have HB7 := Lib.hid (below_on HB6.out B7)
        clear B7 HB6
        go_wp2_with fail
        go_roundw
        case rel => exact ⟨j, by omega, by go_num, by rw [HQS.out, ← HUU.out], by rw [HQS.out]; exact HU, HB7⟩
        case measure => simp [intOf]
  · have hv := HV.out hn
    have hp0 := HF.out hn
    subst hp0
    rw [hv] at HPA
    dsimp only at HPA
    rcases codes_ne HC.out hn with rfl | rfl
    all_goals
      clear HC hn HV hv
      go_wp2_with fail
      refine (HPA.out w1 (HM.out.below HB1.out)).mono ?_; rintro e w2 ⟨rfl, B2⟩
      have HB2 := Lib.hid (below_on HB1.out B2)
      clear B2
      go_wp2_with fail
      go_ret
      exact ⟨rfl, HB2.out⟩

end Go.Proofs.YtgpknilmfkcneaaDoor
