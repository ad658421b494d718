/- PathWithin of chertlaw18: what lies within what. -/
import Derived.Test.YtgpknilmfkcneaaDoorSpk
namespace Go.Proofs.YtgpknilmfkcneaaDoor
open Go.RowKit
set_option linter.unusedVariables false
set_option linter.unusedSimpArgs false

theorem within_trans {p q r : List UInt8} (h : withinP p q = true) (k : withinP q r = true) : withinP p r = true := by
  unfold withinP at *
  simp only [Bool.and_eq_true, decide_eq_true_eq] at *
  obtain ⟨⟨⟨h1, h2⟩, h3⟩, h4⟩ := h
  obtain ⟨⟨⟨k1, k2⟩, k3⟩, k4⟩ := k
  refine ⟨⟨⟨h1, k2⟩, by omega⟩, ?_⟩
  have h5 : (splitP r).1.length ≤ (splitP q).1.length := k3
  calc (splitP p).1.take (splitP r).1.length = ((splitP p).1.take (splitP q).1.length).take (splitP r).1.length := by rw [List.take_take, Nat.min_eq_left h5]
    _ = (splitP r).1 := by rw [h4, k4]

set_option maxHeartbeats 2000000 in
theorem PathWithin_walk (p q r : ByteArray) (w : World) (hm : MaxAt w) (hp : p.size ≤ 140737488351232) (hq : q.size ≤ 140737488351232) (hr : r.size ≤ 140737488351232) :
    Calls Tryd.prog 3 #[.string p, .string q, .string r] w fun e w' => e = .returned (.bool true) ∧ Below w.heap.size w w' := by
  have H1 := Lib.hid (fun W => rsplit_any p W hp)
  have H2 := Lib.hid (fun W => rsplit_any q W hq)
  have HV : Hid (withinP p.data.toList q.data.toList = (decide ((splitP p.data.toList).2 = 0) && decide ((splitP q.data.toList).2 = 0) && decide ((splitP q.data.toList).1.length ≤ (splitP p.data.toList).1.length) && decide ((splitP p.data.toList).1.take (splitP q.data.toList).1.length = (splitP q.data.toList).1))) := Lib.hid rfl
  have hf1 := splitP_few p.data.toList
  have hf2 := splitP_few q.data.toList
  have HC1 := Lib.hid (splitP_code p.data.toList)
  have HC2 := Lib.hid (splitP_code q.data.toList)
  have HT := Lib.hid (fun h k => within_trans (p := p.data.toList) (q := q.data.toList) (r := r.data.toList) h k)
  have W1 := Lib.hid (fun W (h : MaxAt W) => within_w p q h hp hq)
  have W2 := Lib.hid (fun W (h : MaxAt W) => within_w q r h hq hr)
  have W3 := Lib.hid (fun W (h : MaxAt W) => within_w p r h hp hr)
  unfold SplitPost tup2 at H1 H2
  unfold Ret1 at W1 W2 W3
  generalize splitP p.data.toList = r1 at *
  generalize splitP q.data.toList = r2 at *
  generalize withinP p.data.toList q.data.toList = b1 at *
  generalize withinP q.data.toList r.data.toList = b2 at *
  generalize withinP p.data.toList r.data.toList = b3 at *
  obtain ⟨ps, n1⟩ := r1
  obtain ⟨qs, n2⟩ := r2
  dsimp only at hf1 hf2 HC1 HC2 H1 H2 HV
  have HM := Lib.hid hm
  clear hm
  go_enter Tryd.func3, Tryd.ntmps3
  go_wp2_with fail
  refine (speaks_ok w HM.out).mono ?_; rintro e w0 ⟨rfl, B0⟩
  have HB0 := Lib.hid B0
  clear B0
  go_wp2_with fail
  refine (H1.out w0).mono ?_; rintro e w1 ⟨v, rfl, P1, B1⟩
  have S1 := StrsAt.of_parts P1
  have HB1 := Lib.hid (below_on HB0.out B1)
  obtain ⟨a, c, rfl, hac⟩ := strsAt_form S1
  have HS1 := Lib.hid S1
  clear P1 B1 S1 HB0
  go_wp2_with fail
  refine (H2.out w1).mono ?_; rintro e w2 ⟨u, rfl, P2, B2⟩
  have S2 := StrsAt.of_parts P2
  have HS3 := Lib.hid (HS1.out.below B2)
  have HB2 := Lib.hid (below_on HB1.out B2)
  obtain ⟨a', c', rfl, hac'⟩ := strsAt_form S2
  have HS2 := Lib.hid S2
  clear P2 B2 S2 HB1 HS1
  go_upto_region 5 with fail
  go_cut [11] (fun s wz => s = .bool b1 ∧ Below w.heap.size w wz)
  case first =>
    by_cases e1 : n1 = 0
    · by_cases e2 : n2 = 0
      · subst e1 e2
        by_cases e3 : (qs.length : Int) ≤ (ps.length : Int)
        · have HE := Lib.hid (texts_any (strsAt_take HS3.out (show qs.length ≤ ps.length by omega)) HS2.out (by rw [List.length_take]; omega) (by omega))
          have HV2 : Hid (b1 = decide (ps.take qs.length = qs)) := Lib.hid (by rw [HV.out]; simp; omega)
          clear HV
          go_wp2_with fail
          rw [show (min (ps.length : Int) (qs.length : Int)).toNat = qs.length by omega]
          refine HE.out.mono ?_; rintro e w3 ⟨rfl, n, rfl⟩
          go_wp2_with fail
          go_meet
          case rel => exact ⟨by rw [HV2.out], below_drewN HB2.out n⟩
        · have HV2 : Hid (b1 = false) := Lib.hid (by rw [HV.out]; simp; intro h; omega)
          clear HV
          go_wp2_with fail
          go_meet
          case rel => exact ⟨by rw [HV2.out], HB2.out⟩
      · have HV2 : Hid (b1 = false) := Lib.hid (by rw [HV.out]; simp [e2])
        subst e1
        clear HV
        rcases HC2.out.resolve_left e2 with rfl | rfl
        all_goals
          clear HC2 e2
          go_wp2_with fail
          go_meet
          case rel => exact ⟨by rw [HV2.out], HB2.out⟩
    · have HV2 : Hid (b1 = false) := Lib.hid (by rw [HV.out]; simp [e1])
      clear HV
      rcases HC1.out.resolve_left e1 with rfl | rfl
      all_goals
        clear HC1 e1
        go_wp2_with fail
        go_meet
        case rel => exact ⟨by rw [HV2.out], HB2.out⟩
  case rest =>
    obtain ⟨rfl, B3⟩ := hcut
    obtain ⟨w3, rfl⟩ : ∃ w3 : World, w3 = wc := ⟨_, rfl⟩
    have HB3 := Lib.hid B3
    clear B3 HV
    go_wp2_with fail
    refine (W1.out w3 (HM.out.below HB3.out)).mono ?_; rintro e w4 ⟨rfl, B4⟩
    have HB4 := Lib.hid (below_on HB3.out B4)
    clear B4 HB3
    cases b1 with
    | false =>
      go_wp2_with fail
      refine (W1.out w4 (HM.out.below HB4.out)).mono ?_; rintro e w5 ⟨rfl, B5⟩
      have HB5 := Lib.hid (below_on HB4.out B5)
      clear B5 HB4
      go_wp2_with fail
      go_ret
      exact ⟨rfl, HB5.out⟩
    | true =>
      go_wp2_with fail
      refine (W1.out w4 (HM.out.below HB4.out)).mono ?_; rintro e w5 ⟨rfl, B5⟩
      have HB5 := Lib.hid (below_on HB4.out B5)
      clear B5 HB4
      go_wp2_with fail
      refine (W2.out w5 (HM.out.below HB5.out)).mono ?_; rintro e w6 ⟨rfl, B6⟩
      have HB6 := Lib.hid (below_on HB5.out B6)
      clear B6 HB5
      cases b2 with
      | false =>
        go_wp2_with fail
        go_ret
        exact ⟨rfl, HB6.out⟩
      | true =>
        have h3 : b3 = true := HT.out (by first | rfl | trivial) (by first | rfl | trivial)
        subst h3
        go_wp2_with fail
        refine (W3.out w6 (HM.out.below HB6.out)).mono ?_; rintro e w7 ⟨rfl, B7⟩
        have HB7 := Lib.hid (below_on HB6.out B7)
        clear B7 HB6
        go_wp2_with fail
        go_ret
        exact ⟨rfl, HB7.out⟩

end Go.Proofs.YtgpknilmfkcneaaDoor
