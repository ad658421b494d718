/- PathJoins of chertlaw18: the path of any parts; they stay. -/
import Derived.Test.YtgpknilmfkcneaaDoorSpk
namespace Go.Proofs.YtgpknilmfkcneaaDoor
open Go.RowKit
set_option linter.unusedVariables false
set_option linter.unusedSimpArgs false

theorem below_old {B : Nat} {a b : World} {v : Value} {ps : List (List UInt8)} (h : StrsAt a v ps) (hb : Below a.heap.size a b) : StrsAt b v ps := h.below hb
set_option maxHeartbeats 2000000 in
theorem PathJoins_walk {v : Value} {ps : List (List UInt8)} (w : World) (hm : MaxAt w) (h : StrsAt w v ps) (hnil : ∀ n c, v = .slice none n c → c = 0) (hN : ps.length ≤ 1048576) (hlen : (pathOf ps).length ≤ 140737488351232) :
    Calls Tryd.prog 5 #[v] w fun e w' => e = .returned (.bool true) ∧ Below w.heap.size w w' := by
  have HJ := Lib.hid (fun W v m hm h => pjoin_any (v := v) (ps := ps) m W hm h (by omega) hlen)
  have HR := Lib.hid (fun W v h => rjoin_any (v := v) (ps := ps) W h (by omega) hlen)
  have HM := Lib.hid hm
  clear hm
  obtain ⟨i0, hi, hz0, hz1, hz2⟩ := info_parts infoStr
  generalize joinP ps = r at *
  obtain ⟨rp, rn⟩ := r
  dsimp only at HJ HR
  generalize strB rp = X at *
  have HS := Lib.hid h
  obtain ⟨a, c, rfl, hc, h4⟩ := id h
  have hn : 0 + ps.length ≤ maxLen := by unfold maxLen; omega
  have hbd : (0 + ps.length) * 16 ≤ 140737488355328 := by omega
  clear h
  go_enter Tryd.func5, Tryd.ntmps5
  go_wp2_with fail
  refine (speaks_ok w HM.out).mono ?_; rintro e w0 ⟨rfl, B0⟩
  have HB0 := Lib.hid B0
  have HS0 := Lib.hid (HS.out.below B0)
  clear B0 HS h4
  go_upto_region 3 with fail
  go_cut [3] (fun s wz => Hid (StrsAt wz s ps) ∧ Hid (StrsAt wz (.slice a ps.length c) ps) ∧ Hid (Below w.heap.size w wz))
  case first =>
    cases a with
    | none =>
      obtain rfl : c = 0 := hnil _ _ rfl
      have hp0 : ps = [] := List.length_eq_zero_iff.1 (by omega)
      subst hp0
      go_wp2_with fail
      go_meet
      case rel =>
        exact ⟨Lib.hid ⟨_, 0, rfl, Nat.le_refl _, .inl rfl⟩, Lib.hid (HS0.out.keep (below_cell ((Below.refl _ _).alloc (Nat.le_refl _) _))), Lib.hid (HB0.out.alloc HB0.out.size _)⟩
    | some ad =>
      go_wp2_with (at_builtin; refine wpList_append_own _ rfl _ _ 23 rfl w0.heap.size 9 i0 (.string ⟨#[]⟩) 1 16 (by kernel_rfl) hi hz0 hz1 hz2 rfl (by decide) _ 0 [] rfl (World.ownsRow_made w0 #[] 0 (Nat.le_refl _) (by decide) rfl) ad ps.length c (ps.map strV) rfl (by simp) ?c1 ?c2 hn hbd ?c5 ?_)
      case c1 =>
        intro j u hu
        obtain ⟨a2, c2, e, _, h5⟩ := HS0.out
        cases e
        rcases h5 with h5 | ⟨b, o, he, h5⟩
        · rw [h5] at hu; simp at hu
        · cases he
          rw [List.getElem?_map] at hu
          cases hj : ps[j]? with
          | none => rw [hj] at hu; cases hu
          | some x =>
            rw [hj] at hu
            obtain ⟨hj2, hj3⟩ := List.getElem?_eq_some_iff.1 hj
            have hc0 := h5 j hj2
            rw [hj3] at hc0
            rw [below_cell ((Below.refl _ _).alloc (Nat.le_refl _) _) ((⟨b, o, none⟩ : Addr).add j) (strV x) (by
              rw [show (⟨b, o, none⟩ : Addr).add j = ⟨b, o + j, none⟩ by unfold Addr.add; split <;> simp_all]
              exact hc0)]
            simpa using hu
      case c2 =>
        intro u hu
        obtain ⟨x, _, rfl⟩ := List.mem_map.1 hu
        simp [strV, Value.oneCell']
      case c5 => simp
      intro v1 w1 hown1 hgrow _
      have B1 : Below w0.heap.size w0 w1 := ((Below.refl _ w0).alloc (Nat.le_refl _) _).grown hgrow (by simp) (fun k hk => by simp [Value.ownBlock] at hk; omega)
      have HB1 := Lib.hid B1
      have HP1 : Hid (StrsAt w1 v1 ps) := Lib.hid (StrsAt.of_parts (B := w0.heap.size) (by unfold Parts; simpa using hown1))
      clear B1 hgrow hown1
      go_wp2_with fail
      go_meet
      case rel => exact ⟨HP1, Lib.hid (HS0.out.below HB1.out), Lib.hid (below_on HB0.out HB1.out)⟩
  case rest =>
    obtain ⟨HS1, HS2, HB2⟩ := hcut
    obtain ⟨w2, rfl⟩ : ∃ w2 : World, w2 = wc := ⟨_, rfl⟩
    obtain ⟨m, hm2⟩ := HM.out.below HB2.out
    have A1 := Lib.hid (HJ.out w2 _ m hm2 HS1.out)
    clear hm2
    go_wp2_with fail
    refine A1.out.mono ?_; rintro e w3 ⟨rfl, B3⟩
    have HS3 := Lib.hid (HS1.out.below B3)
    have HS4 := Lib.hid (HS2.out.below B3)
    have HB3 := Lib.hid (below_on HB2.out B3)
    have A2 := Lib.hid (HR.out w3 _ HS4.out)
    clear B3 HB2 HS1 HS2 A1
    go_wp2_with fail
    refine A2.out.mono ?_; rintro e w4 ⟨rfl, B4⟩
    have A3 := Lib.hid (texts_any (HS3.out.below B4) (HS4.out.below B4) (by omega) (by omega))
    have HB4 := Lib.hid (below_on HB3.out B4)
    rw [decide_eq_true rfl] at A3
    have s1 : (X.toList == X.toList) = true := by simp
    have s2 : (rn == rn) = true := by simp
    clear B4 HB3 A2
    go_wp2_with fail
    refine A3.out.mono ?_; rintro e w5 ⟨rfl, n, rfl⟩
    go_wp2_with fail
    go_ret
    exact ⟨rfl, below_drewN HB4.out n⟩

end Go.Proofs.YtgpknilmfkcneaaDoor
