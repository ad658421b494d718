/- Split of the document: the same parts and the same number. -/
import Derived.Test.YtgpknilmfkcneaaDoorSplit
import Derived.Deep.DeepCutAuto
import Derived.Deep.CutBlock
namespace Go.Proofs.YtgpknilmfkcneaaDoor
open Go.RowKit
set_option linter.unusedVariables false
set_option linter.unusedSimpArgs false

/-- How far the document's loop has come behind k bytes: the parts that are done, where the next one begins, whether a part is bad, or too long. -/
structure Mid (l t : List UInt8) (k : Nat) (d : List (List UInt8)) (fr : Nat) (bd lg : Bool) : Prop where
  on : k ≤ t.length → ∃ x, cutL (t.take k) = d ++ [x] ∧ fr ≤ k + 1 ∧ (l.take (k + 1)).drop fr = x ∧ bd = (d.any badS || x.contains 0) ∧ lg = d.any longS
  off : t.length < k → cutL t = d ∧ bd = d.any badS ∧ lg = d.any longS
theorem Mid.start {l t : List UInt8} (h : l = 47 :: t) : Mid l t 0 [] 1 false false :=
  ⟨fun _ => ⟨[], by simp [cutL], by omega, by simp [h], rfl, rfl⟩, fun h => by omega⟩
def finB (bd : Bool) (x : List UInt8) : Bool := bd || decide (x = []) || decide (x = [46]) || decide (x = [46, 46])
theorem badS_fin (d : List (List UInt8)) (x : List UInt8) : finB (d.any badS || x.contains 0) x = (d ++ [x]).any badS := by
  unfold finB
  rw [List.any_append]
  simp only [List.any_cons, List.any_nil, Bool.or_false, badS]
  cases d.any badS <;> cases x.contains 0 <;> simp
theorem take_next {l t : List UInt8} (h : l = 47 :: t) {k : Nat} (hk : k < t.length) : l.take (k + 1 + 1) = l.take (k + 1) ++ [l.getD (k + 1) 0] ∧ t.take (k + 1) = t.take k ++ [l.getD (k + 1) 0] := by
  subst h
  constructor
  · rw [List.take_succ_eq_append_getElem (by simp; omega)]
    simp [hk]
  · rw [List.take_succ_eq_append_getElem hk]
    simp [hk]
section
variable {l t : List UInt8} {k fr : Nat} {d : List (List UInt8)} {bd lg : Bool}
theorem Mid.byte (h : Mid l t k d fr bd lg) (hl : l = 47 :: t) (hk : k < t.length) (hc : l.getD (k + 1) 0 ≠ 47) : Mid l t (k + 1) d fr (bd || decide (l.getD (k + 1) 0 = 0)) lg := by
  obtain ⟨x, h1, h2, h3, h4, h5⟩ := h.on (by omega)
  obtain ⟨e1, e2⟩ := take_next hl hk
  refine ⟨fun _ => ⟨x ++ [l.getD (k + 1) 0], ?_, by omega, ?_, ?_, h5⟩, fun h => by omega⟩
  · rw [e2]; exact cutL_snoc hc _ _ _ h1
  · rw [e1, List.drop_append_of_le_length (by rw [List.length_take, hl]; simp; omega), h3]
  · rw [h4, List.contains_append]
    have : [l.getD (k + 1) 0].contains 0 = decide (l.getD (k + 1) 0 = 0) := by simp [eq_comm]
    rw [this, Bool.or_assoc]
theorem Mid.begun (h : Mid l t k d fr bd lg) (hk : k ≤ t.length) : fr ≤ k + 1 := by
  obtain ⟨x, h1, h2, h3⟩ := h.on hk
  exact h2
theorem Mid.stroke (h : Mid l t k d fr bd lg) (hl : l = 47 :: t) (hk : k < t.length) (hc : l.getD (k + 1) 0 = 47) (x : List UInt8) (hx : (l.take (k + 1)).drop fr = x) :
    Mid l t (k + 1) (d ++ [x]) (k + 1 + 1) (finB bd x) (lg || longS x) := by
  obtain ⟨y, h1, h2, h3, h4, h5⟩ := h.on (by omega)
  obtain rfl : y = x := h3.symm.trans hx
  obtain ⟨e1, e2⟩ := take_next hl hk
  refine ⟨fun _ => ⟨[], ?_, by omega, ?_, ?_, ?_⟩, fun h => by omega⟩
  · rw [e2, hc, cutL_snoc_stroke, h1]
  · rw [List.drop_eq_nil_of_le]; simp; omega
  · rw [h4, badS_fin]; simp
  · rw [h5, List.any_append]; simp
theorem Mid.last (h : Mid l t k d fr bd lg) (hk : k = t.length) (x : List UInt8) (hx : (l.take (k + 1)).drop fr = x) (fr' : Nat) :
    Mid l t (k + 1) (d ++ [x]) fr' (finB bd x) (lg || longS x) := by
  obtain ⟨y, h1, h2, h3, h4, h5⟩ := h.on (by omega)
  obtain rfl : y = x := h3.symm.trans hx
  refine ⟨fun h => by omega, fun _ => ⟨?_, ?_, ?_⟩⟩
  · rw [← h1, List.take_of_length_le (by omega)]
  · rw [h4, badS_fin]
  · rw [h5, List.any_append]; simp
end

theorem at_byte (b : ByteArray) (i : Nat) (h : i < b.size) : b[i] = b.data.toList.getD i 0 := by
  have h2 : i < b.data.toList.length := by simpa using h
  rw [List.getD_eq_getElem?_getD, List.getElem?_eq_getElem h2]
  simp
  rfl
theorem splitP_at {l t : List UInt8} (hl : l = 47 :: t) (hs : l.length ≤ 256) (ht : t ≠ []) : splitP l = if (cutL t).any badS = true ∨ 16 < (cutL t).length then ([], 107) else if (cutL t).any longS = true then ([], 105) else (cutL t, 0) := by
  subst hl
  unfold splitP
  rw [if_neg (by rintro (e | e); exact e rfl; omega), if_neg (by simpa using ht)]
  rfl
theorem infoStr : (Tryd.prog.info? 9).map (fun i => (i.zero, i.size, i.bytes)) = some (some (.string ⟨#[]⟩), 1, 16) := by kernel_rfl
theorem strV_back (y : ByteArray) : strV y.data.toList = .string y := by cases y; simp [strV]

set_option maxHeartbeats 1000000 in
theorem rsplit_any (s : ByteArray) (w : World) (hs : s.size ≤ 140737488351232) :
    Calls Tryd.prog 8 #[.string s] w (SplitPost w s tup2) := by
  have hsl : s.data.toList.length = s.size := by simp
  by_cases h0 : s.size = 0
  · have hv : splitP s.data.toList = ([], 107) := by
      have : s.data.toList = [] := List.length_eq_zero_iff.1 (by omega)
      rw [this]; rfl
    have HV := Lib.hid hv
    have b0 : ((s.size : Int) == 0) = true := by simpa using h0
    clear hv hsl
    have H0 := Lib.hid h0
    clear h0
    go_enter Tryd.func8, Tryd.ntmps8
    go_wp2_with fail
    go_ret2
    exact splitPost_nil HV.out (Below.refl _ _)
  have b0 : ((s.size : Int) == 0) = false := by rw [beq_eq_false_iff_ne]; omega
  have hs0 : 0 < s.size := by omega
  have hg0 := at_byte s 0 hs0
  have hhd : s.data.toList.head? = some s[0] := by
    rw [hg0]
    cases h : s.data.toList with
    | nil =>
      have h9 : s.data.toList.length = 0 := by rw [h]; rfl
      omega
    | cons a t => rfl
  by_cases h1 : s[0] = 47
  · obtain ⟨t, ht⟩ : ∃ t, s.data.toList = 47 :: t := by
      cases h : s.data.toList with
      | nil => rw [h] at hhd; cases hhd
      | cons a t => rw [h] at hhd; simp at hhd; exact ⟨t, by rw [hhd, h1]⟩
    have b1 : ((s[0].toNat : Int) != 47) = false := by rw [h1]; rfl
    have htl : t.length + 1 = s.size := by rw [← hsl, ht]; rfl
    have H1 := Lib.hid h1
    clear hg0 hhd h1 h0
    by_cases h2 : (256 : Int) < (s.size : Int)
    · have hv : splitP s.data.toList = ([], 107) := by unfold splitP; rw [if_pos (.inr (by omega))]
      have HV := Lib.hid hv
      clear hv hsl ht htl
      go_enter Tryd.func8, Tryd.ntmps8
      go_wp2_with fail
      go_ret2
      exact splitPost_nil HV.out (Below.refl _ _)
    by_cases h3 : s.size = 1
    · have hv : splitP s.data.toList = ([], 0) := by
        have : t = [] := List.length_eq_zero_iff.1 (by omega)
        rw [ht, this]; rfl
      have HV := Lib.hid hv
      have b3 : ((s.size : Int) == 1) = true := by simp; omega
      have H3 := Lib.hid h3
      clear hv hsl ht h3 htl
      go_enter Tryd.func8, Tryd.ntmps8
      go_wp2_with fail
      go_ret2
      exact splitPost_nil HV.out (Below.refl _ _)
    have b3 : ((s.size : Int) == 1) = false := by simp; omega
    have HT := Lib.hid ht
    obtain ⟨i0, hi, hz0, hz1, hz2⟩ := info_parts infoStr
    have HL := Lib.hid htl
    have hlo : 2 ≤ s.size := by omega
    have hhi : s.size ≤ 256 := by omega
    clear ht hsl h3 htl
    go_enter Tryd.func8, Tryd.ntmps8
    go_wp2_with fail
    go_loopw [4, 5, 6, 7, 8] (fun vl vf vg vb vi wr => ∃ (k fr : Nat) (d : List (List UInt8)) (bd lg : Bool), k ≤ s.size ∧ d.length ≤ k ∧ vi = .int .i64 (k + 1 : Nat) ∧ vf = .int .i64 fr ∧ vg = .bool lg ∧ vb = .bool bd ∧ Hid (Mid s.data.toList t k d fr bd lg) ∧ Hid (Parts wr w.heap.size vl d) ∧ Hid (Below w.heap.size w wr))
      (fun _ _ _ _ i _ => s.size + 1 - (intOf i).toNat)
    case atStart => exact ⟨0, 1, [], false, false, by omega, by simp, rfl, rfl, rfl, rfl, Lib.hid (Mid.start HT.out), Lib.hid (World.ownsRow_nil _ _ _ _), Lib.hid (Below.refl _ _)⟩
    case round =>
      obtain ⟨k, fr, d, bd, lg, hk, hd, rfl, rfl, rfl, rfl, HM, HO, HB⟩ := hrel
      have HLE : Hid (Mid s.data.toList t k d fr bd lg) := HM
      by_cases hlt : k < s.size
      · have hfr : fr ≤ k + 1 := HM.out.begun (by have := HL.out; omega)
        have key : ((∃ hin : k + 1 < s.size, s[k + 1] = 47) ∨ k + 1 = s.size) ∨ ∃ hin : k + 1 < s.size, ¬ s[k + 1] = 47 := by
          by_cases hin : k + 1 < s.size
          · by_cases hc : s[k + 1] = 47
            · exact .inl (.inl ⟨hin, hc⟩)
            · exact .inr ⟨hin, hc⟩
          · exact .inl (.inr (by omega))
        rcases key with key | ⟨hin, hc⟩
        · have hx : (s.extract fr (k + 1)).data.toList = (s.data.toList.take (k + 1)).drop fr := by
            rw [Lib.extract_data, List.drop_take]
          have HMX : Hid (Mid s.data.toList t (k + 1) (d ++ [(s.extract fr (k + 1)).data.toList]) (k + 1 + 1) (finB bd (s.extract fr (k + 1)).data.toList) (lg || longS (s.extract fr (k + 1)).data.toList)) := by
            rcases key with ⟨hin, hc⟩ | hin
            · exact Lib.hid (HM.out.stroke HT.out (by have := HL.out; omega) (by rw [← at_byte s (k + 1) hin]; exact hc) _ hx.symm)
            · exact Lib.hid (HM.out.last (by have := HL.out; omega) _ hx.symm _)
          clear hx HM HLE
          have g1 : (fr : Int) ≤ (k : Int) + 1 := by omega
          have g2 : ((k : Int) + 1).toNat = k + 1 := by omega
          have g3 : (k : Int) + 1 ≤ (s.size : Int) := by omega
          rcases key with ⟨hin, hc⟩ | hin
          · have bc : ((s[k + 1].toNat : Int) != 47) = false := by rw [hc]; rfl
            have HC := Lib.hid hc
            clear hc
            go_upto_region 15 with fail
            generalize s.extract fr (k + 1) = y at HMX ⊢
            go_cut [7] (fun s7 wz => s7 = .bool (finB bd y.data.toList) ∧ wz = wr)
            case first =>
              have e0 : y.data.toList = y.toList := (ByteArray.toList_eq y).symm
              have F0 : Hid (∀ b, b = (bd || decide (y.toList = []) || decide (y.toList = [46]) || decide (y.toList = [46, 46])) → finB bd y.data.toList = b) := Lib.hid (fun b hb => by rw [hb, e0]; rfl)
              clear e0
              cases bd with
              | true =>
                go_wp2_with fail
                go_meet
                case rel => exact ⟨by rw [F0.out true (by simp)], rfl⟩
              | false =>
                by_cases e1 : y.toList = []
                · have E := Lib.hid (F0.out true (by simp [e1]))
                  go_wp2_with fail
                  go_meet
                  case rel => exact ⟨by rw [E.out], rfl⟩
                by_cases e2 : y.toList = [46]
                · have E := Lib.hid (F0.out true (by simp [e2]))
                  go_wp2_with fail
                  go_meet
                  case rel => exact ⟨by rw [E.out], rfl⟩
                by_cases e3 : y.toList = [46, 46]
                · have E := Lib.hid (F0.out true (by simp [e3]))
                  go_wp2_with fail
                  go_meet
                  case rel => exact ⟨by rw [E.out], rfl⟩
                have E := Lib.hid (F0.out false (by simp [e1, e2, e3]))
                have b1 : y.toList.isEmpty = false := by simpa using e1
                have b2 : (y.toList == [46]) = false := by simpa using e2
                have b3 : (y.toList == [46, 46]) = false := by simpa using e3
                go_wp2_with fail
                go_meet
                case rel => exact ⟨by rw [E.out], rfl⟩
            case rest =>
              obtain ⟨rfl, rfl⟩ := hcut
              obtain ⟨wr, rfl⟩ : ∃ wr : World, wr = wc := ⟨_, rfl⟩
              go_upto_region 16 with fail
              go_cut [6] (fun s6 wz => s6 = .bool (lg || longS y.data.toList) ∧ wz = wr)
              case first =>
                have F0 : Hid (longS y.data.toList = decide (32 < y.size)) := Lib.hid (by unfold longS; simp)
                cases lg with
                | true =>
                  go_wp2_with fail
                  go_meet
                  case rel => exact ⟨rfl, rfl⟩
                | false =>
                  by_cases e1 : (32 : Int) < (y.size : Int)
                  · have E : Hid (longS y.data.toList = true) := Lib.hid (by rw [F0.out]; exact decide_eq_true (by omega))
                    go_wp2_with fail
                    go_meet
                    case rel => exact ⟨by rw [E.out]; rfl, rfl⟩
                  · have E : Hid (longS y.data.toList = false) := Lib.hid (by rw [F0.out]; exact decide_eq_false (by omega))
                    go_wp2_with fail
                    go_meet
                    case rel => exact ⟨by rw [E.out]; simp, rfl⟩
              case rest =>
                obtain ⟨rfl, rfl⟩ := hcut
                obtain ⟨wr, rfl⟩ : ∃ wr : World, wr = wc := ⟨_, rfl⟩
                have hwb := HB.out.size
                have hn : d.length + 1 ≤ maxLen := by unfold maxLen; omega
                have hbd : (d.length + 1) * 16 ≤ 140737488355328 := by omega
                generalize finB bd y.data.toList = bd2 at *
                generalize hlg : (lg || longS y.data.toList) = lg2 at *
                have H9 := Lib.hid hlg
                clear hlg
                go_wp2_with (at_builtin; refine wpList_append_own _ rfl _ _ 23 rfl w.heap.size 9 i0 (.string ⟨#[]⟩) 1 16 (by kernel_rfl) hi hz0 hz1 hz2 rfl (by decide) _ d.length (d.map strV) rfl (HO.out.alloc _) ⟨wr.heap.size, 0, none⟩ 1 1 [.string y] rfl rfl ?c1 ?c2 hn hbd ?c5 ?_)
                case c1 =>
                  intro j u hu
                  cases j with
                  | zero => simp at hu; subst hu; simp [Addr.add]
                  | succ j => simp at hu
                case c2 => simp [Value.oneCell']
                case c5 => simp; omega
                intro v' w1 hown1 hgrow _
                have HGR := Lib.hid (((HB.out.alloc (by omega) _)).grown hgrow (by simp; omega) (fun k hk => (HO.out.lt k hk).1))
                have HO1 : Hid (Parts w1 w.heap.size v' (d ++ [y.data.toList])) := Lib.hid (by
                  unfold Parts
                  rw [List.map_append, List.map_singleton, strV_back, List.length_append]
                  exact hown1)
                clear hown1 hgrow
                go_wp2
                go_roundw
                case rel => exact ⟨k + 1, k + 1 + 1, d ++ [y.data.toList], bd2, lg2, by omega, by simp; omega, by go_num, by go_num, rfl, rfl, HMX, HO1, HGR⟩
                case measure => simp [intOf]; omega
          · have hin2 : ¬ ((k : Int) + 1 < (s.size : Int)) := by omega
            have HC := Lib.hid hin
            clear hin
            go_upto_region 15 with fail
            generalize s.extract fr (k + 1) = y at HMX ⊢
            go_cut [7] (fun s7 wz => s7 = .bool (finB bd y.data.toList) ∧ wz = wr)
            case first =>
              have e0 : y.data.toList = y.toList := (ByteArray.toList_eq y).symm
              have F0 : Hid (∀ b, b = (bd || decide (y.toList = []) || decide (y.toList = [46]) || decide (y.toList = [46, 46])) → finB bd y.data.toList = b) := Lib.hid (fun b hb => by rw [hb, e0]; rfl)
              clear e0
              cases bd with
              | true =>
                go_wp2_with fail
                go_meet
                case rel => exact ⟨by rw [F0.out true (by simp)], rfl⟩
              | false =>
                by_cases e1 : y.toList = []
                · have E := Lib.hid (F0.out true (by simp [e1]))
                  go_wp2_with fail
                  go_meet
                  case rel => exact ⟨by rw [E.out], rfl⟩
                by_cases e2 : y.toList = [46]
                · have E := Lib.hid (F0.out true (by simp [e2]))
                  go_wp2_with fail
                  go_meet
                  case rel => exact ⟨by rw [E.out], rfl⟩
                by_cases e3 : y.toList = [46, 46]
                · have E := Lib.hid (F0.out true (by simp [e3]))
                  go_wp2_with fail
                  go_meet
                  case rel => exact ⟨by rw [E.out], rfl⟩
                have E := Lib.hid (F0.out false (by simp [e1, e2, e3]))
                have b1 : y.toList.isEmpty = false := by simpa using e1
                have b2 : (y.toList == [46]) = false := by simpa using e2
                have b3 : (y.toList == [46, 46]) = false := by simpa using e3
                go_wp2_with fail
                go_meet
                case rel => exact ⟨by rw [E.out], rfl⟩
            case rest =>
              obtain ⟨rfl, rfl⟩ := hcut
              obtain ⟨wr, rfl⟩ : ∃ wr : World, wr = wc := ⟨_, rfl⟩
              go_upto_region 16 with fail
              go_cut [6] (fun s6 wz => s6 = .bool (lg || longS y.data.toList) ∧ wz = wr)
              case first =>
                have F0 : Hid (longS y.data.toList = decide (32 < y.size)) := Lib.hid (by unfold longS; simp)
                cases lg with
                | true =>
                  go_wp2_with fail
                  go_meet
                  case rel => exact ⟨rfl, rfl⟩
                | false =>
                  by_cases e1 : (32 : Int) < (y.size : Int)
                  · have E : Hid (longS y.data.toList = true) := Lib.hid (by rw [F0.out]; exact decide_eq_true (by omega))
                    go_wp2_with fail
                    go_meet
                    case rel => exact ⟨by rw [E.out]; rfl, rfl⟩
                  · have E : Hid (longS y.data.toList = false) := Lib.hid (by rw [F0.out]; exact decide_eq_false (by omega))
                    go_wp2_with fail
                    go_meet
                    case rel => exact ⟨by rw [E.out]; simp, rfl⟩
              case rest =>
                obtain ⟨rfl, rfl⟩ := hcut
                obtain ⟨wr, rfl⟩ : ∃ wr : World, wr = wc := ⟨_, rfl⟩
                have hwb := HB.out.size
                have hn : d.length + 1 ≤ maxLen := by unfold maxLen; omega
                have hbd : (d.length + 1) * 16 ≤ 140737488355328 := by omega
                generalize finB bd y.data.toList = bd2 at *
                generalize hlg : (lg || longS y.data.toList) = lg2 at *
                have H9 := Lib.hid hlg
                clear hlg
                go_wp2_with (at_builtin; refine wpList_append_own _ rfl _ _ 23 rfl w.heap.size 9 i0 (.string ⟨#[]⟩) 1 16 (by kernel_rfl) hi hz0 hz1 hz2 rfl (by decide) _ d.length (d.map strV) rfl (HO.out.alloc _) ⟨wr.heap.size, 0, none⟩ 1 1 [.string y] rfl rfl ?c3 ?c4 hn hbd ?c6 ?_)
                try (case c3 =>
                  intro j u hu
                  cases j with
                  | zero => simp at hu; subst hu; simp [Addr.add]
                  | succ j => simp at hu)
                case c4 => simp [Value.oneCell']
                case c6 => first | omega | (simp; omega)
                intro v' w1 hown1 hgrow _
                have HGR := Lib.hid (((HB.out.alloc (by omega) _)).grown hgrow (by simp; omega) (fun k hk => (HO.out.lt k hk).1))
                have HO1 : Hid (Parts w1 w.heap.size v' (d ++ [y.data.toList])) := Lib.hid (by
                  unfold Parts
                  rw [List.map_append, List.map_singleton, strV_back, List.length_append]
                  exact hown1)
                clear hown1 hgrow
                go_wp2
                go_roundw
                case rel => exact ⟨k + 1, k + 1 + 1, d ++ [y.data.toList], bd2, lg2, by omega, by simp; omega, by go_num, by go_num, rfl, rfl, HMX, HO1, HGR⟩
                case measure => simp [intOf]; omega
        · have hat := at_byte s (k + 1) hin
          have HC := Lib.hid hc
          have bc : ((s[k + 1].toNat : Int) != 47) = true := by
            simp
            intro e
            exact HC.out (UInt8.toNat_inj.1 (by have : s[k + 1].toNat = 47 := by omega
                                                rw [this]; rfl))
          have HMX := Lib.hid (HM.out.byte HT.out (by have := HL.out; omega) (by rw [← hat]; exact HC.out))
          rw [← hat] at HMX
          clear hat hc HM HLE
          cases bd with
          | true =>
            rw [Bool.true_or] at HMX
            go_wp2_with fail
            go_roundw
            case rel => exact ⟨k + 1, fr, d, true, lg, by omega, by omega, by go_num, rfl, rfl, rfl, HMX, HO, HB⟩
            case measure => simp [intOf]; omega
          | false =>
            by_cases hz : s[k + 1] = 0
            · have bz : ((s[k + 1].toNat : Int) == 0) = true := by rw [hz]; rfl
              rw [decide_eq_true hz] at HMX
              clear hz
              go_wp2_with fail
              go_roundw
              case rel => exact ⟨k + 1, fr, d, true, lg, by omega, by omega, by go_num, rfl, rfl, rfl, HMX, HO, HB⟩
              case measure => simp [intOf]; omega
            · have bz : ((s[k + 1].toNat : Int) == 0) = false := by
                simp
                intro e
                exact hz (UInt8.toNat_inj.1 (by have : s[k + 1].toNat = 0 := by omega
                                                rw [this]; rfl))
              rw [decide_eq_false hz] at HMX
              clear hz
              go_wp2_with fail
              go_roundw
              case rel => exact ⟨k + 1, fr, d, false, lg, by omega, by omega, by go_num, rfl, rfl, rfl, HMX, HO, HB⟩
              case measure => simp [intOf]; omega
      · obtain ⟨o1, o2, o3⟩ := HM.out.off (by have := HL.out; omega)
        have hdn : d.length ≠ 0 := by
          rw [← o1]
          exact fun e => cutL_ne t (List.length_eq_zero_iff.1 e)
        obtain ⟨g, cap, rfl⟩ : ∃ g cap, u4 = .slice (some ⟨g, 0, none⟩) d.length cap := by
          rcases HO.out.2 with ⟨_, h⟩ | ⟨g, cap, _, h, _⟩
          · exact absurd h hdn
          · exact ⟨g, cap, h⟩
        have hv := splitP_at HT.out (by rw [HT.out]; have := HL.out; simp; omega) (by intro e; have := HL.out; rw [e] at this; simp at this; omega)
        rw [o1, ← o2, ← o3] at hv
        have HV := Lib.hid hv
        clear o1 o2 o3 hv HM HLE
        cases bd with
        | true =>
          have hv2 := HV.out
          rw [if_pos (.inl rfl)] at hv2
          have HV2 := Lib.hid hv2
          clear hv2 HV
          go_wp2_with fail
          go_ret2
          exact splitPost_nil HV2.out HB.out
        | false =>
          by_cases h16 : (16 : Int) < (d.length : Int)
          · have hv2 := HV.out
            rw [if_pos (.inr (by omega))] at hv2
            have HV2 := Lib.hid hv2
            clear hv2 HV
            go_wp2_with fail
            go_ret2
            exact splitPost_nil HV2.out HB.out
          · have hv2 := HV.out
            rw [if_neg (by rintro (e | e); cases e; omega)] at hv2
            cases lg with
            | true =>
              rw [if_pos rfl] at hv2
              have HV2 := Lib.hid hv2
              clear hv2 HV
              go_wp2_with fail
              go_ret2
              exact splitPost_nil HV2.out HB.out
            | false =>
              rw [if_neg (by decide)] at hv2
              have HV2 := Lib.hid hv2
              clear hv2 HV
              go_wp2_with fail
              go_ret2
              exact ⟨_, by rw [HV2.out]; rfl, by rw [HV2.out]; exact HO.out, HB.out⟩
  · have hv : splitP s.data.toList = ([], 107) := by
      unfold splitP; rw [if_pos (.inl (by rw [hhd]; simpa using h1))]
    have b1 : ((s[0].toNat : Int) != 47) = true := by
      simp
      intro e
      exact h1 (UInt8.toNat_inj.1 (by have : s[0].toNat = 47 := by omega
                                      rw [this]; rfl))
    have HV := Lib.hid hv
    clear hv hsl hg0 hhd h1 h0
    go_enter Tryd.func8, Tryd.ntmps8
    go_wp2_with fail
    go_ret2
    exact splitPost_nil HV.out (Below.refl _ _)

end Go.Proofs.YtgpknilmfkcneaaDoor
