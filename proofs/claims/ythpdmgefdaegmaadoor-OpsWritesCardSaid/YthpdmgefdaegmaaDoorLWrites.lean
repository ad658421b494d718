/- OpsWrites of chertlaw20. -/
import Derived.Test.YthpdmgefdaegmaaDoorOpsV
import Derived.Test.YthpdmgefdaegmaaDoorLFile
import Derived.SizedLaws
namespace Go.Proofs.YthpdmgefdaegmaaDoor
open Go.RowKit
set_option linter.unusedVariables false
set_option linter.unusedSimpArgs false

theorem Alike.nil : Alike [] [] := ⟨rfl, fun i h => by simp at h⟩
theorem Alike.snoc {cs ws : List (Nat × List UInt8)} (h : Alike cs ws) {k : Nat} {t u : List UInt8} (ht : ChgOf t u) (hk : k < 4294967296) (hu : u.length ≤ 64) : Alike (cs ++ [(k, t)]) (ws ++ [(k, u)]) := by
  refine ⟨by simp [h.len], fun i h1 h2 => ?_⟩
  rw [List.length_append] at h1 h2
  rcases Nat.lt_or_ge i cs.length with h3 | h3
  · have h4 : i < ws.length := by rw [← h.len]; exact h3
    rw [List.getElem_append_left h3, List.getElem_append_left h4]
    exact h.all i h3 h4
  · have h5 : i = cs.length := by simp at h1; omega
    subst h5
    have hl := h.len
    rw [List.getElem_append_right (by omega), List.getElem_append_right (by omega)]
    simp only [hl, Nat.sub_self, List.getElem_cons_zero]
    exact ⟨trivial, ht, hk, hu⟩
theorem lt_mul64 {off F m : Nat} (h : off < (F + 1) * 64) : off < (F + m + 1) * 64 := Nat.lt_of_lt_of_le h (Nat.mul_le_mul_right 64 (by omega))
theorem lt_big {F m : Nat} (h : F + (m + 1) ≤ 100000) : F + m < 4294967296 := Nat.lt_of_lt_of_le (show F + m < 100001 by omega) (by decide)
theorem le_up {F m : Nat} (h : F + (m + 1) ≤ 100000) : F + m ≤ 100000 := by omega
theorem WrTo.alike {off : Nat} {d : List UInt8} {ps : List (List UInt8)} {F j : Nat} {cs : List (Nat × List UInt8)} (h : WrTo off d ps F j cs) (hF : F + j ≤ 100000) (hoff : off < (F + 1) * 64) : Alike cs (rwL off d ps F j) := by
  induction h with
  | zero => exact Alike.nil
  | same _ he ih =>
    rw [rwL, if_pos he, List.append_nil]
    exact ih (le_up hF)
  | @put m cs t _ hne hc ih =>
    rw [rwL, if_neg hne]
    have h1 := wrL_len off d (F + m) (atL ps m) (lt_mul64 hoff)
    have h2 := trim_len (wrL off d (F + m) (atL ps m))
    have h3 : Alike cs (rwL off d ps F m) := ih (le_up hF)
    have h4 : F + m < 4294967296 := lt_big hF
    have h5 : (Lib.trimRightB (wrL off d (F + m) (atL ps m)) 0).length ≤ 64 := by rw [h1] at h2; exact h2
    exact Alike.snoc h3 hc h4 h5
theorem writes_pure {size offset : Int} {d : List UInt8} {ps : List (List UInt8)} {cs ws : List (Nat × List UInt8)} {sz er sz2 er2 : Int} (h : WriteR size offset d ps cs sz er) (h2 : RWriteR size offset d ps ws sz2 er2) : sz2 = sz ∧ er2 = er ∧ Alike cs ws := by
  unfold WriteR at h
  unfold RWriteR at h2
  by_cases c1 : offset < 0 ∨ 256 < d.length
  · rw [if_pos c1] at h h2
    obtain ⟨rfl, rfl, rfl⟩ := h
    obtain ⟨rfl, rfl, rfl⟩ := h2
    exact ⟨rfl, rfl, Alike.nil⟩
  rw [if_neg c1] at h h2
  by_cases c2 : 8192 - (d.length : Int) < offset
  · rw [if_pos c2] at h h2
    obtain ⟨rfl, rfl, rfl⟩ := h
    obtain ⟨rfl, rfl, rfl⟩ := h2
    exact ⟨rfl, rfl, Alike.nil⟩
  rw [if_neg c2] at h h2
  by_cases c3 : d = []
  · rw [if_pos c3] at h h2
    obtain ⟨rfl, rfl, rfl⟩ := h
    obtain ⟨rfl, rfl, rfl⟩ := h2
    exact ⟨rfl, rfl, Alike.nil⟩
  rw [if_neg c3] at h h2
  obtain ⟨rfl, rfl, h⟩ := h
  obtain ⟨rfl, rfl, rfl⟩ := h2
  exact ⟨rfl, rfl, h.alike (by omega) (by omega)⟩

/-- A slice of texts as an argument. -/
theorem texts_sized {H : Type} {enc : TypeId × Value → H} {P : Program} {w : World} {ts : List TypeId} {ds : List (DataW H)} (hsz : (DataW.weightsEach P ts ds).all (· ≤ reachBytes) = true) {j : Nat} {t e : TypeId} {d : DataW H} {p : List MemPlace} {fuel : Nat} {a : Option Addr} {len cap : Nat}
    (ht : ts[j]? = some t) (hd : ds[j]? = some d) (hu : P.underlying t = some (.slice e)) (he : P.underlying e = some .string) (hc : P.cellsOf e = 1) (hby : P.bytesOf e = 16)
    (hf : DataW.trod enc P w 0 (fun _ => true) true fuel t (Value.slice a len cap).cells.toList = some (d, p)) :
    ∃ ps, StrsAt w (.slice a len cap) ps ∧ (a = none → cap = 0) ∧ ps.length * 16 ≤ 140737488351232 := by
  rcases Go.ChangeShapes.open_strings hu he hc hf with ⟨hcs, hx⟩ | ⟨x, l, c, ss, hcs, _, hl, hm, hz, hx, hcell, hs⟩
  · simp [Value.cells] at hcs
    obtain ⟨rfl, rfl, rfl⟩ := hcs
    exact ⟨[], ⟨none, 0, rfl, Nat.le_refl _, .inl rfl⟩, fun _ => rfl, by simp⟩
  · simp [Value.cells] at hcs
    obtain ⟨rfl, rfl, rfl⟩ := hcs
    have hzl : ss.length = cap := by simpa using hz
    obtain ⟨hx1, _⟩ := Prod.mk.inj hx
    subst hx1
    have hw := sized_slice hsz ht hd hu
    rw [hby] at hw
    have hrb : reachBytes = 140737488351232 := by decide
    have hpl : ((ss.take len).map fun s => s.data.toList).length = len := by simp; omega
    refine ⟨(ss.take len).map (fun s => s.data.toList), ?_, fun h => (by cases h), ?_⟩
    · refine ⟨some x, cap, by rw [hpl], by rw [hpl]; exact hl, ?_⟩
      rcases Nat.eq_zero_or_pos len with h0 | h0
      · left
        subst h0
        simp
      · right
        obtain ⟨b, o, sp⟩ := x
        have h1 := hcell 0 (by omega)
        have ea : (⟨b, o, sp⟩ : Addr).add 0 = ⟨b, o, sp⟩ := by unfold Addr.add; simp
        rw [ea] at h1
        have hsp : sp = none := by
          cases sp with
          | none => rfl
          | some q => unfold World.cell? at h1; split at h1 <;> simp at h1
        subst hsp
        refine ⟨b, o, rfl, fun j hj => ?_⟩
        rw [hpl] at hj
        have h2 := hcell j (by omega)
        rw [add_none] at h2
        rw [h2]
        congr 2
        rw [List.getD_eq_getElem?_getD, List.getElem?_eq_getElem (by omega)]
        simp only [Option.getD_some, List.getElem_map, List.getElem_take]
        apply ByteArray.ext
        unfold strB
        simp
    · rw [hpl]
      have e1 : (Go.ChangeShapes.strs (H := H) (ss.take len)).length = len := by unfold Go.ChangeShapes.strs; simp; omega
      have e2 : 0 ≤ (Go.ChangeShapes.strs (H := H) (ss.drop len)).length := Nat.zero_le _
      rw [e1, hrb] at hw
      omega

def WBox (w0 w : World) (B : Nat) (N : Nat) (n1 n2 : Int) : Prop := w.heap[B]? = some (.cells #[.int .i64 (N : Int), .int .i64 n1, .int .i64 n2] 44 (0, 0)) ∧ Below w0.heap.size w0 w
theorem WBox.keep {w0 w w' : World} {B N : Nat} {n1 n2 : Int} (h : WBox w0 w B N n1 n2) (hb : Below w.heap.size w w') : WBox w0 w' B N n1 n2 := ⟨(hb.block _ (row_lt0 h.1)).trans h.1, below_on h.2 hb⟩

set_option maxHeartbeats 4000000 in
set_option maxRecDepth 100000 in
theorem OpsWrites_walk (n0 n1 n2 : Int) (data : ByteArray) (a : Option Addr) (c : Nat) (ps : List (List UInt8)) (w : World) (wn0 : (Lit.int .i64 n0).wf = true) (wn1 : (Lit.int .i64 n1).wf = true) (wn2 : (Lit.int .i64 n2).wf = true) (wd : data.size ≤ 140737488351232)
    (h : StrsAt w (.slice a ps.length c) ps) (hnil : a = none → c = 0) (hlen : ps.length * 16 ≤ 140737488351232) :
    Calls Tryd.prog 5 #[.agg #[.int .i64 n0, .int .i64 n1, .int .i64 n2], .string data, .slice a ps.length c] w fun e w' => e = .returned (.bool true) ∧ Below w.heap.size w w' := by
  have HS := Lib.hid h
  clear h
  go_enter Tryd.func5, Tryd.ntmps5
  go_wp2_with fail
  obtain ⟨B, hB⟩ : ∃ B, B = w.heap.size := ⟨_, rfl⟩
  obtain ⟨w0, hw0⟩ : ∃ w0, w0 = w.alloc (.cells #[.int .i64 n0, .int .i64 n1, .int .i64 n2] 44) := ⟨_, rfl⟩
  rw [← hB, ← hw0]
  have hb0 : w0.heap[B]? = some (.cells #[.int .i64 n0, .int .i64 n1, .int .i64 n2] 44 (0, 0)) := by rw [hw0, hB]; exact heap_alloc_new _ _
  have hl0 : Below w.heap.size w w0 := by rw [hw0]; exact (Below.refl _ w).alloc (Nat.le_refl _) _
  refine (speaks_ok w0).mono ?_; rintro e w1 ⟨rfl, B1⟩
  have hb1 := (B1.block _ (row_lt0 hb0)).trans hb0
  have HBX := Lib.hid hb1
  have HB1 := Lib.hid (below_on hl0 B1)
  have HB := Lib.hid hB
  clear hb0 hl0 hw0 B1 hB hb1
  go_upto_region 3 with fail
  go_cut [26] (fun s wz => s = .bool (decide ¬ (0 ≤ n0 ∧ n0 ≤ 1099511627776)) ∧ wz = w1)
  case first =>
    have c0 : w1.cell? ⟨B, 0, none⟩ = some (.int .i64 n0) := by rw [cellsOf_heap HBX.out]; rfl
    go_wp2_with fail
    all_goals
      go_meet
      case rel => exact ⟨congrArg Value.bool (by rw [Bool.eq_iff_iff]; simp only [Bool.or_eq_true, decide_eq_true_eq, iff_true, true_iff]; omega), rfl⟩
  case rest =>
    obtain ⟨hu, hwc⟩ := hcut
    obtain ⟨wq, rfl⟩ : ∃ wq : World, wq = wc := ⟨_, rfl⟩
    subst hu
    rw [hwc]
    clear hwc
    go_upto_if 26 with fail
    go_cut [27] (fun _ wz => ∃ N : Nat, N ≤ 1099511627776 ∧ Hid (WBox w wz B N n1 n2))
    case first =>
      by_cases hok : 0 ≤ n0 ∧ n0 ≤ 1099511627776
      · have hd : decide (¬ (0 ≤ n0 ∧ n0 ≤ 1099511627776)) = false := decide_eq_false (not_not_intro hok)
        rw [hd]
        go_wp2_with fail
        go_meet
        case rel => exact ⟨n0.toNat, by omega, Lib.hid ⟨by rw [Int.toNat_of_nonneg hok.1]; exact HBX.out, HB1.out⟩⟩
      · have hd : decide (¬ (0 ≤ n0 ∧ n0 ≤ 1099511627776)) = true := decide_eq_true hok
        rw [hd]
        have c0 : w1.cell? ⟨B, 0, none⟩ = some (.int .i64 n0) := by rw [cellsOf_heap HBX.out]; rfl
        have f0 : w1.frozen? ⟨B, 0, none⟩ = false := by simp [World.frozen?, HBX.out]
        have HN : Hid (WBox w (w1.setCell ⟨B, 0, none⟩ (.int .i64 3)) B 3 n1 n2) := Lib.hid ⟨by rw [heap_setCell_same w1 B 0 _ _ _ HBX.out]; rfl, HB1.out.setCell (p := ⟨B, 0, none⟩) (by rw [HB.out]; exact Nat.le_refl _) _⟩
        go_wp2_with fail
        go_meet
        case rel => exact ⟨3, by omega, HN⟩
    case rest =>
      obtain ⟨N, hN, HW⟩ := hcut
      obtain ⟨w2, rfl⟩ : ∃ w2 : World, w2 = wc := ⟨_, rfl⟩
      have HS2 := Lib.hid (HS.out.below HW.out.2)
      clear HBX HB1
      go_upto_region 5 with fail
      go_cut [7] (fun s7 wz => Hid (StrsAt wz s7 ps) ∧ Hid (Below w2.heap.size w2 wz))
      case first =>
        obtain ⟨i0, hi, hz0, hz1, hz2⟩ := info_parts infoStr
        obtain ⟨_, _, ea, hpc, h5⟩ := HS2.out
        obtain ⟨rfl, _, rfl⟩ := Value.slice.inj ea
        cases a with
        | none =>
          have hc0 : c = 0 := hnil rfl
          have hp0 : ps = [] := List.length_eq_zero_iff.1 (by omega)
          subst hp0 hc0
          go_wp2_with fail
          go_meet
          case rel => exact ⟨Lib.hid ⟨_, 0, rfl, Nat.le_refl _, .inl rfl⟩, Lib.hid ((Below.refl _ _).alloc (Nat.le_refl _) _)⟩
        | some ad =>
          have hcel : ∀ (W : World), Below w2.heap.size w2 W → ∀ j u, (ps.map strV)[j]? = some u → W.cell? (ad.add j) = some u := by
            intro W hW j u hu
            rcases h5 with h5 | ⟨b, o, he, h5⟩
            · rw [h5] at hu; simp at hu
            · cases he
              rw [List.getElem?_map] at hu
              cases hj : ps[j]? with
              | none => rw [hj] at hu; cases hu
              | some x =>
                rw [hj] at hu
                obtain ⟨hj2, hj3⟩ := List.getElem?_eq_some_iff.1 hj
                have hc0 := h5 j hj2
                rw [hj3] at hc0
                rw [below_cell hW ((⟨b, o, none⟩ : Addr).add j) (strV x) (by rw [add_none]; exact hc0)]
                simpa using hu
          have HCEL := Lib.hid hcel
          have hb1 : (0 + ps.length) * 16 ≤ 140737488355328 := by omega
          have hb2 : 0 + ps.length ≤ maxLen := by unfold maxLen; omega
          clear hcel h5 ea
          go_wp2_with (at_builtin; refine wpList_append_own _ rfl _ _ 24 rfl w2.heap.size 9 i0 (.string ⟨#[]⟩) 1 16 (by kernel_rfl) hi hz0 hz1 hz2 rfl (by decide) (.slice (some ⟨w2.heap.size, 0, none⟩) 0 0) 0 [] rfl (World.ownsRow_made w2 #[] 0 (Nat.le_refl _) (by decide) rfl) ad ps.length c (ps.map strV) rfl (by simp) (HCEL.out _ ((Below.refl _ _).alloc (Nat.le_refl _) _)) (by intro u hu; obtain ⟨y, _, rfl⟩ := List.mem_map.1 hu; rfl) hb2 hb1 (by simp) ?_)
          intro v1 w3 hown hgrow _
          have hb3 : Below w2.heap.size w2 w3 := ((Below.refl _ _).alloc (Nat.le_refl _) _).grown hgrow (by simp) (fun k hk => by simp [Value.ownBlock] at hk; omega)
          have HS3 : Hid (StrsAt w3 v1 ps) := Lib.hid (StrsAt.of_own (B := w2.heap.size) (by simpa using hown))
          have HB3 := Lib.hid hb3
          clear hown hgrow hb3 HCEL
          go_wp2_with fail
          go_meet
          case rel => exact ⟨HS3, HB3⟩
      case rest =>
        obtain ⟨HI, HBI⟩ := hcut
        obtain ⟨w3, rfl⟩ : ∃ w3 : World, w3 = wc := ⟨_, rfl⟩
        have HW3 := Lib.hid (HW.out.keep HBI.out)
        have HS3 := Lib.hid (HS2.out.below HBI.out)
        have hps : ps.length ≤ 9223372036854775807 := by omega
        obtain ⟨ai, ci, hui, hcai, h9⟩ := id HI.out
        subst hui
        have HIC := Lib.hid h9
        clear h9 HS2 HW HBI
        have k0 : w3.cell? ⟨B, 0, none⟩ = some (.int .i64 (N : Int)) := by rw [cellsOf_heap HW3.out.1]; rfl
        have k1 : w3.cell? ⟨B, 1, none⟩ = some (.int .i64 n1) := by rw [cellsOf_heap HW3.out.1]; rfl
        have k2 : w3.cell? ⟨B, 2, none⟩ = some (.int .i64 n2) := by rw [cellsOf_heap HW3.out.1]; rfl
        have hwr := write_any HI.out hps (N : Int) n1 n2 data (by omega)
        unfold WritePost at hwr
        have HWR := Lib.hid hwr
        clear hwr
        go_wp2_with fail
        refine HWR.out.mono ?_; rintro e w4 ⟨v, cs, sz, er, rfl, hr, hown, hb4⟩
        have HW4 := Lib.hid (HW3.out.keep hb4)
        have HS4 := Lib.hid (HS3.out.below hb4)
        have HI4 := Lib.hid (HI.out.below hb4)
        have HO4 := Lib.hid hown
        have HR := Lib.hid hr
        clear hr hown hb4 HW3 HS3 HI HWR k0 k1 k2
        have k0 : w4.cell? ⟨B, 0, none⟩ = some (.int .i64 (N : Int)) := by rw [cellsOf_heap HW4.out.1]; rfl
        have k1 : w4.cell? ⟨B, 1, none⟩ = some (.int .i64 n1) := by rw [cellsOf_heap HW4.out.1]; rfl
        have k2 : w4.cell? ⟨B, 2, none⟩ = some (.int .i64 n2) := by rw [cellsOf_heap HW4.out.1]; rfl
        have hrw := rwrite_any HS4.out hps N hN n1 n2 data (by omega)
        unfold RWritePost at hrw
        have HRW := Lib.hid hrw
        clear hrw
        go_wp2_with fail
        refine HRW.out.mono ?_; rintro e w5 ⟨v', ws, sz2, er2, rfl, hr2, hown2, hb5⟩
        obtain ⟨rfl, rfl, hal⟩ := writes_pure HR.out hr2
        have HAL := Lib.hid hal
        have HW5 := Lib.hid (HW4.out.keep hb5)
        have HS5 := Lib.hid (HS4.out.below hb5)
        have HI5 := Lib.hid (HI4.out.below hb5)
        have HO5 := Lib.hid (ownsRow_below HO4.out hb5)
        have HO6 := Lib.hid hown2
        clear hr2 hal hown2 hb5 HW4 HS4 HI4 HO4 HRW HR k0 k1 k2
        have k2 : w5.cell? ⟨B, 2, none⟩ = some (.int .i64 n2) := by rw [cellsOf_heap HW5.out.1]; rfl
        have HSA := Lib.hid (span_any n2 (data.size : Int) w5)
        go_wp2_with fail
        refine HSA.out.mono ?_; rintro e w6 ⟨rfl, rfl⟩
        go_upto_region 9 with fail
        go_cut [82] (fun s wz => s = .bool (decide ¬ (0 ≤ n2 ∧ 1 ≤ (data.size : Int) ∧ n2 ≤ 8192 ∧ (data.size : Int) ≤ 8192)) ∧ wz = w5)
        case first =>
          go_wp2_with fail
          all_goals
            go_meet
            case rel => exact ⟨congrArg Value.bool (by rw [Bool.eq_iff_iff]; simp only [Bool.or_eq_true, decide_eq_true_eq, iff_true, true_iff]; omega), rfl⟩
        case rest =>
          obtain ⟨hu, hwc⟩ := hcut
          obtain ⟨wp, rfl⟩ : ∃ wp : World, wp = wc := ⟨_, rfl⟩
          subst hu
          rw [hwc]
          clear hwc
          go_upto_if 82 with fail
          go_cut [14, 15, 83] (fun _ _ _ wz => wz = w5)
          case first =>
            by_cases hok : 0 ≤ n2 ∧ 1 ≤ (data.size : Int) ∧ n2 ≤ 8192 ∧ (data.size : Int) ≤ 8192
            · have hd : decide (¬ (0 ≤ n2 ∧ 1 ≤ (data.size : Int) ∧ n2 ≤ 8192 ∧ (data.size : Int) ≤ 8192)) = false := decide_eq_false (not_not_intro hok)
              rw [hd]
              have hsp : spanC n2 (data.size : Int) = (n2 / 64, (n2 + (data.size : Int) - 1) / 64 + 1) := by unfold spanC; rw [if_neg (by omega)]
              rw [hsp]
              have hq : (n2 + (data.size : Int) - 1) / 64 + 1 = (n2 + (data.size : Int) + 63) / 64 := by omega
              rw [hq]
              clear hsp hq hd
              obtain ⟨ho1, ho2, ho3, ho4⟩ := hok
              go_wp2_with fail
              go_meet
              case rel => rfl
            · have hd : decide (¬ (0 ≤ n2 ∧ 1 ≤ (data.size : Int) ∧ n2 ≤ 8192 ∧ (data.size : Int) ≤ 8192)) = true := decide_eq_true hok
              rw [hd]
              have hsp : spanC n2 (data.size : Int) = (0, 0) := by unfold spanC; rw [if_pos (by omega)]
              rw [hsp]
              clear hd hsp hok
              go_wp2_with fail
              go_meet
              case rel => rfl
          case rest =>
            rw [hcut]
            clear hcut
            go_wp2_with fail
            go_loopw [16] (fun v16 wz => ∃ i : Nat, i ≤ ps.length ∧ v16 = .int .i64 (i : Int) ∧ Hid (Below w5.heap.size w5 wz)) (fun v16 _ => ps.length - (intOf v16).toNat)
            case atStart => exact ⟨0, by omega, rfl, Lib.hid (Below.refl _ _)⟩
            case round =>
              obtain ⟨i, hi, rfl, HBi⟩ := hrel
              obtain ⟨wz, rfl⟩ : ∃ wz : World, wz = wr := ⟨_, rfl⟩
              by_cases hlt : i < ps.length
              · have g1 : (i : Int) < (ps.length : Int) := by omega
                obtain ⟨_, _, ea, _, h5⟩ := HS5.out
                obtain ⟨rfl, _, rfl⟩ := Value.slice.inj ea
                obtain ⟨b, o, rfl, h5b⟩ := h5.resolve_left (by intro e; rw [e] at hlt; simp at hlt)
                obtain ⟨_, _, ea', _, h6⟩ := HI5.out
                obtain ⟨rfl, _, rfl⟩ := Value.slice.inj ea'
                obtain ⟨b', o', rfl, h6b⟩ := h6.resolve_left (by intro e; rw [e] at hlt; simp at hlt)
                obtain ⟨X, hX⟩ : ∃ X, X = strB ps[i] := ⟨_, rfl⟩
                have x1 := below_cell HBi.out _ _ (h5b i hlt)
                have x2 := below_cell HBi.out _ _ (h6b i hlt)
                rw [← hX] at x1 x2
                have s1 : (X.toList == X.toList) = true := by simp
                have s2 : (X.toList != X.toList) = false := by simp
                have hib : (i : Int) ≤ 140737488351232 := by omega
                clear h5 h6 h5b h6b ea ea' hX
                go_wp2_with fail
                go_quiet (fail)
                have HB9 := Lib.hid (below_drewN HBi.out nq)
                go_wp2_with fail
                exact ⟨⟨i + 1, by omega, by go_num, HB9⟩, by simp [intOf]; omega⟩
              · have g1 : ¬ (i : Int) < (ps.length : Int) := by omega
                have hsm := same_law hN (ownsRow_below HO5.out HBi.out) (ownsRow_below HO6.out HBi.out) HAL.out
                have HSM := Lib.hid hsm
                clear hsm
                go_wp2_with fail
                refine HSM.out.mono ?_; rintro e w8 ⟨rfl, hb8⟩
                have HB8 := Lib.hid (below_on (below_on HW5.out.2 HBi.out) hb8)
                clear hb8
                go_wp2_with fail
                go_ret
                exact ⟨rfl, HB8.out⟩

end Go.Proofs.YthpdmgefdaegmaaDoor
