/- OpsNothing of chertlaw20. -/
import Derived.Test.YthpdmgefdaegmaaDoorOpsO
namespace Go.Proofs.YthpdmgefdaegmaaDoor
open Go.RowKit
set_option linter.unusedVariables false
set_option linter.unusedSimpArgs false

set_option maxHeartbeats 1000000 in
set_option maxRecDepth 100000 in
theorem cut_none (number size tt : Int) (last : ByteArray) (w : World) (h0 : 0 ≤ tt) (h : size ≤ tt) :
    Calls Tryd.prog 12 #[.int .i64 number, .int .i64 size, .int .i64 tt, .string last] w fun e w' => e = .returned (.slice none 0 0) ∧ w = w' := by
  go_enter Tryd.func12, Tryd.ntmps12
  go_wp2_with fail
  go_ret
  exact ⟨rfl, rfl⟩

theorem World.block_lt_of_row {w : World} {G : Nat} {o : Obj} (h : w.heap[G]? = some o) : G < w.heap.size := by
  rcases Nat.lt_or_ge G w.heap.size with h1 | h1
  · exact h1
  · rw [Array.getElem?_eq_none h1] at h; cases h
/-- A row of texts, made since B. -/
structure OldAt (w : World) (B G : Nat) (l : List (List UInt8)) : Prop where
  new : B ≤ G
  row : w.heap[G]? = some (.cells (l.map strV).toArray 9 (0, 0))

theorem oldL_nil (off : Nat) (d : List UInt8) (F N : Nat) : oldL off d F N [] = List.replicate N [] := by
  unfold oldL
  apply List.eq_replicate_iff.2
  refine ⟨by simp, fun b hb => ?_⟩
  obtain ⟨j, _, rfl⟩ := List.mem_map.1 hb
  rw [if_neg (by simp)]
theorem oldL_put {off : Nat} {d : List UInt8} {F N j : Nat} {ks : List Nat} (hj : j < N) : (oldL off d F N ks).set j (nowL off d [] F j) = oldL off d F N (ks ++ [F + j]) := by
  apply List.ext_getElem?
  intro q
  unfold oldL
  rw [List.getElem?_set, List.getElem?_map, List.getElem?_map]
  rcases Nat.lt_or_ge q N with h | h
  · rw [List.getElem?_range h]
    by_cases hq : j = q
    · subst hq
      simp [hj]
    · rw [if_neg hq]
      simp only [Option.map_some, List.mem_append, List.mem_singleton]
      by_cases h2 : F + q ∈ ks
      · rw [if_pos h2, if_pos (.inl h2)]
      · rw [if_neg h2, if_neg (by intro h3; rcases h3 with h3 | h3; exact h2 h3; omega)]
  · rw [List.getElem?_eq_none (by simpa using h), if_neg (by omega)]; rfl
theorem oldL_same {off : Nat} {d : List UInt8} {F N j : Nat} {ks : List Nat} (hz : nowL off d [] F j = []) : oldL off d F N ks = oldL off d F N (ks ++ [F + j]) := by
  unfold oldL
  refine List.map_congr_left fun q _ => ?_
  simp only [List.mem_append, List.mem_singleton]
  by_cases h2 : F + q ∈ ks
  · rw [if_pos h2, if_pos (.inl h2)]
  · rw [if_neg h2]
    by_cases h3 : F + q = F + j
    · obtain rfl : q = j := by omega
      rw [if_pos (.inr rfl), hz]
    · rw [if_neg (by intro h4; rcases h4 with h4 | h4; exact h2 h4; exact h3 h4)]
theorem OldAt.below {w w' : World} {B G : Nat} {l : List (List UInt8)} (h : OldAt w B G l) (hb : Below w.heap.size w w') : OldAt w' B G l := ⟨h.new, (hb.block G (World.block_lt_of_row h.row)).trans h.row⟩
theorem OldAt.put {w : World} {B G j : Nat} {l : List (List UInt8)} (h : OldAt w B G l) (x : List UInt8) : OldAt (w.setCell ⟨G, j, none⟩ (.string (strB x))) B G (l.set j x) := by
  refine ⟨h.new, ?_⟩
  rw [heap_setCell_same w G j _ _ _ h.row]
  congr 2
  apply Array.toList_inj.1
  simp [strV]
theorem OldAt.strs {w : World} {B G : Nat} {l : List (List UInt8)} (h : OldAt w B G l) : StrsAt w (.slice (some ⟨G, 0, none⟩) l.length l.length) l :=
  ⟨_, _, rfl, Nat.le_refl _, .inr ⟨G, 0, rfl, fun j hj => by
    rw [cellsOf_heap h.row, Nat.zero_add]
    simp [hj, strV]⟩⟩

set_option maxHeartbeats 4000000 in
set_option maxRecDepth 100000 in
theorem OpsNothing_walk (data : ByteArray) (O : Int) (w : World) (wd : data.size ≤ 140737488351232) (wO : (Lit.int .i64 O).wf = true) :
    Calls Tryd.prog 4 #[.string data, .int .i64 O] w fun e w' => e = .returned (.bool true) ∧ Below w.heap.size w w' := by
  obtain ⟨m, hm⟩ : ∃ m : Nat, min (data.size : Int) 256 = (m : Int) := ⟨min data.size 256, by omega⟩
  have hm1 : m ≤ data.size := by omega
  have hm2 : (0 : Int) ≤ (m : Int) := by omega
  have hm3 : m ≤ 256 := by omega
  go_enter Tryd.func4, Tryd.ntmps4
  go_wp2_with fail
  refine (speaks_ok w).mono ?_; rintro e w1 ⟨rfl, B1⟩
  have HB1 := Lib.hid B1
  clear B1
  go_upto_region 4 with fail
  obtain ⟨D, hD⟩ : ∃ D, D = data.extract 0 m := ⟨_, rfl⟩
  have hDs : D.size = m := by rw [hD, Lib.size_eq, Lib.extract_data, List.length_take, List.length_drop, ← Lib.size_eq]; omega
  rw [← hD]
  have HDS := Lib.hid hDs
  clear hD hDs hm hm1 hm2
  go_cut [30] (fun c wz => c = .bool (decide ¬ (0 ≤ O ∧ O ≤ 2000)) ∧ wz = w1)
  case first =>
    go_wp2_with fail
    all_goals
      go_meet
      case rel => exact ⟨congrArg Value.bool (by rw [Bool.eq_iff_iff]; simp only [Bool.or_eq_true, decide_eq_true_eq, iff_true, true_iff]; omega), rfl⟩
  case rest =>
    obtain ⟨hu, hwc⟩ := hcut
    obtain ⟨wq, rfl⟩ : ∃ wq : World, wq = wc := ⟨_, rfl⟩
    subst hu
    rw [hwc]
    clear hwc
    go_upto_if 30 with fail
    go_cut [1] (fun s1 wz => ∃ off : Nat, s1 = .int .i64 (off : Int) ∧ off ≤ 2000 ∧ wz = w1)
    case first =>
      by_cases hok : 0 ≤ O ∧ O ≤ 2000
      · have hd : decide (¬ (0 ≤ O ∧ O ≤ 2000)) = false := decide_eq_false (not_not_intro hok)
        rw [hd]
        go_wp2_with fail
        go_meet
        case rel => exact ⟨O.toNat, by rw [Int.toNat_of_nonneg hok.1], by omega, rfl⟩
      · have hd : decide (¬ (0 ≤ O ∧ O ≤ 2000)) = true := decide_eq_true hok
        rw [hd]
        go_wp2_with fail
        go_meet
        case rel => exact ⟨70, rfl, by omega, rfl⟩
    case rest =>
      obtain ⟨off, rfl, hoff, hwc⟩ := hcut
      rw [hwc]
      clear hwc
      have hwr := write_any (strsAt_none w1) (by simp) 1 0 off D (by have := HDS.out; omega)
      unfold WritePost at hwr
      have HWR := Lib.hid hwr
      have hDl : D.data.toList.length = m := by rw [← Lib.size_eq]; exact HDS.out
      have HDL := Lib.hid hDl
      clear hwr hDl
      go_wp2_with fail
      refine HWR.out.mono ?_; rintro e w2 ⟨v, cs, sz, er, rfl, hr, hown, hb2⟩
      obtain ⟨F, N, hsp, hFN, rfl, hz1, hz2, hz3, hz4, hwt, hag⟩ := nothing_pure hr hoff (by rw [HDL.out]; omega)
      have HB2 := Lib.hid (below_on HB1.out hb2)
      have HOWN := Lib.hid hown
      have HSP := Lib.hid hsp
      have HWT := Lib.hid hwt
      have HAG := Lib.hid hag
      clear HWR hr hown hb2 hsp hwt hag
      have hdd : (D.toList.isEmpty = true ∧ sz = 0) ∨ (D.toList.isEmpty = false ∧ sz = (off : Int) + (m : Int)) := by
        rw [Go.ByteArray.toList_eq]
        by_cases h0 : D.data.toList = []
        · exact .inl ⟨by rw [h0]; rfl, hz1 h0⟩
        · exact .inr ⟨by simpa using h0, by rw [hz2 h0, HDL.out]⟩
      have HDD := Lib.hid hdd
      clear hdd hz1 hz2
      obtain ⟨a, cap, rfl⟩ : ∃ a cap, v = .slice a cs.length cap := by
        rcases HOWN.out.2 with ⟨h, h0⟩ | ⟨g, cap, cur, hv, _⟩
        · exact ⟨_, _, by rw [h, h0]⟩
        · exact ⟨_, cap, hv⟩
      go_upto_region 7 with fail
      go_cut [59] (fun c wz => c = .bool false ∧ wz = w2)
      case first =>
        have hds := HDS.out
        rcases HDD.out with ⟨e1, e2⟩ | ⟨e1, e2⟩
        · go_wp2_with fail
          go_meet
          case rel => exact ⟨rfl, rfl⟩
        · go_wp2_with fail
          go_meet
          case rel => exact ⟨rfl, rfl⟩
      case rest =>
        obtain ⟨rfl, hwc⟩ := hcut
        rw [hwc]
        clear hwc
        have hsa := span_any (off : Int) (D.size : Int) w2
        have hsp2 := HSP.out
        rw [HDL.out, ← HDS.out] at hsp2
        rw [hsp2, show ((F + N : Nat) : Int) = (F : Int) + (N : Int) by omega] at hsa
        have HSA := Lib.hid hsa
        have hmk : ∀ W : World, (Instr.makeSlice 24 (.int .i64 (N : Int)) (.int .i64 (N : Int))).run Tryd.prog W = .ok (.slice (some ⟨W.heap.size, 0, none⟩) N N) (W.alloc (.cells (madeCells #[.string ⟨#[]⟩] N) 9)) := by
          intro W
          exact run_make_row' (P := Tryd.prog) 24 9 (.string ⟨#[]⟩) 16 (by kernel_rfl) (by kernel_rfl) rfl .i64 .i64 N (by omega) (by omega) W
        have nn : (F : Int) + (N : Int) - (F : Int) = (N : Int) := by omega
        clear hsa hsp2
        go_wp2_with fail
        refine HSA.out.mono ?_; rintro e w' ⟨rfl, rfl⟩
        go_wp2_with fail
        obtain ⟨G, hG⟩ : ∃ G, G = w2.heap.size := ⟨_, rfl⟩
        obtain ⟨w3, hw3⟩ : ∃ w3, w3 = w2.alloc (.cells (madeCells #[.string ⟨#[]⟩] N) 9) := ⟨_, rfl⟩
        rw [← hG, ← hw3]
        have hb3 : Below w2.heap.size w2 w3 := by rw [hw3]; exact (Below.refl _ _).alloc (Nat.le_refl _) _
        have HOWN3 := Lib.hid (ownsRow_below HOWN.out hb3)
        have HB3 := Lib.hid (below_on HB2.out hb3)
        have HROW3 : Hid (OldAt w3 w.heap.size G (oldL off D.data.toList F N [])) := Lib.hid (by
          refine ⟨by rw [hG]; exact HB2.out.size, ?_⟩
          rw [hw3, hG, heap_alloc_new]
          refine congrArg (fun c => some (Obj.cells c 9 (0, 0))) (Array.toList_inj.1 ?_)
          rw [toList_madeCells_one]
          rw [oldL_nil]
          simp [strV, strB])
        clear hG hw3 hb3 hmk nn
        go_loopw [11] (fun si wr => ∃ i : Nat, i ≤ cs.length ∧ si = .int .i64 (i : Int) ∧ Hid (wr.ownsRow w1.heap.size 41 6 (.slice a cs.length cap) cs.length (rowC 1 cs)) ∧ Hid (OldAt wr w.heap.size G (oldL off D.data.toList F N ((cs.take i).map Prod.fst))) ∧ Hid (Below w.heap.size w wr)) (fun si _ => cs.length - (intOf si).toNat)
        case atStart => exact ⟨0, by omega, rfl, HOWN3, by simpa using HROW3, HB3⟩
        case round =>
          obtain ⟨i, hi, rfl, HO, HR, HB⟩ := hrel
          obtain ⟨wy, rfl⟩ : ∃ wy : World, wy = wr := ⟨_, rfl⟩
          have hcl : (i : Int) ≤ 100 := by have := HWT.out.len; omega
          by_cases hlt : i < cs.length
          · have g1 : (i : Int) < (cs.length : Int) := by omega
            obtain ⟨g, cap', hva, hg, hc1, hc2, hcell⟩ := own_cell HO.out (by omega)
            obtain ⟨rfl, rfl⟩ : a = some ⟨g, 0, none⟩ ∧ cap = cap' := by
              simpa using hva
            obtain ⟨j, hj, hxk, hct⟩ := HWT.out.mem cs[i] (List.getElem_mem hlt)
            obtain ⟨t, ht⟩ : ∃ t, t = (cs[i]).2 := ⟨_, rfl⟩
            rw [← ht] at hct
            obtain ⟨z, hz⟩ : ∃ z, z = nowL off D.data.toList [] F j := ⟨_, rfl⟩
            rw [← hz] at hct
            have hzl : z.length ≤ 64 := by
              have hsp3 := HSP.out
              rw [hz]
              exact Nat.le_trans (trim_len _) (by unfold wrL putL; rw [List.length_append, List.length_append, List.length_take, List.length_take, List.length_drop, List.length_drop, pieceL_len]; omega)
            have x3 : wy.cell? ⟨g, i * 6 + 3, none⟩ = some (.int .i64 ((F : Int) + (j : Int))) := by rw [hcell _ (by omega), rowC_get _ _ _ _ hlt (by omega), hxk]; simp [chgL]
            have x4 : wy.cell? ⟨g, i * 6 + 4, none⟩ = some (.string (strB t)) := by rw [hcell _ (by omega), rowC_get _ _ _ _ hlt (by omega), ht]; rfl
            have x5 : wy.cell? ⟨g, i * 6 + 5, none⟩ = some (.bool t.isEmpty) := by rw [hcell _ (by omega), rowC_get _ _ _ _ hlt (by omega), ht]; rfl
            have HP := Lib.hid (fun W => plain_any t z W hct hzl)
            have HT : Hid ((cs.take (i + 1)).map Prod.fst = (cs.take i).map Prod.fst ++ [F + j]) := Lib.hid (by rw [List.take_succ_eq_append_getElem hlt, List.map_append, ← hxk]; rfl)
            have HZ := Lib.hid hz
            obtain ⟨X, hX⟩ : ∃ X, X = strB t := ⟨_, rfl⟩
            rw [← hX] at HP x4
            have q1 : (F : Int) + (j : Int) - (F : Int) = (j : Int) := by omega
            have q2 : (j : Int) < (N : Int) := by omega
            by_cases hz0 : z = []
            · have ht0 : t.isEmpty = true := by
                rcases hct with ⟨_, h⟩ | ⟨h, _⟩
                · rw [h]; rfl
                · exact absurd hz0 h
              rw [ht0] at x5
              have hd : decide (z ≠ []) = false := by simpa using hz0
              rw [hd] at HP
              clear hva hcell hct ht hz hX hd ht0 hxk
              go_wp2_with fail
              refine (HP.out _).mono ?_; rintro e w5 ⟨rfl, hb5⟩
              have y3 := below_cell hb5 _ _ x3
              have y5 := below_cell hb5 _ _ x5
              have HO5 := Lib.hid (ownsRow_below HO.out hb5)
              have HB5 := Lib.hid (below_on HB.out hb5)
              have HR5 : Hid (OldAt w5 w.heap.size G (oldL off D.data.toList F N ((cs.take (i + 1)).map Prod.fst))) := Lib.hid (by
                rw [HT.out, ← oldL_same (by rw [← HZ.out]; exact hz0)]
                exact HR.out.below hb5)
              clear hb5
              go_wp2_with fail
              exact ⟨⟨i + 1, by omega, by go_num, HO5, HR5, HB5⟩, by simp [intOf]; omega⟩
            · have ht0 : t.isEmpty = false := by
                have := hct.some hz0
                simpa using this
              rw [ht0] at x5
              have hd : decide (z ≠ []) = true := by simpa using hz0
              rw [hd] at HP
              obtain ⟨Z, hZ⟩ : ∃ Z, Z = strB z := ⟨_, rfl⟩
              rw [← hZ] at HP
              have HZZ := Lib.hid hZ
              clear hva hcell hct ht hz hX hd ht0 hxk hZ
              go_wp2_with fail
              refine (HP.out _).mono ?_; rintro e w5 ⟨rfl, hb5⟩
              have y3 := below_cell hb5 _ _ x3
              have y5 := below_cell hb5 _ _ x5
              have hr5 := HR.out.below hb5
              have hoc : w5.cell? ⟨G, j, none⟩ = some (strV (atL (oldL off D.data.toList F N ((cs.take i).map Prod.fst)) j)) := by
                rw [cellsOf_heap hr5.row]
                unfold atL
                rw [List.getD_eq_getElem?_getD, List.getElem?_toArray, List.getElem?_map, List.getElem?_eq_getElem (by rw [oldL_len]; exact hj)]
                rfl
              have hof : w5.frozen? ⟨G, j, none⟩ = false := by simp [World.frozen?, hr5.row]
              have HO5 : Hid ((w5.setCell ⟨G, j, none⟩ (.string Z)).ownsRow w1.heap.size 41 6 (.slice (some ⟨g, 0, none⟩) cs.length cap) cs.length (rowC 1 cs)) := Lib.hid (by
                have h9 := ownsRow_below HO.out hb5
                refine h9.kept (row := some G) ⟨rfl, rfl, rfl, by simp, fun k _ hk => heap_setCell_other w5 ⟨G, j, none⟩ k _ (fun e => hk (by simp [e]))⟩ (.inr ?_)
                intro e
                simp [Value.ownBlock] at e
                subst e
                obtain ⟨_, h8⟩ := h9
                rcases h8 with ⟨h8, _⟩ | ⟨g2, c2, cur, h8, _, h7, _⟩
                · cases h8
                · simp at h8
                  obtain ⟨rfl, _⟩ := h8
                  rw [hr5.row] at h7
                  simp at h7)
              have HB5 := Lib.hid ((below_on HB.out hb5).setCell (p := ⟨G, j, none⟩) hr5.new (.string Z))
              have HR5 : Hid (OldAt (w5.setCell ⟨G, j, none⟩ (.string Z)) w.heap.size G (oldL off D.data.toList F N ((cs.take (i + 1)).map Prod.fst))) := Lib.hid (by
                rw [HT.out, ← oldL_put hj, ← HZ.out, HZZ.out]
                exact hr5.put z)
              clear hb5 hr5
              go_wp2_with fail
              exact ⟨⟨i + 1, by omega, by go_num, HO5, HR5, HB5⟩, by simp [intOf]; omega⟩
          · have g1 : ¬ (i : Int) < (cs.length : Int) := by omega
            obtain rfl : i = cs.length := by omega
            rw [List.take_length] at HR
            have hst := HR.out.strs
            rw [oldL_len] at hst
            have hw2 := write_any hst (by rw [oldL_len]; omega) 1 sz off D (by have := HDS.out; omega)
            unfold WritePost at hw2
            have HW2 := Lib.hid hw2
            clear hst hw2
            go_wp2_with fail
            refine HW2.out.mono ?_; rintro e w6 ⟨v2, cs2, sz2, er2, rfl, hr2, hown2, hb6⟩
            obtain ⟨rfl, rfl, rfl⟩ := HAG.out _ _ _ hr2
            have HB6 := Lib.hid (below_on HB.out hb6)
            obtain ⟨a2, cap2, rfl⟩ : ∃ a2 cap2, v2 = .slice a2 0 cap2 := by
              rcases hown2.2 with ⟨h, h0⟩ | ⟨g2, cap2, cur2, hv2, _⟩
              · exact ⟨_, _, h⟩
              · exact ⟨_, cap2, hv2⟩
            have HC1 := Lib.hid (cut_none 1 sz2 sz2 ⟨#[120]⟩ w6 hz3 (Int.le_refl _))
            have HC2 := Lib.hid (cut_none 1 sz2 (sz2 + 1) ⟨#[120]⟩ w6 (by omega) (by omega))
            clear hr2 hown2 hb6 HW2
            go_wp2_with fail
            refine HC1.out.mono ?_; rintro e w7 ⟨rfl, rfl⟩
            go_wp2_with fail
            refine HC2.out.mono ?_; rintro e w7 ⟨rfl, rfl⟩
            go_wp2_with fail
            go_ret
            exact ⟨rfl, HB6.out⟩

end Go.Proofs.YthpdmgefdaegmaaDoor
