/- strings.Builder, WriteString and String: with all that they may touch said: the builder's block, and blocks from R on (its row's). -/
import Derived.Test.YtgfjeaegigjnaaaGreatDoorStrB
import Derived.Test.YtgfjeaegigjnaaaGreatDoorCrcA
namespace Go.Proofs.YtgfjeaegigjnaaaGreatDoor
open Go.RowKit
set_option linter.unusedVariables false
set_option linter.unusedSimpArgs false

/-- A builder in block b, its row, if any, from block R on. -/
def SB (b R : Nat) (bs : List Value) (w : World) : Prop := ∃ p v, (p = .pointer none ∨ p = .pointer (some ⟨b, 0, none⟩)) ∧ w.heap[b]? = some (.cells #[p, v] 92 (0, 0)) ∧ w.ownsRow R 5 1 v bs.length bs ∧ v.ownBlock ≠ some b
theorem SB.fresh (w : World) (R : Nat) : SB w.heap.size R [] (w.alloc (.cells #[.pointer none, .slice none 0 0] 92)) :=
  ⟨_, _, .inl rfl, heap_alloc_new w _, World.ownsRow_nil _ _ _ _, by simp [Value.ownBlock]⟩
theorem SB.kept {b R : Nat} {bs : List Value} {w w' : World} (h : SB b R bs w) (hk : ∀ k, k = b ∨ R ≤ k → k < w.heap.size → w'.heap[k]? = w.heap[k]?) : SB b R bs w' := by
  obtain ⟨p, v, h1, h2, h3, h4⟩ := h
  refine ⟨p, v, h1, (hk b (.inl rfl) (Array.getElem?_eq_some_iff.1 h2).1).trans h2, ⟨h3.1, h3.2.imp id ?_⟩, h4⟩
  rintro ⟨g, cap, cur, g1, g2, g3, g4⟩
  exact ⟨g, cap, cur, g1, g2, (hk g (.inr g2) (Array.getElem?_eq_some_iff.1 g3).1).trans g3, g4⟩
set_option maxHeartbeats 2000000 in
set_option maxRecDepth 100000 in
theorem sb_check3 (b R : Nat) (bs : List Value) (w : World) (h : SB b R bs w) :
    Calls Tryz.prog 59 #[.pointer (some ⟨b, 0, none⟩)] w fun e w' => e = .returned (.tuple #[]) ∧ (∃ v, w'.heap[b]? = some (.cells #[.pointer (some ⟨b, 0, none⟩), v] 92 (0, 0)) ∧ w'.ownsRow R 5 1 v bs.length bs ∧ v.ownBlock ≠ some b) ∧ Stays (fun k => k = b ∨ R ≤ k) w w' := by
  obtain ⟨p, v, hp, hb, hown, hne⟩ := h
  rcases hp with rfl | rfl
  · have c0 : w.cell? ⟨b, 0, none⟩ = some (.pointer none) := by rw [Lib.cell_of_heap hb]; rfl
    have hsh : w.shape? b = some (92, 2) := by simp [World.shape?, hb]
    have hf : w.frozen? ⟨b, 0, none⟩ = false := Lib.frozen_of_heap hb 0
    refine (sb_check_fresh c0 hsh hf).mono ?_
    rintro e w' ⟨rfl, rfl⟩
    refine ⟨rfl, ⟨v, ?_, ?_, hne⟩, (Stays.refl _ _).setCell (p := ⟨b, 0, none⟩) (.inl rfl) _⟩
    · simp [World.setCell, Array.getElem?_modify, hb]
    · exact hown.kept (row := some b) ⟨rfl, rfl, rfl, by simp [World.setCell], fun k _ hk => Below.heap_setCell _ _ _ _ (fun e => hk (by simp [e]))⟩ (Or.inr hne)
  · have c0 : w.cell? ⟨b, 0, none⟩ = some (.pointer (some ⟨b, 0, none⟩)) := by rw [Lib.cell_of_heap hb]; rfl
    refine (sb_check_used c0).mono ?_
    rintro e w' ⟨rfl, rfl⟩
    exact ⟨rfl, ⟨v, hb, hown, hne⟩, Stays.refl _ _⟩
set_option maxHeartbeats 2000000 in
set_option maxRecDepth 100000 in
theorem sb_write3 (b R : Nat) (l : List UInt8) (s : ByteArray) (w : World) (h : SB b R (Lib.byteCells l) w) (hlen : l.length + s.size ≤ 140737488355328) (hBw : R ≤ w.heap.size) :
    Calls Tryz.prog 35 #[.pointer (some ⟨b, 0, none⟩), .string s] w fun e w' => e = .returned (.tuple #[.int .i64 s.size, .nilIface]) ∧ SB b R (Lib.byteCells (l ++ s.data.toList)) w' ∧ Stays (fun k => k = b ∨ R ≤ k) w w' := by
  obtain ⟨i0, hi, hz0, hz1, hz2⟩ := info_parts (show (Tryz.prog.info? 5).map (fun i => (i.zero, i.size, i.bytes)) = some (some (.int .u8 0), 1, 1) by kernel_rfl)
  have hbl : (Lib.byteCells l).length = l.length := by simp [Lib.byteCells]
  have hcat : Lib.byteCells (l ++ s.data.toList) = Lib.byteCells l ++ Lib.strCells s := by simp [Lib.byteCells, Lib.strCells]
  rw [hcat]
  generalize Lib.byteCells l = bs at *
  have HCH := Lib.hid (sb_check3 b R bs w h)
  clear h hcat
  go_enter Tryz.func35, Tryz.ntmps35
  go_wp2_with fail
  go_at_call 59
  refine HCH.out.mono ?_
  rintro e w1 ⟨rfl, h1, hb1⟩
  obtain ⟨v, hbk, hown, hne⟩ := h1
  have c0 : w1.cell? ⟨b, 0, none⟩ = some (.pointer (some ⟨b, 0, none⟩)) := by rw [Lib.cell_of_heap hbk]; rfl
  have c1 : w1.cell? ⟨b, 1, none⟩ = some v := by rw [Lib.cell_of_heap hbk]; rfl
  have hbl2 := Lib.hid hbl
  clear HCH
  go_wp2_with (at_builtin; refine Lib.wpList_append_own_string _ rfl _ _ 47 9 rfl R 5 i0 (by kernel_rfl) (by kernel_rfl) hi hz0 hz1 hz2 _ _ _ rfl hown s rfl ?c3 ?c4 ?c5 ?_)
  case c3 => unfold maxLen; omega
  case c4 => omega
  case c5 => have := hb1.size; omega
  intro v' w2 hown' hgrow _
  have hlt : b < w1.heap.size := (Array.getElem?_eq_some_iff.1 hbk).1
  have hb2 : w2.heap[b]? = some (.cells #[.pointer (some ⟨b, 0, none⟩), v] 92 (0, 0)) := by
    rw [hgrow.block b hlt (fun e => hne e.symm)]
    exact hbk
  have d0 : w2.cell? ⟨b, 0, none⟩ = some (.pointer (some ⟨b, 0, none⟩)) := by rw [Lib.cell_of_heap hb2]; rfl
  have d1 : w2.cell? ⟨b, 1, none⟩ = some v := by rw [Lib.cell_of_heap hb2]; rfl
  have f1 : w2.frozen? ⟨b, 1, none⟩ = false := Lib.frozen_of_heap hb2 1
  obtain ⟨ao, n', cap, rfl⟩ : ∃ ao n' cap, v' = .slice ao n' cap := by
    rcases hown'.2 with ⟨hv, _⟩ | ⟨g, cap, cur, hv, _⟩
    · exact ⟨_, _, _, hv⟩
    · exact ⟨_, _, _, hv⟩
  have hown2 : w2.ownsRow R 5 1 (.slice ao n' cap) (bs ++ Lib.strCells s).length (bs ++ Lib.strCells s) := by rw [List.length_append, Lib.strCells_length, hbl2.out]; exact hown'
  have hst : Stays (fun k => k = b ∨ R ≤ k) w1 w2 := ⟨hgrow.os, hgrow.tape, hgrow.output, hgrow.size, fun k hk hn => hgrow.block k hk (fun e => hn (.inr (hown.lt k e.symm).1))⟩
  have HBT : Hid (SB b R (bs ++ Lib.strCells s) (w2.setCell ⟨b, 1, none⟩ (.slice ao n' cap)) ∧ Stays (fun k => k = b ∨ R ≤ k) w (w2.setCell ⟨b, 1, none⟩ (.slice ao n' cap))) := Lib.hid ⟨by
    have hne2 : (Value.slice ao n' cap).ownBlock ≠ some b := Lib.ownBlock_ne hown2 hb2 (by decide)
    refine ⟨_, _, .inr rfl, ?_, ?_, hne2⟩
    · simp [World.setCell, Array.getElem?_modify, hb2]
    · exact hown2.kept (row := some b) ⟨rfl, rfl, rfl, by simp [World.setCell], fun k _ hk => Below.heap_setCell _ _ _ _ (fun e => hk (by simp [e]))⟩ (Or.inr hne2), (hb1.trans hst).setCell (p := ⟨b, 1, none⟩) (.inl rfl) _⟩
  clear hown hown' hown2 hgrow hbk hb2 hb1 hne hlt hst
  go_wp2_with fail
  go_ret2
  exact ⟨rfl, HBT.out.1, HBT.out.2⟩
set_option maxHeartbeats 2000000 in
set_option maxRecDepth 100000 in
theorem sb_string3 (b R : Nat) (l : List UInt8) (w : World) (h : SB b R (Lib.byteCells l) w) (h0 : l ≠ []) :
    Calls Tryz.prog 36 #[.pointer (some ⟨b, 0, none⟩)] w fun e w' => e = .returned (.string (bytS l)) ∧ Stays (fun k => k = b ∨ R ≤ k) w w' := by
  obtain ⟨p, v, _, hbk, hown, hne⟩ := h
  have hl0 : l.length ≠ 0 := by simpa using h0
  rw [Lib.byteCells_length] at hown
  obtain ⟨g, cap, cur, rfl, hbg, hg, hnc, hcm, hcs, htake⟩ : ∃ g cap cur, v = .slice (some ⟨g, 0, none⟩) l.length cap ∧ R ≤ g ∧ w.heap[g]? = some (.cells cur 5 (0, 0)) ∧ l.length ≤ cap ∧ cap ≤ maxLen ∧ cur.size = cap * 1 ∧ cur.toList.take (l.length * 1) = Lib.byteCells l := by
    rcases hown.2 with ⟨_, hz⟩ | ⟨g, cap, cur, hv, r⟩
    · exact absurd hz hl0
    · exact ⟨g, cap, cur, hv, r⟩
  have c1 : w.drew.cell? ⟨b, 1, none⟩ = some (.slice (some ⟨g, 0, none⟩) l.length cap) := by
    have : w.drew.heap[b]? = some (.cells #[p, .slice (some ⟨g, 0, none⟩) l.length cap] 92 (0, 0)) := hbk
    rw [Lib.cell_of_heap this]; rfl
  have hSD : (Builtin.unsafeSliceData_ #[47] 144 #[.slice (some ⟨g, 0, none⟩) l.length cap]).run Tryz.prog w.drew = .ok (.pointer (some ⟨g, 0, none⟩)) w.drew :=
    Lib.run_unsafeSliceData_row _ _ _ _ _ _ (by omega)
  have hUS : (Builtin.unsafeString_ #[144, 3] 9 #[.pointer (some ⟨g, 0, none⟩), .int .i64 l.length]).run Tryz.prog w.drew = .ok (.string ⟨l.toArray⟩) (w.drew.freeze ⟨g, 0, none⟩ l.length) := by
    refine Lib.run_unsafeString_row w.drew 144 3 9 5 (by kernel_rfl) (by kernel_rfl) g cur.size (by have hg' : w.drew.heap[g]? = some (.cells cur 5 (0, 0)) := hg; simp [World.shape?, hg']) l h0 (by omega) (by unfold maxLen at hcm; omega) ?_
    intro j x hx
    have := hown.cells (g := g) rfl j (.int .u8 x.toNat) (by simp [Lib.byteCells, hx])
    exact this
  have hfin : Stays (fun k => k = b ∨ R ≤ k) w (w.drew.freeze ⟨g, 0, none⟩ l.length) := by
    have hB : Below g w (w.drew.freeze ⟨g, 0, none⟩ l.length) := Lib.below_freeze (Below.drew (Below.refl g w)) (p := ⟨g, 0, none⟩) (Nat.le_refl _) _
    refine ⟨hB.os, hB.tape, hB.output, hB.size, fun k hk hn => hB.block k ?_⟩
    have : ¬ R ≤ k := fun e => hn (.inr e)
    omega
  have HFIN := Lib.hid hfin
  clear hfin hown hg htake hcs hbk hne
  go_enter Tryz.func36, Tryz.ntmps36
  go_wp2_with fail
  go_region
  all_goals (go_wp2_with fail; go_ret; exact ⟨rfl, HFIN.out⟩)
end Go.Proofs.YtgfjeaegigjnaaaGreatDoor
