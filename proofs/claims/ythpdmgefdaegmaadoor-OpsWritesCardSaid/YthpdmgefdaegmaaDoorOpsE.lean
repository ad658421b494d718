/- Package lz: what strings.Builder's methods do within the packer. -/
import Derived.Test.YthpdmgefdaegmaaDoorOpsD
import Derived.Lib.AppendStr
import Derived.Lib.UnsafeStr
import Derived.Deep.RegionHeld3
namespace Go.Proofs.YthpdmgefdaegmaaDoor
open Go.RowKit
set_option linter.unusedVariables false
set_option linter.unusedSimpArgs false
variable {w : World} {B b : Nat} {txt : ByteArray} {adr : Value} {out : List UInt8} {pl : Int} {mp : Value}

theorem own_form {v : Value} {n : Nat} {xs : List Value} (h : w.ownsRow B 5 1 v n xs) (hn : n ≠ 0) : ∃ g cap, v = .slice (some ⟨g, 0, none⟩) n cap := by
  rcases h.2 with ⟨_, h0⟩ | ⟨g, cap, cur, hv, _⟩
  · exact absurd h0 hn
  · exact ⟨g, cap, hv⟩
/-- Behind an append to the buffer and the store of it. -/
theorem PkAt.stored {w1 w2 : World} {v v' : Value} {news : List UInt8} {A : Value} (hB : B ≤ b) (hbk : w1.heap[b]? = some (.cells #[.string txt, A, v, .int .i64 pl, mp] 78 (0, 0)))
    (hown : w1.ownsRow B 5 1 v out.length (out.map byteV)) (hne : v.ownBlock ≠ some b)
    (hown' : w2.ownsRow B 5 1 v' (out ++ news).length ((out ++ news).map byteV)) (hgrow : w1.grownBy w2 v.ownBlock) :
    PkAt (w2.setCell ⟨b, 2, none⟩ v') B b txt A (out ++ news) pl mp ∧ Below B w1 (w2.setCell ⟨b, 2, none⟩ v') ∧ Lib.OthersKept 5 (some b) w1 (w2.setCell ⟨b, 2, none⟩ v') := by
  have hlt : b < w1.heap.size := by
    rcases Nat.lt_or_ge b w1.heap.size with h | h
    · exact h
    · rw [Array.getElem?_eq_none h] at hbk; cases hbk
  have hb2 : w2.heap[b]? = some (.cells #[.string txt, A, v, .int .i64 pl, mp] 78 (0, 0)) := by
    rw [hgrow.block b hlt (fun e => hne e.symm)]; exact hbk
  have hne2 : v'.ownBlock ≠ some b := by
    intro e
    have := hown'.2
    rcases this with ⟨h, _⟩ | ⟨g, cap, cur, h, _, hg, _⟩
    · rw [h] at e; simp [Value.ownBlock] at e
    · rw [h] at e
      simp [Value.ownBlock] at e
      subst e
      rw [hb2] at hg
      simp at hg
  refine ⟨⟨hB, v', ?_, ?_, hne2⟩, ?_, ?_⟩
  · rw [heap_setCell_same w2 b 2 _ _ _ hb2]; rfl
  · exact hown'.kept (row := some b) ⟨rfl, rfl, rfl, by simp, fun k _ hk => heap_setCell_other w2 ⟨b, 2, none⟩ k _ (fun e => hk (by simp [e]))⟩ (.inr hne2)
  · exact ((Below.refl B w1).grown hgrow (Nat.le_trans hB (Nat.le_of_lt hlt)) (fun k hk => (hown.lt k hk).1)).setCell (p := ⟨b, 2, none⟩) hB _
  · refine ((Lib.OthersKept.refl _ _ w1).grown hgrow ?_).setCell ⟨b, 2, none⟩ rfl _
    intro g hg
    rcases hown.2 with ⟨h, _⟩ | ⟨g2, cap, cur, h, _, hg2, _⟩
    · rw [h] at hg; simp [Value.ownBlock] at hg
    · rw [h] at hg
      simp [Value.ownBlock] at hg
      subst hg
      exact ⟨_, _, hg2⟩

set_option maxHeartbeats 2000000 in
set_option maxRecDepth 100000 in
theorem writeByte_any (h : PkAt w B b txt adr out pl mp) (ha : AdrOk b adr) (x : UInt8) (hlen : out.length + 1 ≤ 140737488355328) :
    Calls Tryd.prog 40 #[.pointer (some ⟨b, 1, none⟩), byteV x] w fun e w' => e = .returned .nilIface ∧ PkAt w' B b txt (Adr b) (out ++ [x]) pl mp ∧ Below B w w' ∧ Lib.OthersKept 5 (some b) w w' := by
  obtain ⟨i0, hi, hz0, hz1, hz2⟩ := info_parts infoByte
  have HC := Lib.hid (copyCheck_any h ha)
  have hlt := h.lt
  have hB := h.old
  clear h ha
  obtain ⟨y, hy⟩ : ∃ y : Int, y = (x.toNat : Int) := ⟨_, rfl⟩
  have hx : byteV x = .int .u8 y := by rw [hy]; rfl
  rw [hx]
  have HX := Lib.hid hx
  clear hx hy
  go_enter Tryd.func40, Tryd.ntmps40
  go_wp2_with fail
  refine HC.out.mono ?_; rintro e w1 ⟨rfl, P1, B1, K1⟩
  obtain ⟨v, hbk, hown, hne⟩ := P1.cells
  have c2 : w1.cell? ⟨b, 2, none⟩ = some v := by rw [cellsOf_heap hbk]; rfl
  have HP := Lib.hid P1
  have HB1 := Lib.hid B1
  have HK1 := Lib.hid K1
  have hlt1 := P1.lt
  have HOWN := Lib.hid hown
  have HBK := Lib.hid hbk
  have HNE := Lib.hid hne
  clear P1 B1 K1 hown hbk hne
  go_wp2_with (at_builtin; refine wpList_append_own _ rfl _ _ 25 rfl B 5 i0 (.int .u8 0) 1 1 (by kernel_rfl) hi hz0 hz1 hz2 rfl (by decide) _ _ _ rfl (HOWN.out.alloc _) ⟨w1.heap.size, 0, none⟩ 1 1 [.int .u8 y] rfl rfl ?c1 ?c2 ?c3 ?c4 ?c5 ?_)
  case c1 =>
    intro j u hj
    cases j with
    | zero => simp at hj; subst hj; simp [Addr.add]
    | succ j => simp at hj
  case c2 => intro u hu; simp at hu; subst hu; rfl
  case c3 => unfold maxLen; omega
  case c4 => omega
  case c5 => simp; omega
  intro v' w2 hown' hgrow _
  rw [← HX.out] at hown'
  have hgrow2 : w1.grownBy w2 v.ownBlock := ⟨hgrow.os, hgrow.tape, hgrow.output, Nat.le_trans (by simp) hgrow.size, fun k hk hne => (hgrow.block k (by simp; omega) hne).trans (Lib.alloc_old _ _ k hk)⟩
  have HST := Lib.hid (PkAt.stored (news := [x]) hB HBK.out HOWN.out HNE.out (by simpa using hown') hgrow2)
  have hbk2 : w2.heap[b]? = some (.cells #[.string txt, Adr b, v, .int .i64 pl, mp] 78 (0, 0)) := by
    rw [hgrow2.block b hlt1 (fun e => HNE.out e.symm)]; exact HBK.out
  have d2 : w2.cell? ⟨b, 2, none⟩ = some v := by rw [cellsOf_heap hbk2]; rfl
  have f2 : w2.frozen? ⟨b, 2, none⟩ = false := by simp [World.frozen?, hbk2]
  obtain ⟨g, cap, rfl⟩ := own_form hown' (by omega)
  clear hgrow hgrow2 hown' hbk2
  go_wp2_with fail
  go_ret
  exact ⟨rfl, HST.out.1, HB1.out.trans HST.out.2.1, HK1.out.trans HST.out.2.2⟩

theorem strCells_v (s : ByteArray) : Lib.strCells s = s.data.toList.map byteV := Lib.strCells_eq s
theorem own_form2 {v : Value} {n : Nat} {xs : List Value} (h : w.ownsRow B 5 1 v n xs) : ∃ a cap, v = .slice a n cap := by
  rcases h.2 with ⟨h, h0⟩ | ⟨g, cap, cur, hv, _⟩
  · exact ⟨_, _, by rw [h, h0]⟩
  · exact ⟨_, cap, hv⟩

set_option maxHeartbeats 2000000 in
set_option maxRecDepth 100000 in
theorem writeString_any (h : PkAt w B b txt adr out pl mp) (ha : AdrOk b adr) (s : ByteArray) (hlen : out.length + s.size ≤ 140737488355328) :
    Calls Tryd.prog 41 #[.pointer (some ⟨b, 1, none⟩), .string s] w fun e w' => e = .returned (.tuple #[.int .i64 s.size, .nilIface]) ∧ PkAt w' B b txt (Adr b) (out ++ s.data.toList) pl mp ∧ Below B w w' ∧ Lib.OthersKept 5 (some b) w w' := by
  obtain ⟨i0, hi, hz0, hz1, hz2⟩ := info_parts infoByte
  have HC := Lib.hid (copyCheck_any h ha)
  have hlt := h.lt
  have hB := h.old
  clear h ha
  go_enter Tryd.func41, Tryd.ntmps41
  go_wp2_with fail
  refine HC.out.mono ?_; rintro e w1 ⟨rfl, P1, B1, K1⟩
  obtain ⟨v, hbk, hown, hne⟩ := P1.cells
  have c2 : w1.cell? ⟨b, 2, none⟩ = some v := by rw [cellsOf_heap hbk]; rfl
  have HB1 := Lib.hid B1
  have HK1 := Lib.hid K1
  have hlt1 := P1.lt
  have HOWN := Lib.hid hown
  have HBK := Lib.hid hbk
  have HNE := Lib.hid hne
  clear P1 B1 K1 hown hbk hne
  go_wp2_with (at_builtin; refine Lib.wpList_append_own_string _ rfl _ _ 25 9 rfl B 5 i0 (by kernel_rfl) (by kernel_rfl) hi hz0 hz1 hz2 _ _ _ rfl HOWN.out s rfl ?c3 ?c4 ?c5 ?_)
  case c3 => unfold maxLen; omega
  case c4 => omega
  case c5 => omega
  intro v' w2 hown' hgrow _
  have hl : s.data.toList.length = s.size := by simp
  have HST := Lib.hid (PkAt.stored (news := s.data.toList) hB HBK.out HOWN.out HNE.out (by rw [List.length_append, hl, List.map_append, ← strCells_v]; exact hown') hgrow)
  have hbk2 : w2.heap[b]? = some (.cells #[.string txt, Adr b, v, .int .i64 pl, mp] 78 (0, 0)) := by
    rw [hgrow.block b hlt1 (fun e => HNE.out e.symm)]; exact HBK.out
  have d2 : w2.cell? ⟨b, 2, none⟩ = some v := by rw [cellsOf_heap hbk2]; rfl
  have f2 : w2.frozen? ⟨b, 2, none⟩ = false := by simp [World.frozen?, hbk2]
  obtain ⟨a, cap, rfl⟩ := own_form2 hown'
  clear hgrow hown' hbk2 hl
  go_wp2_with fail
  go_ret2
  exact ⟨rfl, HST.out.1, HB1.out.trans HST.out.2.1, HK1.out.trans HST.out.2.2⟩

set_option maxHeartbeats 2000000 in
set_option maxRecDepth 100000 in
theorem writeSlice_any (h : PkAt w B b txt adr out pl mp) (ha : AdrOk b adr) (g2 c : Nat) (news : List UInt8) (hn : news ≠ []) (hrow : w.heap[g2]? = some (.cells (news.map byteV).toArray 5 (0, 0))) (hlen : out.length + news.length ≤ 140737488355328) :
    Calls Tryd.prog 34 #[.pointer (some ⟨b, 1, none⟩), .slice (some ⟨g2, 0, none⟩) news.length c] w fun e w' => e = .returned (.tuple #[.int .i64 news.length, .nilIface]) ∧ PkAt w' B b txt (Adr b) (out ++ news) pl mp ∧ Below B w w' ∧ Lib.OthersKept 5 (some b) w w' := by
  obtain ⟨i0, hi, hz0, hz1, hz2⟩ := info_parts infoByte
  have hgb : g2 ≠ b := by
    intro e
    subst e
    obtain ⟨v, h1, _⟩ := h.cells
    rw [hrow] at h1
    simp at h1
  have hn0 : news.length ≠ 0 := fun e => hn (List.length_eq_zero_iff.1 e)
  have HC : Hid (Calls Tryd.prog 42 #[.pointer (some ⟨b, 1, none⟩)] w fun e w' => e = .returned (.tuple #[]) ∧ PkAt w' B b txt (Adr b) out pl mp ∧ (Below B w w' ∧ Lib.OthersKept 5 (some b) w w') ∧ w'.heap[g2]? = some (.cells (news.map byteV).toArray 5 (0, 0))) := Lib.hid (by
    obtain ⟨v, h1, h2, h3⟩ := h.cells
    have c1 : w.cell? ⟨b, 1, none⟩ = some adr := by rw [cellsOf_heap h1]; rfl
    rcases ha with rfl | rfl
    · refine (copyCheck_fresh c1 (by simp [World.shape?, h1]) (by simp [World.frozen?, h1])).mono ?_
      rintro e w' ⟨rfl, rfl⟩
      refine ⟨rfl, ⟨h.old, v, ?_, ?_, h3⟩, ⟨(Below.refl B w).setCell (p := ⟨b, 1, none⟩) h.old _, (Lib.OthersKept.refl _ _ w).setCell ⟨b, 1, none⟩ rfl _⟩, ?_⟩
      · rw [heap_setCell_same w b 1 _ _ _ h1]; rfl
      · exact h2.kept (row := some b) ⟨rfl, rfl, rfl, by simp, fun k _ hk => heap_setCell_other w ⟨b, 1, none⟩ k _ (fun e => hk (by simp [e]))⟩ (.inr h3)
      · rw [heap_setCell_other w ⟨b, 1, none⟩ g2 _ hgb]; exact hrow
    · refine (copyCheck_used c1).mono ?_
      rintro e w' ⟨rfl, rfl⟩
      exact ⟨rfl, ⟨h.old, v, h1, h2, h3⟩, ⟨Below.refl _ _, Lib.OthersKept.refl _ _ _⟩, hrow⟩)
  have hlt := h.lt
  have hB := h.old
  clear h ha hrow
  go_enter Tryd.func34, Tryd.ntmps34
  go_wp2_with fail
  refine HC.out.mono ?_; rintro e w1 ⟨rfl, P1, ⟨B1, K1⟩, R1⟩
  obtain ⟨v, hbk, hown, hne⟩ := P1.cells
  have c2 : w1.cell? ⟨b, 2, none⟩ = some v := by rw [cellsOf_heap hbk]; rfl
  have HB1 := Lib.hid B1
  have HK1 := Lib.hid K1
  have HR1 := Lib.hid R1
  have hlt1 := P1.lt
  have HOWN := Lib.hid hown
  have HBK := Lib.hid hbk
  have HNE := Lib.hid hne
  clear P1 B1 K1 hown hbk hne R1
  go_wp2_with (at_builtin; refine wpList_append_own _ rfl _ _ 25 rfl B 5 i0 (.int .u8 0) 1 1 (by kernel_rfl) hi hz0 hz1 hz2 rfl (by decide) _ _ _ rfl HOWN.out ⟨g2, 0, none⟩ news.length c (news.map byteV) rfl (by simp) ?c1 ?c2 ?c3 ?c4 ?c5 ?_)
  case c1 =>
    intro i u hu
    rw [show (⟨g2, 0, none⟩ : Addr).add i = ⟨g2, i, none⟩ by unfold Addr.add; split <;> simp_all]
    rw [cellsOf_heap HR1.out]
    simpa using hu
  case c2 =>
    intro u hu
    obtain ⟨x, _, rfl⟩ := List.mem_map.1 hu
    simp [byteV, Value.oneCell']
  case c3 => unfold maxLen; omega
  case c4 => omega
  case c5 => omega
  intro v' w2 hown' hgrow _
  have HST := Lib.hid (PkAt.stored (news := news) hB HBK.out HOWN.out HNE.out (by rw [List.length_append, List.map_append]; exact hown') hgrow)
  have hbk2 : w2.heap[b]? = some (.cells #[.string txt, Adr b, v, .int .i64 pl, mp] 78 (0, 0)) := by
    rw [hgrow.block b hlt1 (fun e => HNE.out e.symm)]; exact HBK.out
  have d2 : w2.cell? ⟨b, 2, none⟩ = some v := by rw [cellsOf_heap hbk2]; rfl
  have f2 : w2.frozen? ⟨b, 2, none⟩ = false := by simp [World.frozen?, hbk2]
  obtain ⟨a, cap, rfl⟩ := own_form2 hown'
  clear hgrow hown' hbk2
  go_wp2_with fail
  go_ret2
  exact ⟨rfl, HST.out.1, HB1.out.trans HST.out.2.1, HK1.out.trans HST.out.2.2⟩

set_option maxHeartbeats 2000000 in
set_option maxRecDepth 100000 in
/-- String, of a builder that holds something: behind it the packer is not looked at any more. -/
theorem string_any (h : PkAt w B b txt adr out pl mp) (h0 : out ≠ []) :
    Calls Tryd.prog 35 #[.pointer (some ⟨b, 1, none⟩)] w fun e w' => e = .returned (.string (strB out)) ∧ Below B w w' := by
  obtain ⟨v, hbk, hown, hne⟩ := h.cells
  have hl0 : out.length ≠ 0 := by simpa using h0
  obtain ⟨g, cap, cur, rfl, hbg, hg, hnc, hcm, hcs, htake⟩ : ∃ g cap cur, v = .slice (some ⟨g, 0, none⟩) out.length cap ∧ B ≤ g ∧ w.heap[g]? = some (.cells cur 5 (0, 0)) ∧ out.length ≤ cap ∧ cap ≤ maxLen ∧ cur.size = cap * 1 ∧ cur.toList.take (out.length * 1) = out.map byteV := by
    rcases hown.2 with ⟨_, hz⟩ | ⟨g, cap, cur, hv, r⟩
    · exact absurd hz hl0
    · exact ⟨g, cap, cur, hv, r⟩
  have c1 : w.drew.cell? ⟨b, 2, none⟩ = some (.slice (some ⟨g, 0, none⟩) out.length cap) := by
    have : w.drew.heap[b]? = some (.cells #[.string txt, adr, .slice (some ⟨g, 0, none⟩) out.length cap, .int .i64 pl, mp] 78 (0, 0)) := hbk
    rw [cellsOf_heap this]; rfl
  have hSD : (Builtin.unsafeSliceData_ #[25] 98 #[.slice (some ⟨g, 0, none⟩) out.length cap]).run Tryd.prog w.drew = .ok (.pointer (some ⟨g, 0, none⟩)) w.drew :=
    Lib.run_unsafeSliceData_row _ _ _ _ _ _ (by omega)
  have hUS : (Builtin.unsafeString_ #[98, 3] 9 #[.pointer (some ⟨g, 0, none⟩), .int .i64 out.length]).run Tryd.prog w.drew = .ok (.string (strB out)) (w.drew.freeze ⟨g, 0, none⟩ out.length) := by
    refine Lib.run_unsafeString_row (P := Tryd.prog) w.drew 98 3 9 5 (by kernel_rfl) (by kernel_rfl) g cur.size (by have hg' : w.drew.heap[g]? = some (.cells cur 5 (0, 0)) := hg; simp [World.shape?, hg']) out h0 (by omega) (by unfold maxLen at hcm; omega) ?_
    intro j x hx
    have := hown.cells (g := g) rfl j (.int .u8 x.toNat) (by simp [byteV, hx])
    exact this
  have HBF := Lib.hid (Lib.below_freeze (Below.drew (Below.refl B w)) (p := ⟨g, 0, none⟩) hbg out.length)
  clear hbk hown hne hg hcs htake h
  generalize strB out = X at *
  go_enter Tryd.func35, Tryd.ntmps35
  go_wp2_with fail
  go_region
  all_goals (go_wp2; go_ret; exact ⟨rfl, HBF.out⟩)

end Go.Proofs.YthpdmgefdaegmaaDoor
