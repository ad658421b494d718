/- Package ops: change. -/
import Derived.Test.YthpdmgefdaegmaaDoorOpsI
import Derived.Test.YthpdmgefdaegmaaDoorShelf
import Derived.Deep.RegionWith
import Derived.Handy
namespace Go.Proofs.YthpdmgefdaegmaaDoor
open Go.RowKit
set_option linter.unusedVariables false
set_option linter.unusedSimpArgs false

/-- A change of a piece: gone exactly if its text is empty. -/
def chgL (number piece : Int) (t : List UInt8) : List Value := [.int .i64 number, .int .i64 3, .string (strB []), .int .i64 piece, .string (strB t), .bool t.isEmpty]
def ChgOf (t l : List UInt8) : Prop := (l = [] ∧ t = []) ∨ (l ≠ [] ∧ Packed t l)
theorem ChgOf.some {t l : List UInt8} (h : ChgOf t l) (hl : l ≠ []) : t ≠ [] := by
  rcases h with ⟨h, _⟩ | ⟨_, h | ⟨o, h, _⟩⟩
  · exact absurd h hl
  · rw [h]; simp
  · rw [h]; simp
theorem trim_len (l : List UInt8) : (Lib.trimRightB l 0).length ≤ l.length := by
  unfold Lib.trimRightB
  rw [List.length_reverse]
  exact Nat.le_trans (List.dropWhile_suffix _).length_le (by simp)

def sixSet (w : World) (b : Nat) (x0 x1 x2 x3 x4 x5 : Value) : World := (((((w.setCell ⟨b, 0, none⟩ x0).setCell ⟨b, 1, none⟩ x1).setCell ⟨b, 2, none⟩ x2).setCell ⟨b, 3, none⟩ x3).setCell ⟨b, 4, none⟩ x4).setCell ⟨b, 5, none⟩ x5
theorem sixSet_block {w : World} {b : Nat} {a0 a1 a2 a3 a4 a5 : Value} {t : TypeId} (h : w.heap[b]? = some (.cells #[a0, a1, a2, a3, a4, a5] t (0, 0))) (x0 x1 x2 x3 x4 x5 : Value) :
    (sixSet w b x0 x1 x2 x3 x4 x5).heap[b]? = some (.cells #[x0, x1, x2, x3, x4, x5] t (0, 0)) := by
  unfold sixSet
  have h0 := heap_setCell_same w b 0 _ _ x0 h
  have h1 := heap_setCell_same _ b 1 _ _ x1 h0
  have h2 := heap_setCell_same _ b 2 _ _ x2 h1
  have h3 := heap_setCell_same _ b 3 _ _ x3 h2
  have h4 := heap_setCell_same _ b 4 _ _ x4 h3
  have h5 := heap_setCell_same _ b 5 _ _ x5 h4
  rw [h5]; rfl
theorem sixSet_below {w0 w : World} {B b : Nat} (h : Below B w0 w) (hb : B ≤ b) (x0 x1 x2 x3 x4 x5 : Value) : Below B w0 (sixSet w b x0 x1 x2 x3 x4 x5) :=
  ((((((h.setCell (p := ⟨b, 0, none⟩) hb _).setCell (p := ⟨b, 1, none⟩) hb _).setCell (p := ⟨b, 2, none⟩) hb _).setCell (p := ⟨b, 3, none⟩) hb _).setCell (p := ⟨b, 4, none⟩) hb _).setCell (p := ⟨b, 5, none⟩) hb _)

theorem six_conj {W : World} {b : Nat} {number piece : Int} (hk : W.heap[b + 1]? = some (.cells #[.int .i64 number, .int .i64 3, .string ⟨#[]⟩, .int .i64 piece] 39 (0, 0)))
    (hc : W.heap[b]? = some (.cells #[.int .i64 0, .int .i64 0, .string ⟨#[]⟩, .int .i64 0, .string ⟨#[]⟩, .bool false] 41 (0, 0))) :
    W.cell? ⟨b + 1, 0, none⟩ = some (.int .i64 number) ∧ W.cell? ⟨b + 1, 1, none⟩ = some (.int .i64 3) ∧ W.cell? ⟨b + 1, 2, none⟩ = some (.string ⟨#[]⟩) ∧ W.cell? ⟨b + 1, 3, none⟩ = some (.int .i64 piece) ∧ W.cell? ⟨b, 0, none⟩ = some (.int .i64 0) ∧ W.cell? ⟨b, 1, none⟩ = some (.int .i64 0) ∧ W.cell? ⟨b, 2, none⟩ = some (.string ⟨#[]⟩) ∧ W.cell? ⟨b, 3, none⟩ = some (.int .i64 0) ∧ W.cell? ⟨b, 4, none⟩ = some (.string ⟨#[]⟩) ∧ W.cell? ⟨b, 5, none⟩ = some (.bool false) ∧ W.frozen? ⟨b, 0, none⟩ = false ∧ W.frozen? ⟨b, 1, none⟩ = false ∧ W.frozen? ⟨b, 2, none⟩ = false ∧ W.frozen? ⟨b, 3, none⟩ = false ∧ W.frozen? ⟨b, 4, none⟩ = false ∧ W.frozen? ⟨b, 5, none⟩ = false :=
  ⟨by rw [cellsOf_heap hk]; rfl, by rw [cellsOf_heap hk]; rfl, by rw [cellsOf_heap hk]; rfl, by rw [cellsOf_heap hk]; rfl, by rw [cellsOf_heap hc]; rfl, by rw [cellsOf_heap hc]; rfl, by rw [cellsOf_heap hc]; rfl, by rw [cellsOf_heap hc]; rfl, by rw [cellsOf_heap hc]; rfl, by rw [cellsOf_heap hc]; rfl, by simp [World.frozen?, hc], by simp [World.frozen?, hc], by simp [World.frozen?, hc], by simp [World.frozen?, hc], by simp [World.frozen?, hc], by simp [World.frozen?, hc]⟩

set_option maxHeartbeats 2000000 in
set_option maxRecDepth 100000 in
theorem change_any (number piece : Int) (g : Nat) (l : List UInt8) (w : World) (hl : l.length = 64) (hrow : w.heap[g]? = some (.cells (l.map byteV).toArray 5 (0, 0))) :
    Calls Tryd.prog 17 #[.int .i64 number, .int .i64 piece, .slice (some ⟨g, 0, none⟩) 64 64] w fun e w' =>
      ∃ t, ChgOf t (Lib.trimRightB l 0) ∧ e = .returned (.agg (chgL number piece t).toArray) ∧ Below w.heap.size w w' := by
  have hlt : g < w.heap.size := by
    rcases Nat.lt_or_ge g w.heap.size with h | h
    · exact h
    · rw [Array.getElem?_eq_none h] at hrow; cases hrow
  have hcv : ∀ W : World, Below w.heap.size w W → (convert 25 9 (.slice (some ⟨g, 0, none⟩) 64 64)).run Tryd.prog W = .ok (.string (strB l)) W := by
    intro W hW
    have := run_convert_bytes_back (P := Tryd.prog) W 25 9 5 ⟨g, 0, none⟩ 64 l (by kernel_rfl) (by kernel_rfl) (by kernel_rfl) (by
      intro i hi
      rw [show (⟨g, 0, none⟩ : Addr).add i = ⟨g, i, none⟩ by unfold Addr.add; split <;> simp_all]
      rw [cellsOf_heap ((hW.block g hlt).trans hrow)]
      simp [byteV, List.getElem?_eq_getElem hi])
    rw [hl] at this
    exact this
  have HCV := Lib.hid hcv
  clear hcv hrow
  obtain ⟨N, hN⟩ : ∃ N : Nat, N = 64 := ⟨64, rfl⟩
  rw [← hN] at HCV ⊢
  have HN := Lib.hid hN
  obtain ⟨X, hX⟩ : ∃ X, X = strB l := ⟨_, rfl⟩
  obtain ⟨T, hT⟩ : ∃ T, T = Lib.trimRightB l 0 := ⟨_, rfl⟩
  have hTl : T.length ≤ 64 := by rw [hT, ← hl]; exact trim_len l
  have HTR : Hid (∀ W : World, Calls Tryd.prog 22 #[.string X, .string ⟨#[0]⟩] W fun e w' => e = .returned (.string (strB T)) ∧ w' = W) := Lib.hid (fun W => by
    have := Tryd.strings_TrimRight_one X 0 (by decide) W (by rw [hX, strB_size]; omega)
    rw [hX, strB_list, ← hT] at this
    rw [hX]
    exact this)
  rw [← hX] at HCV
  rw [← hT]
  clear hX hT
  have HL := Lib.hid hl
  clear hl hN
  go_enter Tryd.func17, Tryd.ntmps17
  go_wp2_with fail
  rw [HCV.out _ (((Below.refl _ w).alloc (Nat.le_refl _) _).alloc (by simp) _)]
  simp only [Result.andThen]
  rw [Oper.upon_value]
  go_wp2_with fail
  refine (HTR.out _).mono ?_; rintro e w1 ⟨rfl, rfl⟩
  obtain ⟨w1, hw1⟩ : ∃ w1, w1 = ((w.alloc (.cells #[.int .i64 0, .int .i64 0, .string ⟨#[]⟩, .int .i64 0, .string ⟨#[]⟩, .bool false] 41)).alloc (.cells #[.int .i64 number, .int .i64 3, .string ⟨#[]⟩, .int .i64 piece] 39)) := ⟨_, rfl⟩
  rw [← hw1]
  have hk1 : w1.heap[w.heap.size + 1]? = some (.cells #[.int .i64 number, .int .i64 3, .string ⟨#[]⟩, .int .i64 piece] 39 (0, 0)) := by
    rw [hw1]
    have := heap_alloc_new (w.alloc (.cells #[.int .i64 0, .int .i64 0, .string ⟨#[]⟩, .int .i64 0, .string ⟨#[]⟩, .bool false] 41)) (.cells #[.int .i64 number, .int .i64 3, .string ⟨#[]⟩, .int .i64 piece] 39)
    rwa [World.size_alloc] at this
  have hc1 : w1.heap[w.heap.size]? = some (.cells #[.int .i64 0, .int .i64 0, .string ⟨#[]⟩, .int .i64 0, .string ⟨#[]⟩, .bool false] 41 (0, 0)) := by rw [hw1, Lib.alloc_old _ _ _ (by simp)]; exact heap_alloc_new _ _
  have hb1 : Below w.heap.size w w1 := by rw [hw1]; exact ((Below.refl _ w).alloc (Nat.le_refl _) _).alloc (by simp) _
  have hs1 : w1.heap.size = w.heap.size + 2 := by rw [hw1]; simp
  clear hw1
  have k0 : w1.cell? ⟨w.heap.size + 1, 0, none⟩ = some (.int .i64 number) := by rw [cellsOf_heap hk1]; rfl
  have k1 : w1.cell? ⟨w.heap.size + 1, 1, none⟩ = some (.int .i64 3) := by rw [cellsOf_heap hk1]; rfl
  have k2 : w1.cell? ⟨w.heap.size + 1, 2, none⟩ = some (.string ⟨#[]⟩) := by rw [cellsOf_heap hk1]; rfl
  have k3 : w1.cell? ⟨w.heap.size + 1, 3, none⟩ = some (.int .i64 piece) := by rw [cellsOf_heap hk1]; rfl
  have HB1 := Lib.hid hb1
  have HC1 := Lib.hid hc1
  have HK1 := Lib.hid hk1
  have HS1 := Lib.hid hs1
  clear hk1 hb1 hc1 hs1 HCV HTR
  by_cases h0 : T = []
  · subst h0
    have f0 : w1.frozen? ⟨w.heap.size, 0, none⟩ = false := by simp [World.frozen?, HC1.out]
    have f1 : w1.frozen? ⟨w.heap.size, 1, none⟩ = false := by simp [World.frozen?, HC1.out]
    have f2 : w1.frozen? ⟨w.heap.size, 2, none⟩ = false := by simp [World.frozen?, HC1.out]
    have f3 : w1.frozen? ⟨w.heap.size, 3, none⟩ = false := by simp [World.frozen?, HC1.out]
    have f4 : w1.frozen? ⟨w.heap.size, 4, none⟩ = false := by simp [World.frozen?, HC1.out]
    have f5 : w1.frozen? ⟨w.heap.size, 5, none⟩ = false := by simp [World.frozen?, HC1.out]
    have a0 : w1.cell? ⟨w.heap.size, 0, none⟩ = some (.int .i64 0) := by rw [cellsOf_heap HC1.out]; rfl
    have a1 : w1.cell? ⟨w.heap.size, 1, none⟩ = some (.int .i64 0) := by rw [cellsOf_heap HC1.out]; rfl
    have a2 : w1.cell? ⟨w.heap.size, 2, none⟩ = some (.string ⟨#[]⟩) := by rw [cellsOf_heap HC1.out]; rfl
    have a3 : w1.cell? ⟨w.heap.size, 3, none⟩ = some (.int .i64 0) := by rw [cellsOf_heap HC1.out]; rfl
    have a4 : w1.cell? ⟨w.heap.size, 4, none⟩ = some (.string ⟨#[]⟩) := by rw [cellsOf_heap HC1.out]; rfl
    have a5 : w1.cell? ⟨w.heap.size, 5, none⟩ = some (.bool false) := by rw [cellsOf_heap HC1.out]; rfl
    rw [show strB [] = (⟨#[]⟩ : ByteArray) from rfl]
    go_wp2_with fail
    try simp only [Exit.inBlock, Exit.then]
    have HZ := Lib.hid (sixSet_block HC1.out (.int .i64 number) (.int .i64 3) (.string ⟨#[]⟩) (.int .i64 piece) (.string ⟨#[]⟩) (.bool true))
    have HBZ := Lib.hid (sixSet_below HB1.out (Nat.le_refl _) (.int .i64 number) (.int .i64 3) (.string ⟨#[]⟩) (.int .i64 piece) (.string ⟨#[]⟩) (.bool true))
    refine (?_ : ∀ wz, wz = sixSet w1 w.heap.size (.int .i64 number) (.int .i64 3) (.string ⟨#[]⟩) (.int .i64 piece) (.string ⟨#[]⟩) (.bool true) → bodyPost _ _ _ _ _ wz) _ rfl
    intro wz hwz
    rw [← hwz] at HZ HBZ
    clear hwz f0 f1 f2 f3 f4 f5 a0 a1 a2 a3 a4 a5
    have a0 := cellsOf_heap HZ.out 0
    have a1 := cellsOf_heap HZ.out 1
    have a2 := cellsOf_heap HZ.out 2
    have a3 := cellsOf_heap HZ.out 3
    have a4 := cellsOf_heap HZ.out 4
    have a5 := cellsOf_heap HZ.out 5
    refine bodyPost_ret (v := .agg (chgL number piece []).toArray) ?_ rfl ⟨[], .inl ⟨rfl, rfl⟩, rfl, HBZ.out⟩
    simp [results, Tryd.results17, go_sem, a0, a1, a2, a3, a4, a5]
    rfl
  · have hpk : ∀ W : World, Calls Tryd.prog 23 #[.string (strB T)] W fun e w' => ∃ t, e = .returned (.string (strB t)) ∧ Packed t T ∧ Below W.heap.size W w' := fun W => by
      have := pack_any (strB T) W (by rw [strB_size]; exact List.length_pos_iff.2 h0) (by rw [strB_size]; omega)
      rwa [strB_list] at this
    have HPK := Lib.hid hpk
    obtain ⟨Y, hY⟩ : ∃ Y, Y = strB T := ⟨_, rfl⟩
    have e1 : Y.toList.isEmpty = false := by rw [hY, Go.ByteArray.toList_eq, strB_list]; simpa using h0
    have HC9 := HC1.out
    rw [← hY] at HPK ⊢
    clear hpk hY
    go_wp2_with fail
    obtain ⟨_, _, _, _, b0, b1, b2, b3, b4, b5, f0, f1, f2, f3, f4, f5⟩ := six_conj (W := w1) HK1.out HC1.out
    clear HC9
    go_region_with (go_at_call 23; refine (HPK.out _).mono ?_; rintro e w2 ⟨t, rfl, hp2, hb2⟩; have hS := six_conj ((hb2.block _ (show _ < w1.heap.size by have := HS1.out; omega)).trans HK1.out) ((hb2.block _ (show _ < w1.heap.size by have := HS1.out; omega)).trans HC1.out); obtain ⟨_, _, _, _, _, _, _, _, _, _, _, _, _, _, _, _⟩ := hS)
    all_goals
      go_wp2_with fail
      try simp only [Exit.inBlock, Exit.then]
      have HT : Hid (t ≠ []) := Lib.hid (ChgOf.some (.inr ⟨h0, hp2⟩) h0)
      have HE : Hid (t.isEmpty = false) := Lib.hid (by simpa using HT.out)
      have HB2 := Lib.hid (below_on HB1.out (below_on (Below.drew (Below.refl _ w1)) hb2))
      have HZ := Lib.hid (sixSet_block ((hb2.block _ (show _ < w1.heap.size by have := HS1.out; omega)).trans HC1.out) (.int .i64 number) (.int .i64 3) (.string ⟨#[]⟩) (.int .i64 piece) (.string (strB t)) (.bool false))
      have HBZ := Lib.hid (sixSet_below HB2.out (Nat.le_refl _) (.int .i64 number) (.int .i64 3) (.string ⟨#[]⟩) (.int .i64 piece) (.string (strB t)) (.bool false))
      refine (?_ : ∀ wz, wz = sixSet w2 w.heap.size (.int .i64 number) (.int .i64 3) (.string ⟨#[]⟩) (.int .i64 piece) (.string (strB t)) (.bool false) → bodyPost _ _ _ _ _ wz) _ rfl
      intro wz hwz
      rw [← hwz] at HZ HBZ
      clear hwz
      have a0 := cellsOf_heap HZ.out 0
      have a1 := cellsOf_heap HZ.out 1
      have a2 := cellsOf_heap HZ.out 2
      have a3 := cellsOf_heap HZ.out 3
      have a4 := cellsOf_heap HZ.out 4
      have a5 := cellsOf_heap HZ.out 5
      refine bodyPost_ret (v := .agg (chgL number piece t).toArray) ?_ rfl ⟨t, .inr ⟨h0, hp2⟩, rfl, HBZ.out⟩
      unfold chgL
      rw [HE.out]
      simp [results, Tryd.results17, go_sem, a0, a1, a2, a3, a4, a5]
      try rfl

end Go.Proofs.YthpdmgefdaegmaaDoor
