/- The document's Piece and Made. -/
import Derived.Test.YthpdmgefdaegmaaDoorOpsS
import Derived.Deep.QuietTactic
import Derived.BigQuiet
import Derived.Handy
namespace Go.Proofs.YthpdmgefdaegmaaDoor
open Go.RowKit
set_option linter.unusedVariables false
set_option linter.unusedSimpArgs false

theorem add_none0 (b o n : Nat) : (⟨b, o, none⟩ : Addr).add n = ⟨b, o + n, none⟩ := by
  unfold Addr.add
  by_cases h : n = 0
  · simp [h]
  · simp [h]
def BAt (w : World) (G : Nat) (l : List UInt8) : Prop := w.heap[G]? = some (.cells (l.map byteV).toArray 5 (0, 0))
theorem BAt.set {w : World} {G i : Nat} {l : List UInt8} (h : BAt w G l) (c : UInt8) : BAt (w.setCell ⟨G, i, none⟩ (byteV c)) G (l.set i c) := by
  unfold BAt at *
  rw [heap_setCell_same w G i _ _ _ h]
  congr 2
  apply Array.toList_inj.1
  simp
theorem BAt.cell {w : World} {G i : Nat} {l : List UInt8} (h : BAt w G l) (hi : i < l.length) : w.cell? ⟨G, i, none⟩ = some (.int .u8 ((l[i]'hi).toNat : Int)) := by
  rw [cellsOf_heap h, List.getElem?_toArray, List.getElem?_map, List.getElem?_eq_getElem hi]; rfl
theorem BAt.frz {w : World} {G i : Nat} {l : List UInt8} (h : BAt w G l) : w.frozen? ⟨G, i, none⟩ = false := by unfold BAt at h; simp [World.frozen?, h]

/-- The first k bytes of a text, in 64. -/
def fillP (x : List UInt8) (k : Nat) : List UInt8 := x.take k ++ List.replicate (64 - k) 0
theorem fillP_len {x : List UInt8} {k : Nat} (h : k ≤ x.length) (h2 : k ≤ 64) : (fillP x k).length = 64 := by unfold fillP; rw [List.length_append, List.length_take, List.length_replicate]; omega
theorem fillP_set {x : List UInt8} {k : Nat} (h : k < x.length) (h2 : k < 64) : (fillP x k).set k (x[k]'h) = fillP x (k + 1) := by
  unfold fillP
  have e : x.take (k + 1) = x.take k ++ [x[k]'h] := List.take_succ_eq_append_getElem h
  rw [List.set_append_right _ _ (by rw [List.length_take]; omega), List.length_take, show k - min k x.length = 0 by omega, show 64 - k = (64 - (k + 1)) + 1 by omega, List.replicate_succ, List.set_cons_zero, e, List.append_assoc]
  rfl
theorem fillP_end {x : List UInt8} {k : Nat} (h : k = x.length ∨ k = 64) (h1 : k ≤ x.length) (h2 : k ≤ 64) : fillP x k = pieceL x := by
  unfold fillP pieceL
  rcases h with h | h
  · rw [h, List.take_length, List.take_of_length_le (by omega)]
  · rw [h, show 64 - x.length = 0 by omega]

set_option maxHeartbeats 2000000 in
set_option maxRecDepth 100000 in
theorem piece_any {w : World} {v : Value} {ps : List (List UInt8)} (h : StrsAt w v ps) (hN : ps.length ≤ 9223372036854775807) (i : Nat) :
    Calls Tryd.prog 19 #[v, .int .i64 i] w fun e w' => e = .returned (.slice (some ⟨w.heap.size, 0, none⟩) 64 64) ∧ BAt w' w.heap.size (pieceL (atL ps i)) ∧ Below w.heap.size w w' := by
  obtain ⟨a, c, rfl, hc, h⟩ := h
  obtain ⟨L, hL⟩ : ∃ L : Nat, L = 64 := ⟨64, rfl⟩
  have hmb : ∀ W : World, (Instr.makeSlice 25 (.int .i64 64) (.int .i64 64)).run Tryd.prog W = .ok (.slice (some ⟨W.heap.size, 0, none⟩) L L) (W.alloc (.cells (madeCells #[.int .u8 0] L) 5)) := by
    intro W
    have h := run_make_row' (P := Tryd.prog) 25 5 (.int .u8 0) 1 (by kernel_rfl) (by kernel_rfl) rfl .i64 .i64 L (by omega) (by omega) W
    have hc : ((L : Nat) : Int) = 64 := by omega
    rw [hc] at h
    exact h
  obtain ⟨G, hG⟩ : ∃ G, G = w.heap.size := ⟨_, rfl⟩
  obtain ⟨w0, hw0⟩ : ∃ w0, w0 = w.alloc (.cells (madeCells #[.int .u8 0] L) 5) := ⟨_, rfl⟩
  have HB0 : Hid (Below w.heap.size w w0) := Lib.hid (by rw [hw0]; exact (Below.refl _ _).alloc (Nat.le_refl _) _)
  have HZ0 : Hid (BAt w0 G (List.replicate 64 0)) := Lib.hid (by
    unfold BAt
    rw [hw0, hG, heap_alloc_new]
    refine congrArg (fun c => some (Obj.cells c 5 (0, 0))) (Array.toList_inj.1 ?_)
    rw [toList_madeCells_one, hL]
    rfl)
  have hmb0 := hmb w
  rw [← hw0, ← hG] at hmb0
  have HL := Lib.hid hL
  have HG := Lib.hid hG
  rw [show Value.slice (some (⟨w.heap.size, 0, none⟩ : Addr)) 64 64 = .slice (some ⟨G, 0, none⟩) L L by rw [hG, hL], ← hG]
  clear hmb hw0 hL hG
  by_cases hlt : i < ps.length
  · obtain ⟨b, o, rfl, h2⟩ := h.resolve_left (by intro e; rw [e] at hlt; simp at hlt)
    obtain ⟨x, hx⟩ : ∃ x, x = atL ps i := ⟨_, rfl⟩
    have hcell : w.cell? ⟨b, o + i, none⟩ = some (.string (strB x)) := by
      rw [hx]; unfold atL; rw [List.getD_eq_getElem?_getD, List.getElem?_eq_getElem hlt]; exact h2 i hlt
    obtain ⟨X, hX⟩ : ∃ X, X = strB x := ⟨_, rfl⟩
    rw [← hX] at hcell
    have hXl : X.data.toList = x := by rw [hX, strB_list]
    have hXs : X.size = x.length := by rw [hX, strB_size]
    have h1 : (i : Int) < (ps.length : Int) := by omega
    rw [← hx]
    have HX := Lib.hid hXl
    have HXS := Lib.hid hXs
    have HCE := Lib.hid hcell
    clear h h2 hX hXl hXs hx hcell
    go_enter Tryd.func19, Tryd.ntmps19
    go_wp2_with fail
    go_loopw [6] (fun sk wr => ∃ k : Nat, k ≤ 64 ∧ k ≤ x.length ∧ sk = .int .i64 (k : Int) ∧ Hid (BAt wr G (fillP x k)) ∧ Hid (Below w.heap.size w wr)) (fun sk _ => 64 - (intOf sk).toNat)
    case atStart => exact ⟨0, by omega, by omega, rfl, by simpa [fillP] using HZ0, HB0⟩
    case round =>
      obtain ⟨k, hk1, hk2, rfl, HR, HB⟩ := hrel
      obtain ⟨wy, rfl⟩ : ∃ wy : World, wy = wr := ⟨_, rfl⟩
      have hce := below_cell HB.out _ _ HCE.out
      have hxs : (X.size : Int) = (x.length : Int) := by have := HXS.out; omega
      by_cases hc1 : k < 64
      · have g1 : (k : Int) < 64 := by omega
        by_cases hc2 : k < x.length
        · have g2 : (k : Int) < (x.length : Int) := by omega
          obtain ⟨hk3, hck⟩ := str_at (s := X) (j := k) (c := x[k]'hc2) (by rw [HX.out]; exact List.getElem?_eq_getElem hc2)
          obtain ⟨ch, hch⟩ : ∃ ch, ch = x[k]'hc2 := ⟨_, rfl⟩
          rw [← hch] at hck
          have g3 : (k : Int) < (L : Int) := by rw [HL.out]; omega
          have c0 := HR.out.cell (i := k) (by rw [fillP_len hk2 hk1]; exact hc1)
          have f0 := HR.out.frz (i := k)
          have HR2 : Hid (BAt (wy.setCell ⟨G, k, none⟩ (.int .u8 (ch.toNat : Int))) G (fillP x (k + 1))) := Lib.hid (by have := HR.out.set (i := k) ch; rw [hch, fillP_set hc2 hc1] at this; rw [hch]; exact this)
          have HB2 := Lib.hid (HB.out.setCell (p := ⟨G, k, none⟩) (by rw [HG.out]; exact Nat.le_refl _) (.int .u8 (ch.toNat : Int)))
          generalize (fillP x k)[k]'(by rw [fillP_len hk2 hk1]; exact hc1) = old at c0
          clear hch HR
          go_wp2_with fail
          exact ⟨⟨k + 1, by omega, by omega, by go_num, HR2, HB2⟩, by simp [intOf]; omega⟩
        · have g2 : ¬ (k : Int) < (x.length : Int) := by omega
          have HE := Lib.hid (fillP_end (x := x) (k := k) (by omega) hk2 hk1)
          rw [HE.out] at HR
          go_wp2_with fail
          go_ret
          exact ⟨rfl, HR.out, by rw [HG.out]; exact HB.out⟩
      · have g1 : ¬ (k : Int) < 64 := by omega
        have HE := Lib.hid (fillP_end (x := x) (k := k) (by omega) hk2 hk1)
        rw [HE.out] at HR
        go_wp2_with fail
        go_ret
        exact ⟨rfl, HR.out, by rw [HG.out]; exact HB.out⟩
  · have h1 : ¬ (i : Int) < (ps.length : Int) := by omega
    have hx : atL ps i = [] := by unfold atL; rw [List.getD_eq_getElem?_getD, List.getElem?_eq_none (by omega)]; rfl
    have HP : Hid (BAt w0 G (pieceL (atL ps i))) := Lib.hid (by rw [hx]; exact HZ0.out)
    clear h hx
    go_enter Tryd.func19, Tryd.ntmps19
    go_wp2_with fail
    go_ret
    exact ⟨rfl, HP.out, by rw [HG.out]; exact HB0.out⟩

theorem three_conj {W : World} {b : Nat} (hc : W.heap[b]? = some (.cells #[.string ⟨#[]⟩, .string ⟨#[]⟩, .bool false] 59 (0, 0))) :
    W.cell? ⟨b, 0, none⟩ = some (.string ⟨#[]⟩) ∧ W.cell? ⟨b, 1, none⟩ = some (.string ⟨#[]⟩) ∧ W.cell? ⟨b, 2, none⟩ = some (.bool false) ∧ W.frozen? ⟨b, 0, none⟩ = false ∧ W.frozen? ⟨b, 1, none⟩ = false ∧ W.frozen? ⟨b, 2, none⟩ = false :=
  ⟨by rw [cellsOf_heap hc]; rfl, by rw [cellsOf_heap hc]; rfl, by rw [cellsOf_heap hc]; rfl, by simp [World.frozen?, hc], by simp [World.frozen?, hc], by simp [World.frozen?, hc]⟩
def threeSet (w : World) (b : Nat) (x0 x1 x2 : Value) : World := ((w.setCell ⟨b, 0, none⟩ x0).setCell ⟨b, 1, none⟩ x1).setCell ⟨b, 2, none⟩ x2
theorem threeSet_block {w : World} {b : Nat} {a0 a1 a2 : Value} {t : TypeId} (h : w.heap[b]? = some (.cells #[a0, a1, a2] t (0, 0))) (x0 x1 x2 : Value) : (threeSet w b x0 x1 x2).heap[b]? = some (.cells #[x0, x1, x2] t (0, 0)) := by
  unfold threeSet
  have h0 := heap_setCell_same w b 0 _ _ x0 h
  have h1 := heap_setCell_same _ b 1 _ _ x1 h0
  have h2 := heap_setCell_same _ b 2 _ _ x2 h1
  rw [h2]; rfl
theorem threeSet_below {w0 w : World} {B b : Nat} (h : Below B w0 w) (hb : B ≤ b) (x0 x1 x2 : Value) : Below B w0 (threeSet w b x0 x1 x2) :=
  ((h.setCell (p := ⟨b, 0, none⟩) hb _).setCell (p := ⟨b, 1, none⟩) hb _).setCell (p := ⟨b, 2, none⟩) hb _
/-- The change that the document makes. -/
def madeL (n p : Nat) (t : List UInt8) : List Value := [.string (strB (keyL n p)), .string (strB t), .bool t.isEmpty]
set_option maxHeartbeats 2000000 in
set_option maxRecDepth 100000 in
theorem made_any (n p g : Nat) (l : List UInt8) (w : World) (hn : n ≤ 1099511627776) (hp : p < 4294967296) (hl : l.length = 64) (hrow : BAt w g l) :
    Calls Tryd.prog 20 #[.int .i64 n, .int .i64 p, .slice (some ⟨g, 0, none⟩) 64 64] w fun e w' =>
      e = .returned (.agg (madeL n p (Lib.trimRightB l 0)).toArray) ∧ Below w.heap.size w w' := by
  have hlt := row_lt0 hrow
  have hky := fun W => rkey_any n p W hn hp
  have HKY := Lib.hid hky
  have hcv : ∀ (W : World), Below w.heap.size w W → ∀ k, k ≤ 64 → (convert 25 9 (.slice (some ⟨g, 0, none⟩) k 64)).run Tryd.prog W = .ok (.string (strB (l.take k))) W := by
    intro W hW k hk
    have := run_convert_bytes_back (P := Tryd.prog) W 25 9 5 ⟨g, 0, none⟩ 64 (l.take k) (by kernel_rfl) (by kernel_rfl) (by kernel_rfl) (by
      intro i hi
      rw [add_none0, Nat.zero_add]
      rw [List.length_take] at hi
      rw [cellsOf_heap ((hW.block g hlt).trans hrow)]
      simp [byteV, List.getElem?_eq_getElem (show i < l.length by omega)])
    rw [List.length_take, show min k l.length = k by omega] at this
    exact this
  have HCV := Lib.hid hcv
  have HROW := Lib.hid hrow
  clear hky hcv hrow
  obtain ⟨X, hX⟩ : ∃ X, X = strB (keyL n p) := ⟨_, rfl⟩
  have HXX := Lib.hid hX
  rw [← hX] at HKY
  obtain ⟨V, hV⟩ : ∃ V, V = (madeL n p (Lib.trimRightB l 0)).toArray := ⟨_, rfl⟩
  rw [← hV]
  have HVV := Lib.hid hV
  clear hX hn hp hV
  go_enter Tryd.func20, Tryd.ntmps20
  go_wp2_with fail
  obtain ⟨w1, hw1⟩ : ∃ w1, w1 = w.alloc (.cells #[.string ⟨#[]⟩, .string ⟨#[]⟩, .bool false] 59) := ⟨_, rfl⟩
  rw [← hw1]
  have hc1 : w1.heap[w.heap.size]? = some (.cells #[.string ⟨#[]⟩, .string ⟨#[]⟩, .bool false] 59 (0, 0)) := by rw [hw1]; exact heap_alloc_new _ _
  have HB1 : Hid (Below w.heap.size w w1) := Lib.hid (by rw [hw1]; exact (Below.refl _ _).alloc (Nat.le_refl _) _)
  have HC1 := Lib.hid hc1
  clear hw1 hc1
  go_loop [7] (fun sk => ∃ k : Nat, k ≤ 64 ∧ sk = .int .i64 (k : Int) ∧ Hid (∀ q, k ≤ q → q < 64 → l[q]? = some 0)) (fun sk => (intOf sk).toNat)
  case atStart => exact ⟨64, by omega, rfl, Lib.hid (fun q h1 h2 => by omega)⟩
  case round =>
    obtain ⟨k, hk, rfl, HQ⟩ := hrel
    by_cases hk0 : k = 0
    · have htr : Lib.trimRightB l 0 = l.take k := by
        rw [hk0]
        exact Lib.trimRightB_take l 0 0 (by omega) (fun j b _ hb => by
          have hj : j < 64 := by
            rcases Nat.lt_or_ge j 64 with h | h
            · exact h
            · rw [List.getElem?_eq_none (by omega)] at hb; cases hb
          have := HQ.out j (by omega) hj
          rw [this] at hb
          exact (Option.some.inj hb).symm) (fun b h _ => by omega)
      have g1 : ¬ (0 : Int) < (k : Int) := by omega
      clear hk0
      obtain ⟨T, hT⟩ : ∃ T, T = Lib.trimRightB l 0 := ⟨_, rfl⟩
      have hTk : T = l.take k := by rw [hT]; exact htr
      have hTe : ((k : Int) == 0) = T.isEmpty := by
        rw [hTk]
        cases k with
        | zero => rfl
        | succ k => cases l with
          | nil => simp at hl
          | cons a l => simp; omega
      obtain ⟨Y, hY⟩ : ∃ Y, Y = strB T := ⟨_, rfl⟩
      obtain ⟨gb, hgb⟩ : ∃ gb, gb = T.isEmpty := ⟨_, rfl⟩
      have HCV2 : Hid (∀ W : World, Below w.heap.size w W → (convert 25 9 (.slice (some ⟨g, 0, none⟩) k 64)).run Tryd.prog W = .ok (.string Y) W) := Lib.hid (fun W hW => by rw [hY, hTk]; exact HCV.out W hW k hk)
      have hcA := HCV2.out w1.drew (Below.drew HB1.out)
      have hcA2 := HCV2.out w1 HB1.out
      obtain ⟨x0, x1, x2, f0, f1, f2⟩ := three_conj HC1.out
      have k2 : (k : Int) ≤ 64 := by omega
      have HV : Hid (V = #[.string X, .string Y, .bool gb]) := Lib.hid (by rw [HVV.out, ← hT, HXX.out, hY, hgb]; rfl)
      rw [← hgb] at hTe
      clear hT hTk hY hgb htr hl
      go_upto_region 4 with fail
      go_region_with (go_at_call 24; refine (HKY.out _).mono ?_; rintro e w2 ⟨rfl, hb2⟩; have hB2 : Below w1.heap.size w1 w2 := below_on (Below.drew (Below.refl _ w1)) hb2; have hq := HCV2.out w2 (below_on HB1.out hB2); have hS := three_conj ((hB2.block _ (row_lt0 HC1.out)).trans HC1.out); obtain ⟨_, _, _, _, _, _⟩ := hS)
      all_goals
        go_wp2_with fail
        try simp only [Exit.inBlock, Exit.then]
        have HZ := Lib.hid (threeSet_block ((hB2.block _ (row_lt0 HC1.out)).trans HC1.out) (.string X) (.string Y) (.bool gb))
        have HBZ := Lib.hid (threeSet_below (below_on HB1.out hB2) (Nat.le_refl _) (.string X) (.string Y) (.bool gb))
        refine (?_ : ∀ wz, wz = threeSet w2 w.heap.size (.string X) (.string Y) (.bool gb) → bodyPost _ _ _ _ _ wz) _ rfl
        intro wz hwz
        rw [← hwz] at HZ HBZ
        clear hwz
        have z0 := cellsOf_heap HZ.out 0
        have z1 := cellsOf_heap HZ.out 1
        have z2 := cellsOf_heap HZ.out 2
        refine bodyPost_ret (v := .agg #[.string X, .string Y, .bool gb]) ?_ rfl ⟨by rw [HV.out], HBZ.out⟩
        simp [results, Tryd.results20, go_sem, z0, z1, z2]
    · have g1 : (0 : Int) < (k : Int) := by omega
      obtain ⟨c, hc⟩ : ∃ c, c = l[k - 1]'(by omega) := ⟨_, rfl⟩
      have hce : w1.cell? ⟨g, k - 1, none⟩ = some (.int .u8 (c.toNat : Int)) := below_cell HB1.out _ _ (by rw [hc]; exact HROW.out.cell (by omega))
      have k1 : ((k : Int) - 1).toNat = k - 1 := by omega
      have k3 : (0 : Int) ≤ (k : Int) - 1 := by omega
      have k4 : (k : Int) - 1 < 64 := by omega
      have hlk : l[k - 1]? = some c := by rw [hc]; exact List.getElem?_eq_getElem _
      clear hc
      by_cases hc0 : c = 0
      · subst hc0
        have HQ2 : Hid (∀ q, k - 1 ≤ q → q < 64 → l[q]? = some 0) := Lib.hid (fun q h1 h2 => by
          rcases (by omega : q = k - 1 ∨ k ≤ q) with h | h
          · rw [h]; exact hlk
          · exact HQ.out q h h2)
        have hce2 : w1.cell? ⟨g, k - 1, none⟩ = some (.int .u8 0) := hce
        clear hce
        go_wp2_with fail
        exact ⟨⟨k - 1, by omega, by rw [show ((k - 1 : Nat) : Int) = (k : Int) - 1 by omega], HQ2⟩, by simp [intOf]; omega⟩
      · have hcn : ((c.toNat : Int) == 0) = false := by
          have : c.toNat ≠ 0 := fun h => hc0 (UInt8.toNat_inj.1 h)
          simp; omega
        have htr : Lib.trimRightB l 0 = l.take k := Lib.trimRightB_take l 0 k (by omega) (fun j b hj hb => by
          have hj2 : j < 64 := by
            rcases Nat.lt_or_ge j 64 with h | h
            · exact h
            · rw [List.getElem?_eq_none (by omega)] at hb; cases hb
          have := HQ.out j hj hj2
          rw [this] at hb
          exact (Option.some.inj hb).symm) (fun b _ hb => by rw [hlk] at hb; rw [← Option.some.inj hb]; exact hc0)
        obtain ⟨T, hT⟩ : ∃ T, T = Lib.trimRightB l 0 := ⟨_, rfl⟩
        have hTk : T = l.take k := by rw [hT]; exact htr
        have hTe : ((k : Int) == 0) = T.isEmpty := by
          rw [hTk]
          cases k with
          | zero => rfl
          | succ k => cases l with
            | nil => simp at hl
            | cons a l => simp; omega
        obtain ⟨Y, hY⟩ : ∃ Y, Y = strB T := ⟨_, rfl⟩
        obtain ⟨gb, hgb⟩ : ∃ gb, gb = T.isEmpty := ⟨_, rfl⟩
        have HCV2 : Hid (∀ W : World, Below w.heap.size w W → (convert 25 9 (.slice (some ⟨g, 0, none⟩) k 64)).run Tryd.prog W = .ok (.string Y) W) := Lib.hid (fun W hW => by rw [hY, hTk]; exact HCV.out W hW k hk)
        have hcA := HCV2.out w1.drew (Below.drew HB1.out)
        have hcA2 := HCV2.out w1 HB1.out
        obtain ⟨x0, x1, x2, f0, f1, f2⟩ := three_conj HC1.out
        have k2 : (k : Int) ≤ 64 := by omega
        have HV : Hid (V = #[.string X, .string Y, .bool gb]) := Lib.hid (by rw [HVV.out, ← hT, HXX.out, hY, hgb]; rfl)
        rw [← hgb] at hTe
        clear hT hTk hY hgb htr hl
        go_upto_region 4 with fail
        go_region_with (go_at_call 24; refine (HKY.out _).mono ?_; rintro e w2 ⟨rfl, hb2⟩; have hB2 : Below w1.heap.size w1 w2 := below_on (Below.drew (Below.refl _ w1)) hb2; have hq := HCV2.out w2 (below_on HB1.out hB2); have hS := three_conj ((hB2.block _ (row_lt0 HC1.out)).trans HC1.out); obtain ⟨_, _, _, _, _, _⟩ := hS)
        all_goals
          go_wp2_with fail
          try simp only [Exit.inBlock, Exit.then]
          have HZ := Lib.hid (threeSet_block ((hB2.block _ (row_lt0 HC1.out)).trans HC1.out) (.string X) (.string Y) (.bool gb))
          have HBZ := Lib.hid (threeSet_below (below_on HB1.out hB2) (Nat.le_refl _) (.string X) (.string Y) (.bool gb))
          refine (?_ : ∀ wz, wz = threeSet w2 w.heap.size (.string X) (.string Y) (.bool gb) → bodyPost _ _ _ _ _ wz) _ rfl
          intro wz hwz
          rw [← hwz] at HZ HBZ
          clear hwz
          have z0 := cellsOf_heap HZ.out 0
          have z1 := cellsOf_heap HZ.out 1
          have z2 := cellsOf_heap HZ.out 2
          refine bodyPost_ret (v := .agg #[.string X, .string Y, .bool gb]) ?_ rfl ⟨by rw [HV.out], HBZ.out⟩
          simp [results, Tryd.results20, go_sem, z0, z1, z2]

end Go.Proofs.YthpdmgefdaegmaaDoor
