/- Opening a sealed text: the walk. -/
import Derived.Test.YtgfjeaegigjnaaaGreatDoorCrcA
import Derived.Test.YtgfjeaegigjnaaaGreatDoorPgC
import Derived.Test.YtgfjeaegigjnaaaGreatDoorPgR
import Derived.Deep.RegionHeld3
import Derived.Deep.CutBlock
import Derived.Deep.DeepCutAuto
import Derived.Lib.ConvBytes
import Derived.Lib.Strings
import Derived.Laws.Cover3
namespace Go.Proofs.YtgfjeaegigjnaaaGreatDoor
open Go.RowKit
set_option linter.unusedVariables false
set_option linter.unusedSimpArgs false

theorem open_short (s : ByteArray) (hs : s.size < 4) (w : World) : Calls Tryz.prog 44 #[.string s] w fun e w' => e = .returned (.tuple #[.string ⟨#[]⟩, .bool false]) ∧ w' = w := by
  have h : (s.size : Int) < 4 := by omega
  clear hs
  go_enter Tryz.func44, Tryz.ntmps44
  go_wp2_with fail
  go_ret2
  exact ⟨rfl, rfl⟩
set_option maxHeartbeats 1600000 in
set_option maxRecDepth 100000 in
theorem eq4 (a0 a1 a2 a3 c0 c1 c2 c3 : Int) (w : World) : (Op.equalIn 10000 140 (.agg #[.int .u8 a0, .int .u8 a1, .int .u8 a2, .int .u8 a3]) (.agg #[.int .u8 c0, .int .u8 c1, .int .u8 c2, .int .u8 c3])).run Tryz.prog w = .ok (a0 == c0 && a1 == c1 && a2 == c2 && a3 == c3) w := by
  have u3 := Tryz.underlying5
  have a3' := Tryz.isAgg5
  have z3 := Tryz.sizeOf5
  rw [show (10000 : Nat) = 9999 + 1 from rfl, Op.equalIn]
  simp only [Sem.run_bind, run_underlying Tryz.underlying140, Result.andThen_ok]
  simp only [Std.Legacy.Range.forIn_eq_forIn_range', Std.Legacy.Range.size, Nat.sub_zero, Nat.add_sub_cancel, Nat.div_one, List.range'_succ, List.range'_zero, List.forIn_cons, List.forIn_nil]
  go_simp
  by_cases h1 : a0 = c0 <;> by_cases h2 : a1 = c1 <;> by_cases h3 : a2 = c2 <;> by_cases h4 : a3 = c3 <;> simp [h1, h2, h3, h4]
theorem byte_eq (b : UInt8) (x : Nat) (y : Int) (h : y = ((x % 256 : Nat) : Int)) : ((b.toNat : Int) == y) = decide (b = UInt8.ofNat x) := by
  subst h
  rw [Bool.eq_iff_iff, beq_iff_eq, decide_eq_true_eq]
  constructor
  · intro e
    have e2 : b.toNat = x % 256 := by omega
    apply UInt8.toNat.inj
    rw [e2, UInt8.toNat_ofNat']
  · rintro rfl
    rw [UInt8.toNat_ofNat']
theorem four_test (b0 b1 b2 b3 : UInt8) (c : Nat) : (!((b0.toNat : Int) == (c : Int) % 256) || !((b1.toNat : Int) == (c : Int) / 256 % 256) || !((b2.toNat : Int) == (c : Int) / 65536 % 256) || !((b3.toNat : Int) == (c : Int) / 16777216 % 256)) = !decide ([b0, b1, b2, b3] = fourL c) := by
  rw [byte_eq b0 c _ (by omega), byte_eq b1 (c / 256) _ (by omega), byte_eq b2 (c / 65536) _ (by omega), byte_eq b3 (c / 16777216) _ (by omega)]
  have e : decide ([b0, b1, b2, b3] = fourL c) = (decide (b0 = UInt8.ofNat c) && decide (b1 = UInt8.ofNat (c / 256)) && decide (b2 = UInt8.ofNat (c / 65536)) && decide (b3 = UInt8.ofNat (c / 16777216))) := by
    rw [Bool.eq_iff_iff]
    simp [fourL, and_assoc]
  rw [e]
  simp only [Bool.not_and]
/-- A block that was made ahead of a call. -/
theorem drew_alloc {w w2 : World} {cs : Array Value} {T : TypeId} (h : Below (w.drew.alloc (.cells cs T)).heap.size (w.drew.alloc (.cells cs T)) w2) : (∀ j, w2.cell? ⟨w.heap.size, j, none⟩ = cs[j]?) ∧ (∀ o, w2.frozen? ⟨w.heap.size, o, none⟩ = false) :=
  ⟨fun j => (h.cell (p := ⟨w.heap.size, j, none⟩) (by simp)).trans (World.cell?_alloc_new w.drew _ _ _), fun o => (h.frozen (p := ⟨w.heap.size, o, none⟩) (by simp)).trans (World.frozen?_alloc_new w.drew _ _ _)⟩
/-- Four bytes stored one by one. -/
def put4 (w : World) (g c : Nat) : World := (((w.setCell ⟨g, 0, none⟩ (.int .u8 ((c : Int) % 256))).setCell ⟨g, 1, none⟩ (.int .u8 ((c : Int) / 256 % 256))).setCell ⟨g, 2, none⟩ (.int .u8 ((c : Int) / 65536 % 256))).setCell ⟨g, 3, none⟩ (.int .u8 ((c : Int) / 16777216 % 256))
theorem put4_cell {w : World} {g c : Nat} (h0 : w.cell? ⟨g, 0, none⟩ = some (.int .u8 0)) (h1 : w.cell? ⟨g, 1, none⟩ = some (.int .u8 0)) (h2 : w.cell? ⟨g, 2, none⟩ = some (.int .u8 0)) (h3 : w.cell? ⟨g, 3, none⟩ = some (.int .u8 0)) (j : Nat) (hj : j < 4) : (put4 w g c).cell? ⟨g, j, none⟩ = (fourC c)[j]? := by
  have o : ∀ (W : World) (a b : Nat) (v : Value), a ≠ b → (W.setCell ⟨g, a, none⟩ v).cell? ⟨g, b, none⟩ = W.cell? ⟨g, b, none⟩ := fun W a b v h => World.cell?_setCell_other _ _ _ _ (addr_ne_off h)
  unfold put4
  match j, hj with
  | 0, _ => rw [o _ _ _ _ (by decide), o _ _ _ _ (by decide), o _ _ _ _ (by decide)]; exact World.cell?_setCell_same _ _ _ h0
  | 1, _ => rw [o _ _ _ _ (by decide), o _ _ _ _ (by decide)]; exact World.cell?_setCell_same _ _ _ (by rw [o _ _ _ _ (by decide)]; exact h1)
  | 2, _ => rw [o _ _ _ _ (by decide)]; exact World.cell?_setCell_same _ _ _ (by rw [o _ _ _ _ (by decide), o _ _ _ _ (by decide)]; exact h2)
  | 3, _ => exact World.cell?_setCell_same _ _ _ (by rw [o _ _ _ _ (by decide), o _ _ _ _ (by decide), o _ _ _ _ (by decide)]; exact h3)
theorem put4_below {a w : World} {B g c : Nat} (h : Below B a w) (hg : B ≤ g) : Below B a (put4 w g c) := (((h.setCell hg _).setCell hg _).setCell hg _).setCell hg _
/-- The state behind the sum's bytes. -/
def Four (w : World) (c g : Nat) (wc : World) : Prop := (∀ j, j < 4 → wc.cell? ⟨g, j, none⟩ = (fourC c)[j]?) ∧ Below w.heap.size w wc ∧ g < wc.heap.size
theorem Four.made {w w2 : World} {c : Nat} (h : Below w.drew.heap.size w.drew w2) (T : TypeId) : Four w c w2.heap.size (w2.alloc (.cells (fourC c) T)) :=
  ⟨fun j _ => World.cell?_alloc_new _ _ _ _, ((Below.refl _ _).drew.trans h).alloc h.size _, by simp⟩
theorem Four.put {w w2 : World} {c : Nat} {cs : Array Value} {T : TypeId} (h : Below (w.drew.alloc (.cells cs T)).heap.size (w.drew.alloc (.cells cs T)) w2) (hc : cs = #[.int .u8 0, .int .u8 0, .int .u8 0, .int .u8 0]) : Four w c w.heap.size (put4 w2 w.heap.size c) := by
  obtain ⟨h1, h2⟩ := drew_alloc h
  subst hc
  refine ⟨fun j hj => put4_cell (h1 0) (h1 1) (h1 2) (h1 3) j hj, put4_below (((Below.refl _ _).drew.alloc (by simp) _).trans (h.mono (by simp))) (Nat.le_refl _), ?_⟩
  have hz := h.size
  show w.heap.size < (put4 w2 w.heap.size c).heap.size
  simp [put4]
  simp at hz
  omega
/-- What Open hands back. -/
def openV (l : List UInt8) : Value := match openL l with
  | none => .tuple #[.string ⟨#[]⟩, .bool false]
  | some m => .tuple #[.string (bytS m), .bool true]
set_option maxHeartbeats 3200000 in
set_option maxRecDepth 100000 in
theorem open_any (s : ByteArray) (h4 : 4 ≤ s.size) (hs : s.size ≤ 1000000) (w : World) (hn : NibAt w) (hg : 0 < w.heap.size) :
    Calls Tryz.prog 44 #[.string s] w fun e w' => e = .returned (openV s.data.toList) ∧ Below w.heap.size w w' := by
  have h4I : ¬ (s.size : Int) < 4 := by omega
  obtain ⟨n, hn4⟩ : ∃ n, s.size = n + 4 := ⟨s.size - 4, by omega⟩
  have e1 : IntKind.i64.wrap ((s.size : Int) - 4) = (n : Int) := by rw [show (s.size : Int) - 4 = (n : Int) by omega]; exact (IntWalk.i64_left _).trans (IntWalk.wrap64_in _ (by omega))
  have hnI : (n : Int) ≤ (s.size : Int) := by omega
  have hn0 : (0 : Int) ≤ (n : Int) := by omega
  have hnN : n ≤ s.size := by omega
  have hnF : ¬ s.size < n := by omega
  have HN := Lib.hid hn
  have HN4 := Lib.hid hn4
  clear h4 hn hn4
  have hbl : (s.extract 0 n).data.toList = s.data.toList.take n := by rw [Lib.extract_data]; simp
  have hc := crcSum_lt (s.data.toList.take n)
  have HSUM : Hid (∀ W, NibAt W → Calls Tryz.prog 57 #[.string (s.extract 0 n)] W fun e w' => e = .returned (.int .u32 ((crcSum (s.data.toList.take n) : Nat) : Int)) ∧ w' = W) := Lib.hid (fun W h => by
    rw [← hbl]
    exact sum_any _ (by rw [Lib.size_eq, hbl, List.length_take, ← Lib.size_eq]; omega) W h)
  obtain ⟨c, hcc⟩ : ∃ c, c = crcSum (s.data.toList.take n) := ⟨_, rfl⟩
  rw [← hcc] at HSUM hc
  have HC := Lib.hid hcc
  have hf4 := fun w => four_any c hc w
  unfold fourV fourC at hf4
  have HF := Lib.hid hf4
  clear hf4
  have HBL := Lib.hid hbl
  clear hcc hbl
  go_enter Tryz.func44, Tryz.ntmps44
  go_upto_region 3 with fail
  go_cut [4, 5] (fun v4 v5 wc => v4 = .string (s.extract 0 n) ∧ ∃ g, v5 = .pointer (some ⟨g, 0, none⟩) ∧ Hid (Four w c g wc))
  case first =>
    go_wp2_with fail
    go_region_with (first | (go_at_call 57; refine (HSUM.out _ (by first | exact HN.out.below (Below.refl _ _).drew hg | exact HN.out.below ((Below.refl _ _).drew.alloc (by simp) _) hg)).mono ?_; rintro e w' ⟨rfl, rfl⟩) | (go_at_call 56; refine (HF.out _).mono ?_; rintro e w2 ⟨rfl, hb2⟩; (try (have hd := drew_alloc hb2; have d0 : w2.cell? ⟨w.heap.size, 0, none⟩ = some (.int .u8 0) := hd.1 0; have d1 : w2.cell? ⟨w.heap.size, 1, none⟩ = some (.int .u8 0) := hd.1 1; have d2 : w2.cell? ⟨w.heap.size, 2, none⟩ = some (.int .u8 0) := hd.1 2; have d3 : w2.cell? ⟨w.heap.size, 3, none⟩ = some (.int .u8 0) := hd.1 3; have d4 := hd.2; clear hd)); have HB2 := Lib.hid hb2; clear hb2))
    all_goals
      go_wp2_with fail
      go_meet
      first
      | exact ⟨rfl, _, rfl, Lib.hid (Four.made HB2.out _)⟩
      | exact ⟨rfl, _, rfl, Lib.hid (Four.put HB2.out rfl)⟩
  case rest =>
    obtain ⟨rfl, g, rfl, HG⟩ := hcut
    obtain ⟨wy, rfl⟩ : ∃ wy : World, wy = wc := ⟨_, rfl⟩
    clear HSUM HF
    have htl : (s.extract n s.size).data.toList = s.data.toList.drop n := by
      rw [Lib.extract_data, List.take_of_length_le]
      rw [List.length_drop, ← Lib.size_eq]; omega
    have htz : (s.extract n s.size).size = 4 := by
      rw [Lib.size_eq, htl, List.length_drop, ← Lib.size_eq]; have := HN4.out; omega
    obtain ⟨T, hT⟩ : ∃ T, T = s.extract n s.size := ⟨_, rfl⟩
    rw [← hT] at htl htz
    have hcv := conv_strN T wy.drew
    rw [htz] at hcv
    have har : ∀ (W : World) (a : Option Addr) (c : Nat), (Instr.arrayAt 140 (.slice a 4 c)).run Tryz.prog W = .ok (.pointer a) W := fun W a c => run_arrayAt W 140 5 4 a 4 c (by kernel_rfl) (Nat.le_refl _)
    have hbw := below_bytes wy.drew T
    have y0 : (Lib.bytesWorld wy.drew 5 T).cell? ⟨wy.heap.size, 0, none⟩ = some (.int .u8 (T.data.toList.getD 0 0).toNat) := Lib.bytesWorld_cell _ _ _ _ (by omega)
    have y1 : (Lib.bytesWorld wy.drew 5 T).cell? ⟨wy.heap.size, 1, none⟩ = some (.int .u8 (T.data.toList.getD 1 0).toNat) := Lib.bytesWorld_cell _ _ _ _ (by omega)
    have y2 : (Lib.bytesWorld wy.drew 5 T).cell? ⟨wy.heap.size, 2, none⟩ = some (.int .u8 (T.data.toList.getD 2 0).toNat) := Lib.bytesWorld_cell _ _ _ _ (by omega)
    have y3 : (Lib.bytesWorld wy.drew 5 T).cell? ⟨wy.heap.size, 3, none⟩ = some (.int .u8 (T.data.toList.getD 3 0).toNat) := Lib.bytesWorld_cell _ _ _ _ (by omega)
    have hlist : T.data.toList = [T.data.toList.getD 0 0, T.data.toList.getD 1 0, T.data.toList.getD 2 0, T.data.toList.getD 3 0] := by
      have hl4 : T.data.toList.length = 4 := by rw [← Lib.size_eq]; exact htz
      generalize T.data.toList = l at hl4
      match l, hl4 with
      | [a, b, c, d], _ => rfl
    obtain ⟨b0, hb0⟩ : ∃ b0, b0 = T.data.toList.getD 0 0 := ⟨_, rfl⟩
    obtain ⟨b1, hb1⟩ : ∃ b1, b1 = T.data.toList.getD 1 0 := ⟨_, rfl⟩
    obtain ⟨b2, hb2⟩ : ∃ b2, b2 = T.data.toList.getD 2 0 := ⟨_, rfl⟩
    obtain ⟨b3, hb3⟩ : ∃ b3, b3 = T.data.toList.getD 3 0 := ⟨_, rfl⟩
    rw [← hb0] at y0 hlist
    rw [← hb1] at y1 hlist
    rw [← hb2] at y2 hlist
    rw [← hb3] at y3 hlist
    rw [htl] at hlist
    obtain ⟨g1, g2, g3⟩ := HG.out
    have k0 : wy.drew.cell? ⟨g, 0, none⟩ = some (.int .u8 ((c : Int) % 256)) := (World.cell?_drew _ _).trans (g1 0 (by decide))
    have k1 : wy.drew.cell? ⟨g, 1, none⟩ = some (.int .u8 ((c : Int) / 256 % 256)) := (World.cell?_drew _ _).trans (g1 1 (by decide))
    have k2 : wy.drew.cell? ⟨g, 2, none⟩ = some (.int .u8 ((c : Int) / 65536 % 256)) := (World.cell?_drew _ _).trans (g1 2 (by decide))
    have k3 : wy.drew.cell? ⟨g, 3, none⟩ = some (.int .u8 ((c : Int) / 16777216 % 256)) := (World.cell?_drew _ _).trans (g1 3 (by decide))
    have m0 := (hbw.cell (p := ⟨g, 0, none⟩) g3).trans k0
    have m1 := (hbw.cell (p := ⟨g, 1, none⟩) g3).trans k1
    have m2 := (hbw.cell (p := ⟨g, 2, none⟩) g3).trans k2
    have m3 := (hbw.cell (p := ⟨g, 3, none⟩) g3).trans k3
    have HBW : Hid (Below w.heap.size w (Lib.bytesWorld wy.drew 5 T)) := Lib.hid (g2.drew.trans (hbw.mono g2.size))
    have HLI := Lib.hid hlist
    have HTT := Lib.hid hT
    generalize Lib.bytesWorld wy.drew 5 T = wb at *
    generalize grownCap wy.drew 4 0 5 = cap at *
    rw [hT] at hcv
    clear g1 g2 g3 hbw htl htz hlist hT hb0 hb1 hb2 hb3
    have heq := fun w' => eq4 b0.toNat b1.toNat b2.toNat b3.toNat ((c : Int) % 256) ((c : Int) / 256 % 256) ((c : Int) / 65536 % 256) ((c : Int) / 16777216 % 256) w'
    go_upto_region 4 with fail
    go_cut [30] (fun v wc => v = .bool (!decide ([b0, b1, b2, b3] = fourL c)) ∧ Hid (Below w.heap.size w wc))
    case first =>
      go_wp2_with fail
      go_region
      all_goals
        go_wp2_with fail
        go_meet
        exact ⟨congrArg Value.bool (four_test b0 b1 b2 b3 c), HBW⟩
    case rest =>
      obtain ⟨rfl, HBE⟩ := hcut
      obtain ⟨we, rfl⟩ : ∃ we : World, we = wc := ⟨_, rfl⟩
      have hlen : s.data.toList.length = n + 4 := by rw [← Lib.size_eq]; exact HN4.out
      have hopen : openL s.data.toList = if [b0, b1, b2, b3] = fourL c then some (s.data.toList.take n) else none := by
        unfold openL
        rw [hlen, if_neg (by omega), Nat.add_sub_cancel, HLI.out, ← HC.out]
      by_cases hq : [b0, b1, b2, b3] = fourL c
      · rw [if_pos hq] at hopen
        have hd : decide ([b0, b1, b2, b3] = fourL c) = true := by simpa using hq
        rw [hd]
        have HOP : Hid (openV s.data.toList = .tuple #[.string (s.extract 0 n), .bool true]) := Lib.hid (by
          unfold openV
          rw [hopen, ← HBL.out]
          show Value.tuple #[.string (bytS (s.extract 0 n).data.toList), .bool true] = _
          rw [bytS_of])
        clear hq hd hopen hlen heq y0 y1 y2 y3 k0 k1 k2 k3 m0 m1 m2 m3 hcv har
        go_wp2_with fail
        go_ret2
        exact ⟨by rw [HOP.out]; rfl, HBE.out⟩
      · rw [if_neg hq] at hopen
        have hd : decide ([b0, b1, b2, b3] = fourL c) = false := by simpa using hq
        rw [hd]
        have HOP : Hid (openV s.data.toList = .tuple #[.string ⟨#[]⟩, .bool false]) := Lib.hid (by
          unfold openV
          rw [hopen])
        clear hq hd hopen hlen heq y0 y1 y2 y3 k0 k1 k2 k3 m0 m1 m2 m3 hcv har
        go_wp2_with fail
        go_ret2
        exact ⟨by rw [HOP.out]; rfl, HBE.out⟩
end Go.Proofs.YtgfjeaegigjnaaaGreatDoor
