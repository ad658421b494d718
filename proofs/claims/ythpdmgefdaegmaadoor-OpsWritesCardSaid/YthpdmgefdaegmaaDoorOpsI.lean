/- Package lz: Pack. -/
import Derived.Test.YthpdmgefdaegmaaDoorOpsH
import Derived.Deep.RegionLaw
import Derived.Lib.ConvBytes
import Derived.Laws.Cover3
import Derived.Deep.QuietTactic
import Derived.BigQuiet
namespace Go.Proofs.YthpdmgefdaegmaaDoor
open Go.RowKit
set_option linter.unusedVariables false
set_option linter.unusedSimpArgs false

def Packed (t l : List UInt8) : Prop := t = 0 :: l ∨ ∃ o, t = 1 :: o ∧ Toks o l

theorem take_snoc (l : List UInt8) (y : Nat) (c : UInt8) (h : l[y]? = some c) : l.take y ++ [c] = l.take (y + 1) := by
  rw [List.take_add_one, h]; rfl
/-- What a copy tells. -/
theorem copy_take (l : List UInt8) (n : Nat) : ∀ x y : Nat, x < y → y + n ≤ l.length → (∀ i, i < n → l[x + i]? = l[y + i]?) → copyL (l.take y) (y - x - 1) n = (l.drop y).take n := by
  induction n with
  | zero => intro x y _ _ _; simp [copyL]
  | succ n ih =>
    intro x y hxy hy he
    have hyl : y < l.length := by omega
    have hc : l[y]? = some (l[y]'hyl) := List.getElem?_eq_getElem hyl
    have hx : (l.take y).getD ((l.take y).length - 1 - (y - x - 1)) 0 = l[y]'hyl := by
      rw [List.length_take, show min y l.length - 1 - (y - x - 1) = x by omega, List.getD_eq_getElem?_getD, List.getElem?_take_of_lt hxy]
      have := he 0 (by omega)
      simp only [Nat.add_zero] at this
      rw [this, hc]; rfl
    rw [copyL, hx, take_snoc l y _ hc]
    have h2 := ih (x + 1) (y + 1) (by omega) (by omega) (fun i hi => by
      have := he (i + 1) (by omega)
      rw [show x + 1 + i = x + (i + 1) by omega, show y + 1 + i = y + (i + 1) by omega]
      exact this)
    rw [show y + 1 - (x + 1) - 1 = y - x - 1 by omega] at h2
    rw [h2, List.drop_eq_getElem_cons hyl, List.take_succ_cons]
/-- A copy's token, behind what was told. -/
theorem toks_copy {out l : List UInt8} {x y n : Nat} (h : Toks out (l.take y)) (hxy : x < y) (hy : y + n ≤ l.length) (he : ∀ i, i < n → l[x + i]? = l[y + i]?) (h3 : 3 ≤ n) (h130 : n ≤ 130) (hw : y - x ≤ 65536) :
    Toks (out ++ [UInt8.ofNat (n + 125), UInt8.ofNat ((y - x - 1) % 256), UInt8.ofNat ((y - x - 1) / 256)]) (l.take (y + n)) := by
  have := Toks.copy n (y - x - 1) h h3 h130 (by rw [List.length_take]; omega) (by omega)
  rw [copy_take l n x y hxy hy he, take_drop_add] at this
  exact this

theorem SeenAt.mono {w : World} {mb n m : Nat} (h : SeenAt w mb n) (hm : n ≤ m) : SeenAt w mb m := by
  obtain ⟨es, cl, h1, h2, h3, h4⟩ := h
  exact ⟨es, cl, h1, h2, by omega, fun x hx => by obtain ⟨o, ho, hl⟩ := h4 x hx; exact ⟨o, ho, by omega⟩⟩
theorem Toks.some {o l : List UInt8} (h : Toks o l) (hl : l ≠ []) : o ≠ [] := by
  cases h with
  | nil => exact absurd rfl hl
  | lit x _ _ _ => simp
  | copy n back _ _ _ _ _ => simp
theorem conv_str (s : ByteArray) (W : World) : (convert 9 25 (.string s)).run Tryd.prog W = .ok (.slice (some ⟨W.heap.size, 0, none⟩) s.size (grownCap W s.size 0 5)) (Lib.bytesWorld W 5 s) :=
  Lib.run_convert_string_bytes W 9 25 5 s (u := .string) (by kernel_rfl) (by kernel_rfl) (by kernel_rfl)
theorem PkT.below {w w' : World} {B b k m : Nat} {txt : ByteArray} {mp : Value} (h : PkT w B b txt k mp m) (hb : Below w.heap.size w w') : PkT w' B b txt k mp m := by
  obtain ⟨adr, out, P, A, T, L⟩ := h.lies
  have hlt := P.lt
  obtain ⟨v, h1, h2, h3⟩ := P.cells
  exact ⟨adr, out, ⟨P.old, v, (hb.block b hlt).trans h1, ownsRow_below h2 hb, h3⟩, A, T, L⟩
theorem below_bytes (w : World) (e : TypeId) (s : ByteArray) : Below w.heap.size w (Lib.bytesWorld w e s) :=
  ⟨rfl, rfl, rfl, by rw [Lib.bytesWorld_size]; omega, fun k hk => Lib.bytesWorld_at_old w e s k hk⟩
theorem PkT.mapped {w w' : World} {B b k m mb : Nat} {txt : ByteArray} {mp : Value} (h : PkT w B b txt k mp m) (hm : ∃ es cl, w.heap[mb]? = some (.map es cl)) (hh : ∀ i, i ≠ mb → w'.heap[i]? = w.heap[i]?) : PkT w' B b txt k mp m := by
  obtain ⟨es, cl, hm⟩ := hm
  obtain ⟨adr, out, P, A, T, L⟩ := h.lies
  obtain ⟨v, h1, h2, h3⟩ := P.cells
  refine ⟨adr, out, ⟨P.old, v, ?_, ?_, h3⟩, A, T, L⟩
  · rw [hh b (by intro e; subst e; rw [hm] at h1; cases h1)]; exact h1
  · refine ⟨h2.1, h2.2.imp id ?_⟩
    rintro ⟨g, cap, cur, e1, e2, e3, e4⟩
    exact ⟨g, cap, cur, e1, e2, (hh g (by intro e; subst e; rw [hm] at e3; cases e3)).trans e3, e4⟩
theorem SeenAt.lies {w : World} {mb n : Nat} (h : SeenAt w mb n) : ∃ es cl, w.heap[mb]? = some (.map es cl) := by
  obtain ⟨es, cl, h1, _⟩ := h
  exact ⟨es, cl, h1⟩
theorem cons_str (c : UInt8) (s : ByteArray) : (⟨#[c]⟩ : ByteArray) ++ s = strB (c :: s.data.toList) := by
  apply ByteArray.ext
  unfold strB
  simp
theorem seen_new (w : World) : SeenAt (w.alloc (.map #[] 0)) w.heap.size 0 :=
  ⟨#[], 0, heap_alloc_new w _, ⟨by simp, ⟨fun _ h => by simp at h, by simp, by simp⟩, fun _ h => by simp at h⟩, by simp, fun _ h => by simp at h⟩

set_option maxHeartbeats 2000000 in
set_option maxRecDepth 100000 in
theorem pack_any (s : ByteArray) (w : World) (h0 : 0 < s.size) (hs : s.size ≤ 65536) :
    Calls Tryd.prog 23 #[.string s] w fun e w' => ∃ t, e = .returned (.string (strB t)) ∧ Packed t s.data.toList ∧ Below w.heap.size w w' := by
  have hs1 : ¬ (65536 : Int) < (s.size : Int) := by omega
  have hmk : (Instr.makeMap 73 none).run Tryd.prog w = .ok (.map (some w.heap.size)) (w.alloc (.map #[] 0)) := rfl
  go_enter Tryd.func23, Tryd.ntmps23
  go_wp2_with fail
  obtain ⟨w1, hw1⟩ : ∃ w1, w1 = (w.alloc (.map #[] 0)).alloc (.cells #[.string s, .pointer none, .slice none 0 0, .int .i64 0, .map (some w.heap.size)] 78) := ⟨_, rfl⟩
  rw [← hw1]
  have hsz : (w.alloc (.map #[] 0)).heap.size = w.heap.size + 1 := by simp
  have HPK : Hid (PkT w1 w.heap.size (w.heap.size + 1) s 0 (.map (some w.heap.size)) 0) := Lib.hid ⟨.pointer none, [], ⟨by omega, .slice none 0 0, by rw [hw1, ← hsz]; exact heap_alloc_new _ _, World.ownsRow_nil w1 _ _ _, by simp [Value.ownBlock]⟩, .inl rfl, by simpa using Toks.nil, by simp⟩
  have HSN : Hid (SeenAt w1 w.heap.size 0) := Lib.hid ((seen_new w).keep (by rw [hw1]; exact Lib.alloc_old _ _ _ (by simp)))
  have HBW : Hid (Below w.heap.size w w1) := Lib.hid (by rw [hw1]; exact ((Below.refl _ w).alloc (Nat.le_refl _) _).alloc (by simp) _)
  clear hw1 hmk
  go_loopw [5] (fun sk wr => ∃ k j : Nat, sk = .int .i64 (k : Int) ∧ j ≤ k ∧ k ≤ s.size ∧ Hid (PkT wr w.heap.size (w.heap.size + 1) s j (.map (some w.heap.size)) (2 * j)) ∧ Hid (SeenAt wr w.heap.size k) ∧ Hid (Below w.heap.size w wr)) (fun sk _ => s.size - (intOf sk).toNat)
  case atStart => exact ⟨0, 0, rfl, Nat.le_refl _, Nat.zero_le _, HPK, HSN, HBW⟩
  case round =>
    obtain ⟨k, j, rfl, hjk, hk, HP, HS, HB⟩ := hrel
    by_cases hlt : k < s.size
    · have g1 : (k : Int) < (s.size : Int) := by omega
      by_cases h3 : k + 3 ≤ s.size
      · have g3 : (k : Int) + 3 ≤ (s.size : Int) := by omega
        have hbs := HB.out.size
        have q1 : (0 : Int) ≤ (k : Int) + 3 := by omega
        have q2 : ((k : Int) + 3).toNat = k + 3 := by omega
        have q4 : (k : Int) ≤ (k : Int) + 3 := by omega
        have hX : (s.extract k (k + 3)).size = 3 := by
          rw [Lib.size_eq, Lib.extract_data, List.length_take, List.length_drop, ← Lib.size_eq]; omega
        have hcv := conv_str (s.extract k (k + 3)) wr
        rw [hX] at hcv
        have har : ∀ (W : World) (a : Option Addr) (c : Nat), (Instr.arrayAt 79 (.slice a 3 c)).run Tryd.prog W = .ok (.pointer a) W := fun W a c => run_arrayAt W 79 5 3 a 3 c (by kernel_rfl) (Nat.le_refl _)
        obtain ⟨wb, hwb⟩ : ∃ wb, wb = Lib.bytesWorld wr 5 (s.extract k (k + 3)) := ⟨_, rfl⟩
        rw [← hwb] at hcv
        have y0 : wb.cell? ⟨wr.heap.size, 0, none⟩ = some (.int .u8 ((s.extract k (k + 3)).data.toList.getD 0 0).toNat) := by rw [hwb]; exact Lib.bytesWorld_cell _ _ _ _ (by omega)
        have y1 : wb.cell? ⟨wr.heap.size, 1, none⟩ = some (.int .u8 ((s.extract k (k + 3)).data.toList.getD 1 0).toNat) := by rw [hwb]; exact Lib.bytesWorld_cell _ _ _ _ (by omega)
        have y2 : wb.cell? ⟨wr.heap.size, 2, none⟩ = some (.int .u8 ((s.extract k (k + 3)).data.toList.getD 2 0).toNat) := by rw [hwb]; exact Lib.bytesWorld_cell _ _ _ _ (by omega)
        generalize (s.extract k (k + 3)).data.toList.getD 0 0 = b0 at y0
        generalize (s.extract k (k + 3)).data.toList.getD 1 0 = b1 at y1
        generalize (s.extract k (k + 3)).data.toList.getD 2 0 = b2 at y2
        have HWB := Lib.hid hwb
        clear hwb hX
        go_upto_region 10 with fail
        obtain ⟨wd, hwd⟩ : ∃ wd, wd = wb.alloc (.cells #[.int .u8 (b0.toNat : Int), .int .u8 (b1.toNat : Int), .int .u8 (b2.toNat : Int)] 79) := ⟨_, rfl⟩
        rw [← hwd]
        have hbd : Below wr.heap.size wr wd := by
          rw [hwd, HWB.out]
          exact (below_bytes wr _ _).alloc (by rw [Lib.bytesWorld_size]; omega) _
        have HPd := Lib.hid (HP.out.below hbd)
        have hml : w.heap.size < wr.heap.size := by
          obtain ⟨es, cl, h, _⟩ := HS.out
          rcases Nat.lt_or_ge w.heap.size wr.heap.size with h6 | h6
          · exact h6
          · rw [Array.getElem?_eq_none h6] at h; cases h
        have HSd := Lib.hid (HS.out.keep (hbd.block _ hml))
        have HBd := Lib.hid (below_on HB.out hbd)
        have c4 : wd.cell? ⟨w.heap.size + 1, 4, none⟩ = some (.map (some w.heap.size)) := by
          obtain ⟨adr, out, P, _⟩ := HPd.out.lies
          obtain ⟨v, h1, _⟩ := P.cells
          rw [cellsOf_heap h1]; rfl
        have hkn : wd.heap[wb.heap.size]? = some (.cells #[.int .u8 (b0.toNat : Int), .int .u8 (b1.toNat : Int), .int .u8 (b2.toNat : Int)] 79 (0, 0)) := by
          rw [hwd]; exact heap_alloc_new _ _
        have k0 : wd.cell? ⟨wb.heap.size, 0, none⟩ = some (.int .u8 (b0.toNat : Int)) := by rw [cellsOf_heap hkn]; rfl
        have k1 : wd.cell? ⟨wb.heap.size, 1, none⟩ = some (.int .u8 (b1.toNat : Int)) := by rw [cellsOf_heap hkn]; rfl
        have k2 : wd.cell? ⟨wb.heap.size, 2, none⟩ = some (.int .u8 (b2.toNat : Int)) := by rw [cellsOf_heap hkn]; rfl
        have HKN := Lib.hid hkn
        clear hkn hbd hwd y0 y1 y2 hcv har HWB
        obtain ⟨lv, hlv, hlk⟩ := seen_look HSd.out b0 b1 b2
        have hl : ∀ q : Nat, (Instr.lookup 73 (.map (some w.heap.size)) (.agg #[.int .u8 (b0.toNat : Int), .int .u8 (b1.toNat : Int), .int .u8 (b2.toNat : Int)]) true).run Tryd.prog (wd.drewN q) = .ok lv (wd.drewN q) := fun q => hlk _ rfl
        clear hlk
        have hput := fun q : Nat => seen_put (HSd.out.keep (show ((wd.drewN q).drew).heap[w.heap.size]? = wd.heap[w.heap.size]? from rfl)) (show k < maxLen by unfold maxLen; omega) b0 b1 b2
        have HPUT := Lib.hid hput
        clear hput
        rcases hlv with rfl | ⟨o, ho, rfl⟩
        · go_quiet (fail)
          clear hl
          obtain ⟨wf, hr, HSf, hs1, hs2, hs3, hs4, hs5⟩ := HPUT.out nq
          unfold key3 byteV at hr
          obtain ⟨we, hwe⟩ : ∃ we, we = wd.drewN nq := ⟨_, rfl⟩
          have c4' : we.cell? ⟨w.heap.size + 1, 4, none⟩ = some (.map (some w.heap.size)) := by rw [hwe]; exact c4
          have k0' : we.cell? ⟨wb.heap.size, 0, none⟩ = some (.int .u8 (b0.toNat : Int)) := by rw [hwe]; exact k0
          have k1' : we.cell? ⟨wb.heap.size, 1, none⟩ = some (.int .u8 (b1.toNat : Int)) := by rw [hwe]; exact k1
          have k2' : we.cell? ⟨wb.heap.size, 2, none⟩ = some (.int .u8 (b2.toNat : Int)) := by rw [hwe]; exact k2
          rw [← hwe] at hr hs1 hs2 hs3 hs4 hs5 ⊢
          have HWE := Lib.hid hwe
          clear hwe c4 k0 k1 k2
          go_upto_region 11 with fail
          go_still_tail 6, (by kernel_rfl)
          change wpList _ _ _ _ _ we.drew
          have HPf : Hid (PkT wf w.heap.size (w.heap.size + 1) s j (.map (some w.heap.size)) (2 * j)) := Lib.hid (HPd.out.mapped HSd.out.lies (fun i hi => by rw [hs2 i hi, HWE.out]; rfl))
          have HBf : Hid (Below w.heap.size w wf) := Lib.hid ⟨by rw [hs3, HWE.out]; exact HBd.out.os, by rw [hs4, HWE.out]; exact HBd.out.tape, by rw [hs5, HWE.out]; exact HBd.out.output, by rw [hs1, HWE.out]; exact HBd.out.size, fun i hi => by rw [hs2 i (by omega), HWE.out]; exact HBd.out.block i hi⟩
          have HSF := Lib.hid HSf
          clear HSf hs1 hs2 hs3 hs4 hs5
          go_wp2_with fail
          rw [show max (0 : Int) 1 = 1 from rfl]
          exact ⟨⟨k + 1, j, by go_num, by omega, by omega, HPf, HSF, HBf⟩, by simp [intOf]; omega⟩
        · go_quiet (fail)
          clear hl
          obtain ⟨wf, hr, HSf, hs1, hs2, hs3, hs4, hs5⟩ := HPUT.out nq
          unfold key3 byteV at hr
          obtain ⟨we, hwe⟩ : ∃ we, we = wd.drewN nq := ⟨_, rfl⟩
          have c4' : we.cell? ⟨w.heap.size + 1, 4, none⟩ = some (.map (some w.heap.size)) := by rw [hwe]; exact c4
          have k0' : we.cell? ⟨wb.heap.size, 0, none⟩ = some (.int .u8 (b0.toNat : Int)) := by rw [hwe]; exact k0
          have k1' : we.cell? ⟨wb.heap.size, 1, none⟩ = some (.int .u8 (b1.toNat : Int)) := by rw [hwe]; exact k1
          have k2' : we.cell? ⟨wb.heap.size, 2, none⟩ = some (.int .u8 (b2.toNat : Int)) := by rw [hwe]; exact k2
          rw [← hwe] at hr hs1 hs2 hs3 hs4 hs5 ⊢
          have HWE := Lib.hid hwe
          clear hwe c4 k0 k1 k2
          go_upto_region 11 with fail
          go_still_tail 6, (by kernel_rfl)
          change wpList _ _ _ _ _ we.drew
          have HPf : Hid (PkT wf w.heap.size (w.heap.size + 1) s j (.map (some w.heap.size)) (2 * j)) := Lib.hid (HPd.out.mapped HSd.out.lies (fun i hi => by rw [hs2 i hi, HWE.out]; rfl))
          have HBf : Hid (Below w.heap.size w wf) := Lib.hid ⟨by rw [hs3, HWE.out]; exact HBd.out.os, by rw [hs4, HWE.out]; exact HBd.out.tape, by rw [hs5, HWE.out]; exact HBd.out.output, by rw [hs1, HWE.out]; exact HBd.out.size, fun i hi => by rw [hs2 i (by omega), HWE.out]; exact HBd.out.block i hi⟩
          have HSF := Lib.hid HSf
          clear HSf hs1 hs2 hs3 hs4 hs5
          have g5 : (k : Int) - (o : Int) ≤ 65536 := by omega
          have g6 : (o : Int) < (k : Int) := by omega
          have c0f : wf.cell? ⟨w.heap.size + 1, 0, none⟩ = some (.string s) := by
            obtain ⟨adr, out, P, _⟩ := HPf.out.lies
            obtain ⟨v, h1, _⟩ := P.cells
            rw [cellsOf_heap h1]; rfl
          have hSM := Lib.hid (same_any c0f o k (by omega) (by omega) (by omega))
          clear c0f c4' k0' k1' k2'
          go_wp2_with fail
          refine hSM.out.mono ?_; rintro e wg hpost
          obtain ⟨n, q, rfl, rfl, hn1, hn2, hn3⟩ := hpost
          have HEQ := Lib.hid hn3
          clear hn3
          have HPg : Hid (PkT (wf.drewN q) w.heap.size (w.heap.size + 1) s j (.map (some w.heap.size)) (2 * j)) := Lib.hid (HPf.out.below (below_drewN (Below.refl _ _) q))
          have HSg : Hid (SeenAt (wf.drewN q) w.heap.size (k + 1)) := Lib.hid HSF.out
          have HBg : Hid (Below w.heap.size w (wf.drewN q)) := Lib.hid (below_drewN HBf.out q)
          by_cases hn : 3 ≤ n
          · have g7 : (3 : Int) ≤ (n : Int) := by omega
            go_wp2_with fail
            refine (literals_any HPg.out k hjk (by omega) (by omega) (by omega)).mono ?_; rintro e w2 ⟨rfl, P2, B2, K2⟩
            have HS2 : Hid (SeenAt w2 w.heap.size (k + 1)) := Lib.hid (by
              obtain ⟨es, cl, h1, h2⟩ := HSg.out
              exact ⟨es, cl, K2 _ _ h1 (by simp) (fun c fz e => by cases e), h2⟩)
            have HP2 := Lib.hid P2
            have HB2 := Lib.hid (HBg.out.trans B2)
            clear P2 B2 K2
            go_wp2_with fail
            have v0 : Value.int IntKind.u8 ((n : Int) - 3 + 128) = byteV (UInt8.ofNat (n + 125)) := by
              unfold byteV; congr 1; simp [UInt8.toNat_ofNat]; omega
            have v1 : Value.int IntKind.u8 (((k : Int) - (o : Int) - 1) % 256) = byteV (UInt8.ofNat ((k - o - 1) % 256)) := by
              unfold byteV; congr 1; simp [UInt8.toNat_ofNat]; omega
            have v2 : Value.int IntKind.u8 (((k : Int) - (o : Int) - 1) / 256) = byteV (UInt8.ofNat ((k - o - 1) / 256)) := by
              unfold byteV; congr 1; simp [UInt8.toNat_ofNat]; omega
            rw [v0, v1, v2]
            clear v0 v1 v2
            obtain ⟨wx, hwx⟩ : ∃ wx, wx = w2.alloc (.cells #[byteV (UInt8.ofNat (n + 125)), byteV (UInt8.ofNat ((k - o - 1) % 256)), byteV (UInt8.ofNat ((k - o - 1) / 256))] 5) := ⟨_, rfl⟩
            rw [← hwx]
            have hbx : Below w2.heap.size w2 wx := by rw [hwx]; exact (Below.refl _ _).alloc (Nat.le_refl _) _
            have hrw : wx.heap[w2.heap.size]? = some (.cells (([UInt8.ofNat (n + 125), UInt8.ofNat ((k - o - 1) % 256), UInt8.ofNat ((k - o - 1) / 256)] : List UInt8).map byteV).toArray 5 (0, 0)) := by rw [hwx]; exact heap_alloc_new _ _
            obtain ⟨adr3, out3, P3, A3, T3, L3⟩ := (HP2.out.below hbx).lies
            have HSx := Lib.hid (HS2.out.keep (hbx.block _ (by
              obtain ⟨es, cl, h⟩ := HS2.out.lies
              rcases Nat.lt_or_ge w.heap.size w2.heap.size with h6 | h6
              · exact h6
              · rw [Array.getElem?_eq_none h6] at h; cases h)))
            have HBx := Lib.hid (below_on HB2.out hbx)
            have HT3 := Lib.hid T3
            have HWS := Lib.hid (writeSlice_any P3 A3 w2.heap.size 3 [UInt8.ofNat (n + 125), UInt8.ofNat ((k - o - 1) % 256), UInt8.ofNat ((k - o - 1) / 256)] (by simp) hrw (by simp; omega))
            clear hwx hbx hrw P3 A3 T3
            refine HWS.out.mono ?_; rintro e w3 ⟨rfl, P4, B4, K4⟩
            have HTK := Lib.hid (toks_copy HT3.out ho (by rw [← Lib.size_eq]; exact hn2) HEQ.out hn hn1 (by omega))
            obtain ⟨v4, hbk4, _, _⟩ := P4.cells
            have c3 : w3.cell? ⟨w.heap.size + 1, 3, none⟩ = some (.int .i64 (k : Int)) := by rw [cellsOf_heap hbk4]; rfl
            have f3 : w3.frozen? ⟨w.heap.size + 1, 3, none⟩ = false := by simp [World.frozen?, hbk4]
            have HP5 : Hid (PkT (w3.setCell ⟨w.heap.size + 1, 3, none⟩ (.int .i64 ((k + n : Nat) : Int))) w.heap.size (w.heap.size + 1) s (k + n) (.map (some w.heap.size)) (2 * (k + n))) := Lib.hid ⟨_, _, P4.setPlain _, .inr rfl, HTK.out, by simp; omega⟩
            have HS5 : Hid (SeenAt (w3.setCell ⟨w.heap.size + 1, 3, none⟩ (.int .i64 ((k + n : Nat) : Int))) w.heap.size (k + n)) := Lib.hid (by
              obtain ⟨es, cl, h1, h2⟩ := HSx.out
              exact SeenAt.mono ⟨es, cl, (heap_setCell_other w3 ⟨w.heap.size + 1, 3, none⟩ w.heap.size _ (by simp)).trans (K4 _ _ h1 (by simp) (fun c fz e => by cases e)), h2⟩ (by omega))
            have HB5 := Lib.hid ((HBx.out.trans B4).setCell (p := ⟨w.heap.size + 1, 3, none⟩) (by simp) (.int .i64 ((k + n : Nat) : Int)))
            have hmx : max (n : Int) 1 = (n : Int) := by omega
            clear P4 B4 K4 hbk4
            go_wp2_with fail
            rw [show (k : Int) + (n : Int) = ((k + n : Nat) : Int) by omega]
            exact ⟨⟨k + n, k + n, rfl, by omega, by omega, HP5, HS5, HB5⟩, by simp [intOf]; omega⟩
          · have g7 : ¬ ((3 : Int) ≤ (n : Int)) := by omega
            obtain ⟨t, ht⟩ : ∃ t : Nat, max (n : Int) 1 = (t : Int) := ⟨max n 1, by omega⟩
            have t1 : 1 ≤ t := by omega
            have t2 : t ≤ 2 := by omega
            go_wp2_with fail
            exact ⟨⟨k + t, j, by go_num, by omega, by omega, HPg, Lib.hid (HSg.out.mono (by omega)), HBg⟩, by simp [intOf]; omega⟩
      · have g3 : ¬ ((k : Int) + 3 ≤ (s.size : Int)) := by omega
        go_wp2_with fail
        go_roundw
        case rel => exact ⟨k + 1, j, by go_num, by omega, by omega, HP, Lib.hid (HS.out.mono (by omega)), HB⟩
        case measure => simp [intOf]; omega
    · have g1 : ¬ ((k : Int) < (s.size : Int)) := by omega
      obtain rfl : k = s.size := by omega
      have hbs := HB.out.size
      go_wp2_with fail
      refine (literals_any HP.out s.size hjk (Nat.le_refl _) (by omega) (by omega)).mono ?_; rintro e w2 ⟨rfl, P2, B2, K2⟩
      obtain ⟨adr, out, P3, A3, T3, L3⟩ := P2.lies
      have hol : (strB out).size ≤ 131072 := by rw [strB_size]; omega
      rw [List.take_of_length_le (by simp)] at T3
      have hne : out ≠ [] := T3.some (by intro e; have h5 := Lib.size_eq s; rw [e] at h5; simp only [List.length_nil] at h5; omega)
      have HT3 := Lib.hid T3
      have HC := Lib.hid (string_any P3 hne)
      have HB2 := Lib.hid (HB.out.trans B2)
      clear P2 B2 K2 P3 A3 T3 hne
      go_wp2_with fail
      refine HC.out.mono ?_; rintro e w3 ⟨rfl, B3⟩
      have HB3 := Lib.hid (HB2.out.trans B3)
      have HY : Hid ((⟨#[1]⟩ : ByteArray) ++ strB out = strB (1 :: out)) := Lib.hid (by have := cons_str 1 (strB out); rwa [strB_list] at this)
      have HZ := Lib.hid (cons_str 0 s)
      clear B3
      obtain ⟨Y, hY⟩ : ∃ Y, Y = strB out := ⟨_, rfl⟩
      rw [← hY] at HY HC hol ⊢
      have hb9 : ¬ (9223372036854775807 < 1 + Y.size) := by omega
      clear hY
      by_cases hc : 1 + Y.size < 1 + s.size
      · go_wp2_with fail
        go_ret
        exact ⟨1 :: out, by rw [← HY.out]; rfl, .inr ⟨out, rfl, HT3.out⟩, HB3.out⟩
      · go_wp2_with fail
        go_ret
        exact ⟨0 :: s.data.toList, by rw [← HZ.out]; rfl, .inl rfl, HB3.out⟩

end Go.Proofs.YthpdmgefdaegmaaDoor
