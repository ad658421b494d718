/- Package ops: Write. -/
import Derived.Test.YthpdmgefdaegmaaDoorOpsJ
import Derived.StillTailTactics
namespace Go.Proofs.YthpdmgefdaegmaaDoor
open Go.RowKit
set_option linter.unusedVariables false
set_option linter.unusedSimpArgs false

theorem below_own {w a b : World} {n : Nat} {v : Value} {k : Nat} {xs : List Value} (h : a.ownsRow n 41 6 v k xs) (hb : Below a.heap.size a b) : b.ownsRow n 41 6 v k xs := ownsRow_below h hb
/-- The bytes of a piece, data laid into it from a on, from its byte b on. -/
def putL (a b : Nat) (d l : List UInt8) : List UInt8 := l.take a ++ (d.drop b).take (64 - a) ++ l.drop (a + min (64 - a) (d.length - b))
theorem put_cells (a b n : Nat) (d l : List UInt8) (hn : n = min (d.length - b) (64 - a)) :
    ((l.map byteV).take a ++ Lib.byteCells ((d.drop b).take n) ++ (l.map byteV).drop (a + n)).toArray = ((putL a b d l).map byteV).toArray := by
  refine congrArg List.toArray ?_
  unfold putL
  rw [List.map_append, List.map_append, List.map_take, List.map_drop (l := l)]
  have hb : ∀ x : List UInt8, Lib.byteCells x = x.map byteV := fun _ => rfl
  rw [hb]
  congr 1
  · congr 2
    rw [List.take_eq_take_iff, List.length_drop]
    omega
  · rw [hn, Nat.min_comm]
theorem putL_len {a b : Nat} {d l : List UInt8} (hl : l.length = 64) (ha : a ≤ 64) : (putL a b d l).length = 64 := by
  unfold putL
  rw [List.length_append, List.length_append, List.length_take, List.length_take, List.length_drop, List.length_drop, hl]; omega
/-- The piece k behind a write of d at off. -/
def wrL (off : Nat) (d : List UInt8) (k : Nat) (l : List UInt8) : List UInt8 := putL (max off (k * 64) - k * 64) (max off (k * 64) - off) d (pieceL l)
/-- The changes of the pieces F .. F+j. -/
inductive WrTo (off : Nat) (d : List UInt8) (ps : List (List UInt8)) (F : Nat) : Nat → List (Nat × List UInt8) → Prop
  | zero : WrTo off d ps F 0 []
  | same {j cs} : WrTo off d ps F j cs → wrL off d (F + j) (atL ps j) = pieceL (atL ps j) → WrTo off d ps F (j + 1) cs
  | put {j cs t} : WrTo off d ps F j cs → wrL off d (F + j) (atL ps j) ≠ pieceL (atL ps j) → ChgOf t (Lib.trimRightB (wrL off d (F + j) (atL ps j)) 0) → WrTo off d ps F (j + 1) (cs ++ [(F + j, t)])
theorem WrTo.len {off : Nat} {d : List UInt8} {ps : List (List UInt8)} {F j : Nat} {cs : List (Nat × List UInt8)} (h : WrTo off d ps F j cs) : cs.length ≤ j := by
  induction h with
  | zero => simp
  | same _ _ ih => omega
  | put _ _ _ ih => simp; omega
def rowC (number : Int) (cs : List (Nat × List UInt8)) : List Value := cs.flatMap fun x => chgL number x.1 x.2
/-- What Write says. -/
def WriteR (size offset : Int) (d : List UInt8) (ps : List (List UInt8)) (cs : List (Nat × List UInt8)) (sz er : Int) : Prop :=
  if offset < 0 ∨ 256 < d.length then cs = [] ∧ sz = 0 ∧ er = 107
  else if 8192 - (d.length : Int) < offset then cs = [] ∧ sz = 0 ∧ er = 109
  else if d = [] then cs = [] ∧ sz = size ∧ er = 0
  else sz = max size (offset + d.length) ∧ er = 0 ∧ WrTo offset.toNat d ps (offset.toNat / 64) ((offset.toNat + d.length - 1) / 64 + 1 - offset.toNat / 64) cs
theorem infoChg : (Tryd.prog.info? 41).map (fun i => (i.zero, i.size, i.bytes)) = some (some (.agg #[.int .i64 0, .int .i64 0, .string ⟨#[]⟩, .int .i64 0, .string ⟨#[]⟩, .bool false]), 6, 64) := by kernel_rfl

def WritePost (number size offset : Int) (data : ByteArray) (ps : List (List UInt8)) (w : World) (e : Ending) (w' : World) : Prop :=
  ∃ v cs sz er, e = .returned (.tuple #[v, .int .i64 sz, .int .i64 er]) ∧ WriteR size offset data.data.toList ps cs sz er ∧ w'.ownsRow w.heap.size 41 6 v cs.length (rowC number cs) ∧ Below w.heap.size w w'

set_option maxHeartbeats 2000000 in
set_option maxRecDepth 100000 in
theorem write_any {w : World} {v : Value} {ps : List (List UInt8)} (h : StrsAt w v ps) (hN : ps.length ≤ 9223372036854775807) (number size offset : Int) (data : ByteArray) (hsz : data.size ≤ 9223372036854775807) :
    Calls Tryd.prog 10 #[.int .i64 number, .int .i64 size, .int .i64 offset, .string data, v] w (WritePost number size offset data ps w) := by
  unfold WritePost
  have hdl : data.data.toList.length = data.size := by simp
  have nilOwn : w.ownsRow w.heap.size 41 6 (.slice none 0 0) 0 (rowC number []) := by simpa [rowC] using World.ownsRow_nil w w.heap.size 41 6
  have HO := Lib.hid nilOwn
  have HDL := Lib.hid hdl
  clear nilOwn
  by_cases h1 : offset < 0
  · have HV : Hid (WriteR size offset data.data.toList ps [] 0 107) := Lib.hid (by unfold WriteR; rw [if_pos (.inl h1)]; exact ⟨rfl, rfl, rfl⟩)
    clear h hdl
    go_enter Tryd.func10, Tryd.ntmps10
    go_wp2_with fail
    go_ret3
    exact ⟨_, [], _, _, rfl, HV.out, HO.out, Below.refl _ _⟩
  by_cases h2 : 256 < data.size
  · have HV : Hid (WriteR size offset data.data.toList ps [] 0 107) := Lib.hid (by unfold WriteR; rw [if_pos (.inr (by omega))]; exact ⟨rfl, rfl, rfl⟩)
    have h2' : (256 : Int) < (data.size : Int) := by omega
    clear h hdl
    go_enter Tryd.func10, Tryd.ntmps10
    go_wp2_with fail
    go_ret3
    exact ⟨_, [], _, _, rfl, HV.out, HO.out, Below.refl _ _⟩
  have h2' : ¬ (256 : Int) < (data.size : Int) := by omega
  by_cases h3 : 8192 - (data.size : Int) < offset
  · have HV : Hid (WriteR size offset data.data.toList ps [] 0 109) := Lib.hid (by unfold WriteR; rw [if_neg (by omega), if_pos (by omega)]; exact ⟨rfl, rfl, rfl⟩)
    clear h hdl
    go_enter Tryd.func10, Tryd.ntmps10
    go_wp2_with fail
    go_ret3
    exact ⟨_, [], _, _, rfl, HV.out, HO.out, Below.refl _ _⟩
  by_cases h4 : data.data.toList = []
  · have HV : Hid (WriteR size offset data.data.toList ps [] size 0) := Lib.hid (by unfold WriteR; rw [if_neg (by omega), if_neg (by omega), if_pos h4]; exact ⟨rfl, rfl, rfl⟩)
    have e1 : data.toList.isEmpty = true := by rw [Go.ByteArray.toList_eq, h4]; rfl
    clear h hdl h4
    go_enter Tryd.func10, Tryd.ntmps10
    go_wp2_with fail
    go_ret3
    exact ⟨_, [], _, _, rfl, HV.out, HO.out, Below.refl _ _⟩
  have e1 : data.toList.isEmpty = false := by rw [Go.ByteArray.toList_eq]; simpa using h4
  have hpos : 0 < data.size := by
    rcases Nat.eq_zero_or_pos data.size with h | h
    · exact absurd (List.length_eq_zero_iff.1 (hdl.trans h)) h4
    · exact h
  obtain ⟨off, rfl⟩ : ∃ off : Nat, offset = (off : Int) := ⟨offset.toNat, by omega⟩
  obtain ⟨F, hF⟩ : ∃ F, F = off / 64 := ⟨_, rfl⟩
  obtain ⟨T, hT⟩ : ∃ T, T = (off + data.size - 1) / 64 + 1 := ⟨_, rfl⟩
  have hFT : F < T := by omega
  have hT2 : T ≤ 128 := by omega
  have hV : ∀ cs, WrTo off data.data.toList ps F (T - F) cs → WriteR size off data.data.toList ps cs (max size (off + data.size)) 0 := fun cs hc => by
    unfold WriteR
    rw [if_neg (by omega), if_neg (by omega), if_neg h4, Int.toNat_natCast, hdl, ← hF, ← hT]
    exact ⟨rfl, rfl, hc⟩
  have HV := Lib.hid hV
  have hsp : spanC off data.size = ((F : Int), (T : Int)) := by
    unfold spanC
    rw [if_neg (by omega), hF, hT]
    simp
    omega
  have hsa := span_any off data.size w
  rw [hsp] at hsa
  have HS := Lib.hid h
  have HFT := Lib.hid (And.intro hF hT)
  clear h hdl hV hsp h4 hF hT
  obtain ⟨i0, hi, hz0, hz1, hz2⟩ := info_parts infoChg
  go_enter Tryd.func10, Tryd.ntmps10
  go_wp2_with fail
  refine hsa.mono ?_; rintro e w' ⟨rfl, rfl⟩
  clear hsa
  go_wp2_with fail
  go_loopw [13, 16] (fun sv sk wr => ∃ (j : Nat) (cs : List (Nat × List UInt8)), F + j ≤ T ∧ sk = .int .i64 ((F + j : Nat) : Int) ∧ Hid (WrTo off data.data.toList ps F j cs) ∧ Hid (wr.ownsRow w.heap.size 41 6 sv cs.length (rowC number cs)) ∧ Hid (Below w.heap.size w wr)) (fun _ k _ => T - (intOf k).toNat)
  case atStart => exact ⟨0, [], by omega, by simp, Lib.hid .zero, HO, Lib.hid (Below.refl _ _)⟩
  case round =>
    obtain ⟨j, cs, hj, rfl, HW, HR, HB⟩ := hrel
    by_cases hlt : F + j < T
    · have g1 : ((F + j : Nat) : Int) < (T : Int) := by omega
      have g2 : wrap64 (((F + j : Nat) : Int) - (F : Int)) = (j : Int) := by rw [IntWalk.wrap64_in _ (by omega)]; omega
      go_wp2_with fail
      rw [show (F : Int) + (j : Int) - (F : Int) = (j : Int) by omega]
      refine (at_any (HS.out.below HB.out) hN j).mono ?_; rintro e w1 ⟨rfl, rfl⟩
      obtain ⟨X, hX⟩ : ∃ X, X = strB (atL ps j) := ⟨_, rfl⟩
      rw [← hX]
      have HX := Lib.hid hX
      clear hX
      go_wp2_with fail
      refine (bytes_any _ _).mono ?_; rintro e w1 ⟨rfl, hc, B1⟩
      obtain ⟨l, hl⟩ : ∃ l, l = pieceL (atL ps j) := ⟨_, rfl⟩
      rw [HX.out, strB_list, ← hl] at hc
      have hll : l.length = 64 := by rw [hl]; exact pieceL_len _
      have HL := Lib.hid hl
      have HC := Lib.hid hc
      have HB1 := Lib.hid B1
      have HLL := Lib.hid hll
      clear hc B1 hl hll
      have hcv : ∀ (W : World) (z : List UInt8), z.length = 64 → W.heap[wr.heap.size]? = some (.cells (z.map byteV).toArray 5 (0, 0)) → (convert 25 9 (.slice (some ⟨wr.heap.size, 0, none⟩) 64 64)).run Tryd.prog W = .ok (.string (strB z)) W := by
        intro W z hz hW
        have := run_convert_bytes_back (P := Tryd.prog) W 25 9 5 ⟨wr.heap.size, 0, none⟩ 64 z (by kernel_rfl) (by kernel_rfl) (by kernel_rfl) (by
          intro i hi
          rw [show (⟨wr.heap.size, 0, none⟩ : Addr).add i = ⟨wr.heap.size, i, none⟩ by unfold Addr.add; split <;> simp_all]
          rw [cellsOf_heap hW]
          simp [byteV, List.getElem?_eq_getElem hi])
        rw [hz] at this
        exact this
      have hcv1 := hcv w1 l HLL.out HC.out
      have HCV := Lib.hid hcv
      clear hcv
      obtain ⟨was, hwas⟩ : ∃ was, was = strB l := ⟨_, rfl⟩
      rw [← hwas] at hcv1
      have HWAS := Lib.hid hwas
      clear hwas
      obtain ⟨fi, hfi⟩ : ∃ fi, fi = max off ((F + j) * 64) := ⟨_, rfl⟩
      obtain ⟨st, hst⟩ : ∃ st, st = (F + j) * 64 := ⟨_, rfl⟩
      obtain ⟨a, ha⟩ : ∃ a, a = fi - st := ⟨_, rfl⟩
      obtain ⟨b, hb⟩ : ∃ b, b = fi - off := ⟨_, rfl⟩
      have hF := HFT.out.1
      have hT := HFT.out.2
      have m1 : max (off : Int) (st : Int) = (fi : Int) := by omega
      have m2 : ((F : Int) + (j : Int)) * 64 = (st : Int) := by omega
      have m3 : (fi : Int) - (st : Int) = (a : Int) := by omega
      have m4 : (fi : Int) - (off : Int) = (b : Int) := by omega
      have q1 : a < 64 := by omega
      have q2 : b < data.size := by omega
      have M3 := Lib.hid m3
      have M4 := Lib.hid m4
      have HAB : Hid (wrL off data.data.toList (F + j) (atL ps j) = putL a b data.data.toList l) := Lib.hid (by unfold wrL; rw [← HL.out, ha, hb, hfi, hst])
      clear ha hb hfi hst hF hT m3 m4
      go_upto_region 16 with fail
      have n1 : IntKind.i64.wrap ((fi : Int) - (st : Int)) = (fi : Int) - (st : Int) := (IntWalk.i64_left _).trans (IntWalk.wrap64_in _ (by have := M3.out; omega))
      have n2 : IntKind.i64.wrap ((fi : Int) - (off : Int)) = (fi : Int) - (off : Int) := (IntWalk.i64_left _).trans (IntWalk.wrap64_in _ (by have := M4.out; omega))
      have n3 : ((fi : Int) - (st : Int)).toNat = a := by have := M3.out; omega
      have n4 : ((fi : Int) - (off : Int)).toNat = b := by have := M4.out; omega
      have n5 : (0 : Int) ≤ (fi : Int) - (st : Int) := by have := M3.out; omega
      have n6 : (0 : Int) ≤ (fi : Int) - (off : Int) := by have := M4.out; omega
      have n7 : (fi : Int) - (st : Int) ≤ 64 := by have := M3.out; omega
      have n8 : (fi : Int) - (off : Int) ≤ (data.size : Int) := by have := M4.out; omega
      have o1 : fi - st = a := by have := M3.out; omega
      have o2 : fi - off = b := by have := M4.out; omega
      have o3 : (st : Int) ≤ (fi : Int) := by have := M3.out; omega
      have o4 : (off : Int) ≤ (fi : Int) := by have := M4.out; omega
      have o5 : (fi : Int) ≤ 64 + (st : Int) := by have := M3.out; omega
      have o6 : (fi : Int) ≤ (data.size : Int) + (off : Int) := by have := M4.out; omega
      have o7 : st ≤ fi := by omega
      have o8 : off ≤ fi := by omega
      have o9 : ¬ 64 = a := by omega
      go_still_tail 10, (by kernel_rfl)
      change wpList _ _ _ _ _ w1.drew
      obtain ⟨D, hD⟩ : ∃ D, D = data.extract b data.size := ⟨_, rfl⟩
      have hDs : D.size = data.size - b := by
        rw [hD, Lib.size_eq, Lib.extract_data, List.length_take, List.length_drop, ← Lib.size_eq]; omega
      have hDl : D.data.toList = data.data.toList.drop b := by
        rw [hD, Lib.extract_data, List.take_of_length_le (by rw [List.length_drop, ← Lib.size_eq]; omega)]
      have hcp := run_copy_str (P := Tryd.prog) w1.drew 25 9 3 5 wr.heap.size a (64 - a) (64 - a) D (l.map byteV).toArray 5 (by kernel_rfl) (by kernel_rfl) HC.out (min D.size (64 - a)) rfl (by simp [HLL.out]; omega)
      rw [← hD]
      obtain ⟨z, hz⟩ : ∃ z, z = putL a b data.data.toList l := ⟨_, rfl⟩
      have hzl : z.length = 64 := by rw [hz]; exact putL_len HLL.out (by omega)
      have hzr : (List.take a (l.map byteV).toArray.toList ++ Lib.byteCells (List.take (min D.size (64 - a)) D.data.toList) ++ List.drop (a + min D.size (64 - a)) (l.map byteV).toArray.toList).toArray = (z.map byteV).toArray := by
        have := put_cells a b (min D.size (64 - a)) data.data.toList l (by rw [hDs]; simp)
        rw [hz, ← this, hDl]
      rw [hzr] at hcp
      have hw2 : (w1.drew.setRow wr.heap.size (z.map byteV).toArray).heap[wr.heap.size]? = some (.cells (z.map byteV).toArray 5 (0, 0)) := setRow_heap w1.drew wr.heap.size _ (z.map byteV).toArray _ _ HC.out
      obtain ⟨w2, hw2e⟩ : ∃ w2, w2 = w1.drew.setRow wr.heap.size (z.map byteV).toArray := ⟨_, rfl⟩
      rw [← hw2e] at hcp hw2
      have HB2 : Hid (Below wr.heap.size wr w2) := Lib.hid (by rw [hw2e]; exact below_setRow (Below.drew HB1.out) (Nat.le_refl _) _)
      have hcv2 := HCV.out w2 z hzl hw2
      have HW2 := Lib.hid hw2
      have HZ := Lib.hid hz
      have HZL := Lib.hid hzl
      clear hzr hw2e hw2 hD hDl hz hzl hcv1 n1 n2 n3 n4 n5 n6 n7 n8 o1 o2 o3 o4 o5 o6 o7 o8 o9
      obtain ⟨now, hnow⟩ : ∃ now, now = strB z := ⟨_, rfl⟩
      rw [← hnow] at hcv2
      have HNOW := Lib.hid hnow
      clear hnow hDs
      by_cases heq : z = l
      · have e2 : (now.toList == was.toList) = true := by rw [Go.ByteArray.toList_eq, Go.ByteArray.toList_eq, HNOW.out, HWAS.out, heq]; simp
        have e3 : (now.toList != was.toList) = false := by simp only [bne, e2]; rfl
        have HWN : Hid (WrTo off data.data.toList ps F (j + 1) cs) := Lib.hid (.same HW.out (by rw [HAB.out, ← HZ.out, heq, ← HL.out]))
        have HRN := Lib.hid (ownsRow_below HR.out HB2.out)
        have HBN := Lib.hid (below_on HB.out HB2.out)
        go_wp2_with fail
        go_roundw
        case rel => exact ⟨j + 1, cs, by omega, by go_num, HWN, HRN, HBN⟩
        case measure => simp [intOf]; omega
      · have e2 : (now.toList == was.toList) = false := by rw [Go.ByteArray.toList_eq, Go.ByteArray.toList_eq, HNOW.out, HWAS.out, strB_list, strB_list]; simpa using heq
        have e3 : (now.toList != was.toList) = true := by simp only [bne, e2]; rfl
        have hch := change_any number ((F : Int) + (j : Int)) wr.heap.size z w2 HZL.out HW2.out
        have HAB2 := Lib.hid HAB.out
        clear g2
        go_wp2_with fail
        refine hch.mono ?_; rintro e w3 ⟨t, ht, rfl, B3⟩
        have HT := Lib.hid ht
        have HB3 := Lib.hid (below_on HB2.out B3)
        have HR3 := Lib.hid (ownsRow_below HR.out HB3.out)
        obtain ⟨Y, hY⟩ : ∃ Y, Y = strB t := ⟨_, rfl⟩
        obtain ⟨gn, hgn⟩ : ∃ gn, gn = t.isEmpty := ⟨_, rfl⟩
        have hcl : (chgL number ((F : Int) + (j : Int)) t).toArray = #[.int .i64 number, .int .i64 3, .string ⟨#[]⟩, .int .i64 ((F : Int) + (j : Int)), .string Y, .bool gn] := by rw [hY, hgn]; rfl
        rw [hcl]
        have HCL := Lib.hid hcl
        clear hcl hY hgn ht B3 hch hcv2 hcp e2 e3 m1 m2 q1 q2
        go_wp2_with (at_builtin; refine wpList_append_own _ rfl _ _ 32 rfl w.heap.size 41 i0 (.agg #[.int .i64 0, .int .i64 0, .string ⟨#[]⟩, .int .i64 0, .string ⟨#[]⟩, .bool false]) 6 64 (by kernel_rfl) hi hz0 hz1 hz2 rfl (by decide) _ cs.length (rowC number cs) rfl (HR3.out.alloc _) ⟨w3.heap.size, 0, none⟩ 1 1 [.int .i64 number, .int .i64 3, .string ⟨#[]⟩, .int .i64 ((F : Int) + (j : Int)), .string Y, .bool gn] rfl rfl ?c1 ?c2 ?c3 ?c4 ?c5 ?_)
        case c1 =>
          intro i u hu
          rw [show (⟨w3.heap.size, 0, none⟩ : Addr).add i = ⟨w3.heap.size, i, none⟩ by unfold Addr.add; split <;> simp_all]
          rw [cellsOf_heap (heap_alloc_new w3 _)]
          simpa using hu
        case c2 =>
          intro u hu
          simp only [List.mem_cons, List.not_mem_nil, or_false] at hu
          rcases hu with rfl | rfl | rfl | rfl | rfl | rfl <;> rfl
        case c3 => have := HW.out.len; unfold maxLen; omega
        case c4 => have := HW.out.len; omega
        case c5 => have h5 := (HB.out.size); have h6 := HB3.out.size; simp; omega
        intro v' w4 hown' hgrow hnn
        have HW4 : Hid (WrTo off data.data.toList ps F (j + 1) (cs ++ [(F + j, t)])) := Lib.hid (.put HW.out (by rw [HAB.out, ← HZ.out, ← HL.out]; exact heq) (by rw [HAB.out, ← HZ.out]; exact HT.out))
        have HR4 : Hid (w4.ownsRow w.heap.size 41 6 v' (cs ++ [(F + j, t)]).length (rowC number (cs ++ [(F + j, t)]))) := Lib.hid (by
          have : rowC number (cs ++ [(F + j, t)]) = rowC number cs ++ [.int .i64 number, .int .i64 3, .string ⟨#[]⟩, .int .i64 ((F : Int) + (j : Int)), .string Y, .bool gn] := by
            unfold rowC
            rw [List.flatMap_append]
            congr 1
            have h7 := congrArg Array.toList HCL.out
            simpa using h7
          rw [this, List.length_append]
          exact hown')
        have HB4 : Hid (Below w.heap.size w w4) := Lib.hid ((below_on HB.out (HB3.out.alloc HB3.out.size _)).grown hgrow (by have := HB.out.size; have := HB3.out.size; simp; omega) (fun k hk => (HR3.out.lt k hk).1))
        clear hown' hgrow hnn HR3 HR HW HAB HAB2 HCL HT
        go_wp2
        go_roundw
        case rel => exact ⟨j + 1, _, by omega, by go_num, HW4, HR4, HB4⟩
        case measure => simp [intOf]; omega
    · have g1 : ¬ ((F + j : Nat) : Int) < (T : Int) := by omega
      obtain rfl : T = F + j := by omega
      have HV2 := Lib.hid (HV.out cs (by rw [show F + j - F = j by omega]; exact HW.out))
      clear HV HFT
      go_wp2_with fail
      go_ret3
      exact ⟨_, cs, _, _, rfl, HV2.out, HR.out, HB.out⟩

end Go.Proofs.YthpdmgefdaegmaaDoor
