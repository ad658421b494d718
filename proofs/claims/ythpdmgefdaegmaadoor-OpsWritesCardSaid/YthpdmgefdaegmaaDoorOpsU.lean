/- The document's Write. -/
import Derived.Test.YthpdmgefdaegmaaDoorOpsT
import Derived.Test.YthpdmgefdaegmaaDoorOpsQ
namespace Go.Proofs.YthpdmgefdaegmaaDoor
open Go.RowKit
set_option linter.unusedVariables false
set_option linter.unusedSimpArgs false

def rwL (off : Nat) (d : List UInt8) (ps : List (List UInt8)) (F : Nat) : Nat → List (Nat × List UInt8)
  | 0 => []
  | j + 1 => rwL off d ps F j ++ (if wrL off d (F + j) (atL ps j) = pieceL (atL ps j) then [] else [(F + j, Lib.trimRightB (wrL off d (F + j) (atL ps j)) 0)])
theorem rwL_len (off : Nat) (d : List UInt8) (ps : List (List UInt8)) (F : Nat) : ∀ j, (rwL off d ps F j).length ≤ j
  | 0 => by simp [rwL]
  | j + 1 => by
    have := rwL_len off d ps F j
    rw [rwL, List.length_append]
    split <;> simp <;> omega
def rowW (n : Nat) (cs : List (Nat × List UInt8)) : List Value := cs.flatMap fun x => madeL n x.1 x.2
def RWriteR (size offset : Int) (d : List UInt8) (ps : List (List UInt8)) (cs : List (Nat × List UInt8)) (sz er : Int) : Prop :=
  if offset < 0 ∨ 256 < d.length then cs = [] ∧ sz = 0 ∧ er = 107
  else if 8192 - (d.length : Int) < offset then cs = [] ∧ sz = 0 ∧ er = 109
  else if d = [] then cs = [] ∧ sz = size ∧ er = 0
  else sz = max size (offset + d.length) ∧ er = 0 ∧ cs = rwL offset.toNat d ps (offset.toNat / 64) ((offset.toNat + d.length - 1) / 64 + 1 - offset.toNat / 64)
theorem infoRC : (Tryd.prog.info? 59).map (fun i => (i.zero, i.size, i.bytes)) = some (some (.agg #[.string ⟨#[]⟩, .string ⟨#[]⟩, .bool false]), 3, 40) := by kernel_rfl

theorem mix_set {z l : List UInt8} {i : Nat} (hz : z.length = 64) (hl : l.length = 64) (hi : i < 64) : (z.take i ++ l.drop i).set i (z[i]'(by omega)) = z.take (i + 1) ++ l.drop (i + 1) := by
  have e : z.take (i + 1) = z.take i ++ [z[i]'(by omega)] := List.take_succ_eq_append_getElem (by omega)
  rw [List.set_append_right _ _ (by rw [List.length_take]; omega), List.length_take, show i - min i z.length = 0 by omega, List.drop_eq_getElem_cons (by omega), List.set_cons_zero, e, List.append_assoc]
  rfl
theorem mix_get {z l : List UInt8} {i : Nat} (hz : z.length = 64) (hl : l.length = 64) (hi : i < 64) : (z.take i ++ l.drop i)[i]? = some (l[i]'(by omega)) := by
  rw [List.getElem?_append_right (by rw [List.length_take]; omega), List.length_take, show i - min i z.length = 0 by omega, List.getElem?_drop, Nat.add_zero, List.getElem?_eq_getElem (by omega)]
theorem mix_len {z l : List UInt8} {i : Nat} (hz : z.length = 64) (hl : l.length = 64) (hi : i ≤ 64) : (z.take i ++ l.drop i).length = 64 := by
  rw [List.length_append, List.length_take, List.length_drop]; omega
theorem mix_same {z l : List UInt8} {i : Nat} (hz : z.length = 64) (hl : l.length = 64) (hi : i < 64) (h : z[i]'(by omega) = l[i]'(by omega)) : z.take (i + 1) ++ l.drop (i + 1) = z.take i ++ l.drop i := by
  have e : z.take (i + 1) = z.take i ++ [z[i]'(by omega)] := List.take_succ_eq_append_getElem (by omega)
  rw [e, h, List.drop_eq_getElem_cons (i := i) (by omega), List.append_assoc]; rfl
def difB (z l : List UInt8) (i : Nat) : Bool := decide (z.take i ≠ l.take i)
theorem difB_succ {z l : List UInt8} {i : Nat} (hz : z.length = 64) (hl : l.length = 64) (hi : i < 64) : difB z l (i + 1) = (difB z l i || decide (l[i]'(by omega) ≠ z[i]'(by omega))) := by
  unfold difB
  have e : z.take (i + 1) = z.take i ++ [z[i]'(by omega)] := List.take_succ_eq_append_getElem (by omega)
  have e2 : l.take (i + 1) = l.take i ++ [l[i]'(by omega)] := List.take_succ_eq_append_getElem (by omega)
  rw [e, e2, Bool.eq_iff_iff]
  simp only [Bool.or_eq_true, decide_eq_true_eq]
  have key : (z.take i ++ [z[i]'(by omega)] = l.take i ++ [l[i]'(by omega)]) ↔ (z.take i = l.take i ∧ z[i]'(by omega) = l[i]'(by omega)) := by
    constructor
    · intro h
      obtain ⟨h1, h2⟩ := List.append_inj' h rfl
      exact ⟨h1, by simpa using h2⟩
    · rintro ⟨h1, h2⟩
      rw [h1, h2]
  rw [Ne, key]
  constructor
  · intro h
    by_cases h1 : z.take i = l.take i
    · exact .inr (fun h2 => h ⟨h1, h2.symm⟩)
    · exact .inl h1
  · rintro (h | h) ⟨h1, h2⟩
    · exact h h1
    · exact h h2.symm

def RWritePost (n : Nat) (size offset : Int) (data : ByteArray) (ps : List (List UInt8)) (w : World) (e : Ending) (w' : World) : Prop :=
  ∃ v cs sz er, e = .returned (.tuple #[v, .int .i64 sz, .int .i64 er]) ∧ RWriteR size offset data.data.toList ps cs sz er ∧ w'.ownsRow w.heap.size 59 3 v cs.length (rowW n cs) ∧ Below w.heap.size w w'

set_option maxHeartbeats 4000000 in
set_option maxRecDepth 100000 in
theorem rwrite_any {w : World} {v : Value} {ps : List (List UInt8)} (h : StrsAt w v ps) (hN : ps.length ≤ 9223372036854775807) (n : Nat) (hn : n ≤ 1099511627776) (size offset : Int) (data : ByteArray) (hsz : data.size ≤ 9223372036854775807) :
    Calls Tryd.prog 13 #[.int .i64 n, .int .i64 size, .int .i64 offset, .string data, v] w (RWritePost n size offset data ps w) := by
  unfold RWritePost
  have hdl : data.data.toList.length = data.size := by simp
  have HO : Hid (w.ownsRow w.heap.size 59 3 (.slice none 0 0) 0 (rowW n [])) := Lib.hid (by simpa [rowW] using World.ownsRow_nil w w.heap.size 59 3)
  have HDL := Lib.hid hdl
  by_cases h1 : offset < 0
  · have HV : Hid (RWriteR size offset data.data.toList ps [] 0 107) := Lib.hid (by unfold RWriteR; rw [if_pos (.inl h1)]; exact ⟨rfl, rfl, rfl⟩)
    clear h hdl hn
    go_enter Tryd.func13, Tryd.ntmps13
    go_wp2_with fail
    go_ret3
    exact ⟨_, [], _, _, rfl, HV.out, HO.out, Below.refl _ _⟩
  by_cases h2 : 256 < data.size
  · have HV : Hid (RWriteR size offset data.data.toList ps [] 0 107) := Lib.hid (by unfold RWriteR; rw [if_pos (.inr (by omega))]; exact ⟨rfl, rfl, rfl⟩)
    have h2' : (256 : Int) < (data.size : Int) := by omega
    clear h hdl hn
    go_enter Tryd.func13, Tryd.ntmps13
    go_wp2_with fail
    go_ret3
    exact ⟨_, [], _, _, rfl, HV.out, HO.out, Below.refl _ _⟩
  have h2' : ¬ (256 : Int) < (data.size : Int) := by omega
  by_cases h3 : 8192 - (data.size : Int) < offset
  · have HV : Hid (RWriteR size offset data.data.toList ps [] 0 109) := Lib.hid (by unfold RWriteR; rw [if_neg (by omega), if_pos (by omega)]; exact ⟨rfl, rfl, rfl⟩)
    by_cases h5 : 8192 < offset
    · clear h hdl hn h3
      go_enter Tryd.func13, Tryd.ntmps13
      go_wp2_with fail
      go_ret3
      exact ⟨_, [], _, _, rfl, HV.out, HO.out, Below.refl _ _⟩
    · have h6 : 8192 < offset + (data.size : Int) := by omega
      clear h hdl hn h3
      go_enter Tryd.func13, Tryd.ntmps13
      go_wp2_with fail
      go_ret3
      exact ⟨_, [], _, _, rfl, HV.out, HO.out, Below.refl _ _⟩
  have h5 : ¬ 8192 < offset := by omega
  have h6 : ¬ 8192 < offset + (data.size : Int) := by omega
  by_cases h4 : data.size = 0
  · have HV : Hid (RWriteR size offset data.data.toList ps [] size 0) := Lib.hid (by unfold RWriteR; rw [if_neg (by omega), if_neg (by omega), if_pos (List.length_eq_zero_iff.1 (hdl.trans h4))]; exact ⟨rfl, rfl, rfl⟩)
    clear h hdl hn
    go_enter Tryd.func13, Tryd.ntmps13
    go_wp2_with fail
    go_ret3
    exact ⟨_, [], _, _, rfl, HV.out, HO.out, Below.refl _ _⟩
  obtain ⟨off, rfl⟩ : ∃ off : Nat, offset = (off : Int) := ⟨offset.toNat, by omega⟩
  obtain ⟨F, hF⟩ : ∃ F, F = off / 64 := ⟨_, rfl⟩
  obtain ⟨T, hT⟩ : ∃ T, T = (off + data.size - 1) / 64 + 1 := ⟨_, rfl⟩
  obtain ⟨d, hd⟩ : ∃ d, d = data.data.toList := ⟨_, rfl⟩
  have hdne : d ≠ [] := by intro e; rw [← hd, e] at hdl; simp at hdl; omega
  have hV : RWriteR size off data.data.toList ps (rwL off d ps F (T - F)) (max size (off + data.size)) 0 := by
    unfold RWriteR
    rw [← hd]
    rw [← hd] at hdl
    rw [if_neg (by omega), if_neg (by omega), if_neg hdne, Int.toNat_natCast, hdl, ← hF, ← hT]
    exact ⟨rfl, rfl, rfl⟩
  have HV := Lib.hid hV
  have hq1 : (off : Int) / 64 = (F : Int) := by omega
  have HS := Lib.hid h
  have HFT := Lib.hid (And.intro hF hT)
  have hFT : F < T := by omega
  have hT2 : T ≤ 128 := by omega
  have HD := Lib.hid hd
  have HDL2 : Hid (d.length = data.size) := Lib.hid (by rw [hd]; exact hdl)
  clear h hdl hV hF hT hd hdne h3
  obtain ⟨i0, hi, hz0, hz1, hz2⟩ := info_parts infoRC
  go_enter Tryd.func13, Tryd.ntmps13
  go_wp2_with fail
  go_loopw [13, 15] (fun sv sk wr => ∃ j : Nat, F + j ≤ T ∧ sk = .int .i64 ((F + j : Nat) : Int) ∧ Hid (wr.ownsRow w.heap.size 59 3 sv (rwL off d ps F j).length (rowW n (rwL off d ps F j))) ∧ Hid (Below w.heap.size w wr)) (fun _ k _ => T - (intOf k).toNat)
  case atStart => exact ⟨0, by omega, by simp, HO, Lib.hid (Below.refl _ _)⟩
  case round =>
    obtain ⟨j, hj, rfl, HR, HB⟩ := hrel
    obtain ⟨wy, rfl⟩ : ∃ wy : World, wy = wr := ⟨_, rfl⟩
    by_cases hlt : F + j < T
    · have hTT := HFT.out
      have g1 : ((F + j : Nat) : Int) * 64 < (off : Int) + (data.size : Int) := by omega
      have g1' : ((F : Int) + (j : Int)) * 64 < (off : Int) + (data.size : Int) := by omega
      have g2 : (F : Int) + (j : Int) - (F : Int) = (j : Int) := by omega
      clear hTT
      have HPC := Lib.hid (piece_any (HS.out.below HB.out) hN j)
      go_wp2_with fail
      refine HPC.out.mono ?_; rintro e w1 ⟨rfl, hrow, hb1⟩
      obtain ⟨l, hl⟩ : ∃ l, l = pieceL (atL ps j) := ⟨_, rfl⟩
      obtain ⟨z, hz⟩ : ∃ z, z = wrL off d (F + j) (atL ps j) := ⟨_, rfl⟩
      obtain ⟨G, hG⟩ : ∃ G, G = wy.heap.size := ⟨_, rfl⟩
      rw [← hl, ← hG] at hrow
      have hll : l.length = 64 := by rw [hl]; exact pieceL_len _
      have hzl : z.length = 64 := by rw [hz]; exact wrL_len _ _ _ _ (by have := HFT.out; omega)
      have HROW := Lib.hid hrow
      have HB1 := Lib.hid (below_on HB.out hb1)
      have HR1 := Lib.hid (ownsRow_below HR.out hb1)
      have HBW := Lib.hid hb1
      have HL := Lib.hid hl
      have HZ := Lib.hid hz
      have HG := Lib.hid hG
      rw [← hG]
      have HRY := Lib.hid HR.out
      clear hl hz hG hrow hb1 HR HPC
      go_wp2_with fail
      go_loopw [17, 18, 19] (fun s17 s18 s19 wz => ∃ i : Nat, i ≤ 64 ∧ s18 = .int .i64 (i : Int) ∧ s17 = .bool (difB z l i) ∧ Hid (BAt wz G (z.take i ++ l.drop i)) ∧ Hid (Below G wy wz)) (fun _ s18 _ _ => 64 - (intOf s18).toNat)
      case atStart => exact ⟨0, by omega, rfl, by simp [difB], by simpa using HROW, Lib.hid (by rw [HG.out]; exact HBW.out)⟩
      case round =>
        obtain ⟨i, hi64, rfl, rfl, HM, HBM⟩ := hrel
        obtain ⟨wz, rfl⟩ : ∃ wz : World, wz = wr := ⟨_, rfl⟩
        by_cases hi2 : i < 64
        · have g3 : (i : Int) < 64 := by omega
          have hll := HL.out
          have hl64 : l.length = 64 := by rw [hll]; exact pieceL_len _
          have hz64 : z.length = 64 := by rw [HZ.out]; exact wrL_len _ _ _ _ (by have := HFT.out; omega)
          obtain ⟨zi, hzi⟩ : ∃ zi, zi = z[i]'(by omega) := ⟨_, rfl⟩
          obtain ⟨li, hli⟩ : ∃ li, li = l[i]'(by omega) := ⟨_, rfl⟩
          have hwg := wrL_get (off := off) (d := d) (k := F + j) (l := atL ps j) (q := i) (by have := HFT.out; omega) (by have := HDL2.out; have := HFT.out; omega) hi2
          rw [← HZ.out, ← hll, List.getElem?_eq_getElem (by omega), ← hzi, List.getElem?_eq_getElem (show i < l.length by omega), ← hli] at hwg
          have HSU : Hid (difB z l (i + 1) = (difB z l i || decide (li ≠ zi))) := Lib.hid (by rw [difB_succ hz64 hl64 hi2, ← hzi, ← hli])
          have c0 : wz.cell? ⟨G, i, none⟩ = some (.int .u8 (li.toNat : Int)) := by
            have h8 := HM.out.cell (i := i) (by rw [mix_len hz64 hl64 hi64]; exact hi2)
            have h7 := mix_get hz64 hl64 hi2
            rw [List.getElem?_eq_getElem (by rw [mix_len hz64 hl64 hi64]; exact hi2)] at h7
            rw [h8, Option.some.inj h7, hli]
          have f0 := HM.out.frz (i := i)
          have hle : wy.heap.size ≤ G := by rw [HG.out]; exact Nat.le_refl _
          by_cases hin : off ≤ (F + j) * 64 + i ∧ (F + j) * 64 + i < off + d.length
          · rw [if_pos hin] at hwg
            obtain ⟨q9, hq9⟩ : ∃ q9, q9 = (F + j) * 64 + i - off := ⟨_, rfl⟩
            have pe : ((F : Int) + (j : Int)) * 64 + (i : Int) - (off : Int) = (q9 : Int) := by omega
            have pl : (q9 : Int) < (data.size : Int) := by have := HDL2.out; omega
            obtain ⟨hb9, hck⟩ := str_at (s := data) (j := q9) (c := zi) (by rw [← HD.out, hq9]; exact hwg.symm)
            have HMU : Hid (∀ W : World, W.heap = wz.heap → BAt (W.setCell ⟨G, i, none⟩ (.int .u8 (zi.toNat : Int))) G (z.take (i + 1) ++ l.drop (i + 1))) := Lib.hid (fun W hW => by
              have h7 : BAt W G (z.take i ++ l.drop i) := by have := HM.out; unfold BAt at this ⊢; rw [hW]; exact this
              have h8 := h7.set (i := i) zi
              rw [hzi, mix_set hz64 hl64 hi2] at h8
              rw [hzi]
              exact h8)
            have HBU : Hid (∀ q : Nat, Below G wy ((wz.drewN q).setCell ⟨G, i, none⟩ (.int .u8 (zi.toNat : Int)))) := Lib.hid (fun q => (below_drewN HBM.out q).setCell (p := ⟨G, i, none⟩) (Nat.le_refl _) _)
            obtain ⟨D, hD⟩ : ∃ D, D = difB z l i := ⟨_, rfl⟩
            rw [← hD] at HSU ⊢
            clear hwg hzi hli hll hD hq9 hin HM HBM
            cases hE : (((li.toNat : Int)) != ((zi.toNat : Int))) with
            | true =>
              have hne : decide (li ≠ zi) = true := by
                have : ¬ ((li.toNat : Int) = (zi.toNat : Int)) := by simpa using hE
                exact decide_eq_true (fun e => this (by rw [e]))
              have HSV : Hid (difB z l (i + 1) = true) := Lib.hid (by rw [HSU.out, hne]; simp)
              clear HSU hne
              cases D with
              | true =>
                go_wp2_with fail
                go_quiet (fail)
                have HM3 := Lib.hid (HMU.out (wz.drewN nq) rfl)
                have HB3 := Lib.hid (HBU.out nq)
                obtain ⟨wq, hwq⟩ : ∃ wq, wq = wz.drewN nq := ⟨_, rfl⟩
                have c0q : wq.cell? ⟨G, i, none⟩ = some (.int .u8 (li.toNat : Int)) := by rw [hwq]; exact c0
                have f0q : wq.frozen? ⟨G, i, none⟩ = false := by rw [hwq]; exact f0
                rw [← hwq] at HM3 HB3 ⊢
                clear hwq c0 f0 HMU HBU
                go_wp2_with fail
                exact ⟨⟨i + 1, by omega, by go_num, by rw [HSV.out], HM3, HB3⟩, by simp [intOf]; omega⟩
              | false =>
                go_wp2_with fail
                go_quiet (fail)
                have HM3 := Lib.hid (HMU.out (wz.drewN nq) rfl)
                have HB3 := Lib.hid (HBU.out nq)
                obtain ⟨wq, hwq⟩ : ∃ wq, wq = wz.drewN nq := ⟨_, rfl⟩
                have c0q : wq.cell? ⟨G, i, none⟩ = some (.int .u8 (li.toNat : Int)) := by rw [hwq]; exact c0
                have f0q : wq.frozen? ⟨G, i, none⟩ = false := by rw [hwq]; exact f0
                rw [← hwq] at HM3 HB3 ⊢
                clear hwq c0 f0 HMU HBU
                go_wp2_with fail
                exact ⟨⟨i + 1, by omega, by go_num, by rw [HSV.out], HM3, HB3⟩, by simp [intOf]; omega⟩
            | false =>
              have hne : decide (li ≠ zi) = false := by
                have h9 : (li.toNat : Int) = (zi.toNat : Int) := by simpa using hE
                exact decide_eq_false (fun e => e (UInt8.toNat_inj.1 (by omega)))
              have HSV : Hid (difB z l (i + 1) = D) := Lib.hid (by rw [HSU.out, hne]; simp)
              clear HSU hne
              cases D with
              | true =>
                go_wp2_with fail
                go_quiet (fail)
                have HM3 := Lib.hid (HMU.out (wz.drewN nq) rfl)
                have HB3 := Lib.hid (HBU.out nq)
                obtain ⟨wq, hwq⟩ : ∃ wq, wq = wz.drewN nq := ⟨_, rfl⟩
                have c0q : wq.cell? ⟨G, i, none⟩ = some (.int .u8 (li.toNat : Int)) := by rw [hwq]; exact c0
                have f0q : wq.frozen? ⟨G, i, none⟩ = false := by rw [hwq]; exact f0
                rw [← hwq] at HM3 HB3 ⊢
                clear hwq c0 f0 HMU HBU
                go_wp2_with fail
                exact ⟨⟨i + 1, by omega, by go_num, by rw [HSV.out], HM3, HB3⟩, by simp [intOf]; omega⟩
              | false =>
                go_wp2_with fail
                go_quiet (fail)
                have HM3 := Lib.hid (HMU.out (wz.drewN nq) rfl)
                have HB3 := Lib.hid (HBU.out nq)
                obtain ⟨wq, hwq⟩ : ∃ wq, wq = wz.drewN nq := ⟨_, rfl⟩
                have c0q : wq.cell? ⟨G, i, none⟩ = some (.int .u8 (li.toNat : Int)) := by rw [hwq]; exact c0
                have f0q : wq.frozen? ⟨G, i, none⟩ = false := by rw [hwq]; exact f0
                rw [← hwq] at HM3 HB3 ⊢
                clear hwq c0 f0 HMU HBU
                go_wp2_with fail
                exact ⟨⟨i + 1, by omega, by go_num, by rw [HSV.out], HM3, HB3⟩, by simp [intOf]; omega⟩
          · rw [if_neg hin] at hwg
            have heq : zi = li := Option.some.inj hwg
            have HSV : Hid (difB z l (i + 1) = difB z l i) := Lib.hid (by rw [HSU.out, heq]; simp)
            have HM3 : Hid (BAt wz G (z.take (i + 1) ++ l.drop (i + 1))) := Lib.hid (by rw [mix_same hz64 hl64 hi2 (by rw [← hzi, ← hli]; exact heq)]; exact HM.out)
            obtain ⟨D, hD⟩ : ∃ D, D = difB z l i := ⟨_, rfl⟩
            rw [← hD] at HSV ⊢
            have hc : ((F : Int) + (j : Int)) * 64 + (i : Int) - (off : Int) < 0 ∨ (0 ≤ ((F : Int) + (j : Int)) * 64 + (i : Int) - (off : Int) ∧ (data.size : Int) ≤ ((F : Int) + (j : Int)) * 64 + (i : Int) - (off : Int)) := by have := HDL2.out; omega
            obtain ⟨pq, hpq⟩ : ∃ pq : Int, ((F : Int) + (j : Int)) * 64 + (i : Int) - (off : Int) = pq := ⟨_, rfl⟩
            rw [hpq] at hc
            clear hwg heq hzi hli hll hD hin HM HSU
            rcases hc with hc | ⟨hc1, hc2⟩
            · go_wp2_with fail
              exact ⟨⟨i + 1, by omega, by go_num, by rw [HSV.out], HM3, HBM⟩, by simp [intOf]; omega⟩
            · go_wp2_with fail
              exact ⟨⟨i + 1, by omega, by go_num, by rw [HSV.out], HM3, HBM⟩, by simp [intOf]; omega⟩
        · have g3 : ¬ (i : Int) < 64 := by omega
          obtain rfl : i = 64 := by omega
          have hll := HL.out
          have hl64 : l.length = 64 := by rw [hll]; exact pieceL_len _
          have hz64 : z.length = 64 := by rw [HZ.out]; exact wrL_len _ _ _ _ (by have := HFT.out; omega)
          have HMZ : Hid (BAt wz G z) := Lib.hid (by have := HM.out; rwa [List.take_of_length_le (by omega), List.drop_of_length_le (by omega), List.append_nil] at this)
          have HBE := Lib.hid (below_on HB.out (show Below wy.heap.size wy wz by rw [← HG.out]; exact HBM.out))
          have hdif : difB z l 64 = decide (z ≠ l) := by unfold difB; rw [List.take_of_length_le (by omega), List.take_of_length_le (by omega)]
          have HRZ : Hid (wz.ownsRow w.heap.size 59 3 u13 (rwL off d ps F j).length (rowW n (rwL off d ps F j))) := Lib.hid (ownsRow_below HRY.out (show Below wy.heap.size wy wz by rw [← HG.out]; exact HBM.out))
          have hrw : rwL off d ps F (j + 1) = rwL off d ps F j ++ (if z = l then [] else [(F + j, Lib.trimRightB z 0)]) := by rw [rwL, ← HZ.out, ← hll]
          have HRW := Lib.hid hrw
          rw [hdif]
          clear hll HM hrw hdif HR1 HBW
          by_cases hzl2 : z = l
          · have hd2 : decide (z ≠ l) = false := by simpa using hzl2
            rw [hd2]
            have HRN : Hid (wz.ownsRow w.heap.size 59 3 u13 (rwL off d ps F (j + 1)).length (rowW n (rwL off d ps F (j + 1)))) := Lib.hid (by rw [HRW.out, if_pos hzl2, List.append_nil]; exact HRZ.out)
            clear hd2 hzl2
            go_wp2_with fail
            exact ⟨⟨j + 1, by omega, by go_num, HRN, HBE⟩, by simp [intOf]; omega⟩
          · have hd2 : decide (z ≠ l) = true := by simpa using hzl2
            rw [hd2]
            have hmd := made_any n (F + j) G z wz hn (by omega) hz64 HMZ.out
            rw [show ((F + j : Nat) : Int) = (F : Int) + (j : Int) by omega] at hmd
            obtain ⟨t, ht⟩ : ∃ t, t = Lib.trimRightB z 0 := ⟨_, rfl⟩
            rw [← ht] at hmd
            have hrw2 : rwL off d ps F (j + 1) = rwL off d ps F j ++ [(F + j, t)] := by rw [HRW.out, if_neg hzl2, ht]
            have HRW2 := Lib.hid hrw2
            obtain ⟨X, hX⟩ : ∃ X, X = strB (keyL n (F + j)) := ⟨_, rfl⟩
            obtain ⟨Y, hY⟩ : ∃ Y, Y = strB t := ⟨_, rfl⟩
            obtain ⟨gb, hgb⟩ : ∃ gb, gb = t.isEmpty := ⟨_, rfl⟩
            have hml : (madeL n (F + j) t).toArray = #[.string X, .string Y, .bool gb] := by rw [hX, hY, hgb]; rfl
            rw [hml] at hmd
            have HMD := Lib.hid hmd
            have HML := Lib.hid hml
            obtain ⟨C, hC⟩ : ∃ C, C = rwL off d ps F j := ⟨_, rfl⟩
            rw [← hC] at HRZ
            have hCl : C.length ≤ j := by rw [hC]; exact rwL_len _ _ _ _ _
            rw [← hC] at hrw2
            have HRW3 := Lib.hid hrw2
            clear hmd hml hX hY hgb ht hC hd2 hrw2 HRW HRW2
            go_wp2_with fail
            refine HMD.out.mono ?_; rintro e w3 ⟨rfl, hb3⟩
            have HB3 := Lib.hid (below_on HBE.out hb3)
            have HR3 := Lib.hid (ownsRow_below HRZ.out hb3)
            clear hb3
            go_wp2_with (at_builtin; refine wpList_append_own _ rfl _ _ 45 rfl w.heap.size 59 i0 (.agg #[.string ⟨#[]⟩, .string ⟨#[]⟩, .bool false]) 3 40 (by kernel_rfl) hi hz0 hz1 hz2 rfl (by decide) _ C.length (rowW n C) rfl (HR3.out.alloc _) ⟨w3.heap.size, 0, none⟩ 1 1 [.string X, .string Y, .bool gb] rfl rfl ?c1 ?c2 ?c3 ?c4 ?c5 ?_)
            case c1 =>
              intro i u hu
              rw [add_none0, Nat.zero_add]
              rw [cellsOf_heap (heap_alloc_new w3 _)]
              simpa using hu
            case c2 =>
              intro u hu
              simp only [List.mem_cons, List.not_mem_nil, or_false] at hu
              rcases hu with rfl | rfl | rfl <;> rfl
            case c3 => unfold maxLen; omega
            case c4 => omega
            case c5 => have h6 := HB3.out.size; simp; omega
            intro v' w4 hown' hgrow hnn
            have HR4 : Hid (w4.ownsRow w.heap.size 59 3 v' (rwL off d ps F (j + 1)).length (rowW n (rwL off d ps F (j + 1)))) := Lib.hid (by
              have : rowW n (rwL off d ps F (j + 1)) = rowW n C ++ [.string X, .string Y, .bool gb] := by
                rw [HRW3.out]
                unfold rowW
                rw [List.flatMap_append]
                congr 1
                have h7 := congrArg Array.toList HML.out
                simpa using h7
              rw [this, HRW3.out, List.length_append]
              exact hown')
            have HB4 : Hid (Below w.heap.size w w4) := Lib.hid ((HB3.out.alloc HB3.out.size _).grown hgrow (by have := HB3.out.size; simp; omega) (fun k hk => (HR3.out.lt k hk).1))
            clear hown' hgrow hnn HR3 HML HMD HRW3
            go_wp2
            go_roundw
            case rel => exact ⟨j + 1, by omega, by go_num, HR4, HB4⟩
            case measure => simp [intOf]; omega
    · have hTT := HFT.out
      have g1 : ¬ ((F + j : Nat) : Int) * 64 < (off : Int) + (data.size : Int) := by omega
      have g1' : ¬ ((F : Int) + (j : Int)) * 64 < (off : Int) + (data.size : Int) := by omega
      obtain rfl : j = T - F := by omega
      clear hTT
      by_cases hmx : size < (off : Int) + (data.size : Int)
      · have hmm : max size ((off : Int) + (data.size : Int)) = (off : Int) + (data.size : Int) := by omega
        rw [hmm] at HV
        clear hmm
        go_wp2_with fail
        go_ret3
        exact ⟨_, _, _, _, rfl, HV.out, HR.out, HB.out⟩
      · have hmm : max size ((off : Int) + (data.size : Int)) = size := by omega
        rw [hmm] at HV
        clear hmm
        go_wp2_with fail
        go_ret3
        exact ⟨_, _, _, _, rfl, HV.out, HR.out, HB.out⟩

end Go.Proofs.YthpdmgefdaegmaaDoor
