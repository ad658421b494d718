/- The document's page: the walk. -/
import Derived.Test.YtgfjeaegigjnaaaGreatDoorPagP
namespace Go.Proofs.YtgfjeaegigjnaaaGreatDoor
open Go.RowKit
set_option linter.unusedVariables false
set_option linter.unusedSimpArgs false

theorem own_lit (w : World) (e : TypeId) (xs : Array Value) (n : Nat) (hn : xs.size = n) (hm : n ≤ maxLen) : (w.alloc (.cells xs e)).ownsRow w.heap.size e 1 (.slice (some ⟨w.heap.size, 0, none⟩) n n) n xs.toList :=
  ⟨by simp [hn], .inr ⟨w.heap.size, n, xs, rfl, Nat.le_refl _, heap_alloc_new w _, Nat.le_refl _, hm, by omega, by rw [List.take_of_length_le]; simp [hn]⟩⟩
def lenV : Value → Nat
  | .slice _ n _ => n
  | _ => 0
theorem rep_snoc (j : Nat) : Lib.repeatL [(0 : UInt8)] (j + 1) = Lib.repeatL [0] j ++ [0] := by
  induction j with
  | zero => rfl
  | succ j ih =>
    have h : Lib.repeatL [(0 : UInt8)] (j + 1 + 1) = [0] ++ Lib.repeatL [0] (j + 1) := rfl
    have h2 : Lib.repeatL [(0 : UInt8)] (j + 1) = [0] ++ Lib.repeatL [0] j := rfl
    rw [h]
    conv => lhs; rw [ih]
    rw [h2, List.append_assoc]
theorem encI_le (t K : Nat) (B : List UInt8) (ht : t ≤ 8) : ∀ j, (encI t K B j).length ≤ j * (K + 13)
  | 0 => by simp [encI]
  | j + 1 => by
    have h1 := encI_le t K B ht j
    have h2 : (parS t (bytS (ckL K B j))).data.toList.length ≤ 13 := by
      rw [← Lib.size_eq]; unfold parS; rw [str_size]; unfold parN; omega
    have h3 : (ckL K B j).length ≤ K := by unfold ckL; rw [List.length_take]; omega
    simp only [encI, List.length_append]
    rw [Nat.succ_mul]; omega
set_option maxHeartbeats 3200000 in
set_option maxRecDepth 100000 in
theorem rpage_any (g : Geo) (hg : g.ok) (pl : ByteArray) (hpl : (pl.size : Int) ≤ g.room) (w : World) :
    Calls Tryz.prog 18 #[g.v, .string pl] w fun e w' => e = .returned (.string (bytS (g.pageL pl.data.toList))) ∧ Below w.heap.size w w' := by
  have hroom : g.room = g.C * g.K - 7 := by unfold Geo.room; rw [if_pos hg]
  obtain ⟨b1, b2, b3, b4, b5, b6, b7, b8, b9, b10, b11⟩ := hg
  have m2 := mul4 (c := g.C) (x := g.K) b6 b7 (by omega)
  obtain ⟨Kn, hKn⟩ : ∃ Kn : Nat, g.K = (Kn : Int) := ⟨g.K.toNat, by omega⟩
  obtain ⟨Cn, hCn⟩ : ∃ Cn : Nat, g.C = (Cn : Int) := ⟨g.C.toNat, by omega⟩
  obtain ⟨tn, htn⟩ : ∃ tn : Nat, g.T = (tn : Int) := ⟨g.T.toNat, by omega⟩
  obtain ⟨RM, hRM⟩ : ∃ RM : Nat, g.C * g.K = ((RM + 7 : Nat) : Int) := ⟨(g.C * g.K).toNat - 7, by omega⟩
  have hMN : RM + 7 = Cn * Kn := by
    have : ((RM + 7 : Nat) : Int) = ((Cn * Kn : Nat) : Int) := by rw [Int.natCast_mul, ← hCn, ← hKn]; omega
    exact_mod_cast this
  have hn : pl.size ≤ RM := by omega
  obtain ⟨m, hm⟩ : ∃ m : Nat, m = RM - pl.size := ⟨_, rfl⟩
  have e3 : IntKind.i64.wrap (g.C * g.K) = ((RM + 7 : Nat) : Int) := by rw [hRM, IntKind.wrap_i64]; omega
  have e4 : IntKind.i64.wrap (((RM + 7 : Nat) : Int) - 4) = ((RM + 3 : Nat) : Int) := by rw [IntKind.wrap_i64]; omega
  have hRM2 : RM ≤ 1017 := by omega
  have hl1 : (bodyL RM pl.data.toList).length = RM + 7 := bodyL_length (by simpa using hn)
  have hV : g.pageL pl.data.toList = encI tn Kn (bodyL RM pl.data.toList) Cn := by
    unfold Geo.pageL
    rw [hroom, hRM, htn, hKn, hCn]
    have : ((((RM + 7 : Nat) : Int) - 7).toNat) = RM := by omega
    rw [this]; rfl
  have hB : sealL ([0, 0, 0] ++ pl.data.toList ++ Lib.repeatL [0] m) = bodyL RM pl.data.toList := by
    unfold bodyL; rw [hm]; simp
  obtain ⟨BL, hBL⟩ : ∃ BL, BL = bodyL RM pl.data.toList := ⟨_, rfl⟩
  rw [← hBL] at hl1 hV hB
  have HV := Lib.hid hV
  have HL1 := Lib.hid hl1
  have HMN := Lib.hid hMN
  have HBB := Lib.hid hB
  have HM := Lib.hid hm
  have hps : pl.data.toList.length = pl.size := by simp
  have HPS := Lib.hid hps
  have HENC := Lib.hid (fun s hs w => rencode_any tn (by omega) (by omega) s hs w)
  have ht8 : tn ≤ 8 := by omega
  have hC4 : Cn ≤ 4 := by omega
  have hK256 : Kn ≤ 256 := by omega
  have hm2 : m ≤ 1017 := by omega
  have hnm : pl.size + m = RM := by omega
  rw [hKn, hCn] at e3
  obtain ⟨gb, gp, gc, gk, gt⟩ := g
  unfold Geo.v
  dsimp only at hKn hCn htn
  subst hKn hCn htn
  clear b1 b2 b3 b4 b5 b6 b7 b8 b9 b10 b11 hMN hl1 hV hBL hm hroom hpl m2 hRM hB hps
  obtain ⟨i0, hi, hz0, hz1, hz2⟩ := info_parts (show (Tryz.prog.info? 5).map (fun i => (i.zero, i.size, i.bytes)) = some (some (.int .u8 0), 1, 1) by kernel_rfl)
  go_enter Tryz.func18, Tryz.ntmps18
  have HB0 : Hid (Below w.heap.size w (w.alloc (.cells #[.int .i64 gb, .int .i64 gp, .int .i64 (Cn : Int), .int .i64 (Kn : Int), .int .i64 (tn : Int)] 26))) := Lib.hid ((Below.refl _ _).alloc (Nat.le_refl _) _)
  have hc2 : (w.alloc (.cells #[.int .i64 gb, .int .i64 gp, .int .i64 (Cn : Int), .int .i64 (Kn : Int), .int .i64 (tn : Int)] 26)).cell? ⟨w.heap.size, 2, none⟩ = some (.int .i64 (Cn : Int)) := World.cell?_alloc_new _ _ _ _
  have hc3 : (w.alloc (.cells #[.int .i64 gb, .int .i64 gp, .int .i64 (Cn : Int), .int .i64 (Kn : Int), .int .i64 (tn : Int)] 26)).cell? ⟨w.heap.size, 3, none⟩ = some (.int .i64 (Kn : Int)) := World.cell?_alloc_new _ _ _ _
  have hc4 : (w.alloc (.cells #[.int .i64 gb, .int .i64 gp, .int .i64 (Cn : Int), .int .i64 (Kn : Int), .int .i64 (tn : Int)] 26)).cell? ⟨w.heap.size, 4, none⟩ = some (.int .i64 (tn : Int)) := World.cell?_alloc_new _ _ _ _
  have hsz1 : (w.alloc (.cells #[.int .i64 gb, .int .i64 gp, .int .i64 (Cn : Int), .int .i64 (Kn : Int), .int .i64 (tn : Int)] 26)).heap.size = w.heap.size + 1 := by simp
  have HCC := Lib.hid (And.intro hc2 (And.intro hc3 hc4))
  have HS1 := Lib.hid hsz1
  clear hc2 hc3 hc4 hsz1
  go_upto_region 1 with fail
  generalize (w.alloc (.cells #[.int .i64 gb, .int .i64 gp, .int .i64 (Cn : Int), .int .i64 (Kn : Int), .int .i64 (tn : Int)] 26)) = w1 at *
  have HO : Hid ((w1.alloc (.cells #[.int .u8 0, .int .u8 0, .int .u8 0] 5)).ownsRow w1.heap.size 5 1 (.slice (some ⟨w1.heap.size, 0, none⟩) 3 3) 3 (Lib.byteCells [0, 0, 0])) := Lib.hid (own_lit w1 5 #[.int .u8 0, .int .u8 0, .int .u8 0] 3 rfl (by decide))
  go_wp2_with (at_builtin; refine Lib.wpList_append_own_string _ rfl _ _ 47 9 rfl w1.heap.size 5 i0 (by kernel_rfl) (by kernel_rfl) hi hz0 hz1 hz2 _ _ _ rfl HO.out pl rfl ?c3 ?c4 ?c5 ?_)
  case c3 => unfold maxLen; omega
  case c4 => omega
  case c5 => simp
  intro v2 w2 hown2 hgrow2 _
  have HB2 : Hid (Below w1.heap.size w1 w2) := Lib.hid (((Below.refl _ _).alloc (Nat.le_refl _) _).grown hgrow2 (by simp) (fun q hq => (HO.out.lt q hq).1))
  have HO2 : Hid (w2.ownsRow w1.heap.size 5 1 v2 (3 + pl.size) (Lib.byteCells ([0, 0, 0] ++ pl.data.toList ++ Lib.repeatL [0] 0))) := Lib.hid (by
    have : Lib.byteCells ([0, 0, 0] ++ pl.data.toList ++ Lib.repeatL [0] 0) = Lib.byteCells [0, 0, 0] ++ Lib.strCells pl := by simp [Lib.byteCells, Lib.strCells, Lib.repeatL]
    rw [this]; exact hown2)
  obtain ⟨g2, cp2, hv2, _, _⟩ := own_form HO2.out (by omega)
  subst hv2
  clear hown2 hgrow2 HO
  go_wp2_with fail
  go_loopw [5] (fun bv wr => ∃ (j gz cz : Nat), j ≤ m ∧ bv = .slice (some ⟨gz, 0, none⟩) (3 + pl.size + j) cz ∧ Hid (wr.ownsRow w1.heap.size 5 1 (.slice (some ⟨gz, 0, none⟩) (3 + pl.size + j) cz) (3 + pl.size + j) (Lib.byteCells ([0, 0, 0] ++ pl.data.toList ++ Lib.repeatL [0] j))) ∧ Hid (Below w1.heap.size w1 wr)) (fun bv _ => RM + 4 - lenV bv)
  case atStart => exact ⟨0, g2, cp2, Nat.zero_le _, rfl, HO2, HB2⟩
  case round =>
    obtain ⟨j, gz, cz, hj, rfl, HOz, HBz⟩ := hrel
    clear HO2 HB2
    obtain ⟨wz, rfl⟩ : ∃ wz : World, wz = wr := ⟨_, rfl⟩
    have k2 := HBz.out.cell (p := ⟨w.heap.size, 2, none⟩) (by rw [HS1.out]; exact Nat.lt_succ_self _)
    rw [HCC.out.1] at k2
    have k3 := HBz.out.cell (p := ⟨w.heap.size, 3, none⟩) (by rw [HS1.out]; exact Nat.lt_succ_self _)
    rw [HCC.out.2.1] at k3
    by_cases hlt : j < m
    · have hltI : ((3 + pl.size + j : Nat) : Int) < ((RM + 3 : Nat) : Int) := by omega
      have HN : Hid (Lib.byteCells ([0, 0, 0] ++ pl.data.toList ++ Lib.repeatL [0] (j + 1)) = Lib.byteCells ([0, 0, 0] ++ pl.data.toList ++ Lib.repeatL [0] j) ++ [.int .u8 0]) := Lib.hid (by
        rw [rep_snoc, ← List.append_assoc]; simp [Lib.byteCells])
      go_wp2_with (at_builtin; refine wpList_append_own _ rfl _ _ 47 rfl w1.heap.size 5 i0 (.int .u8 0) 1 1 (by kernel_rfl) hi hz0 hz1 hz2 rfl (by decide) _ _ _ rfl (HOz.out.alloc _) ⟨wz.heap.size, 0, none⟩ 1 1 [.int .u8 0] rfl rfl ?d1 ?d2 ?d3 ?d4 ?d5 ?_)
      case d1 =>
        intro u x hx
        obtain rfl : u = 0 := by
          rcases u with _ | u
          · rfl
          · simp at hx
        obtain rfl : Value.int .u8 0 = x := by simpa using hx
        rw [addr_add0, World.cell?_alloc_new]; rfl
      case d2 => intro u hu; simp at hu; subst hu; rfl
      case d3 => unfold maxLen; omega
      case d4 => omega
      case d5 => have := HBz.out.size; simp; omega
      intro v3 w3 hown3 hgrow3 _
      have HB3 : Hid (Below w1.heap.size w1 w3) := Lib.hid ((HBz.out.alloc HBz.out.size _).grown hgrow3 (by have := HBz.out.size; simp; omega) (fun q hq => (HOz.out.lt q hq).1))
      have HO3 : Hid (w3.ownsRow w1.heap.size 5 1 v3 (3 + pl.size + (j + 1)) (Lib.byteCells ([0, 0, 0] ++ pl.data.toList ++ Lib.repeatL [0] (j + 1)))) := Lib.hid (by rw [HN.out]; exact hown3)
      obtain ⟨g3, cp3, hv3, _, _⟩ := own_form HO3.out (by omega)
      subst hv3
      clear hown3 hgrow3 HOz HBz
      go_wp2_with fail
      go_roundw
      case rel => exact ⟨j + 1, g3, cp3, by omega, rfl, HO3, HB3⟩
      case measure => show RM + 4 - (3 + pl.size + (j + 1)) < RM + 4 - (3 + pl.size + j); omega
    · obtain rfl : j = m := by omega
      have hnlI : ¬ ((3 + pl.size + j : Nat) : Int) < ((RM + 3 : Nat) : Int) := by omega
      obtain ⟨SB0, hSB⟩ : ∃ l, l = [0, 0, 0] ++ pl.data.toList ++ Lib.repeatL [0] j := ⟨_, rfl⟩
      have hsl : SB0.length = 3 + pl.size + j := by rw [hSB, List.length_append, List.length_append, HPS.out, repeatL_len]; rfl
      rw [← hSB] at HOz
      have hbb := HBB.out
      rw [← hSB] at hbb
      have hsm : (bytS SB0).size ≤ 1000000 := by rw [bytS_size]; omega
      have HSE : Hid (∀ w, Calls Tryz.prog 37 #[.string (bytS SB0)] w fun e w' => e = .returned (.string (bytS BL)) ∧ Below w.heap.size w w') := Lib.hid (fun w => by
        have h := rseal_any (bytS SB0) hsm w
        rw [bytS_list, hbb] at h
        exact h)
      have HOT : Hid (OwnT wz w1.heap.size (.slice (some ⟨gz, 0, none⟩) (3 + pl.size + j) cz) SB0) := Lib.hid (OwnT.of_own (by rw [hsl]; exact HOz.out) (fun e => by rw [e] at hsl; simp at hsl; omega))
      have hcs : (convert 47 9 (.slice (some ⟨gz, 0, none⟩) (3 + pl.size + j) cz)).run Tryz.prog wz = .ok (.string (bytS SB0)) wz := by
        have := OwnT.string (cap := cz) gz (by rw [hsl]; exact HOT.out)
        rw [hsl] at this
        exact this
      clear hSB hsl hbb hsm HOz HOT
      go_wp2_with fail
      go_at_call 37
      refine (HSE.out _).mono ?_
      rintro e w4 ⟨rfl, hb4⟩
      have HB4 : Hid (Below w1.heap.size w1 w4) := Lib.hid (HBz.out.trans (hb4.mono HBz.out.size))
      clear hb4 HSE HBz hcs k2 k3
      go_wp2_with fail
      go_loopw [7, 8] (fun ov iv wr => ∃ i : Nat, i ≤ Cn ∧ iv = .int .i64 (i : Int) ∧ ov = .string (bytS (encI tn Kn BL i)) ∧ Hid (Below w1.heap.size w1 wr)) (fun _ iv _ => Cn - (intOf iv).toNat)
      case atStart => exact ⟨0, Nat.zero_le _, rfl, rfl, HB4⟩
      case round =>
        obtain ⟨i, hi2, rfl, rfl, HBr⟩ := hrel
        clear HB4
        obtain ⟨wx, rfl⟩ : ∃ wx : World, wx = wr := ⟨_, rfl⟩
        have k2 := HBr.out.cell (p := ⟨w.heap.size, 2, none⟩) (by rw [HS1.out]; exact Nat.lt_succ_self _)
        rw [HCC.out.1] at k2
        have k3 := HBr.out.cell (p := ⟨w.heap.size, 3, none⟩) (by rw [HS1.out]; exact Nat.lt_succ_self _)
        rw [HCC.out.2.1] at k3
        have k4 := HBr.out.cell (p := ⟨w.heap.size, 4, none⟩) (by rw [HS1.out]; exact Nat.lt_succ_self _)
        rw [HCC.out.2.2] at k4
        by_cases hlt : i < Cn
        · have hltI : (i : Int) < (Cn : Int) := by omega
          have hle : (i + 1) * Kn ≤ Cn * Kn := Nat.mul_le_mul_right _ hlt
          have hcl : (ckL Kn BL i).length = Kn := ckL_length hlt (by rw [HL1.out, HMN.out])
          have f1 : IntKind.i64.wrap ((i : Int) * (Kn : Int)) = ((i * Kn : Nat) : Int) := by
            have : i * Kn ≤ 4 * 256 := Nat.mul_le_mul (by omega) hK256
            rw [← Int.natCast_mul, IntKind.wrap_i64]; omega
          have f2 : IntKind.i64.wrap (((i : Int) + 1) * (Kn : Int)) = ((i * Kn + Kn : Nat) : Int) := by
            have : i * Kn ≤ 4 * 256 := Nat.mul_le_mul (by omega) hK256
            have e : ((i : Int) + 1) * (Kn : Int) = ((i * Kn + Kn : Nat) : Int) := by rw [Int.add_mul, Int.one_mul, Int.natCast_add, Int.natCast_mul]
            rw [e, IntKind.wrap_i64]; omega
          rw [Nat.succ_mul] at hle
          have hbz : (bytS BL).size = RM + 7 := by rw [bytS_size, HL1.out]
          have hfit : i * Kn + Kn ≤ RM + 7 := by rw [HMN.out]; exact hle
          have hxt : (bytS BL).extract (i * Kn) (i * Kn + Kn) = bytS (ckL Kn BL i) := by rw [bytS_extract, Nat.add_sub_cancel_left]; rfl
          have HNE : Hid (encI tn Kn BL (i + 1) = encI tn Kn BL i ++ (ckL Kn BL i ++ (parS tn (bytS (ckL Kn BL i))).data.toList)) := Lib.hid rfl
          have hpz : (parS tn (bytS (ckL Kn BL i))).size ≤ 13 := by unfold parS; rw [str_size]; unfold parN; omega
          have hez := encI_le tn Kn BL ht8 i
          have hez2 : i * (Kn + 13) ≤ 4 * 300 := Nat.mul_le_mul (by omega) (by omega)
          have HEN := Lib.hid (HENC.out (bytS (ckL Kn BL i)) (by rw [bytS_size]; omega))
          have hcz : (bytS (ckL Kn BL i)).size = Kn := by rw [bytS_size]; exact hcl
          have hoz : (bytS (encI tn Kn BL i)).size ≤ 1200 := by rw [bytS_size]; omega
          have hapd : bytS (encI tn Kn BL i) ++ (bytS (ckL Kn BL i) ++ parS tn (bytS (ckL Kn BL i))) = bytS (encI tn Kn BL (i + 1)) := by
            rw [HNE.out, cat_bytS, cat_bytS, bytS_list, bytS_list, bytS_list]
          obtain ⟨IK, hIK⟩ : ∃ IK, IK = i * Kn := ⟨_, rfl⟩
          rw [← hIK] at f1 f2 hfit hxt
          obtain ⟨PS, hPS⟩ : ∃ PS, PS = parS tn (bytS (ckL Kn BL i)) := ⟨_, rfl⟩
          rw [← hPS] at hpz HEN hapd
          obtain ⟨CK, hCK⟩ : ∃ CK, CK = bytS (ckL Kn BL i) := ⟨_, rfl⟩
          rw [← hCK] at hxt HEN hcz hapd
          obtain ⟨OS, hOS⟩ : ∃ OS, OS = bytS (encI tn Kn BL i) := ⟨_, rfl⟩
          rw [← hOS] at hoz hapd
          rw [← hOS]
          obtain ⟨BB, hBB⟩ : ∃ BB, BB = bytS BL := ⟨_, rfl⟩
          rw [← hBB] at hbz hxt
          rw [← hBB]
          have HAP := Lib.hid hapd
          have q1 : ¬ 9223372036854775807 < Kn + PS.size := by omega
          have q2 : ¬ 9223372036854775807 < CK.size + PS.size := by omega
          have q3 : ¬ 9223372036854775807 < OS.size + (Kn + PS.size) := by omega
          have q4 : ¬ 9223372036854775807 < OS.size + (CK ++ PS).size := by rw [ByteArray.size_append]; omega
          obtain ⟨EK, hEK⟩ : ∃ EK, EK = IK + Kn := ⟨_, rfl⟩
          rw [← hEK] at f2 hxt hfit
          have q5 : (IK : Int) ≤ (EK : Int) := by omega
          have q6 : (EK : Int) ≤ (BB.size : Int) := by omega
          have q7 : IK ≤ EK := by omega
          have q8 : EK ≤ BB.size := by omega
          have q9 : (0 : Int) ≤ (IK : Int) := by omega
          have HEK := Lib.hid hEK
          clear hapd hBB hOS hCK hPS hIK hez hez2 hle hcl hEK hbz hfit hcz
          go_wp2_with fail
          go_at_call 38
          refine (HEN.out _).mono ?_
          rintro e w5 ⟨rfl, hb5⟩
          have HB5 : Hid (Below w1.heap.size w1 w5) := Lib.hid (HBr.out.trans (hb5.mono HBr.out.size))
          clear hb5 HBr k2 k3 k4 HEN
          go_wp2_with fail
          rw [HAP.out]
          go_roundw
          case rel => exact ⟨i + 1, by omega, by go_num, rfl, HB5⟩
          case measure => simp [intOf]; omega
        · obtain rfl : i = Cn := by omega
          have HBF : Hid (Below w.heap.size w wx) := Lib.hid (HB0.out.trans (HBr.out.mono (by rw [HS1.out]; omega)))
          go_wp2_with fail
          go_ret
          exact ⟨by rw [HV.out]; rfl, HBF.out⟩
end Go.Proofs.YtgfjeaegigjnaaaGreatDoor
