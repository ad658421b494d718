/- The document's parity. -/
import Derived.Test.YtldekkniammllaaCodG
namespace Go.Proofs.Ytldekkniammllaa
open Go.RowKit
set_option linter.unusedVariables false
set_option linter.unusedSimpArgs false

/-- A row of T bits, the highest first. -/
def BitRow (w : World) (g T B : Nat) : Prop := Row w g T (fun j => .int .i64 ((if B.testBit (T - 1 - j) then 1 else 0 : Nat) : Int))
theorem BitRow.flip {w : World} {g T B p : Nat} (h : BitRow w g T B) (hp : p < T) : BitRow (w.setCell ⟨g, p, none⟩ (.int .i64 (((if B.testBit (T - 1 - p) then 1 else 0) ^^^ 1 : Nat) : Int))) g T (B ^^^ 2 ^ (T - 1 - p)) := by
  refine (Row.set h _ _).congr fun j hj => ?_
  rw [Nat.testBit_xor, Nat.testBit_two_pow]
  by_cases h1 : j = p
  · subst h1; rw [upd_same]
    cases B.testBit (T - 1 - j) <;> simp
  · rw [upd_other _ _ h1]
    have : ¬ (T - 1 - p = T - 1 - j) := by omega
    simp [this]
theorem BitRow.of_own {w : World} {Bs g T cap B : Nat} (h : w.ownsRow Bs 3 1 (.slice (some ⟨g, 0, none⟩) T cap) T ((bitL B T).map intV)) : BitRow w g T B :=
  ⟨fun j hj => by
    rw [h.cellAt j (by omega), List.getElem?_map, List.getElem?_eq_getElem (by rw [bitL_length]; exact hj)]
    have := bitL_get B T j hj
    rw [List.getD_eq_getElem?_getD, List.getElem?_eq_getElem (by rw [bitL_length]; exact hj)] at this
    rw [Option.getD_some] at this
    rw [this]; rfl, h.frozenAt⟩

set_option maxHeartbeats 6400000 in
set_option maxRecDepth 100000 in
theorem rencode_any (t : Nat) (ht1 : 1 ≤ t) (ht8 : t ≤ 8) (s : ByteArray) (hs : s.size ≤ 1000) (w : World) :
    Calls Try.prog 14 #[.int .i64 (t : Int), .string s] w fun x w' => x = .returned (.string (parS t s)) ∧ Below w.heap.size w w' := by
  obtain ⟨i0, hi0, hz0, hz1, hz2⟩ := info_parts info_int
  have HGEN := Lib.hid (rgenerator_any t ht1 ht8 w)
  have hsl : s.data.toList.length = s.size := by simp
  have hDlt := numB_lt s.data.toList
  rw [hsl] at hDlt
  have HBT := fun w => rbitsT_any s (by omega) w
  have hps := par_spare t
  have hend := div_end (n := parN t) (s := spare t) (d := 13 * t) (G := genA t) (M := 8 * s.size) hps (by omega) (by rw [← gen_log (show t < 9 by omega)]; exact Nat.lt_log2_self) (by rw [← gen_log (show t < 9 by omega)]; exact Nat.testBit_log2 (gen_ne (by omega))) (numB s.data.toList) hDlt
  have hpar : parS t s = strOf ((13 * t + 7) / 8) (docI (genA t) (13 * t) (8 * s.size + 13 * t) (numB s.data.toList <<< (13 * t)) (8 * s.size) <<< (8 * ((13 * t + 7) / 8) - 13 * t)) := by
    unfold parS
    rw [show lowN t = ((genA t) ^^^ 2 ^ (13 * t)) <<< spare t from rfl, hend.2]
    rfl
  obtain ⟨D, hD⟩ : ∃ D, D = numB s.data.toList := ⟨_, rfl⟩
  obtain ⟨M, hM⟩ : ∃ M, M = 8 * s.size := ⟨_, rfl⟩
  obtain ⟨d, hd⟩ : ∃ d, d = 13 * t := ⟨_, rfl⟩
  rw [← hD, ← hM, ← hd] at hpar hend
  rw [hpar]
  have hdr := hend.1
  have hM8 : M ≤ 8000 := by omega
  have hd13 : 13 ≤ d := by omega
  have hd104 : d ≤ 104 := by omega
  have htr := terms_rest (show t < 9 by omega)
  have hts := terms_sum (genA t)
  have hte : ∀ e ∈ terms (genA t), e ≤ 13 * t := fun e he => by have := terms_le he; rw [gen_log (by omega)] at this; exact this
  have htl : (terms (genA t)).length ≤ 105 := by have := terms_length (genA t); rw [gen_log (by omega)] at this; omega
  have htn := terms_ne (gen_ne (show t < 9 by omega))
  have HBT2 : Hid (∀ w, Calls Try.prog 21 #[.string s] w fun x w' => ∃ v, x = .returned v ∧ w'.ownsRow w.heap.size 3 1 v M ((bitL D M).map intV) ∧ Below w.heap.size w w') := Lib.hid (fun w => by rw [hM, hD]; exact HBT w)
  obtain ⟨G, hG⟩ : ∃ G, G = genA t := ⟨_, rfl⟩
  have HGEN2 : Hid (Calls Try.prog 20 #[.int .i64 (t : Int)] w fun x w' => ∃ v, x = .returned v ∧ PolyIn w' w.heap.size v G ∧ Below w.heap.size w w') := Lib.hid (by rw [hG]; exact HGEN.out)
  rw [← hG] at hts hte htl htr htn hdr
  rw [← hG]
  rw [← hd] at hte htr
  obtain ⟨LG, hLG⟩ : ∃ LG, LG = terms G := ⟨_, rfl⟩
  rw [← hLG] at hts hte htl htr htn
  have hlg0 : LG.getD 0 0 = d := by rw [htr]; rfl
  have HTS := Lib.hid hts
  have HTE := Lib.hid hte
  have HTN := Lib.hid htn
  have HLG := Lib.hid hLG
  have HLG0 := Lib.hid hlg0
  have HDR := Lib.hid hdr
  have hlgp : 0 < LG.length := List.length_pos_iff.mpr htn
  clear HGEN HBT hsl hDlt hps hend hpar hD hM hd htr hts hte htn hG hLG hlg0 hdr
  go_enter Try.func14, Try.ntmps14
  go_wp2_with fail
  go_at_call 20
  refine HGEN2.out.mono ?_
  rintro x w1 ⟨gv, rfl, hgp, hb1⟩
  obtain ⟨gg, cg, rfl, hgg1, hgg2, hgi⟩ := own_row (L := LG) (by have := hgp; unfold PolyIn at this; rw [← HLG.out] at this; exact this) rfl HTN.out
  have c0 : w1.cell? ⟨gg, 0, none⟩ = some (.int .i64 (d : Int)) := by
    have := hgi 0 hlgp
    rw [HLG0.out] at this
    exact this
  have HGI := Lib.hid hgi
  have HB1 := Lib.hid hb1
  have hsz1 := hb1.size
  clear hgp hgi hb1 HGEN2
  go_wp2_with fail
  go_at_call 21
  refine (HBT2.out w1).mono ?_
  rintro x w2 ⟨bv, rfl, hbo, hb2⟩
  have HO2 := Lib.hid hbo
  have HB2 := Lib.hid hb2
  clear hbo hb2 HBT2 c0
  go_wp2_with fail
  go_loopw [7, 8] (fun v iv wr => ∃ i : Nat, i ≤ d ∧ iv = .int .i64 (i : Int) ∧ Hid (wr.ownsRow w1.heap.size 3 1 v (M + i) ((bitL (D <<< i) (M + i)).map intV)) ∧ Hid (Below w1.heap.size w1 wr)) (fun _ iv _ => d - (intOf iv).toNat)
  case atStart => exact ⟨0, Nat.zero_le _, rfl, Lib.hid (by have := HO2.out; simpa using this), HB2⟩
  case round =>
    obtain ⟨i, hid, rfl, HO, HB⟩ := hrel
    obtain ⟨wq, rfl⟩ : ∃ wq : World, wq = wr := ⟨_, rfl⟩
    by_cases hlt : i < d
    · have hltI : (i : Int) < (d : Int) := by omega
      have hMi : M + i + 1 ≤ 10000 := by omega
      go_wp2_with (at_builtin; refine wpList_append_own _ rfl _ _ 34 rfl w1.heap.size 3 i0 (.int .i64 0) 1 8 (by kernel_rfl) hi0 hz0 hz1 hz2 rfl (by decide) _ _ _ rfl (HO.out.alloc _) ⟨wq.heap.size, 0, none⟩ 1 1 [.int .i64 0] rfl rfl ?c1 ?c2 ?c3 ?c4 ?c5 ?_)
      case c1 =>
        intro i u hu
        cases i with
        | zero => simp at hu; subst hu; simp [Addr.add]
        | succ i => simp at hu
      case c2 => intro u hu; simp at hu; subst hu; rfl
      case c3 => unfold maxLen; omega
      case c4 => omega
      case c5 => have := HB.out.size; simp; omega
      intro v' w3 hown' hgrow _
      have HB4 : Hid (Below w1.heap.size w1 w3) := Lib.hid ((HB.out.alloc HB.out.size _).grown hgrow (by have := HB.out.size; simp; omega) (fun q hq => (HO.out.lt q hq).1))
      have HO4 : Hid (w3.ownsRow w1.heap.size 3 1 v' (M + (i + 1)) ((bitL (D <<< (i + 1)) (M + (i + 1))).map intV)) := Lib.hid (by
        have e1 : (D <<< (i + 1)) / 2 = D <<< i := by
          rw [Nat.shiftLeft_eq, Nat.shiftLeft_eq, Nat.pow_succ, ← Nat.mul_assoc]
          exact Nat.mul_div_cancel _ (by decide)
        have e2 : (D <<< (i + 1)).testBit 0 = false := by rw [Nat.testBit_shiftLeft]; simp
        rw [← Nat.add_assoc, bitL_snoc, e1, e2, List.map_append]
        exact hown')
      clear hown' hgrow
      go_wp2_with fail
      go_roundw
      case rel => exact ⟨i + 1, by omega, by go_num, HO4, HB4⟩
      case measure => simp [intOf]; omega
    · obtain rfl : d = i := by omega
      obtain ⟨T, hT⟩ : ∃ T, T = M + d := ⟨_, rfl⟩
      rw [← hT] at HO
      obtain ⟨gb, cb, hbv, hgb1, hcb⟩ := own_form HO.out (by omega)
      subst hbv
      have hbr := BitRow.of_own HO.out
      obtain ⟨B0, hB0⟩ : ∃ B0, B0 = D <<< d := ⟨_, rfl⟩
      rw [← hB0] at hbr
      have HBR := Lib.hid hbr
      have lgb : gb < wq.heap.size := World.block_lt_of_cell? _ _ (hbr.cell 0 (by omega))
      have HGI2 : Hid (IntsAt wq gg LG) := Lib.hid (HGI.out.below HB.out hgg2)
      have hgne : gg ≠ gb := by omega
      have HT := Lib.hid hT
      have HBE := Lib.hid hB0
      have hT2 : T ≤ 9000 := by omega
      have hTM : M + d ≤ T ∧ T ≤ M + d := by omega
      obtain ⟨hTM1, hTM2⟩ := hTM
      clear hbr hT hB0 HO HGI
      go_wp2_with fail
      go_loopw [9] (fun iv wr => ∃ i : Nat, i ≤ M ∧ iv = .int .i64 (i : Int) ∧ Hid (BitRow wr gb T (docI G d T B0 i)) ∧ Hid (Stays (· = gb) wq wr)) (fun iv _ => M - (intOf iv).toNat)
      case atStart => exact ⟨0, Nat.zero_le _, rfl, HBR, Lib.hid (Stays.refl _ _)⟩
      case round =>
        obtain ⟨i, hiM, rfl, HR, HS⟩ := hrel
        obtain ⟨wz, rfl⟩ : ∃ wz : World, wz = wr := ⟨_, rfl⟩
        by_cases hlt2 : i < M
        · have htest : (i : Int) + (d : Int) < (T : Int) := by omega
          have hiT : (i : Int) < (T : Int) := by omega
          obtain ⟨C, hC⟩ : ∃ C, C = docI G d T B0 i := ⟨_, rfl⟩
          rw [← hC] at HR
          have hnext : docI G d T B0 (i + 1) = if C.testBit (T - 1 - i) then C ^^^ (G <<< (T - 1 - d - i)) else C := by rw [hC]; rfl
          have hcb : wz.cell? ⟨gb, i, none⟩ = some (.int .i64 ((if C.testBit (T - 1 - i) then 1 else 0 : Nat) : Int)) := HR.out.cell i (by omega)
          have HNX := Lib.hid hnext
          clear hC hnext
          cases hbt : C.testBit (T - 1 - i)
          · rw [hbt] at hcb HNX
            have HR2 : Hid (BitRow wz gb T (docI G d T B0 (i + 1))) := Lib.hid (by rw [HNX.out]; simpa using HR.out)
            clear hbt
            go_wp2_with fail
            go_roundw
            case rel => exact ⟨i + 1, by omega, by go_num, HR2, HS⟩
            case measure => simp [intOf]; omega
          · rw [hbt] at hcb HNX
            obtain ⟨sh, hsh⟩ : ∃ sh, sh = T - 1 - d - i := ⟨_, rfl⟩
            have hsh2 : sh + d + i + 1 ≤ T ∧ T ≤ sh + d + i + 1 := by omega
            obtain ⟨hs1, hs2⟩ := hsh2
            rw [← hsh] at HNX
            clear hbt hsh
            go_wp2_with fail
            go_loopw [10] (fun kv wr => ∃ k : Nat, k ≤ LG.length ∧ kv = .int .i64 (k : Int) ∧ Hid (BitRow wr gb T (C ^^^ (sumL 0 (LG.take k) <<< sh))) ∧ Hid (Stays (· = gb) wq wr)) (fun kv _ => LG.length - (intOf kv).toNat)
            case atStart => exact ⟨0, Nat.zero_le _, rfl, Lib.hid (by have := HR.out; simpa [sumL] using this), HS⟩
            case round =>
              obtain ⟨k, hk, rfl, HRk, HSk⟩ := hrel
              obtain ⟨wy, rfl⟩ : ∃ wy : World, wy = wr := ⟨_, rfl⟩
              by_cases hkl : k < LG.length
              · obtain ⟨e, he⟩ : ∃ e, e = LG.getD k 0 := ⟨_, rfl⟩
                have hel : LG[k]? = some e := by
                  rw [he, List.getD_eq_getElem?_getD, List.getElem?_eq_getElem hkl]; rfl
                have hed : e ≤ d := HTE.out e (List.mem_of_getElem? hel)
                have ce : wy.cell? ⟨gg, k, none⟩ = some (.int .i64 (e : Int)) := by
                  have := HSk.out.cell (HGI2.out k hkl) hgne
                  rw [← he] at this
                  exact this
                obtain ⟨p, hp⟩ : ∃ p, p = i + d - e := ⟨_, rfl⟩
                have hpi : (i : Int) + (d : Int) - (e : Int) = (p : Int) := by omega
                have hpT : p < T := by omega
                have hpTI : (p : Int) < (T : Int) := by omega
                have hpos : T - 1 - p = sh + e := by omega
                obtain ⟨Y, hY⟩ : ∃ Y, Y = C ^^^ (sumL 0 (LG.take k) <<< sh) := ⟨_, rfl⟩
                rw [← hY] at HRk
                have hT3 : LG.take (k + 1) = LG.take k ++ [e] := by rw [List.take_add_one, hel]; rfl
                have hY2 : C ^^^ (sumL 0 (LG.take (k + 1)) <<< sh) = Y ^^^ 2 ^ (T - 1 - p) := by
                  rw [hT3, sumL_snoc, Nat.shiftLeft_xor_distrib, ← Nat.xor_assoc, ← hY, hpos]
                  congr 1
                  rw [Nat.shiftLeft_eq, ← Nat.pow_add, Nat.add_comm]
                have cp := HRk.out.cell p hpT
                have fp := HRk.out.free p
                have hfl := BitRow.flip HRk.out hpT
                rw [← hY2] at hfl
                obtain ⟨y, hy⟩ : ∃ y : Nat, y = if Y.testBit (T - 1 - p) then 1 else 0 := ⟨_, rfl⟩
                have hcp : wy.cell? ⟨gb, p, none⟩ = some (.int .i64 ((y : Nat) : Int)) := by rw [hy]; exact cp
                rw [← hy] at hfl
                have hy2 : y < 2 := by rw [hy]; split <;> omega
                have hxo := xor_i64 y 1 (by omega) (by omega)
                rw [show ((1 : Nat) : Int) = 1 from rfl] at hxo
                obtain ⟨z, hz⟩ : ∃ z, z = y ^^^ 1 := ⟨_, rfl⟩
                rw [← hz] at hfl hxo
                have HFL := Lib.hid hfl
                have hkI : (k : Int) < (LG.length : Int) := by omega
                clear he hel hp hpos hY hT3 hY2 cp hfl hy hz
                go_wp2_with fail
                go_roundw
                case rel => exact ⟨k + 1, by omega, by go_num, HFL, Lib.hid (HSk.out.trans Row.stay)⟩
                case measure => simp [intOf]; omega
              · obtain rfl : k = LG.length := by omega
                have HR2 : Hid (BitRow wy gb T (docI G d T B0 (i + 1))) := Lib.hid (by
                  have := HRk.out
                  rw [List.take_length, HTS.out] at this
                  rw [HNX.out]
                  exact this)
                go_wp2_with fail
                go_roundw
                case rel => exact ⟨i + 1, by omega, by go_num, HR2, HSk⟩
                case measure => simp [intOf]; omega
        · obtain rfl : M = i := by omega
          have htest : ¬ (M : Int) + (d : Int) < (T : Int) := by omega
          have hTd : (T : Int) - (d : Int) = (M : Int) := by omega
          have hcb2 : M < cb := by omega
          have hTMd : T - M = d := by omega
          have hTx := HT.out
          obtain ⟨R, hRe⟩ : ∃ R, R = docI G d T B0 M := ⟨_, rfl⟩
          rw [← hRe] at HR
          have hRlt : R < 2 ^ d := by
            have := HDR.out
            rw [hRe, HBE.out, hTx]
            exact this
          have HTXT := Lib.hid (rtext_any gb M d (cb - M) R wz (fun j hj => by
            have := HR.out.cell (M + j) (by omega)
            rw [this, show T - 1 - (M + j) = d - 1 - j by omega]) (by omega) (by omega) hRlt (by have := HS.out.size; omega))
          have HRE := Lib.hid hRe
          have HTX := Lib.hid hTx
          have hsz : wq.heap.size ≤ wz.heap.size := HS.out.size
          clear hRe hTx hRlt
          go_wp2_with fail
          go_at_call 22
          refine HTXT.out.mono ?_
          rintro x w6 ⟨rfl, hb6⟩
          have HB6 := Lib.hid hb6
          have hfin : R = docI G d (M + d) (D <<< d) M := by rw [HRE.out, HBE.out, HTX.out]
          have HFIN := Lib.hid hfin
          clear hb6 HTXT hfin
          obtain ⟨X, hX⟩ : ∃ X, X = strOf ((d + 7) / 8) (R <<< (8 * ((d + 7) / 8) - d)) := ⟨_, rfl⟩
          rw [← hX]
          have HX := Lib.hid hX
          clear hX
          go_wp2_with fail
          go_ret
          refine ⟨by rw [← HFIN.out, ← HX.out]; rfl, ?_⟩
          have k1 : Below w.heap.size w wq := HB1.out.trans (HB.out.mono hsz1)
          exact (Below.stays k1 HS.out (fun q hq => by have : q = gb := hq; omega) k1.size).trans (HB6.out.mono (by have := k1.size; omega))
end Go.Proofs.Ytldekkniammllaa
