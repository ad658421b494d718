/- The document's Unpack: what was packed is unpacked. -/
import Derived.Test.YthpdmgefdaegmaaDoorOpsM
namespace Go.Proofs.YthpdmgefdaegmaaDoor
open Go.RowKit
set_option linter.unusedVariables false
set_option linter.unusedSimpArgs false

/-- What stands before, the tokens that are left, the whole. -/
inductive Rest : List UInt8 → List UInt8 → List UInt8 → Prop
  | nil (d : List UInt8) : Rest d [] d
  | lit {d o l : List UInt8} (x : List UInt8) : Rest (d ++ x) o l → 1 ≤ x.length → x.length ≤ 128 → Rest d (UInt8.ofNat (x.length - 1) :: (x ++ o)) l
  | copy {d o l : List UInt8} (n back : Nat) : Rest (d ++ copyL d back n) o l → 3 ≤ n → n ≤ 130 → back < d.length → back < 65536 → Rest d (UInt8.ofNat (n + 125) :: UInt8.ofNat (back % 256) :: UInt8.ofNat (back / 256) :: o) l
theorem copyL_len (back : Nat) (n : Nat) : ∀ d : List UInt8, (copyL d back n).length = n := by
  induction n with
  | zero => intro d; rfl
  | succ n ih => intro d; rw [copyL, List.length_cons, ih]
theorem copyL_succ (back : Nat) (n : Nat) : ∀ d : List UInt8, copyL d back (n + 1) = copyL d back n ++ [(d ++ copyL d back n).getD ((d ++ copyL d back n).length - 1 - back) 0] := by
  induction n with
  | zero => intro d; simp [copyL]
  | succ n ih =>
    intro d
    rw [copyL, ih, copyL]
    simp only [List.cons_append, List.append_assoc, List.singleton_append, List.nil_append]
theorem Rest.len {d o l : List UInt8} (h : Rest d o l) : d.length ≤ l.length := by
  induction h with
  | nil d => exact Nat.le_refl _
  | lit x _ _ _ ih => rw [List.length_append] at ih; omega
  | copy n back _ _ _ _ _ ih => rw [List.length_append] at ih; omega
theorem Toks.rest {o d : List UInt8} (h : Toks o d) : ∀ {o' l : List UInt8}, Rest d o' l → Rest [] (o ++ o') l := by
  induction h with
  | nil => intro o' l h; exact h
  | lit x _ h1 h2 ih =>
    intro o' l h
    have := ih (Rest.lit x h h1 h2)
    simpa [List.append_assoc] using this
  | copy n back _ h1 h2 h3 h4 ih =>
    intro o' l h
    have := ih (Rest.copy n back h h1 h2 h3 h4)
    simpa [List.append_assoc] using this

set_option maxHeartbeats 1000000 in
set_option maxRecDepth 100000 in
theorem unpack_empty (w : World) : Calls Tryd.prog 18 #[.string ⟨#[]⟩, .int .i64 64] w fun e w' => e = .returned (.tuple #[.string ⟨#[]⟩, .int .i64 4]) ∧ w = w' := by
  go_enter Tryd.func18, Tryd.ntmps18
  go_wp2_with fail
  go_ret2
  exact ⟨rfl, rfl⟩

theorem str_at {s : ByteArray} {j : Nat} {c : UInt8} (h : s.data.toList[j]? = some c) : ∃ hj : j < s.size, s[j]'hj = c := by
  obtain ⟨h1, h2⟩ := List.getElem?_eq_some_iff.1 h
  have h3 : j < s.size := by simpa using h1
  exact ⟨h3, by rw [← h2]; rfl⟩

set_option maxHeartbeats 1000000 in
set_option maxRecDepth 100000 in
theorem unpack_plain (s : ByteArray) (l : List UInt8) (w : World) (hs : s.data.toList = 0 :: l) (hl : l.length ≤ 64) :
    Calls Tryd.prog 18 #[.string s, .int .i64 64] w fun e w' => e = .returned (.tuple #[.string (strB l), .int .i64 0]) ∧ w = w' := by
  obtain ⟨h0, hc⟩ := str_at (s := s) (j := 0) (c := 0) (by rw [hs]; rfl)
  have hsz : s.size = l.length + 1 := by have := congrArg List.length hs; simpa using this
  have hv : s.extract 1 s.size = strB l := by
    apply ByteArray.ext
    apply Array.toList_inj.1
    rw [Lib.extract_data, hs, strB_list, List.drop_succ_cons, List.drop_zero, List.take_of_length_le (by omega)]
  have HV := Lib.hid hv
  have q1 : (s.size : Int) ≤ 65 := by omega
  have q2 : ¬ (s.size : Int) = 0 := by omega
  have q3 : ((s.size : Int) == 0) = false := by simpa using q2
  clear hv hs hsz
  go_enter Tryd.func18, Tryd.ntmps18
  go_wp2_with fail
  go_ret2
  exact ⟨by rw [HV.out]; rfl, rfl⟩

set_option maxHeartbeats 2000000 in
set_option maxRecDepth 100000 in
theorem unpack_toks (s : ByteArray) (o0 l : List UInt8) (w : World) (hs : s.data.toList = 1 :: o0) (ht : Toks o0 l) (hl : l.length ≤ 64) (hl0 : l ≠ []) (hsz : s.size ≤ 140737488355328) :
    Calls Tryd.prog 18 #[.string s, .int .i64 64] w fun e w' => e = .returned (.tuple #[.string (strB l), .int .i64 0]) ∧ Below w.heap.size w w' := by
  obtain ⟨h0, hc⟩ := str_at (s := s) (j := 0) (c := 1) (by rw [hs]; rfl)
  obtain ⟨i0, hi, hz0, hz1, hz2⟩ := info_parts infoByte
  have hds : s.data.toList.length = s.size := by simp
  have HR0 : Hid (Rest [] (s.data.toList.drop 1) l) := Lib.hid (by rw [hs, List.drop_succ_cons, List.drop_zero]; simpa using ht.rest (Rest.nil l))
  have q2 : ¬ (s.size : Int) = 0 := by omega
  have q3 : ((s.size : Int) == 0) = false := by simpa using q2
  have HDS := Lib.hid hds
  clear hs ht hds
  go_enter Tryd.func18, Tryd.ntmps18
  go_wp2_with fail
  clear hc q2 q3
  go_loopw [6, 7] (fun sv si wr => ∃ (j : Nat) (d : List UInt8), j ≤ s.size ∧ si = .int .i64 (j : Int) ∧ Hid (Rest d (s.data.toList.drop j) l) ∧ Hid (wr.ownsRow w.heap.size 5 1 sv d.length (d.map byteV)) ∧ Hid (Below w.heap.size w wr)) (fun _ si _ => s.size - (intOf si).toNat)
  case atStart => exact ⟨1, [], by omega, rfl, HR0, Lib.hid (by simpa using World.ownsRow_nil w w.heap.size 5 1), Lib.hid (Below.refl _ _)⟩
  case round =>
    obtain ⟨j, d, hj, rfl, HR, HO, HB⟩ := hrel
    obtain ⟨wy, rfl⟩ : ∃ wy : World, wy = wr := ⟨_, rfl⟩
    by_cases hlt : j < s.size
    · have g1 : (j : Int) < (s.size : Int) := by omega
      obtain ⟨o, ho⟩ : ∃ o, o = s.data.toList.drop j := ⟨_, rfl⟩
      have hr := HR.out
      rw [← ho] at hr
      have hdl := hr.len
      cases hr with
      | nil =>
        have := congrArg List.length ho
        rw [List.length_drop, HDS.out] at this
        simp at this
        omega
      | lit x hx h1 h2 =>
        rename_i o'
        obtain ⟨n, hn⟩ : ∃ n, n = x.length - 1 := ⟨_, rfl⟩
        have hol := congrArg List.length ho
        rw [List.length_drop, HDS.out, List.length_cons, List.length_append] at hol
        have hxl := hx.len
        rw [List.length_append] at hxl
        have hat : ∀ i, s.data.toList[j + i]? = (UInt8.ofNat (x.length - 1) :: (x ++ o'))[i]? := by intro i; rw [ho, List.getElem?_drop]
        obtain ⟨hj2, hc⟩ := str_at (s := s) (j := j) (c := UInt8.ofNat n) (by have := hat 0; rw [Nat.add_zero] at this; rw [this, hn]; rfl)
        obtain ⟨c, hce⟩ : ∃ c, c = UInt8.ofNat n := ⟨_, rfl⟩
        rw [← hce] at hc
        have hcn : (c.toNat : Int) = (n : Int) := by rw [hce, UInt8.toNat_ofNat']; omega
        clear hce
        have HAT := Lib.hid hat
        have HX := Lib.hid hx
        have HN := Lib.hid hn
        have HDR : Hid (s.data.toList.drop (j + 1 + x.length) = o') := Lib.hid (by
          have := congrArg (List.drop (1 + x.length)) ho
          rw [List.drop_drop] at this
          rw [show j + 1 + x.length = j + (1 + x.length) by omega, ← this, show 1 + x.length = x.length + 1 by omega, List.drop_succ_cons, List.drop_left])
        clear hat hx hn ho HR
        have n1 : (n : Int) < 128 := by have := HN.out; omega
        have n2 : n + 1 = x.length := by have := HN.out; omega
        have n3 : (j : Int) + 1 + (n : Int) + 1 ≤ (s.size : Int) := by omega
        have n4 : (d.length : Int) + (n : Int) + 1 ≤ 64 := by omega
        obtain ⟨a6, c6, rfl⟩ := own_form2 HO.out
        go_wp2_with fail
        go_loopw [6, 9] (fun sv sk wz => ∃ k : Nat, k ≤ x.length ∧ sk = .int .i64 (k : Int) ∧ Hid (wz.ownsRow w.heap.size 5 1 sv (d ++ x.take k).length ((d ++ x.take k).map byteV)) ∧ Hid (Below w.heap.size w wz)) (fun _ sk _ => x.length - (intOf sk).toNat)
        case atStart => exact ⟨0, by omega, rfl, by simpa using HO, HB⟩
        case round =>
          obtain ⟨k, hk, rfl, HO2, HB2⟩ := hrel
          obtain ⟨wz, rfl⟩ : ∃ wz : World, wz = wr := ⟨_, rfl⟩
          by_cases hk2 : k < x.length
          · have g2 : (k : Int) ≤ (n : Int) := by omega
            obtain ⟨hi2, hci⟩ := str_at (s := s) (j := j + 1 + k) (c := x[k]'hk2) (by
              have := HAT.out (1 + k)
              rw [show j + 1 + k = j + (1 + k) by omega, this, show 1 + k = k + 1 by omega, List.getElem?_cons_succ, List.getElem?_append_left hk2, List.getElem?_eq_getElem hk2])
            obtain ⟨c2, hc2⟩ : ∃ c2, c2 = x[k]'hk2 := ⟨_, rfl⟩
            rw [← hc2] at hci
            have HC2 := Lib.hid hc2
            clear hc2
            obtain ⟨D, hD⟩ : ∃ D, D = d ++ x.take k := ⟨_, rfl⟩
            rw [← hD] at HO2
            have hlk : D.length = d.length + k := by rw [hD, List.length_append, List.length_take]; omega
            have hlk2 : D.length + 1 ≤ 64 := by omega
            have HDD : Hid (d ++ x.take (k + 1) = D ++ [c2]) := Lib.hid (by rw [hD, List.append_assoc, HC2.out, List.take_succ_eq_append_getElem hk2])
            clear hD hlk
            obtain ⟨a7, c7, rfl⟩ := own_form2 HO2.out
            have t1 : (0 : Int) ≤ (j : Int) + 1 + (k : Int) := by omega
            have t2 : ((j : Int) + 1 + (k : Int)).toNat = j + 1 + k := by omega
            have t3 : (j : Int) + 1 + (k : Int) < (s.size : Int) := by omega
            go_wp2_with (at_builtin; refine wpList_append_own _ rfl _ _ 25 rfl w.heap.size 5 i0 (.int .u8 0) 1 1 (by kernel_rfl) hi hz0 hz1 hz2 rfl (by decide) _ _ _ rfl (HO2.out.alloc _) ⟨wz.heap.size, 0, none⟩ 1 1 [.int .u8 (c2.toNat : Int)] rfl rfl ?c1 ?c2 ?c3 ?c4 ?c5 ?_)
            case c1 =>
              intro i u hu
              cases i with
              | zero => simp at hu; subst hu; simp [Addr.add]
              | succ i => simp at hu
            case c2 => intro u hu; simp at hu; subst hu; rfl
            case c3 => unfold maxLen; omega
            case c4 => omega
            case c5 => have := HB2.out.size; simp; omega
            intro v' w2 hown' hgrow _
            have HB3 : Hid (Below w.heap.size w w2) := Lib.hid ((HB2.out.alloc HB2.out.size _).grown hgrow (by have := HB2.out.size; simp; omega) (fun q hq => (HO2.out.lt q hq).1))
            have HO3 : Hid (w2.ownsRow w.heap.size 5 1 v' (d ++ x.take (k + 1)).length ((d ++ x.take (k + 1)).map byteV)) := Lib.hid (by
              rw [HDD.out, List.length_append, List.map_append]
              exact hown')
            clear hown' hgrow
            go_wp2
            go_roundw
            case rel => exact ⟨k + 1, by omega, by go_num, HO3, HB3⟩
            case measure => simp [intOf]; omega
          · have g2 : ¬ (k : Int) ≤ (n : Int) := by omega
            obtain rfl : k = x.length := by omega
            have HO3 : Hid (wz.ownsRow w.heap.size 5 1 u6 (d ++ x).length ((d ++ x).map byteV)) := Lib.hid (by have := HO2.out; rwa [List.take_length] at this)
            have HX3 : Hid (Rest (d ++ x) (s.data.toList.drop (j + 1 + x.length)) l) := Lib.hid (by rw [HDR.out]; exact HX.out)
            go_wp2_with fail
            exact ⟨⟨j + 1 + x.length, d ++ x, by omega, by go_num, HX3, HO3, HB2⟩, by simp [intOf]; omega⟩
      | copy n back hx h1 h2 h3 h4 =>
        rename_i o'
        have hol := congrArg List.length ho
        rw [List.length_drop, HDS.out] at hol
        simp only [List.length_cons] at hol
        have hxl := hx.len
        rw [List.length_append, copyL_len] at hxl
        have hat : ∀ i, s.data.toList[j + i]? = (UInt8.ofNat (n + 125) :: UInt8.ofNat (back % 256) :: UInt8.ofNat (back / 256) :: o')[i]? := by intro i; rw [ho, List.getElem?_drop]
        obtain ⟨N, hN⟩ : ∃ N, N = n + 125 := ⟨_, rfl⟩
        obtain ⟨b0, hb0⟩ : ∃ b0, b0 = back % 256 := ⟨_, rfl⟩
        obtain ⟨b1, hb1⟩ : ∃ b1, b1 = back / 256 := ⟨_, rfl⟩
        obtain ⟨c, hce⟩ : ∃ c, c = UInt8.ofNat N := ⟨_, rfl⟩
        obtain ⟨c0, hc0⟩ : ∃ c0, c0 = UInt8.ofNat b0 := ⟨_, rfl⟩
        obtain ⟨c1, hc1⟩ : ∃ c1, c1 = UInt8.ofNat b1 := ⟨_, rfl⟩
        obtain ⟨hj2, hc⟩ := str_at (s := s) (j := j) (c := c) (by have := hat 0; rw [Nat.add_zero] at this; rw [this, hce, hN]; rfl)
        obtain ⟨hj3, hc3⟩ := str_at (s := s) (j := j + 1) (c := c0) (by rw [hat 1, hc0, hb0]; rfl)
        obtain ⟨hj4, hc4⟩ := str_at (s := s) (j := j + 1 + 1) (c := c1) (by rw [show j + 1 + 1 = j + 2 by omega, hat 2, hc1, hb1]; rfl)
        have hcn : (c.toNat : Int) = (N : Int) := by rw [hce, UInt8.toNat_ofNat']; omega
        have hcn0 : (c0.toNat : Int) = (b0 : Int) := by rw [hc0, UInt8.toNat_ofNat']; omega
        have hcn1 : (c1.toNat : Int) = (b1 : Int) := by rw [hc1, UInt8.toNat_ofNat']; omega
        have hbk : (b0 : Int) + 256 * (b1 : Int) + 1 = ((back + 1 : Nat) : Int) := by omega
        have HX := Lib.hid hx
        have HDR : Hid (s.data.toList.drop (j + 3) = o') := Lib.hid (by
          have := congrArg (List.drop 3) ho
          rw [List.drop_drop] at this
          rw [← this]; rfl)
        have HNN := Lib.hid hN
        clear hat hx ho HR hce hc0 hc1 hN hb0 hb1
        have n1 : ¬ (N : Int) < 128 := by have := HNN.out; omega
        have n3 : (j : Int) + 1 + 2 ≤ (s.size : Int) := by omega
        have n4 : (d.length : Int) + (N : Int) - 125 ≤ 64 := by have := HNN.out; omega
        have n5 : (N : Int) - 125 = (n : Int) := by have := HNN.out; omega
        have n6 : (back : Int) + 1 ≤ (d.length : Int) := by omega
        have t1 : (0 : Int) ≤ (j : Int) + 1 := by omega
        have t2 : ((j : Int) + 1).toNat = j + 1 := by omega
        have t3 : (j : Int) + 1 < (s.size : Int) := by omega
        have t4 : (0 : Int) ≤ (j : Int) + 1 + 1 := by omega
        have t5 : ((j : Int) + 1 + 1).toNat = j + 1 + 1 := by omega
        have t6 : (j : Int) + 1 + 1 < (s.size : Int) := by omega
        have t7 : IntKind.i64.wrap ((j : Int) + 1 + 1) = (j : Int) + 1 + 1 := (IntWalk.i64_left _).trans (IntWalk.wrap64_in _ (by omega))
        obtain ⟨a6, c6, rfl⟩ := own_form2 HO.out
        go_upto_region 28 with fail
        go_quiet (fail)
        obtain ⟨wq, hwq⟩ : ∃ wq, wq = wy.drewN nq := ⟨_, rfl⟩
        rw [← hwq]
        have hbq : Below wy.heap.size wy wq := by rw [hwq]; exact below_drewN (Below.refl _ _) nq
        have HO1 := Lib.hid (ownsRow_below HO.out hbq)
        have HB1 := Lib.hid (below_on HB.out hbq)
        clear hwq hbq HO HB hc hc3 hc4 hcn hcn0 hcn1 hbk t1 t2 t3 t4 t5 t6 t7
        go_wp2_with fail
        go_loopw [6, 11, 12] (fun sv sk sb wz => ∃ k : Nat, k ≤ n ∧ sk = .int .i64 (k : Int) ∧ Hid (wz.ownsRow w.heap.size 5 1 sv (d ++ copyL d back k).length ((d ++ copyL d back k).map byteV)) ∧ Hid (Below w.heap.size w wz)) (fun _ sk _ _ => n - (intOf sk).toNat)
        case atStart => exact ⟨0, by omega, rfl, by simpa [copyL] using HO1, HB1⟩
        case round =>
          obtain ⟨k, hk, rfl, HO2, HB2⟩ := hrel
          obtain ⟨wz, rfl⟩ : ∃ wz : World, wz = wr := ⟨_, rfl⟩
          by_cases hk2 : k < n
          · have g2 : (k : Int) < (n : Int) := by omega
            obtain ⟨D, hD⟩ : ∃ D, D = d ++ copyL d back k := ⟨_, rfl⟩
            rw [← hD] at HO2
            have hlk : D.length = d.length + k := by rw [hD, List.length_append, copyL_len]
            have hlk2 : D.length + 1 ≤ 64 := by omega
            have hlk3 : back + 1 ≤ D.length := by omega
            obtain ⟨c2, hc2⟩ : ∃ c2, c2 = D.getD (D.length - 1 - back) 0 := ⟨_, rfl⟩
            have HDD : Hid (d ++ copyL d back (k + 1) = D ++ [c2]) := Lib.hid (by rw [copyL_succ, ← List.append_assoc, ← hD, ← hc2])
            obtain ⟨g7, c7, rfl⟩ := own_form HO2.out (by omega)
            have cc : wz.cell? ⟨g7, D.length - (back + 1), none⟩ = some (byteV c2) := by
              rw [HO2.out.cellAt _ (by omega), hc2, List.getElem?_map, show D.length - (back + 1) = D.length - 1 - back by omega, List.getD_eq_getElem?_getD, List.getElem?_eq_getElem (by omega)]
              rfl
            unfold byteV at cc
            have v1 : (0 : Int) ≤ (D.length : Int) - ((back : Int) + 1) := by omega
            have v2 : ((D.length : Int) - ((back : Int) + 1)).toNat = D.length - (back + 1) := by omega
            have v3 : (D.length : Int) - ((back : Int) + 1) < (D.length : Int) := by omega
            clear hD hlk hc2
            go_wp2_with (at_builtin; refine wpList_append_own _ rfl _ _ 25 rfl w.heap.size 5 i0 (.int .u8 0) 1 1 (by kernel_rfl) hi hz0 hz1 hz2 rfl (by decide) _ _ _ rfl (HO2.out.alloc _) ⟨wz.heap.size, 0, none⟩ 1 1 [.int .u8 (c2.toNat : Int)] rfl rfl ?c1 ?c2 ?c3 ?c4 ?c5 ?_)
            case c1 =>
              intro i u hu
              cases i with
              | zero => simp at hu; subst hu; simp [Addr.add]
              | succ i => simp at hu
            case c2 => intro u hu; simp at hu; subst hu; rfl
            case c3 => unfold maxLen; omega
            case c4 => omega
            case c5 => have := HB2.out.size; simp; omega
            intro v' w2 hown' hgrow _
            have HB3 : Hid (Below w.heap.size w w2) := Lib.hid ((HB2.out.alloc HB2.out.size _).grown hgrow (by have := HB2.out.size; simp; omega) (fun q hq => (HO2.out.lt q hq).1))
            have HO3 : Hid (w2.ownsRow w.heap.size 5 1 v' (d ++ copyL d back (k + 1)).length ((d ++ copyL d back (k + 1)).map byteV)) := Lib.hid (by
              rw [HDD.out, List.length_append, List.map_append]
              exact hown')
            clear hown' hgrow
            go_wp2
            go_roundw
            case rel => exact ⟨k + 1, by omega, by go_num, HO3, HB3⟩
            case measure => simp [intOf]; omega
          · have g2 : ¬ (k : Int) < (n : Int) := by omega
            obtain rfl : k = n := by omega
            have HX3 : Hid (Rest (d ++ copyL d back k) (s.data.toList.drop (j + 3)) l) := Lib.hid (by rw [HDR.out]; exact HX.out)
            go_wp2_with fail
            exact ⟨⟨j + 3, d ++ copyL d back k, by omega, by go_num, HX3, HO2, HB2⟩, by simp [intOf]; omega⟩
    · have g1 : ¬ (j : Int) < (s.size : Int) := by omega
      have hdl : d = l := by
        have hr := HR.out
        rw [List.drop_of_length_le (by rw [HDS.out]; omega)] at hr
        cases hr
        rfl
      subst hdl
      obtain ⟨g, cap, rfl⟩ := own_form HO.out (by intro e; exact hl0 (List.length_eq_zero_iff.1 e))
      have hcv : (convert 25 9 (.slice (some ⟨g, 0, none⟩) d.length cap)).run Tryd.prog wy = .ok (.string (strB d)) wy :=
        run_convert_bytes_back (P := Tryd.prog) wy 25 9 5 ⟨g, 0, none⟩ cap d (by kernel_rfl) (by kernel_rfl) (by kernel_rfl) (by
          intro i hi
          rw [show (⟨g, 0, none⟩ : Addr).add i = ⟨g, i, none⟩ by unfold Addr.add; split <;> simp_all]
          rw [HO.out.cellAt i (by omega)]
          simp [byteV, List.getElem?_eq_getElem hi])
      obtain ⟨X, hX⟩ : ∃ X, X = strB d := ⟨_, rfl⟩
      rw [← hX] at hcv
      have HX := Lib.hid hX
      clear hX
      go_wp2_with fail
      go_ret2
      exact ⟨by rw [← HX.out]; rfl, HB.out⟩

theorem Toks.len {o l : List UInt8} (h : Toks o l) : o.length ≤ 2 * l.length := by
  induction h with
  | nil => simp
  | lit x _ h1 h2 ih => simp only [List.length_append, List.length_cons, List.length_nil]; omega
  | copy n back _ h1 h2 h3 h4 ih => simp only [List.length_append, List.length_cons, List.length_nil, copyL_len]; omega
theorem unpack_any (t l : List UInt8) (w : World) (h : ChgOf t l) (hl : l.length ≤ 64) :
    Calls Tryd.prog 18 #[.string (strB t), .int .i64 64] w fun e w' => e = .returned (.tuple #[.string (strB l), .int .i64 (if l = [] then 4 else 0)]) ∧ Below w.heap.size w w' := by
  rcases h with ⟨rfl, rfl⟩ | ⟨h0, h | ⟨o, h, ht⟩⟩
  · refine (unpack_empty w).mono ?_
    rintro e w' ⟨rfl, rfl⟩
    exact ⟨rfl, Below.refl _ _⟩
  · refine (unpack_plain (strB t) l w (by rw [strB_list, h]) hl).mono ?_
    rintro e w' ⟨rfl, rfl⟩
    exact ⟨by rw [if_neg h0], Below.refl _ _⟩
  · refine (unpack_toks (strB t) o l w (by rw [strB_list, h]) ht hl h0 (by rw [strB_size, h, List.length_cons]; have := ht.len; omega)).mono ?_
    rintro e w' ⟨rfl, hb⟩
    exact ⟨by rw [if_neg h0], hb⟩
set_option maxHeartbeats 1000000 in
set_option maxRecDepth 100000 in
theorem plain_any (t l : List UInt8) (w : World) (h : ChgOf t l) (hl : l.length ≤ 64) :
    Calls Tryd.prog 11 #[.string (strB t)] w fun e w' => e = .returned (.tuple #[.string (strB l), .bool (decide (l ≠ []))]) ∧ Below w.heap.size w w' := by
  have H := Lib.hid (unpack_any t l w h hl)
  by_cases h0 : l = []
  · rw [if_pos h0] at H
    have hd : decide (l ≠ []) = false := by simpa using h0
    rw [hd]
    clear h h0 hd
    generalize strB t = X at *
    generalize strB l = Y at *
    go_enter Tryd.func11, Tryd.ntmps11
    go_wp2_with fail
    refine H.out.mono ?_; rintro e w1 ⟨rfl, hb⟩
    have HB := Lib.hid hb
    clear hb
    go_wp2_with fail
    go_ret2
    exact ⟨rfl, HB.out⟩
  · rw [if_neg h0] at H
    have hd : decide (l ≠ []) = true := by simpa using h0
    rw [hd]
    clear h h0 hd
    generalize strB t = X at *
    generalize strB l = Y at *
    go_enter Tryd.func11, Tryd.ntmps11
    go_wp2_with fail
    refine H.out.mono ?_; rintro e w1 ⟨rfl, hb⟩
    have HB := Lib.hid hb
    clear hb
    go_wp2_with fail
    go_ret2
    exact ⟨rfl, HB.out⟩

end Go.Proofs.YthpdmgefdaegmaaDoor
