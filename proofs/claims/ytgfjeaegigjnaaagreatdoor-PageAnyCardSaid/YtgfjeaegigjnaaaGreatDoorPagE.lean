/- Is a page as if erased: the walk. -/
import Derived.Test.YtgfjeaegigjnaaaGreatDoorPagD
namespace Go.Proofs.YtgfjeaegigjnaaaGreatDoor
open Go.RowKit
set_option linter.unusedVariables false
set_option linter.unusedSimpArgs false

/-- The bits of a list of bytes that are not set. -/
def zer : List UInt8 → Int
  | [] => 0
  | b :: l => (8 - (Lib.onesCount b.toNat : Int)) + zer l
set_option maxRecDepth 100000 in
theorem ones_le (b : UInt8) : Lib.onesCount b.toNat ≤ 8 := (by decide : ∀ x, x < 256 → Lib.onesCount x ≤ 8) _ (UInt8.toNat_lt b)
theorem zer_bound (l : List UInt8) : 0 ≤ zer l ∧ zer l ≤ 8 * (l.length : Int) := by
  induction l with
  | nil => simp [zer]
  | cons b l ih => have := ones_le b; simp only [zer, List.length_cons]; omega
theorem zer_snoc (l : List UInt8) (b : UInt8) : zer (l ++ [b]) = zer l + (8 - (Lib.onesCount b.toNat : Int)) := by
  induction l with
  | nil => simp [zer]
  | cons c l ih => simp only [List.cons_append, zer, ih]; omega
def emptyB (sz n : Nat) (T : Int) (l : List UInt8) : Prop := ∀ i, i < n → zer (ckL sz l i) ≤ T
instance (sz n : Nat) (T : Int) (l : List UInt8) : Decidable (emptyB sz n T l) := by unfold emptyB; infer_instance
theorem coded_drew {q t k : Nat} {W W' : World} (lc : q < W.heap.size) (h : Coded q t k W.drew W') : Coded q t k W W' := by
  obtain ⟨gl, be, bl, h1, h2, h3⟩ := h
  exact ⟨gl, be, bl, h1, (Only.refl _ _ _ _).drew.trans h2, fun gl' be' bl' hr => h3 gl' be' bl' (hr.below ((Below.refl _ _).drew))⟩
set_option maxHeartbeats 1600000 in
set_option maxRecDepth 100000 in
theorem empty_any {w W : World} {L : Lay} {c : Chp} {a q : Nat} {g : Geo} (h : PagAt w W L c a q g) (RL : List UInt8) (n sz : Nat) (hsz : sz = g.K.toNat + parN g.T.toNat) (hn : n ≤ 4) (hl : RL.length = n * sz) :
    Calls Tryz.prog 42 #[.pointer (some ⟨a, 0, none⟩), .string (bytS RL)] W fun e W' => e = .returned (.bool (decide (emptyB sz n g.T RL))) ∧ Coded q g.T.toNat g.K.toNat W W' := by
  have hok := h.ok
  obtain ⟨b1, b2, b3, b4, b5, b6, b7, b8, b9, b10, b11⟩ := hok
  have hp : parN g.T.toNat ≤ 13 := by unfold parN; omega
  have HPA := Lib.hid (Parity_any q g.T.toNat g.K.toNat (by omega) (by omega) W h.code)
  have HPB := Lib.hid (Parity_any q g.T.toNat g.K.toNat (by omega) (by omega) W.drew (h.code.below ((Below.refl _ _).drew)))
  generalize parN g.T.toNat = pn at *
  have e1 : IntKind.i64.wrap (g.K + (pn : Int)) = (sz : Int) := by rw [IntKind.wrap_i64]; omega
  have c1 := h.cells.p1
  have c5 := h.cells.p5
  have HP := Lib.hid h
  have HL := Lib.hid hl
  have hsz2 : 16 ≤ sz ∧ sz ≤ 269 := by omega
  obtain ⟨s16, s269⟩ := hsz2
  have HB : Hid (1 ≤ g.T ∧ g.T ≤ 8) := Lib.hid ⟨b10, b11⟩
  have HX : Hid (∀ o : Bool, (o = true ↔ emptyB sz n g.T RL) → Value.bool o = Value.bool (decide (emptyB sz n g.T RL))) := Lib.hid (fun o h => by
    congr 1
    by_cases hg : emptyB sz n g.T RL
    · rw [h.2 hg]; simp [hg]
    · have : o = false := by cases o <;> simp_all
      rw [this]; simp [hg])
  clear h hl hsz b1 b2 b3 b4 b5 b6 b7 b8 b9 b10 b11 hp
  go_enter Tryz.func42, Tryz.ntmps42
  go_wp2_with fail
  go_region_held3 (fun W' => W'.cell? ⟨a, 1, none⟩ = some (.pointer (some ⟨q, 0, none⟩)) ∧ W'.cell? ⟨a, 5, none⟩ = some (.int .i64 g.K))
    (first | (exact ⟨c1, c5⟩) | (exact ⟨d1, d5⟩) | go_keep)
    ((go_at_call 28; refine (by first | exact HPA.out | exact HPB.out : Calls _ _ _ _ _).mono ?_; rintro e w1 ⟨rfl, hq1⟩; have HQ1 : Hid (Coded q g.T.toNat g.K.toNat W w1) := Lib.hid (by first | exact hq1 | exact coded_drew HP.out.code.lc hq1); have HP1 : Hid (PagAt w w1 L c a q g) := Lib.hid (HP.out.coded HQ1.out); have d1 := HP1.out.cells.p1; have d5 := HP1.out.cells.p5; clear hq1))
  have HQL := Lib.hid (HP.out.code.lc)
  clear HPA HPB c1 c5 d1 d5 e1
  go_wp2_with fail
  go_loopw [1] (fun rv wr => ∃ i : Nat, i ≤ n ∧ rv = .string (bytS (RL.drop (i * sz))) ∧ Hid (Below w1.heap.size w1 wr) ∧ Hid (∀ j, j < i → zer (ckL sz RL j) ≤ g.T)) (fun rv _ => match rv with | .string s => s.size | _ => 0)
  case atStart => exact ⟨0, Nat.zero_le _, by simp, Lib.hid (Below.refl _ _), Lib.hid (fun j hj => absurd hj (by omega))⟩
  case round =>
    obtain ⟨i, hi, rfl, HBr, HZ⟩ := hrel
    obtain ⟨wz, rfl⟩ : ∃ wz : World, wz = wr := ⟨_, rfl⟩
    have hxs : (bytS (RL.drop (i * sz))).size = n * sz - i * sz := by rw [bytS_size, List.length_drop, HL.out]
    have hck : (bytS (RL.drop (i * sz))).extract 0 sz = bytS (ckL sz RL i) := by rw [bytS_extract]; simp [ckL]
    have hnx : (bytS (RL.drop (i * sz))).extract sz (bytS (RL.drop (i * sz))).size = bytS (RL.drop ((i + 1) * sz)) := by
      rw [bytS_extract, hxs]
      congr 1
      rw [List.drop_drop, List.take_of_length_le]
      · congr 1; rw [Nat.succ_mul]
      · rw [List.length_drop, HL.out]; rw [Nat.sub_sub]; exact Nat.le_refl _
    have HPz : Hid (PagAt w wz L c a q g) := Lib.hid (HP1.out.below HBr.out)
    by_cases hlt : i < n
    · have hge : (i + 1) * sz ≤ n * sz := Nat.mul_le_mul_right _ hlt
      have hsz : sz ≤ (bytS (RL.drop (i * sz))).size := by rw [hxs]; rw [Nat.succ_mul] at hge; omega
      have hcs : (ckL sz RL i).length = sz := by
        unfold ckL
        rw [List.length_take, List.length_drop, HL.out]
        rw [Nat.succ_mul] at hge; omega
      obtain ⟨X, hX⟩ : ∃ X, X = bytS (RL.drop (i * sz)) := ⟨_, rfl⟩
      rw [← hX] at hck hnx hsz
      rw [← hX]
      have hemp := emp_no (s := X) (by omega)
      obtain ⟨CL, hCL⟩ : ∃ CL, CL = ckL sz RL i := ⟨_, rfl⟩
      rw [← hCL] at hck hcs
      have hcz : (bytS CL).size = sz := by rw [bytS_size, hcs]
      have hcv := fun W => conv_strN (bytS CL) W
      have HCS := Lib.hid hcs
      have HCL := Lib.hid hCL
      have HNX := Lib.hid hnx
      clear hX hxs hnx hcs hCL
      rw [hcz] at hcv
      have HCB : Hid (∀ j, j < sz → (Lib.bytesWorld wz 5 (bytS CL)).cell? ⟨wz.heap.size, j, none⟩ = some (.int .u8 ((CL.getD j 0).toNat : Int))) := Lib.hid (fun j hj => Lib.bytesWorld_cell wz _ (bytS CL) j (by rw [bytS_size, HCS.out]; exact hj))
      have HBW : Hid (Below w1.heap.size w1 (Lib.bytesWorld wz 5 (bytS CL))) := Lib.hid (HBr.out.trans ((below_bytes wz (bytS CL)).mono HBr.out.size))
      have HPb : Hid (PagAt w (Lib.bytesWorld wz 5 (bytS CL)) L c a q g) := Lib.hid (HPz.out.below (below_bytes wz (bytS CL)))
      go_wp2_with fail
      clear hcv
      have p6 := HPb.out.cells.p6
      clear HPz HBr
      generalize Lib.bytesWorld wz 5 (bytS CL) = wb at *
      generalize grownCap wz sz 0 5 = cap at *
      generalize wz.heap.size = G0 at *
      go_loop [6, 30] (fun nv jv => ∃ j : Nat, j ≤ sz ∧ jv = .int .i64 (j : Int) ∧ nv = .int .i64 (zer (CL.take j))) (fun _ jv => sz - (intOf jv).toNat)
      case atStart => exact ⟨0, Nat.zero_le _, rfl, rfl⟩
      case round =>
        obtain ⟨j, hj, rfl, rfl⟩ := hrel
        by_cases hjs : j < sz
        · have hjI : (j : Int) < (sz : Int) := by omega
          have cj := HCB.out j hjs
          have htk : CL.take (j + 1) = CL.take j ++ [CL.getD j 0] := by
            have hjl : j < CL.length := by rw [HCS.out]; exact hjs
            rw [List.take_add_one, List.getElem?_eq_getElem hjl, List.getD_eq_getElem?_getD, List.getElem?_eq_getElem hjl]; rfl
          have hzn : zer (CL.take (j + 1)) = zer (CL.take j) + (8 - (Lib.onesCount (CL.getD j 0).toNat : Int)) := by rw [htk, zer_snoc]
          have hzb := zer_bound (CL.take j)
          have hzl : (CL.take j).length ≤ 269 := by rw [List.length_take]; omega
          have ho8 := ones_le (CL.getD j 0)
          have hb8 : (CL.getD j 0).toNat < 256 := UInt8.toNat_lt _
          have HON := Lib.hid (fun w => Tryz.bits_OnesCount8 ((CL.getD j 0).toNat : Int) w (by omega) (by omega))
          simp only [Int.toNat_natCast] at HON
          obtain ⟨bb, hbb⟩ : ∃ bb, bb = (CL.getD j 0).toNat := ⟨_, rfl⟩
          rw [← hbb] at cj hzn ho8 hb8 HON
          obtain ⟨oo, hoo⟩ : ∃ oo, oo = Lib.onesCount bb := ⟨_, rfl⟩
          rw [← hoo] at hzn ho8 HON
          obtain ⟨zz, hzz⟩ : ∃ zz, zz = zer (CL.take j) := ⟨_, rfl⟩
          rw [← hzz] at hzn hzb
          rw [← hzz]
          have HZN := Lib.hid hzn
          obtain ⟨z0, z1⟩ := hzb
          have z2 : zz ≤ 3000 := by omega
          clear htk hzn hbb hoo hzz z1
          go_wp2_with (go_at_call 63; refine (HON.out _).mono ?_; rintro e w' ⟨rfl, hw'⟩; obtain rfl := hw'.symm)
          go_round
          case rel => exact ⟨j + 1, by omega, by go_num, by rw [HZN.out]⟩
          case measure => simp [intOf] <;> omega
        · obtain rfl : j = sz := by omega
          have hall : CL.take j = CL := List.take_of_length_le (by rw [HCS.out]; exact Nat.le_refl _)
          rw [hall]
          obtain ⟨zz, hzz⟩ : ∃ zz, zz = zer CL := ⟨_, rfl⟩
          rw [← hzz]
          by_cases hgt : g.T < zz
          · have HGT : Hid (¬ emptyB j n g.T RL) := Lib.hid (fun he => by have := he i hlt; rw [← HCL.out, ← hzz] at this; omega)
            clear hall hzz
            go_wp2_with fail
            go_ret
            exact ⟨congrArg Ending.returned (HX.out _ (by simp [HGT.out])), HQ1.out.below HQL.out HBW.out⟩
          · have HZ2 : Hid (∀ k, k < i + 1 → zer (ckL j RL k) ≤ g.T) := Lib.hid (fun k hk => by
              rcases Nat.lt_or_ge k i with h | h
              · exact HZ.out k h
              · obtain rfl : k = i := by omega
                rw [← HCL.out, ← hzz]; omega)
            clear hall hzz
            go_wp2_with fail
            go_roundw
            case rel => exact ⟨i + 1, by omega, by rw [HNX.out], HBW, HZ2⟩
            case measure =>
              show (X.extract j X.size).size < X.size
              rw [ByteArray.size_extract]; omega
    · obtain rfl : i = n := by omega
      have hz : (bytS (RL.drop (i * sz))).size = 0 := by rw [hxs]; omega
      obtain ⟨X, hX⟩ : ∃ X, X = bytS (RL.drop (i * sz)) := ⟨_, rfl⟩
      rw [← hX] at hz
      rw [← hX]
      have hemp := emp_yes hz
      clear hX hxs hck hnx hz
      go_wp2_with fail
      go_ret
      exact ⟨congrArg Ending.returned (HX.out _ (by simp only [true_iff]; exact HZ.out)), HQ1.out.below HQL.out HBr.out⟩
end Go.Proofs.YtgfjeaegigjnaaaGreatDoor
