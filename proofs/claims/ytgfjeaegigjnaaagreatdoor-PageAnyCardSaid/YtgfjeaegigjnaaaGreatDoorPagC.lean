/- Writing a page: the walk. -/
import Derived.Test.YtgfjeaegigjnaaaGreatDoorPagB
import Derived.Test.YtgfjeaegigjnaaaGreatDoorCrcC
namespace Go.Proofs.YtgfjeaegigjnaaaGreatDoor
open Go.RowKit
set_option linter.unusedVariables false
set_option linter.unusedSimpArgs false

/-- Chunk i of a body, and the first i chunks with what is encoded behind each. -/
def ckL (K : Nat) (B : List UInt8) (i : Nat) : List UInt8 := (B.drop (i * K)).take K
def encI (t K : Nat) (B : List UInt8) : Nat → List UInt8
  | 0 => []
  | i + 1 => encI t K B i ++ (ckL K B i ++ (parS t (bytS (ckL K B i))).data.toList)
/-- What a page's chunks hold. -/
def bodyL (room : Nat) (p : List UInt8) : List UInt8 := sealL ([0, 0, 0] ++ p ++ Lib.repeatL [0] (room - p.length))
def Geo.pageL (g : Geo) (p : List UInt8) : List UInt8 := encI g.T.toNat g.K.toNat (bodyL g.room.toNat p) g.C.toNat
def pwC (g : Geo) (c : Chp) (b n : Int) (p : ByteArray) : Int × Chp := if g.room < p.size then (2, c) else programC c b n (bytS (g.pageL p.data.toList))
theorem bodyL_length {room : Nat} {p : List UInt8} (h : p.length ≤ room) : (bodyL room p).length = room + 7 := by
  unfold bodyL
  rw [sealL_length]
  have hr : ∀ n, (Lib.repeatL [(0 : UInt8)] n).length = n := repeatL_len 0
  simp only [List.length_append, hr, List.length_cons, List.length_nil]
  omega
theorem bytS_extract (l : List UInt8) (i j : Nat) : (bytS l).extract i j = bytS ((l.drop i).take (j - i)) := by
  apply ByteArray.ext
  have h := Lib.extract_data (bytS l) i j
  rw [← Array.toList_inj]
  rw [h]
  rfl
theorem emp_no {s : ByteArray} (h : 0 < s.size) : s.toList.isEmpty = false := by
  rw [Go.ByteArray.toList_eq]
  cases hl : s.data.toList with
  | nil =>
    have h2 := Lib.size_eq s
    rw [hl] at h2
    have h3 : s.size = 0 := h2
    omega
  | cons a t => rfl
theorem emp_yes {s : ByteArray} (h : s.size = 0) : s.toList.isEmpty = true := by
  rw [Go.ByteArray.toList_eq]
  cases hl : s.data.toList with
  | nil => rfl
  | cons a t =>
    have := Lib.size_eq s
    rw [hl, h] at this
    simp at this
theorem below_drewN (w : World) (n : Nat) : Below w.heap.size w (w.drewN n) :=
  have s : Stays (fun _ => False) w (w.drewN n) := (Stays.refl _ _).drewN n
  ⟨s.os, s.tape, s.output, s.size, fun i hi => s.block i hi id⟩
set_option maxHeartbeats 1600000 in
set_option maxRecDepth 100000 in
theorem pwrite_any {w W : World} {L : Lay} {c : Chp} {a q : Nat} {g : Geo} (h : PagAt w W L c a q g) (hn : NibAt w) (hg : 0 < w.heap.size) (b n : Int) (pl : ByteArray) :
    Calls Tryz.prog 17 #[.pointer (some ⟨a, 0, none⟩), .int .i64 b, .int .i64 n, .string pl] W fun e W' => e = .returned (.int .i64 (pwC g c b n pl).1) ∧ PagAt w W' L (pwC g c b n pl).2 a q g := by
  have hok := h.ok
  have hroom : g.room = g.C * g.K - 7 := by unfold Geo.room; rw [if_pos h.ok]
  obtain ⟨b1, b2, b3, b4, b5, b6, b7, b8, b9, b10, b11⟩ := hok
  have m2 := mul4 (c := g.C) (x := g.K) b6 b7 (by omega)
  obtain ⟨M, hM⟩ : ∃ M, M = g.C * g.K := ⟨_, rfl⟩
  rw [← hM] at hroom m2
  have e3 : IntKind.i64.wrap (g.C * g.K) = M := by rw [← hM, IntKind.wrap_i64]; omega
  have e4 : IntKind.i64.wrap (M - 3) = M - 3 := by rw [IntKind.wrap_i64]; omega
  have e5 : IntKind.i64.wrap (M - 3 - 4) = M - 7 := by rw [IntKind.wrap_i64]; omega
  have e7 : IntKind.i64.wrap (M - 7) = M - 7 := by rw [IntKind.wrap_i64]; omega
  have HP := Lib.hid h
  have c4 := h.cells.p4
  have c5 := h.cells.p5
  have HNI := Lib.hid hn
  have HGN := Lib.hid hg
  by_cases hlong : g.room < pl.size
  · have HV : Hid (pwC g c b n pl = (2, c)) := Lib.hid (by unfold pwC; rw [if_pos hlong])
    have hl : M - 7 < (pl.size : Int) := by omega
    generalize g.C = C at *
    generalize g.K = K at *
    clear hn hg h hlong hroom m2 hM b1 b2 b3 b4 b5 b6 b7 b8 b9 b10 b11
    go_enter Tryz.func17, Tryz.ntmps17
    go_wp2_with fail
    go_quiet (fail)
    go_wp2_with fail
    go_ret
    exact ⟨by rw [HV.out]; rfl, by rw [HV.out]; exact HP.out.below (below_drewN _ _)⟩
  · have hl : ¬ (M - 7 < (pl.size : Int)) := by omega
    obtain ⟨RM, hRM⟩ : ∃ RM : Nat, M - 7 = (RM : Int) := ⟨(M - 7).toNat, by omega⟩
    obtain ⟨m, hm⟩ : ∃ m : Nat, m = RM - pl.size := ⟨_, rfl⟩
    have hpl : pl.size ≤ RM := by omega
    have e8 : IntKind.i64.wrap ((RM : Int) - (pl.size : Int)) = (m : Int) := by rw [IntKind.wrap_i64]; omega
    have hRM2 : RM ≤ 1017 := by omega
    have HREP := Lib.hid (fun w => Tryz.strings_Repeat ⟨#[0]⟩ m w (by omega) (by show 1 * m ≤ _; omega))
    obtain ⟨Kn, hKn⟩ : ∃ Kn : Nat, g.K = (Kn : Int) := ⟨g.K.toNat, by omega⟩
    obtain ⟨Cn, hCn⟩ : ∃ Cn : Nat, g.C = (Cn : Int) := ⟨g.C.toNat, by omega⟩
    obtain ⟨tn, htn⟩ : ∃ tn : Nat, g.T = (tn : Int) := ⟨g.T.toNat, by omega⟩
    have hMN : RM + 7 = Cn * Kn := by
      have : ((RM + 7 : Nat) : Int) = ((Cn * Kn : Nat) : Int) := by rw [Int.natCast_mul, ← hCn, ← hKn]; omega
      exact_mod_cast this
    have hl1 : (bodyL RM pl.data.toList).length = RM + 7 := bodyL_length (by simpa using hpl)
    have hV : pwC g c b n pl = programC c b n (bytS (encI tn Kn (bodyL RM pl.data.toList) Cn)) := by
      unfold pwC Geo.pageL
      rw [if_neg hlong, htn, hKn, hCn, hroom, hRM]; rfl
    have HB : Hid (∀ s : ByteArray, s.data.toList = [0, 0, 0] ++ pl.data.toList ++ Lib.repeatL [0] m → sealL s.data.toList = bodyL RM pl.data.toList) := Lib.hid (by
      intro s hs
      unfold bodyL
      rw [hs, hm]; simp)
    obtain ⟨BL, hBL⟩ : ∃ BL, BL = bodyL RM pl.data.toList := ⟨_, rfl⟩
    rw [← hBL] at hl1 hV HB
    have HV := Lib.hid hV
    have HL1 := Lib.hid hl1
    have HMN := Lib.hid hMN
    have hm2 : m ≤ 1017 := by omega
    rw [hKn, hCn] at e3
    rw [hRM] at hl e5 e7
    rw [hCn] at c4
    rw [hKn] at c5
    have HENC := Lib.hid (fun s hs w h => Encode_any q g.T.toNat g.K.toNat s hs (by omega) (by omega) (by omega) w h)
    have HKn : Hid (g.K.toNat = Kn ∧ g.T.toNat = tn) := Lib.hid (by omega)
    have hK16 : 16 ≤ Kn := by omega
    have hCn4 : Cn ≤ 4 := by omega
    have hC1 : 1 ≤ Cn := by omega
    have HKi := Lib.hid hKn
    have hK256 : Kn ≤ 256 := by omega
    have hsz0 : (ByteArray.mk #[0, 0, 0]).size = 3 := rfl
    have hcat1 : ¬ 9223372036854775807 < 3 + pl.size := by omega
    have hrs : (ByteArray.mk (Lib.repeatL [(0 : UInt8)] m).toArray).size = m := by
      show (Lib.repeatL [(0 : UInt8)] m).toArray.size = m
      rw [List.size_toArray, repeatL_len]
    have HRS := Lib.hid hrs
    clear hn hg h hlong hroom m2 hM b1 b2 b3 b4 b5 b6 b7 b8 b9 b10 b11 hMN hl1 hV hBL hm hKn hCn htn hrs hsz0
    go_enter Tryz.func17, Tryz.ntmps17
    go_wp2_with fail
    go_quiet (fail)
    have HPd : Hid (PagAt w (W.drewN nq) L c a q g) := Lib.hid (HP.out.below (below_drewN _ _))
    clear HP c4 c5
    generalize W.drewN nq = wd at *
    go_wp2_with fail
    go_at_call 31
    refine (HREP.out _).mono ?_
    rintro e w1 ⟨rfl, hb1⟩
    have HP1 : Hid (PagAt w w1 L c a q g) := Lib.hid (HPd.out.below hb1)
    clear hb1 HREP HPd
    obtain ⟨RS, hRS⟩ : ∃ RS, RS = ByteArray.mk (Lib.repeatL [(0 : UInt8)] m).toArray := ⟨_, rfl⟩
    have hrs2 : RS.size = m := by rw [hRS]; exact HRS.out
    have hcat2 : ¬ 9223372036854775807 < 3 + pl.size + RS.size := by omega
    have htx : (ByteArray.mk #[0, 0, 0] ++ pl ++ RS).data.toList = [0, 0, 0] ++ pl.data.toList ++ Lib.repeatL [0] m := by
      rw [cat_bytS, bytS_list, cat_bytS, bytS_list, hRS]
    have htz : (ByteArray.mk #[0, 0, 0] ++ pl ++ RS).size = 3 + pl.size + m := by rw [ByteArray.size_append, ByteArray.size_append, hrs2]; rfl
    have HSE : Hid (∀ w, NibAt w → 0 < w.heap.size → Calls Tryz.prog 33 #[.string (ByteArray.mk #[0, 0, 0] ++ pl ++ RS)] w fun e w' => e = .returned (.string (bytS BL)) ∧ Below w.heap.size w w') := Lib.hid (fun w h1 h2 => (seal_any _ (by omega) w h1 h2).mono fun e w' ⟨he, hw⟩ => ⟨by rw [he, HB.out _ htx], hw⟩)
    clear htx htz hrs2
    rw [← hRS]
    clear hRS HB HRS
    go_wp2_with fail
    go_at_call 33
    refine (HSE.out _ (HNI.out.below HP1.out.holds.below HGN.out) (by have := HP1.out.holds.below.size; have := HGN.out; omega)).mono ?_
    rintro e w2 ⟨rfl, hb2⟩
    have HP2 : Hid (PagAt w w2 L c a q g) := Lib.hid (HP1.out.below hb2)
    clear hb2 HP1 HSE
    go_wp2_with fail
    have HS3 : Hid (WSt0 w L c a q g w2.heap.size (w2.alloc (.cells #[.pointer none, .slice none 0 0] 92))) := Lib.hid (WSt0.new HP2.out)
    clear HP2
    generalize (w2.alloc (.cells #[.pointer none, .slice none 0 0] 92)) = w3 at *
    generalize w2.heap.size = B0 at *
    clear e4 e5 e7 e8 hcat1 hcat2
    go_loopw [10] (fun bv wr => ∃ i : Nat, i ≤ Cn ∧ bv = .string (bytS (BL.drop (i * Kn))) ∧ Hid ((i = 0 ∧ WSt0 w L c a q g B0 wr) ∨ ∃ R, WStR w L c a q g B0 R wr (encI tn Kn BL i))) (fun bv _ => match bv with | .string s => s.size | _ => 0)
    case atStart => exact ⟨0, Nat.zero_le _, by simp, Lib.hid (.inl ⟨rfl, HS3.out⟩)⟩
    case round =>
      obtain ⟨i, hi, rfl, HSr⟩ := hrel
      clear HS3
      obtain ⟨wz, rfl⟩ : ∃ wz : World, wz = wr := ⟨_, rfl⟩
      have HPr : Hid (PagAt w wz L c a q g) := Lib.hid (by rcases HSr.out with ⟨_, h⟩ | ⟨_, h⟩ <;> exact h.pag)
      have hxs : (bytS (BL.drop (i * Kn))).size = RM + 7 - i * Kn := by rw [bytS_size, List.length_drop, HL1.out]
      have hck : (bytS (BL.drop (i * Kn))).extract 0 Kn = bytS (ckL Kn BL i) := by rw [bytS_extract]; simp [ckL]
      have hnx : (bytS (BL.drop (i * Kn))).extract Kn (bytS (BL.drop (i * Kn))).size = bytS (BL.drop ((i + 1) * Kn)) := by
        rw [bytS_extract, hxs]
        congr 1
        rw [List.drop_drop, List.take_of_length_le]
        · congr 1; rw [Nat.succ_mul]
        · rw [List.length_drop, HL1.out]; rw [Nat.sub_sub]; exact Nat.le_refl _
      have c1 := HPr.out.cells.p1
      have c5 := HPr.out.cells.p5
      rw [show g.K = (Kn : Int) by have := HKn.out.1; have := HPr.out.ok; unfold Geo.ok at this; omega] at c5
      have c0 := HPr.out.cells.p0
      by_cases hlt : i < Cn
      · have hge : (i + 1) * Kn ≤ RM + 7 := by rw [HMN.out]; exact Nat.mul_le_mul_right _ hlt
        have hsz : Kn ≤ (bytS (BL.drop (i * Kn))).size := by rw [hxs]; rw [Nat.succ_mul] at hge; omega
        have hcs : (bytS (ckL Kn BL i)).size = Kn := by
          rw [bytS_size]; unfold ckL
          rw [List.length_take, List.length_drop, HL1.out]
          rw [Nat.succ_mul] at hge; omega
        obtain ⟨X, hX⟩ : ∃ X, X = bytS (BL.drop (i * Kn)) := ⟨_, rfl⟩
        rw [← hX] at hck hnx hsz
        rw [← hX]
        have hemp := emp_no (s := X) (by omega)
        have HX := Lib.hid hX
        have HNX := Lib.hid hnx
        obtain ⟨CK, hCK⟩ : ∃ CK, CK = bytS (ckL Kn BL i) := ⟨_, rfl⟩
        rw [← hCK] at hck hcs
        have HCK := Lib.hid hCK
        obtain ⟨PS, hPS⟩ : ∃ PS, PS = parS g.T.toNat CK := ⟨_, rfl⟩
        have hpz : PS.size ≤ 13 := by
          rw [hPS]; unfold parS; rw [str_size]
          have := HPr.out.ok; unfold Geo.ok at this; unfold parN; omega
        have HEN : Hid (∀ w, CodeAt w q g.T.toNat g.K.toNat → Calls Tryz.prog 34 #[.pointer (some ⟨q, 0, none⟩), .string CK] w fun e w' => e = .returned (.tuple #[.string PS, .int .i64 0]) ∧ Coded q g.T.toNat g.K.toNat w w') := Lib.hid (fun w h => by rw [hPS]; exact HENC.out CK (by rw [hcs, HKn.out.1]) w h)
        have hcat3 : ¬ 9223372036854775807 < Kn + PS.size := by omega
        have hcat4 : ¬ 9223372036854775807 < CK.size + PS.size := by omega
        have HPS : Hid (encI tn Kn BL (i + 1) = encI tn Kn BL i ++ (CK ++ PS).data.toList) := Lib.hid (by
          show encI tn Kn BL i ++ (ckL Kn BL i ++ (parS tn (bytS (ckL Kn BL i))).data.toList) = _
          rw [cat_bytS, bytS_list, hPS, hCK, HKn.out.2]; rfl)
        have HLE : Hid ((encI tn Kn BL i).length + (CK ++ PS).size ≤ 140737488355328) := Lib.hid (by
          have : ∀ j, j ≤ Cn → (encI tn Kn BL j).length ≤ j * (Kn + 13) := by
            intro j
            induction j with
            | zero => intro _; simp [encI]
            | succ j ih =>
              intro hj
              have h1 := ih (by omega)
              have h2 : (parS tn (bytS (ckL Kn BL j))).data.toList.length ≤ 13 := by
                rw [← Lib.size_eq]; unfold parS; rw [str_size]
                have := HPr.out.ok; have := HKn.out.2; unfold Geo.ok at *; unfold parN; omega
              have h3 : (ckL Kn BL j).length ≤ Kn := by unfold ckL; rw [List.length_take]; omega
              simp only [encI, List.length_append]
              rw [Nat.succ_mul]; omega
          have h1 := this i (by omega)
          have h2 : Cn ≤ 4 := by have := HPr.out.ok; have := hCn4; omega
          have h3 : i * (Kn + 13) ≤ 4 * (Kn + 13) := Nat.mul_le_mul_right _ (by omega)
          rw [ByteArray.size_append]; omega)
        clear hX hxs hnx hCK hPS hpz
        go_wp2_with fail
        go_region_held3 (fun W' => W'.cell? ⟨a, 1, none⟩ = some (.pointer (some ⟨q, 0, none⟩)) ∧ W'.cell? ⟨a, 5, none⟩ = some (.int .i64 (Kn : Int)))
          (first | (exact ⟨c1, c5⟩) | (exact ⟨d1, d5⟩) | go_keep)
          ((go_at_call 34; refine (HEN.out _ (by first | exact HPr.out.code | exact HPr.out.code.below ((Below.refl _ _).drew))).mono ?_; rintro e w4 ⟨rfl, hq4⟩; have HS4 : Hid (∃ R, WStR w L c a q g B0 R w4 (encI tn Kn BL i)) := Lib.hid (by rcases HSr.out with h | h; (· exact ⟨_, by rw [h.1]; exact (by first | exact h.2.coded hq4 | exact h.2.drew.coded hq4)⟩); (· obtain ⟨R, h⟩ := h; exact ⟨R, by first | exact h.coded hq4 | exact h.drew.coded hq4⟩)); obtain ⟨R, hs4⟩ := HS4.out; have HSW := Lib.hid hs4; have d1 := HSW.out.pag.cells.p1; have d5 : w4.cell? ⟨a, 5, none⟩ = some (.int .i64 (Kn : Int)) := HSW.out.pag.cells.p5.trans (by rw [HKi.out]); clear hq4 hs4 HS4))
        go_wp2_with fail
        go_at_call 35
        refine (sb_write3 B0 R (encI tn Kn BL i) (CK ++ PS) w4 HSW.out.sb HLE.out HSW.out.rw).mono ?_
        rintro e w5 ⟨rfl, hsb5, hst5⟩
        have HS5 : Hid (WStR w L c a q g B0 R w5 (encI tn Kn BL (i + 1))) := Lib.hid (HSW.out.write hst5 (by rw [HPS.out]; exact hsb5))
        clear hsb5 hst5 d1 d5
        have x5 : w5.cell? ⟨a, 5, none⟩ = some (.int .i64 (Kn : Int)) := HS5.out.pag.cells.p5.trans (by rw [HKi.out])
        go_wp2_with fail
        go_roundw
        case rel => exact ⟨i + 1, by omega, by rw [HNX.out], Lib.hid (.inr ⟨R, HS5.out⟩)⟩
        case measure =>
          show (X.extract Kn X.size).size < X.size
          rw [ByteArray.size_extract]; omega
      · obtain rfl : i = Cn := by omega
        have hz : (bytS (BL.drop (i * Kn))).size = 0 := by rw [hxs, ← HMN.out]; omega
        obtain ⟨X, hX⟩ : ∃ X, X = bytS (BL.drop (i * Kn)) := ⟨_, rfl⟩
        rw [← hX] at hz
        rw [← hX]
        have hemp := emp_yes hz
        have hi1 : 1 ≤ i := hC1
        obtain ⟨R, hsw⟩ : ∃ R, WStR w L c a q g B0 R wz (encI tn Kn BL i) := by
          rcases HSr.out with ⟨h, _⟩ | h
          · omega
          · exact h
        have HSW := Lib.hid hsw
        have hne : encI tn Kn BL i ≠ [] := by
          intro e
          have h1 : i = (i - 1) + 1 := by omega
          rw [h1] at e
          have h2 := congrArg List.length e
          simp only [encI, List.length_append, List.length_nil, ckL, List.length_take, List.length_drop, HL1.out] at h2
          have h3 : (i - 1) * Kn + Kn = RM + 7 := by rw [HMN.out]; conv => rhs; rw [h1, Nat.succ_mul]
          omega
        have HNE := Lib.hid hne
        clear hX hxs hck hnx hz hsw hne
        have HC0 := Lib.hid c0
        go_wp2_with fail
        go_region_held3 (fun W' => W'.cell? ⟨a, 0, none⟩ = some (.pointer (some ⟨L.a, 0, none⟩)))
          (first | (exact c0) | (exact d0) | (exact f0) | go_keep)
          ((first
            | (go_at_call 36; refine (sb_string3 B0 R (encI tn Kn BL i) _ (by first | exact HSW.out.sb | exact HSW.out.drew.sb) HNE.out).mono ?_; rintro e w4 ⟨rfl, hq4⟩; have HP4 : Hid (PagAt w w4 L c a q g) := Lib.hid (by first | exact (HSW.out.stays hq4).1 | exact (HSW.out.drew.stays hq4).1); have d0 := HP4.out.cells.p0; clear hq4)
            | (go_at_call 20; refine (PagAt.program (by first | exact HP4.out) b n (bytS (encI tn Kn BL i))).mono ?_; rintro e w6 ⟨rfl, hp6⟩; have HP6 := Lib.hid hp6; have f0 := hp6.cells.p0; clear hp6)))
        go_wp2_with fail
        go_ret
        exact ⟨by rw [HV.out]; rfl, by rw [HV.out]; exact HP6.out⟩
end Go.Proofs.YtgfjeaegigjnaaaGreatDoor
