/- Reading a page: the walk. -/
import Derived.Test.YtgfjeaegigjnaaaGreatDoorPagP
import Derived.Test.YtgfjeaegigjnaaaGreatDoorPagG
namespace Go.Proofs.YtgfjeaegigjnaaaGreatDoor
open Go.RowKit
set_option linter.unusedVariables false
set_option linter.unusedSimpArgs false

set_option maxHeartbeats 1600000 in
set_option maxRecDepth 100000 in
theorem pread_nil (b n : Int) (w : World) : Calls Tryz.prog 21 #[.pointer none, .int .i64 b, .int .i64 n] w fun e w' => e = .returned (.tuple #[foundV 0 [] 0, .int .i64 1]) ∧ Below w.heap.size w w' := by
  go_enter Tryz.func21, Tryz.ntmps21
  go_wp2_with fail
  refine bodyPost_ret (v := .tuple #[foundV 0 [] 0, .int .i64 1]) (by simp [results, Tryz.results21, go_sem, foundV, bytS]) rfl ⟨rfl, (Below.refl _ _).alloc (Nat.le_refl _) _⟩
set_option maxRecDepth 100000 in
theorem pwrite_nil (b n : Int) (p : ByteArray) (w : World) : Calls Tryz.prog 17 #[.pointer none, .int .i64 b, .int .i64 n, .string p] w fun e w' => e = .returned (.int .i64 1) ∧ w' = w := by
  go_enter Tryz.func17, Tryz.ntmps17
  go_wp2_with fail
  go_ret
  exact ⟨rfl, rfl⟩
set_option maxHeartbeats 3200000 in
set_option maxRecDepth 100000 in
theorem pread_any {w W : World} {L : Lay} {c : Chp} {a q : Nat} {g : Geo} (h : PagAt w W L c a q g) (hn : NibAt w) (hg : 0 < w.heap.size) (b n : Int)
    (hsz : (readC c b n).2.1 = 0 → (readC c b n).1.size = g.C.toNat * (g.K.toNat + parN g.T.toNat)) :
    Calls Tryz.prog 21 #[.pointer (some ⟨a, 0, none⟩), .int .i64 b, .int .i64 n] W fun e W' => e = .returned (.tuple #[g.readV (readC c b n).1 (readC c b n).2.1, .int .i64 (readC c b n).2.1]) ∧ PagAt w W' L (readC c b n).2.2 a q g ∧ Stays (Touch L c.nb q W.heap.size) W W' := by
  have HP0 : Hid (PagAt w (W.alloc (.cells #[.int .i64 0, .string ⟨#[]⟩, .int .i64 0] 50)) L c a q g) := Lib.hid (h.below ((Below.refl _ _).alloc (Nat.le_refl _) _))
  have HRD := Lib.hid (HP0.out.read2 b n)
  have HFL := Lib.hid h.foot_lt
  have HWW : Hid (w.heap.size ≤ W.heap.size) := Lib.hid h.holds.below.size
  have c0 := HP0.out.cells.p0
  have HNI := Lib.hid hn
  have HGN := Lib.hid hg
  have HSZ := Lib.hid hsz
  have HLK := Lib.hid (like_readC c b n)
  obtain ⟨s, hs⟩ : ∃ s, s = (readC c b n).1 := ⟨_, rfl⟩
  obtain ⟨er, her⟩ : ∃ er, er = (readC c b n).2.1 := ⟨_, rfl⟩
  obtain ⟨c2, hc2⟩ : ∃ c2, c2 = (readC c b n).2.2 := ⟨_, rfl⟩
  rw [← hs, ← her, ← hc2] at HRD
  rw [← hs, ← her] at HSZ
  rw [← hs, ← her, ← hc2]
  rw [← hc2] at HLK
  clear h hn hg hsz hs her hc2
  go_enter Tryz.func21, Tryz.ntmps21
  go_wp2_with fail
  go_at_call 16
  refine HRD.out.mono ?_
  rintro e w1 ⟨rfl, hp1, hst⟩
  have hnf : ¬ Foot L c.nb W.heap.size := fun hf => Nat.lt_irrefl _ (HFL.out _ hf)
  have x0 : w1.cell? ⟨W.heap.size, 0, none⟩ = some (.int .i64 0) := hst.cell (p := ⟨W.heap.size, 0, none⟩) (World.cell?_alloc_new _ _ _ _) hnf
  have x1 : w1.cell? ⟨W.heap.size, 1, none⟩ = some (.string ⟨#[]⟩) := hst.cell (p := ⟨W.heap.size, 1, none⟩) (World.cell?_alloc_new _ _ _ _) hnf
  have x2 : w1.cell? ⟨W.heap.size, 2, none⟩ = some (.int .i64 0) := hst.cell (p := ⟨W.heap.size, 2, none⟩) (World.cell?_alloc_new _ _ _ _) hnf
  have y : ∀ o, w1.frozen? ⟨W.heap.size, o, none⟩ = false := fun o => (hst.frozen (p := ⟨W.heap.size, o, none⟩) hnf (by simp)).trans (World.frozen?_alloc_new _ _ _ _)
  have y0 := y 0
  have y1 := y 1
  have y2 := y 2
  have HY := Lib.hid y
  have HT1 : Hid (Stays (Touch L c.nb q W.heap.size) W w1) := Lib.hid (((Stays.refl (Touch L c.nb q W.heap.size) W).alloc _).trans (hst.mono fun _ e => .inl e))
  have HNB := Lib.hid HLK.out.1
  have hlk : Like c c2 := HLK.out
  have HFR : Hid (∀ k, Foot L c2.nb k → k < W.heap.size) := Lib.hid (fun k hk => HFL.out k (by rw [hlk.1] at hk; exact hk))
  have HP1 := Lib.hid hp1
  clear hp1 HRD HP0 c0 hst hnf y hlk
  rw [← HNB.out] at HT1
  by_cases hE : er = 0
  · subst hE
    obtain ⟨RL, rfl⟩ : ∃ RL, s = bytS RL := ⟨s.data.toList, (bytS_of s).symm⟩
    have hok := HP1.out.ok
    unfold Geo.ok at hok
    obtain ⟨b1, b2, b3, b4, b5, b6, b7, b8, b9, b10, b11⟩ := hok
    obtain ⟨Kn, hKn⟩ : ∃ Kn : Nat, g.K = (Kn : Int) := ⟨g.K.toNat, by omega⟩
    obtain ⟨Cn, hCn⟩ : ∃ Cn : Nat, g.C = (Cn : Int) := ⟨g.C.toNat, by omega⟩
    obtain ⟨tn, htn⟩ : ∃ tn : Nat, g.T = (tn : Int) := ⟨g.T.toNat, by omega⟩
    have hK2 : g.K.toNat = Kn := by omega
    have hC2 : g.C.toNat = Cn := by omega
    have ht2 : g.T.toNat = tn := by omega
    have hp2 : parN tn ≤ 13 := by unfold parN; omega
    have hp1 : 1 ≤ parN tn := by unfold parN; omega
    obtain ⟨sz, hsz⟩ : ∃ sz, sz = Kn + parN tn := ⟨_, rfl⟩
    have hl : RL.length = Cn * sz := by have := HSZ.out rfl; rw [bytS_size, hC2, hK2, ht2] at this; rw [this, hsz]
    have HEM := Lib.hid (empty_any HP1.out RL Cn sz (by rw [hK2, ht2, hsz]) (by omega) hl)
    have hV0 : g.readV (bytS RL) 0 = g.readL RL := by unfold Geo.readV; rw [if_neg (by simp)]; rfl
    have hVE : emptyB sz Cn g.T RL → g.readV (bytS RL) 0 = foundV 0 [] 0 := fun he => by rw [hV0]; unfold Geo.readL; rw [hK2, hC2, ht2, ← hsz, if_pos he]
    have hVN : ¬ emptyB sz Cn g.T RL → g.readV (bytS RL) 0 = fullV (decsC tn Kn RL Cn) := fun he => by rw [hV0]; unfold Geo.readL; rw [hK2, hC2, ht2, ← hsz, if_neg he]
    have HRS : Hid (ResAt w1 W.heap.size) := Lib.hid ⟨x0, x1, x2, HY.out⟩
    have hre : ∃ r, r = W.heap.size := ⟨_, rfl⟩
    obtain ⟨r, hre⟩ := hre
    have HRE := Lib.hid hre.symm
    rw [← hre] at HFR HWW HT1 HRS x0 x1 x2 y0 y1 y2
    rw [← hre]
    clear hre
    clear x0 x1 x2 y0 y1 y2 HY HSZ hV0
    by_cases hem : emptyB sz Cn g.T RL
    · have HV := Lib.hid (hVE hem)
      rw [decide_eq_true hem] at HEM
      clear b1 b2 b3 b4 b5 b6 b7 b8 b9 b10 b11 hKn hCn htn hK2 hC2 ht2 hp2 hp1 hsz hl hVE hVN hem
      go_wp2_with fail
      go_at_call 42
      refine HEM.out.mono ?_
      rintro e w2 ⟨rfl, hq2⟩
      have HR2 := Lib.hid (HRS.out.coded (HP1.out.qr HRS.out) hq2)
      have HP2 := Lib.hid (HP1.out.coded hq2)
      have x0 := HR2.out.x0
      have x1 := HR2.out.x1
      have x2 := HR2.out.x2
      have y0 := HR2.out.y 0
      have y1 := HR2.out.y 1
      have y2 := HR2.out.y 2
      have HR3 := Lib.hid (HP2.out.res3 x1 HFR.out HWW.out)
      have HTE := Lib.hid (Coded.touch HT1.out hq2)
      clear hq2
      go_wp2_with fail
      refine bodyPost_ret (v := .tuple #[foundV 0 [] 0, .int .i64 0]) (by simp [results, Tryz.results21, go_sem, foundV, bytS, x0, x1, x2]) rfl ⟨by rw [HV.out], HR3.out _ _ _, by rw [← HNB.out, HRE.out]; exact touch_res HTE.out _ _ _⟩
    · have HVN := Lib.hid (hVN hem)
      rw [decide_eq_false hem] at HEM
      clear hVE hVN hem
      go_wp2_with fail
      go_at_call 42
      refine HEM.out.mono ?_
      rintro e w2 ⟨rfl, hq2⟩
      have HR2 := Lib.hid (HRS.out.coded (HP1.out.qr HRS.out) hq2)
      have HP2 := Lib.hid (HP1.out.coded hq2)
      have HCR : Hid (∃ gl be bl, CodeReady w2 q g.T.toNat g.K.toNat gl be bl) := Lib.hid (by obtain ⟨gl, be, bl, h, _⟩ := hq2; exact ⟨gl, be, bl, h⟩)
      have HS3 : Hid (RdSt w L c2 a q g r W w2.heap.size w2.heap.size (w2.alloc (.cells #[.pointer none, .slice none 0 0] 92)) []) := Lib.hid (RdSt.new HP2.out HCR.out HR2.out (Coded.touch HT1.out hq2))
      clear hq2 HRS HP1 HEM HR2 HP2 HCR
      have hTn : g.T.toNat = tn := ht2
      obtain ⟨pn, hpn⟩ : ∃ pn, pn = parN tn := ⟨_, rfl⟩
      have hq1 : IntKind.i64.wrap ((Kn : Int) + (pn : Nat)) = (sz : Int) := by rw [IntKind.wrap_i64]; omega
      have HPA : Hid (∀ w, CodeAt w q g.T.toNat g.K.toNat → Calls Tryz.prog 28 #[.pointer (some ⟨q, 0, none⟩)] w fun e w' => e = .returned (.int .i64 (pn : Int)) ∧ Coded q g.T.toNat g.K.toNat w w') :=
        Lib.hid (fun w h => (Parity_any q g.T.toNat g.K.toNat (by omega) (by omega) w h).mono fun e w' ⟨he, hk⟩ => ⟨by rw [he, ht2, hpn], hk⟩)
      have HDE : Hid (∀ s p : ByteArray, s.size = Kn → p.size = pn → ∀ w, CodeAt w q g.T.toNat g.K.toNat → Calls Tryz.prog 43 #[.pointer (some ⟨q, 0, none⟩), .string s, .string p] w fun e w' => e = .returned (decV tn Kn (decR tn Kn (numB s.data.toList) (numB p.data.toList))) ∧ Coded q g.T.toNat g.K.toNat w w') :=
        Lib.hid (fun s p hs hp w h => (Decode_any q g.T.toNat g.K.toNat s p (by omega) (by rw [ht2, ← hpn]; exact hp) (by omega) (by omega) (by omega) (by omega) w h).mono fun e w' ⟨he, hk⟩ => ⟨by rw [he, ht2, hK2], hk⟩)
      have HDL : Hid (∀ i z, ((RL.drop (i * sz)).take Kn).length = Kn → (((RL.drop (i * sz)).take sz).drop Kn).length = pn → decC tn Kn RL i = some z → z.2.2 ≤ 8) := Lib.hid (fun i z h1 h2 hz => decC_le (by omega) (by omega) (by omega) (by rw [← hsz]; exact h1) (by rw [← hsz, ← hpn]; exact h2) hz)
      have HDC : Hid (∀ i, decC tn Kn RL i = decR tn Kn (numB ((RL.drop (i * sz)).take Kn)) (numB (((RL.drop (i * sz)).take sz).drop Kn))) := Lib.hid (fun i => by unfold decC; rw [← hsz])
      have HKi : Hid (g.K = (Kn : Int)) := Lib.hid hKn
      have HLL := Lib.hid hl
      have HPN := Lib.hid (And.intro hpn hsz)
      have hK16 : 16 ≤ Kn := by omega
      have hK256 : Kn ≤ 256 := by omega
      have hC4 : Cn ≤ 4 := by omega
      have hC1 : 1 ≤ Cn := by omega
      have hszK := Lib.hid (show sz = Kn + pn by omega)
      have hKsz : Kn ≤ sz := by omega
      have hpn13 : pn ≤ 13 := by omega
      clear b1 b2 b3 b4 b5 b6 b7 b8 b9 b10 b11 hKn hCn htn hK2 hC2 ht2 hTn hp2 hp1 hsz hl hpn
      go_wp2_with fail
      generalize (w2.alloc (.cells #[.pointer none, .slice none 0 0] 92)) = w3 at *
      generalize w2.heap.size = B0 at *
      have c1 := HS3.out.wst.pag.cells.p1
      have c5 := HS3.out.wst.pag.cells.p5
      rw [HKi.out] at c5
      go_region_held3 (fun W' => W'.cell? ⟨a, 1, none⟩ = some (.pointer (some ⟨q, 0, none⟩)) ∧ W'.cell? ⟨a, 5, none⟩ = some (.int .i64 (Kn : Int)))
        (first | (exact ⟨c1, c5⟩) | (exact ⟨d1, d5⟩) | go_keep)
        ((go_at_call 28; refine (HPA.out _ (by first | exact HS3.out.wst.pag.code | exact HS3.out.drew.wst.pag.code)).mono ?_; rintro e w4 ⟨rfl, hq4⟩; have HS4 : Hid (RdSt w L c2 a q g r W B0 B0 w4 []) := Lib.hid (by first | exact HS3.out.coded hq4 | exact HS3.out.drew.coded hq4); have d1 := HS4.out.wst.pag.cells.p1; have d5 : w4.cell? ⟨a, 5, none⟩ = some (.int .i64 (Kn : Int)) := HS4.out.wst.pag.cells.p5.trans (by rw [HKi.out]); clear hq4))
      clear HS3 HPA c1 c5 d1 d5
      go_wp2_with fail
      go_loopw [8, 11] (fun rv nv wr => ∃ (i : Nat) (b : List UInt8) (n : Nat), i ≤ Cn ∧ rv = .string (bytS (RL.drop (i * sz))) ∧ nv = .int .i64 (n : Int) ∧ n ≤ i * 8 ∧ Hid (decsC tn Kn RL i = some (b, n)) ∧ Hid (RdSt w L c2 a q g r W B0 B0 wr b)) (fun rv _ _ => match rv with | .string s => s.size | _ => 0)
      case atStart => exact ⟨0, [], 0, Nat.zero_le _, by simp, rfl, Nat.le_refl _, Lib.hid rfl, HS4⟩
      case round =>
        obtain ⟨i, b, n, hi, rfl, rfl, hn8, HD, HSr⟩ := hrel
        clear HS4
        obtain ⟨wz, rfl⟩ : ∃ wz : World, wz = wr := ⟨_, rfl⟩
        have hxs : (bytS (RL.drop (i * sz))).size = Cn * sz - i * sz := by rw [bytS_size, List.length_drop, HLL.out]
        have hck : (bytS (RL.drop (i * sz))).extract 0 Kn = bytS ((RL.drop (i * sz)).take Kn) := by rw [bytS_extract]; simp
        have hpk : (bytS (RL.drop (i * sz))).extract Kn sz = bytS (((RL.drop (i * sz)).take sz).drop Kn) := by rw [bytS_extract, List.drop_take]
        have hnx : (bytS (RL.drop (i * sz))).extract sz (bytS (RL.drop (i * sz))).size = bytS (RL.drop ((i + 1) * sz)) := by
          rw [bytS_extract, hxs]
          congr 1
          rw [List.drop_drop, List.take_of_length_le]
          · congr 1; rw [Nat.succ_mul]
          · rw [List.length_drop, HLL.out]; rw [Nat.sub_sub]; exact Nat.le_refl _
        by_cases hlt : i < Cn
        · have hge : (i + 1) * sz ≤ Cn * sz := Nat.mul_le_mul_right _ hlt
          have hszx : sz ≤ (bytS (RL.drop (i * sz))).size := by rw [hxs]; rw [Nat.succ_mul] at hge; omega
          have hcs : ((RL.drop (i * sz)).take Kn).length = Kn := by
            rw [List.length_take, List.length_drop, HLL.out]
            rw [Nat.succ_mul] at hge; have := hszK.out; omega
          have hps : (((RL.drop (i * sz)).take sz).drop Kn).length = pn := by
            rw [List.length_drop, List.length_take, List.length_drop, HLL.out]
            rw [Nat.succ_mul] at hge; have := hszK.out; omega
          have hdl := HDL.out i
          have hdc := HDC.out i
          obtain ⟨X, hX⟩ : ∃ X, X = bytS (RL.drop (i * sz)) := ⟨_, rfl⟩
          rw [← hX] at hck hpk hnx hszx
          rw [← hX]
          have hemp := emp_no (s := X) (by omega)
          have HNX := Lib.hid hnx
          obtain ⟨CK, hCK⟩ : ∃ CK, CK = (RL.drop (i * sz)).take Kn := ⟨_, rfl⟩
          obtain ⟨PK, hPK⟩ : ∃ PK, PK = ((RL.drop (i * sz)).take sz).drop Kn := ⟨_, rfl⟩
          rw [← hCK] at hck hcs hdl hdc
          rw [← hPK] at hpk hps hdl hdc
          have hce := HDE.out (bytS CK) (bytS PK) (by rw [bytS_size]; exact hcs) (by rw [bytS_size]; exact hps)
          rw [bytS_list, bytS_list, ← hdc] at hce
          have c1 := HSr.out.wst.pag.cells.p1
          have c5 := HSr.out.wst.pag.cells.p5
          rw [HKi.out] at c5
          have hKs : (Kn : Int) ≤ (sz : Int) := by omega
          have hKX : (Kn : Int) ≤ (X.size : Int) := by omega
          have hsX : (sz : Int) ≤ (X.size : Int) := by omega
          have hnFK : ¬ X.size < Kn := by omega
          have hnFs : ¬ X.size < sz := by omega
          have hnKs : ¬ sz < Kn := by omega
          cases hdz : decC tn Kn RL i with
          | none =>
            rw [hdz] at hce
            have HCE : Hid (∀ w, CodeAt w q g.T.toNat g.K.toNat → Calls Tryz.prog 43 #[.pointer (some ⟨q, 0, none⟩), .string (bytS CK), .string (bytS PK)] w fun e w' => e = .returned (.tuple #[.string ⟨#[]⟩, .string ⟨#[]⟩, .int .i64 0, .bool false]) ∧ Coded q g.T.toNat g.K.toNat w w') := Lib.hid hce
            have HV : Hid (g.readV (bytS RL) 0 = foundV 2 [] 0) := Lib.hid (by
              have h1 : decsC tn Kn RL (i + 1) = none := by simp only [decsC, HD.out, hdz]
              rw [HVN.out, decsC_none h1 (by omega)]; rfl)
            clear hdl hdc hce hX hCK hPK hcs hps hxs hge hnx hdz HD HVN HDL HDC HDE
            go_wp2_with fail
            go_region_held3 (fun W' => W'.cell? ⟨a, 1, none⟩ = some (.pointer (some ⟨q, 0, none⟩)) ∧ W'.cell? ⟨a, 5, none⟩ = some (.int .i64 (Kn : Int)))
              (first | (exact ⟨c1, c5⟩) | (exact ⟨d1, d5⟩) | go_keep)
              ((go_at_call 43; refine (HCE.out _ (by first | exact HSr.out.wst.pag.code | exact HSr.out.drew.wst.pag.code)).mono ?_; rintro e w4 ⟨rfl, hq4⟩; have HS4 : Hid (RdSt w L c2 a q g r W B0 B0 w4 b) := Lib.hid (by first | exact HSr.out.coded hq4 | exact HSr.out.drew.coded hq4); have d1 := HS4.out.wst.pag.cells.p1; have d5 : w4.cell? ⟨a, 5, none⟩ = some (.int .i64 (Kn : Int)) := HS4.out.wst.pag.cells.p5.trans (by rw [HKi.out]); clear hq4))
            clear HSr c1 c5 d1 d5
            have x0 := HS4.out.res.x0
            have x1 := HS4.out.res.x1
            have x2 := HS4.out.res.x2
            have y0 := HS4.out.res.y 0
            have y1 := HS4.out.res.y 1
            have y2 := HS4.out.res.y 2
            have HR3 := Lib.hid (HS4.out.wst.pag.res3 x1 HFR.out HWW.out)
            have HTE := Lib.hid HS4.out.tch
            go_wp2_with fail
            refine bodyPost_ret (v := .tuple #[foundV 2 [] 0, .int .i64 0]) (by simp [results, Tryz.results21, go_sem, foundV, bytS, x0, x1, x2]) rfl ⟨by rw [HV.out], HR3.out _ _ _, by rw [← HNB.out, HRE.out]; exact touch_res HTE.out _ _ _⟩
          | some z =>
            obtain ⟨V, P, k⟩ := z
            have hk8 : k ≤ 8 := hdl (V, P, k) hcs hps hdz
            rw [hdz] at hce
            have HCE : Hid (∀ w, CodeAt w q g.T.toNat g.K.toNat → Calls Tryz.prog 43 #[.pointer (some ⟨q, 0, none⟩), .string (bytS CK), .string (bytS PK)] w fun e w' => e = .returned (.tuple #[.string (strOf Kn V), .string (strOf (parN tn) P), .int .i64 (k : Int), .bool true]) ∧ Coded q g.T.toNat g.K.toNat w w') := Lib.hid hce
            have HD2 : Hid (decsC tn Kn RL (i + 1) = some (b ++ (strOf Kn V).data.toList, n + k)) := Lib.hid (by simp only [decsC, HD.out, hdz])
            have HBL : Hid (b.length + (strOf Kn V).size ≤ 140737488355328) := Lib.hid (by
              rw [decsC_length HD.out, str_size]
              have : i * Kn ≤ 4 * 256 := Nat.mul_le_mul (by omega) hK256
              omega)
            have hwr : IntKind.i64.wrap ((n : Int) + (k : Int)) = ((n + k : Nat) : Int) := by rw [IntKind.wrap_i64]; omega
            obtain ⟨SV, hSV⟩ : ∃ SV, SV = strOf Kn V := ⟨_, rfl⟩
            obtain ⟨SP, hSP⟩ : ∃ SP, SP = strOf (parN tn) P := ⟨_, rfl⟩
            rw [← hSV] at HCE HD2 HBL
            rw [← hSP] at HCE
            clear hdl hdc hce hX hCK hPK hcs hps hxs hge hnx hdz hSV hSP HD
            go_wp2_with fail
            go_region_held3 (fun W' => W'.cell? ⟨a, 1, none⟩ = some (.pointer (some ⟨q, 0, none⟩)) ∧ W'.cell? ⟨a, 5, none⟩ = some (.int .i64 (Kn : Int)))
              (first | (exact ⟨c1, c5⟩) | (exact ⟨d1, d5⟩) | go_keep)
              ((go_at_call 43; refine (HCE.out _ (by first | exact HSr.out.wst.pag.code | exact HSr.out.drew.wst.pag.code)).mono ?_; rintro e w4 ⟨rfl, hq4⟩; have HS4 : Hid (RdSt w L c2 a q g r W B0 B0 w4 b) := Lib.hid (by first | exact HSr.out.coded hq4 | exact HSr.out.drew.coded hq4); have d1 := HS4.out.wst.pag.cells.p1; have d5 : w4.cell? ⟨a, 5, none⟩ = some (.int .i64 (Kn : Int)) := HS4.out.wst.pag.cells.p5.trans (by rw [HKi.out]); clear hq4))
            clear HSr c1 c5 d1 d5
            go_wp2_with fail
            go_at_call 35
            refine (sb_write3 B0 B0 b SV w4 HS4.out.wst.sb HBL.out HS4.out.wst.rw).mono ?_
            rintro e w5 ⟨rfl, hsb5, hst5⟩
            have HS5 : Hid (RdSt w L c2 a q g r W B0 B0 w5 (b ++ SV.data.toList)) := Lib.hid (HS4.out.write hst5 hsb5)
            clear hsb5 hst5 HS4
            go_wp2_with fail
            go_roundw
            case rel => exact ⟨i + 1, _, n + k, by omega, by rw [HNX.out], by go_num, by omega, HD2, HS5⟩
            case measure =>
              show (X.extract sz X.size).size < X.size
              rw [ByteArray.size_extract]; omega
        · obtain rfl : i = Cn := by omega
          have hz : (bytS (RL.drop (i * sz))).size = 0 := by rw [hxs]; omega
          obtain ⟨X, hX⟩ : ∃ X, X = bytS (RL.drop (i * sz)) := ⟨_, rfl⟩
          rw [← hX] at hz
          rw [← hX]
          have hemp := emp_yes hz
          have hV := HVN.out
          rw [HD.out] at hV
          have hV : g.readV (bytS RL) 0 = openedV n (openL b) := hV
          have hbl := decsC_length HD.out
          have hb1 : 1 * Kn ≤ i * Kn := Nat.mul_le_mul_right _ hC1
          have hb2 : i * Kn ≤ 4 * 256 := Nat.mul_le_mul hC4 hK256
          have HB0 : Hid (b ≠ []) := Lib.hid (fun e => by rw [e] at hbl; simp at hbl; omega)
          have HBZ : Hid (4 ≤ (bytS b).size ∧ (bytS b).size ≤ 1000000) := Lib.hid (by rw [bytS_size]; omega)
          have HOP : Hid (∀ w1, PagAt w w1 L c2 a q g → Calls Tryz.prog 44 #[.string (bytS b)] w1 fun e w' => e = .returned (openV b) ∧ Below w1.heap.size w1 w') := Lib.hid (fun w1 hp => open_any (bytS b) HBZ.out.1 HBZ.out.2 w1 (HNI.out.below hp.holds.below HGN.out) (by have := hp.holds.below.size; have := HGN.out; omega))
          have HCP := Lib.hid (fun s w => Tryz.strings_CutPrefix s ⟨#[0, 0, 0]⟩ w)
          clear hX hxs hck hpk hnx hz HVN HD hbl hb1 hb2
          go_wp2_with fail
          go_at_call 36
          refine (sb_string3 B0 B0 b _ HSr.out.wst.sb HB0.out).mono ?_
          rintro e w4 ⟨rfl, hq4⟩
          have HP4 : Hid (PagAt w w4 L c2 a q g) := Lib.hid (HSr.out.wst.stays hq4).1
          have HR4 : Hid (ResAt w4 r) := Lib.hid (HSr.out.res.stays hq4 (by have := HSr.out.rb; rintro (e | e) <;> omega))
          have HT4 := Lib.hid (HSr.out.string hq4)
          clear hq4 HSr
          go_wp2_with fail
          go_at_call 44
          refine (HOP.out _ HP4.out).mono ?_
          rintro e w5 ⟨rfl, hq5⟩
          have HP5 : Hid (PagAt w w5 L c2 a q g) := Lib.hid (HP4.out.below hq5)
          have HR5 : Hid (ResAt w5 r) := Lib.hid (HR4.out.below hq5)
          have HTE := Lib.hid (HT4.out.below hq5)
          clear hq5 HP4 HR4 HOP
          have x0 := HR5.out.x0
          have x1 := HR5.out.x1
          have x2 := HR5.out.x2
          have y0 := HR5.out.y 0
          have y1 := HR5.out.y 1
          have y2 := HR5.out.y 2
          have HR3 := Lib.hid (HP5.out.res3 x1 HFR.out HWW.out)
          cases hop : openL b with
          | none =>
            rw [hop] at hV
            have HV : Hid (g.readV (bytS RL) 0 = foundV 2 [] 0) := Lib.hid hV
            have ho : openV b = .tuple #[.string ⟨#[]⟩, .bool false] := by unfold openV; rw [hop]
            rw [ho]
            clear hV hop ho
            go_wp2_with fail
            go_at_call 45
            refine (HCP.out _ _).mono ?_
            rintro e w' ⟨rfl, hw'⟩
            obtain rfl := hw'.symm
            go_wp2_with fail
            refine bodyPost_ret (v := .tuple #[foundV 2 [] 0, .int .i64 0]) (by simp [results, Tryz.results21, go_sem, foundV, bytS, x0, x1, x2]) rfl ⟨by rw [HV.out], HR3.out _ _ _, by rw [← HNB.out, HRE.out]; exact touch_res HTE.out _ _ _⟩
          | some m =>
            rw [hop] at hV
            have hV : g.readV (bytS RL) 0 = if Lib.hasPrefix m [0, 0, 0] = true then foundV 1 (Lib.trimPrefix m [0, 0, 0]) n else foundV 2 [] 0 := hV
            have ho : openV b = .tuple #[.string (bytS m), .bool true] := by unfold openV; rw [hop]
            rw [ho]
            have hcp : ∀ w, Calls Tryz.prog 45 #[.string (bytS m), .string ⟨#[0, 0, 0]⟩] w fun e w' => e = .returned (.tuple #[.string (bytS (Lib.trimPrefix m [0, 0, 0])), .bool (Lib.hasPrefix m [0, 0, 0])]) ∧ w' = w := fun w => HCP.out (bytS m) w
            have HCP2 := Lib.hid hcp
            generalize Lib.trimPrefix m [0, 0, 0] = tm at *
            cases hpx : Lib.hasPrefix m [0, 0, 0] with
            | false =>
              rw [hpx] at hV HCP2
              have HV : Hid (g.readV (bytS RL) 0 = foundV 2 [] 0) := Lib.hid (by rw [hV]; rfl)
              clear hV hop ho hcp hpx
              go_wp2_with fail
              go_at_call 45
              refine (HCP2.out _).mono ?_
              rintro e w' ⟨rfl, hw'⟩
              obtain rfl := hw'.symm
              go_wp2_with fail
              refine bodyPost_ret (v := .tuple #[foundV 2 [] 0, .int .i64 0]) (by simp [results, Tryz.results21, go_sem, foundV, bytS, x0, x1, x2]) rfl ⟨by rw [HV.out], HR3.out _ _ _, by rw [← HNB.out, HRE.out]; exact touch_res HTE.out _ _ _⟩
            | true =>
              rw [hpx] at hV HCP2
              have HV : Hid (g.readV (bytS RL) 0 = foundV 1 tm (n : Int)) := Lib.hid (by rw [hV]; rfl)
              clear hV hop ho hcp hpx
              go_wp2_with fail
              go_at_call 45
              refine (HCP2.out _).mono ?_
              rintro e w' ⟨rfl, hw'⟩
              obtain rfl := hw'.symm
              go_wp2_with fail
              refine bodyPost_ret (v := .tuple #[foundV 1 tm (n : Int), .int .i64 0]) (by simp [results, Tryz.results21, go_sem, foundV, bytS, x0, x1, x2]) rfl ⟨by rw [HV.out], HR3.out _ _ _, by rw [← HNB.out, HRE.out]; exact touch_res HTE.out _ _ _⟩
  · have hne : (er != 0) = true := by simp [hE]
    have HV : Hid (g.readV s er = foundV 0 [] 0) := Lib.hid (by unfold Geo.readV; rw [if_pos hE])
    have HR3 := Lib.hid (HP1.out.res3 x1 HFR.out HWW.out)
    have HTE := HT1
    go_wp2_with fail
    refine bodyPost_ret (v := .tuple #[foundV 0 [] 0, .int .i64 er]) (by simp [results, Tryz.results21, go_sem, foundV, bytS, x0, x1, x2]) rfl ⟨by rw [HV.out], HR3.out _ _ _, by rw [← HNB.out]; exact touch_res HTE.out _ _ _⟩
end Go.Proofs.YtgfjeaegigjnaaaGreatDoor
