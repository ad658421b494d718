/- Decode, whole. -/
import Derived.Test.YtgfjeaegigjnaaaGreatDoorPgP
import Derived.Deep.RegionHeld3
namespace Go.Proofs.YtgfjeaegigjnaaaGreatDoor
open Go.RowKit
set_option linter.unusedVariables false
set_option linter.unusedSimpArgs false

/-- What Decode hands back. -/
def decV (t chunk : Nat) : Option (Nat × Nat × Nat) → Value
  | none => .tuple #[.string ⟨#[]⟩, .string ⟨#[]⟩, .int .i64 0, .bool false]
  | some z => .tuple #[.string (strOf chunk z.1), .string (strOf (parN t) z.2.1), .int .i64 (z.2.2 : Int), .bool true]
/-- What stands while bits are turned back. -/
structure DecSt (w0 w : World) (c t chunk gl be bl gw gp nb V P : Nat) : Prop where
  st : SynSt w0 w c t chunk gl be bl
  wd : SV w gw chunk V
  pr : SV w gp nb P
  gw1 : w0.heap.size ≤ gw
  gw2 : gw < w.heap.size
  gp1 : w0.heap.size ≤ gp
  gp2 : gp < w.heap.size
  ne : gw ≠ gp
section
variable {w0 w w' : World} {c t chunk gl be bl gw gp nb V P : Nat}
theorem DecSt.below (h : DecSt w0 w c t chunk gl be bl gw gp nb V P) (k : Below w.heap.size w w') : DecSt w0 w' c t chunk gl be bl gw gp nb V P := by
  have hz := k.size
  have h1 := h.gw2
  have h2 := h.gp2
  exact ⟨h.st.new (S := fun _ => False) (Stays.of_below k) (fun _ q => q.elim), SRow.stays h.wd (S := fun _ => False) (Stays.of_below k) h1 id, SRow.stays h.pr (S := fun _ => False) (Stays.of_below k) h2 id, h.gw1, by omega, h.gp1, by omega, h.ne⟩
theorem DecSt.drew (h : DecSt w0 w c t chunk gl be bl gw gp nb V P) : DecSt w0 w.drew c t chunk gl be bl gw gp nb V P := h.below (Below.refl _ _).drew
/-- A call that leaves all but the field's cells. -/
theorem DecSt.call (h : DecSt w0 w c t chunk gl be bl gw gp nb V P) (k : SynSt w w' c t chunk gl be bl) : DecSt w0 w' c t chunk gl be bl gw gp nb V P := by
  have hz := k.on.st.size
  have h1 := h.gw2
  have h2 := h.gp2
  have h3 := h.gw1
  have h4 := h.gp1
  have h5 := h.st.lc
  exact ⟨⟨k.cr, h.st.on.trans k.on, h.st.lc, h.st.lg, h.st.le, h.st.ll⟩, SRow.stays h.wd k.on.st h1 (by show gw ≠ c; omega), SRow.stays h.pr k.on.st h2 (by show gp ≠ c; omega), h.gw1, by omega, h.gp1, by omega, h.ne⟩
theorem DecSt.turnW (h : DecSt w0 w c t chunk gl be bl gw gp nb V P) {k : Nat} (hk : k < 8 * chunk) : DecSt w0 (w.setCell ⟨gw, k / 8, none⟩ (.int .u8 ((byteAt chunk V (k / 8) ^^^ 128 / 2 ^ (k % 8) : Nat) : Int))) c t chunk gl be bl gw gp nb (V ^^^ 2 ^ (8 * chunk - 1 - k)) P := by
  have hs : Stays (· = gw) w (w.setCell ⟨gw, k / 8, none⟩ (.int .u8 ((byteAt chunk V (k / 8) ^^^ 128 / 2 ^ (k % 8) : Nat) : Int))) := Row.stay
  have hz := hs.size
  have h1 := h.gw2
  have h2 := h.gp2
  exact ⟨h.st.set _ _ h.gw1, SV.turn h.wd hk, SRow.stays h.pr hs h2 (Ne.symm h.ne), h.gw1, by omega, h.gp1, by omega, h.ne⟩
theorem DecSt.turnP (h : DecSt w0 w c t chunk gl be bl gw gp nb V P) {k : Nat} (hk : k < 8 * nb) : DecSt w0 (w.setCell ⟨gp, k / 8, none⟩ (.int .u8 ((byteAt nb P (k / 8) ^^^ 128 / 2 ^ (k % 8) : Nat) : Int))) c t chunk gl be bl gw gp nb V (P ^^^ 2 ^ (8 * nb - 1 - k)) := by
  have hs : Stays (· = gp) w (w.setCell ⟨gp, k / 8, none⟩ (.int .u8 ((byteAt nb P (k / 8) ^^^ 128 / 2 ^ (k % 8) : Nat) : Int))) := Row.stay
  have hz := hs.size
  have h1 := h.gw2
  have h2 := h.gp2
  exact ⟨h.st.set _ _ h.gp1, SRow.stays h.wd hs h1 h.ne, SV.turn h.pr hk, h.gw1, by omega, h.gp1, by omega, h.ne⟩
end
theorem trimL_20 (L : List Nat) (hl : L.length ≤ 17) (f : Nat) (hf : 20 ≤ f) : trimL L f = trimL L 20 := by
  have key : ∀ f (L : List Nat), L.length ≤ f + 1 → ∀ g, f ≤ g → trimL L g = trimL L f := by
    intro f
    induction f with
    | zero => intro L h g _; rw [trimL_stop _ (by omega)]; rfl
    | succ f ih =>
      intro L h g hg
      obtain ⟨g', rfl⟩ : ∃ g', g = g' + 1 := ⟨g - 1, by omega⟩
      by_cases hc : 1 < L.length ∧ L.getD (L.length - 1) 0 = 0
      · rw [trimL_step hc.1 hc.2, trimL_step hc.1 hc.2]
        exact ih _ (by rw [List.length_take]; omega) g' (by omega)
      · rw [trimL_stop _ hc, trimL_stop _ hc]
  exact key 20 L (by omega) f hf
section
variable {t chunk V P W : Nat} {L r : List Nat}
theorem decR_few (hW : W = regV t chunk V ^^^ noSpare (spare t) P) (hcl : clB W (parN t) (13 * t) (2 * t) = false) (hL : L = locR t W) (hr : r = rootsI L (8 * chunk + 13 * t)) (h : t < L.length - 1 ∨ r.length ≠ L.length - 1) : decR t chunk V P = none := by
  unfold decR
  rw [← hW, ← hL, ← hr, if_neg (by rw [hcl]; decide), if_pos h]
theorem decR_bad (hW : W = regV t chunk V ^^^ noSpare (spare t) P) (hL : L = locR t W) (hr : r = rootsI L (8 * chunk + 13 * t)) (hcl : clB W (parN t) (13 * t) (2 * t) = false)
    (h : ¬ regV t chunk (decI chunk (parN t) (13 * t) V (noSpare (spare t) P) r r.length).1 = (decI chunk (parN t) (13 * t) V (noSpare (spare t) P) r r.length).2) : decR t chunk V P = none := by
  unfold decR
  rw [← hW, ← hL, ← hr, if_neg (by rw [hcl]; decide), if_neg h]
  split <;> rfl
theorem decR_good (hW : W = regV t chunk V ^^^ noSpare (spare t) P) (hL : L = locR t W) (hr : r = rootsI L (8 * chunk + 13 * t)) (hcl : clB W (parN t) (13 * t) (2 * t) = false) (h1 : ¬ t < L.length - 1) (h2 : r.length = L.length - 1)
    (h : regV t chunk (decI chunk (parN t) (13 * t) V (noSpare (spare t) P) r r.length).1 = (decI chunk (parN t) (13 * t) V (noSpare (spare t) P) r r.length).2) :
    decR t chunk V P = some ((decI chunk (parN t) (13 * t) V (noSpare (spare t) P) r r.length).1, (decI chunk (parN t) (13 * t) V (noSpare (spare t) P) r r.length).2, r.length) := by
  unfold decR
  rw [← hW, ← hL, ← hr, if_neg (by rw [hcl]; decide), if_neg (by omega), if_pos h]
end
theorem str_ne {a b : ByteArray} (h : a ≠ b) : (a.toList == b.toList) = false ∧ (a.toList != b.toList) = true := by
  have h1 : (a.toList == b.toList) = false := by
    rw [beq_eq_false_iff_ne, ByteArray.toList_eq, ByteArray.toList_eq]
    intro e
    apply h
    cases a; cases b
    congr 1
    exact Array.toList_inj.1 e
  exact ⟨h1, by rw [bne, h1]; rfl⟩
theorem strOf_inj {n A B : Nat} (hA : A < 2 ^ (8 * n)) (hB : B < 2 ^ (8 * n)) (h : strOf n A = strOf n B) : A = B := by
  rw [← num_str hA, ← num_str hB, h]
set_option maxRecDepth 100000 in
theorem Decode_nil (s q : ByteArray) (w : World) : Calls Tryz.prog 43 #[.pointer none, .string s, .string q] w fun e w' => e = .returned (.tuple #[.string ⟨#[]⟩, .string ⟨#[]⟩, .int .i64 0, .bool false]) ∧ w' = w := by
  go_enter Tryz.func43, Tryz.ntmps43
  go_wp2_with fail
  refine bodyPost_ret (v := .tuple #[.string ⟨#[]⟩, .string ⟨#[]⟩, .int .i64 0, .bool false]) (by simp [results, Tryz.results43, go_sem]) rfl ⟨rfl, rfl⟩
set_option maxRecDepth 100000 in
theorem Decode_long (c t chunk : Nat) (s q : ByteArray) (hs : s.size ≠ chunk) (w : World) (h1 : w.cell? ⟨c, 1, none⟩ = some (.int .i64 (chunk : Int))) :
    Calls Tryz.prog 43 #[.pointer (some ⟨c, 0, none⟩), .string s, .string q] w fun e w' => e = .returned (.tuple #[.string ⟨#[]⟩, .string ⟨#[]⟩, .int .i64 0, .bool false]) ∧ w' = w := by
  have hne : ((s.size : Int) != (chunk : Int)) = true := by simp; omega
  clear hs
  go_enter Tryz.func43, Tryz.ntmps43
  go_wp2_with fail
  refine bodyPost_ret (v := .tuple #[.string ⟨#[]⟩, .string ⟨#[]⟩, .int .i64 0, .bool false]) (by simp [results, Tryz.results43, go_sem]) rfl ⟨rfl, rfl⟩
set_option maxRecDepth 100000 in
theorem Decode_par (c t chunk : Nat) (s q : ByteArray) (hs : s.size = chunk) (hq : q.size ≠ parN t) (ht1 : 1 ≤ t) (ht8 : t ≤ 8) (w : World) (h : CodeAt w c t chunk) :
    Calls Tryz.prog 43 #[.pointer (some ⟨c, 0, none⟩), .string s, .string q] w fun e w' => e = .returned (.tuple #[.string ⟨#[]⟩, .string ⟨#[]⟩, .int .i64 0, .bool false]) ∧ Coded c t chunk w w' := by
  have h1 : w.cell? ⟨c, 1, none⟩ = some (.int .i64 (chunk : Int)) := by
    rcases h with h | ⟨_, _, _, h⟩ <;> exact h.h1
  have hne : ((s.size : Int) != (chunk : Int)) = false := by simp; omega
  have hqne : ((q.size : Int) != ((parN t : Nat) : Int)) = true := by simp; omega
  have HP := Lib.hid (Parity_any c t chunk ht1 ht8 w h)
  clear hs hq h
  go_enter Tryz.func43, Tryz.ntmps43
  go_wp2_with fail
  go_at_call 28
  refine HP.out.mono ?_
  rintro e w1 ⟨rfl, hk⟩
  have HK := Lib.hid hk
  clear hk HP
  go_wp2_with fail
  refine bodyPost_ret (v := .tuple #[.string ⟨#[]⟩, .string ⟨#[]⟩, .int .i64 0, .bool false]) (by simp [results, Tryz.results43, go_sem]) rfl ⟨rfl, HK.out⟩
set_option maxHeartbeats 6400000 in
set_option maxRecDepth 100000 in
theorem Decode_turned (c t : Nat) (s q : ByteArray) (hq : q.size = parN t) (hc0 : 0 < s.size) (hc : s.size ≤ 256) (ht1 : 1 ≤ t) (ht8 : t ≤ 8) (w : World) (h : CodeAt w c t s.size)
    (hcl : clB (regW t s q) (parN t) (13 * t) (2 * t) = false) :
    Calls Tryz.prog 43 #[.pointer (some ⟨c, 0, none⟩), .string s, .string q] w fun e w' => e = .returned (decV t s.size (decR t s.size (numB s.data.toList) (numB q.data.toList))) ∧ Coded c t s.size w w' := by
  have h1 : w.cell? ⟨c, 1, none⟩ = some (.int .i64 (s.size : Int)) := by
    rcases h with h | ⟨_, _, _, h⟩ <;> exact h.h1
  have lc := h.lc
  have hsne : ((s.size : Int) != (s.size : Int)) = false := by simp
  have hqne : ((q.size : Int) != ((parN t : Nat) : Int)) = false := by simp; omega
  have HP := Lib.hid (Parity_any c t s.size ht1 ht8 w h)
  have hcv := conv_strN s
  have HQ := Lib.hid hq
  have HCL := Lib.hid hcl
  have hpp := par_pos ht1
  have hpl := par_le ht8
  have hss : s.size ≤ 1000000 := by omega
  clear h hq hcl
  go_enter Tryz.func43, Tryz.ntmps43
  go_wp2_with fail
  go_at_call 28
  refine HP.out.mono ?_
  rintro e w1 ⟨rfl, hk⟩
  have HK := Lib.hid hk
  obtain ⟨gl, be, bl, hr1, ho1, -⟩ := hk
  have HR1 := Lib.hid hr1
  clear hr1 ho1 HP
  go_wp2_with fail
  have hbw2 := below_bytes w1 s
  have hwd2 := bytes_row w1 s
  generalize Lib.bytesWorld w1 5 s = w2 at *
  generalize grownCap w1 s.size 0 5 = wcap at *
  obtain ⟨gw, hgw⟩ : ∃ gw, gw = w1.heap.size := ⟨_, rfl⟩
  rw [← hgw] at hwd2
  rw [← hgw]
  have lgw : gw < w2.heap.size := World.block_lt_of_cell? _ _ (hwd2.cell 0 hc0)
  have HWD2 := Lib.hid hwd2
  have hgw1 : w1.heap.size ≤ gw := by omega
  have HST2 := Lib.hid ((SynSt.start HR1.out).new (S := fun _ => False) (Stays.of_below hbw2) (fun _ q => q.elim))
  have HC := Lib.hid (clean_any c t q w2 ht1 ht8 HST2.out.cr.h11 HQ.out)
  have hsz2 := hbw2.size
  clear hbw2 hwd2 hgw
  go_at_call 64
  refine HC.out.mono ?_
  intro e w3 hcq
  obtain ⟨pc, rfl, hpv, hb3⟩ := hcq
  obtain ⟨gp, hgp⟩ : ∃ gp, gp = w2.heap.size := ⟨_, rfl⟩
  rw [← hgp] at hpv
  rw [← hgp]
  have lgp : gp < w3.heap.size := World.block_lt_of_cell? _ _ (hpv.cell 0 hpp)
  have HPV := Lib.hid hpv
  have HST3 := Lib.hid (HST2.out.new (S := fun _ => False) (Stays.of_below hb3) (fun _ q => q.elim))
  have HWD3 : Hid (SV w3 gw s.size (numB s.data.toList)) := Lib.hid (SRow.stays HWD2.out (S := fun _ => False) (Stays.of_below hb3) lgw id)
  have hsz3 := hb3.size
  have n4 : gp ≠ c := by have := HST2.out.lc; omega
  have n5 : gw ≠ gp := by omega
  have hgp1 : w1.heap.size ≤ gp := by omega
  clear hpv hb3 HC hgp HWD2
  have HDV := Lib.hid (divide_any c gl (parN t) (parN t) (lowN t) s w3 HST3.out.cr.h12 HST3.out.cr.low hpp (by omega) hss)
  go_wp2_with fail
  go_at_call 58
  refine HDV.out.mono ?_
  rintro e w4 ⟨rfl, hv4, hb4⟩
  obtain ⟨gr, hgr⟩ : ∃ gr, gr = w3.heap.size := ⟨_, rfl⟩
  rw [← hgr] at hv4
  rw [← hgr]
  have lgr : gr < w4.heap.size := World.block_lt_of_cell? _ _ (hv4.cell 0 hpp)
  have HST4 := Lib.hid (HST3.out.new (S := fun _ => False) (Stays.of_below hb4) (fun _ q => q.elim))
  have HPV4 : Hid (SV w4 gp (parN t) (noSpare (spare t) (numB q.data.toList))) := Lib.hid (SRow.stays HPV.out (S := fun _ => False) (Stays.of_below hb4) lgp id)
  have HWD4 : Hid (SV w4 gw s.size (numB s.data.toList)) := Lib.hid (SRow.stays HWD3.out (S := fun _ => False) (Stays.of_below hb4) (by omega) id)
  have hsz4 := hb4.size
  have lgw4 : gw < w4.heap.size := by omega
  have lgp4 : gp < w4.heap.size := by omega
  obtain ⟨nb, hnb⟩ : ∃ nb, nb = parN t := ⟨_, rfl⟩
  obtain ⟨D, hD⟩ : ∃ D, D = regI (parN t) (lowN t) (numB s.data.toList) (8 * s.size) (8 * s.size) := ⟨_, rfl⟩
  obtain ⟨P, hP⟩ : ∃ P, P = noSpare (spare t) (numB q.data.toList) := ⟨_, rfl⟩
  rw [← hD] at hv4
  rw [← hP] at HPV4
  rw [← hnb] at hv4 HPV4 hpp hpl hqne
  rw [← hnb]
  have HV4 := Lib.hid hv4
  have HNB := Lib.hid hnb
  have HD := Lib.hid hD
  have HPE := Lib.hid hP
  have n1 : gr ≠ gp := by omega
  have n6 : gr ≠ gw := by omega
  have n2 : gr ≠ c := by have := HST4.out.lc; omega
  have n3 : w1.heap.size ≤ gr := by omega
  clear hv4 hb4 hnb hD hP hgr HDV HPV HWD3
  go_upto_block 0 with fail
  go_cut [] (fun wc => Hid (Row wc gr nb (fun j => .int .u8 ((xrow nb D P nb j : Nat) : Int))) ∧ Hid (Stays (· = gr) w4 wc))
  case first =>
    go_wp2_with fail
    go_loopw [50] (fun iv wr => ∃ k : Nat, k ≤ nb ∧ iv = .int .i64 (k : Int) ∧ Hid (Row wr gr nb (fun j => .int .u8 ((xrow nb D P k j : Nat) : Int))) ∧ Hid (Stays (· = gr) w4 wr)) (fun iv _ => nb - (intOf iv).toNat)
    case atStart => exact ⟨0, Nat.zero_le _, rfl, Lib.hid (Row.congr HV4.out fun j hj => by unfold xrow; rw [if_neg (by omega)]), Lib.hid (Stays.refl _ _)⟩
    case round =>
      obtain ⟨k, hk, rfl, HR, HSt⟩ := hrel
      obtain ⟨wy, rfl⟩ : ∃ wy : World, wy = wr := ⟨_, rfl⟩
      by_cases hkn : k < nb
      · have k2 : wy.cell? ⟨gp, k, none⟩ = some (.int .u8 ((byteAt nb P k : Nat) : Int)) := HSt.out.cell (HPV4.out.cell k hkn) (Ne.symm n1)
        have k3 : wy.cell? ⟨gr, k, none⟩ = some (.int .u8 ((byteAt nb D k : Nat) : Int)) := by
          have := HR.out.cell k hkn
          rw [this]; unfold xrow; rw [if_neg (Nat.lt_irrefl _)]
        have kf := HR.out.free k
        have b1 := byteAt_lt nb P k
        have b2 := byteAt_lt nb D k
        obtain ⟨x, hx⟩ : ∃ x, x = byteAt nb P k := ⟨_, rfl⟩
        obtain ⟨y, hy⟩ : ∃ y, y = byteAt nb D k := ⟨_, rfl⟩
        rw [← hx] at k2 b1
        rw [← hy] at k3 b2
        have hxo := xor_u8N y x b2 b1
        have hki : (k : Int) < (nb : Int) := by omega
        have hR4 : Row (wy.setCell ⟨gr, k, none⟩ (.int .u8 (bits BinOp.xor .u8 (y : Int) (x : Int)))).drew gr nb (fun j => .int .u8 ((xrow nb D P (k + 1) j : Nat) : Int)) := by
          rw [hxo]
          refine ((Row.set HR.out k _).congr fun j hj => ?_).drew
          by_cases e : j = k
          · subst e; rw [upd_same]; unfold xrow; rw [if_pos (Nat.lt_succ_self _), hx, hy]
          · rw [upd_other _ _ e]; unfold xrow
            have e2 : (j < k + 1) ↔ (j < k) := by omega
            simp only [e2]
        have HR4 := Lib.hid hR4
        clear hx hy hxo hR4
        go_wp2_with fail
        go_region
        go_wp2_with fail
        go_roundw
        case rel => exact ⟨k + 1, by omega, by go_num, HR4, Lib.hid ((HSt.out.trans Row.stay).drew)⟩
        case measure => simp [intOf]; omega
      · obtain rfl : k = nb := by omega
        go_wp2_with fail
        go_meet
        exact ⟨HR, HSt⟩
  case rest =>
    obtain ⟨HR, HSt⟩ := hcut
    obtain ⟨wy, rfl⟩ : ∃ wy : World, wy = wc := ⟨_, rfl⟩
    obtain ⟨k, hkk⟩ : ∃ k, k = nb := ⟨_, rfl⟩
    subst hkk
    · skip
      have hvx : SV wy gr k (regW t s q) := by
        have : regW t s q = D ^^^ P := by rw [HD.out, HPE.out]; rfl
        rw [this]
        refine ⟨fun j hj => ?_, fun j _ => HR.out.free j⟩
        rw [HR.out.cell j hj]
        unfold xrow
        rw [if_pos hj, byteAt_xor]
      have HSTy := Lib.hid (HST4.out.new HSt.out (fun q hq => by have : q = gr := hq; omega))
      have lgry : gr < wy.heap.size := by have := HSt.out.size; omega
      have HDSy : Hid (DecSt w1 wy c t s.size gl be bl gw gp k (numB s.data.toList) P) := Lib.hid ⟨HSTy.out, SRow.stays HWD4.out HSt.out lgw4 (Ne.symm n6), SRow.stays HPV4.out HSt.out lgp4 (Ne.symm n1), hgw1, Nat.lt_of_lt_of_le lgw4 HSt.out.size, hgp1, Nat.lt_of_lt_of_le lgp4 HSt.out.size, n5⟩
      have hsyn := syndromes_any c t s.size gl be bl gr k (regW t s q) wy ht1 ht8 HSTy.out.cr (by rw [← HNB.out]; exact hvx) n2 lgry
      rw [← HNB.out] at hsyn
      have HSY := Lib.hid hsyn
      clear hvx hsyn HSTy HST2 HST3 HST4 HPV4 HWD4 HSt HR HV4
      go_wp2_with fail
      go_at_call 65
      refine HSY.out.mono ?_
      intro e w6 hsq
      obtain ⟨gs, rfl, hs1, hs2, hs3, hs4⟩ := hsq
      rw [HCL.out]
      have HDS6 : Hid (DecSt w1 w6 c t s.size gl be bl gw gp k (numB s.data.toList) P) := Lib.hid (HDSy.out.call hs4)
      obtain ⟨n2t, hn2⟩ : ∃ n2t, n2t = 2 * t := ⟨_, rfl⟩
      rw [← hn2] at hs3 ⊢
      have hsd := hs3.cell
      obtain ⟨S, hS⟩ : ∃ S : Nat → Nat, S = fun k => syn (regW t s q) (parN t) (13 * t) k (13 * t) := ⟨_, rfl⟩
      have hS8 : ∀ i, S i < 8192 := fun i => by rw [hS]; exact syn_lt _ _ _ _ _
      have ngs : gs ≠ c := by
        have a1 := HDSy.out.st.lc
        have a2 := HDSy.out.st.on.st.size
        omega
      have hn16 : n2t ≤ 16 := by omega
      have HLO := Lib.hid (locator_any c t s.size gl be bl gs n2t n2t S w6 hs4.cr (fun k hk => by rw [hS]; exact hsd k hk) hS8 hn16 ngs hs2)
      have HN2 := Lib.hid hn2
      have HSS := Lib.hid hS
      have HS8 := Lib.hid hS8
      clear hs1 hs2 hs3 hs4 hsd HSY HDSy hn2 hS hS8
      go_wp2_with fail
      go_at_call 66
      refine HLO.out.mono ?_
      intro e w7 hlq
      obtain ⟨ga, lcap, f, rfl, hf20, hl1, hl2, hl3, hl4⟩ := hlq
      have hbm := bm_ok (s := S) HS8.out n2t
      have hloc : trimL (bmI S n2t).now f = locR t (regW t s q) := by
        rw [trimL_20 _ (by have := hbm.nowl; omega) f hf20, HSS.out, HN2.out]; rfl
      rw [hloc] at hl1 ⊢
      obtain ⟨tr1, tr2, tr3, tr4⟩ := trimL_spec (bmI S n2t).now f
      rw [hloc] at tr1 tr2 tr3
      obtain ⟨L, hL⟩ : ∃ L, L = locR t (regW t s q) := ⟨_, rfl⟩
      rw [← hL] at hl1 tr1 tr2 tr3 ⊢
      have hL8 : ∀ j, L.getD j 0 < 8192 := fun j => by rw [tr1]; exact hbm.now8 j
      have hL17 : L.length ≤ 17 := by have := hbm.nowl; omega
      have hL1 : 1 ≤ L.length := tr3 hbm.now1
      have HDS7 : Hid (DecSt w1 w7 c t s.size gl be bl gw gp k (numB s.data.toList) P) := Lib.hid (HDS6.out.call hl4)
      have c1 := HDS7.out.st.cr.h1
      have c11 := HDS7.out.st.cr.h11
      obtain ⟨d, hd⟩ : ∃ d, d = 13 * t := ⟨_, rfl⟩
      rw [← hd] at c11
      have hd104 : d ≤ 104 := by omega
      obtain ⟨n, hn⟩ : ∃ n, n = 8 * s.size + d := ⟨_, rfl⟩
      have hn100 : n ≤ 100000 := by omega
      have e1 : IntKind.i64.wrap (8 * (s.size : Int)) = 8 * (s.size : Int) := (IntWalk.i64_left _).trans (IntWalk.wrap64_in _ (by omega))
      have e2 : IntKind.i64.wrap (8 * (s.size : Int) + (d : Int)) = (n : Int) := by
        rw [show 8 * (s.size : Int) + (d : Int) = (n : Int) by omega]
        exact (IntWalk.i64_left _).trans (IntWalk.wrap64_in _ (by omega))
      have nga : ga ≠ c := by
        have a1 := HDS6.out.st.lc
        have a2 := HDS6.out.st.on.st.size
        omega
      have HRO := Lib.hid (roots_any c t s.size gl be bl ga n lcap L w7.drew HDS7.out.drew.st.cr (hl1.below (Below.refl _ _).drew hl3) hL8 hL17 hn100 nga (by simpa using hl3))
      have HL := Lib.hid hL
      have HD13 := Lib.hid hd
      have HN := Lib.hid hn
      have HL8 := Lib.hid hL8
      clear hl1 hl2 hl3 hl4 hbm hloc tr1 tr2 tr3 tr4 hf20 HLO HDS6 hL hd hn hL8
      go_wp2_with fail
      go_region
      clear e1 e2
      go_wp2_with fail
      go_at_call 67
      refine HRO.out.mono ?_
      intro e w8 hrq
      obtain ⟨v, rfl, hro, hr4⟩ := hrq
      obtain ⟨ra, rcap, rfl⟩ := own_shape hro
      obtain ⟨r, hr⟩ : ∃ r, r = rootsI L n := ⟨_, rfl⟩
      have hrl := rootsI_length L n
      have hrt := rootsI_lt L n
      rw [← hr] at hro hrl hrt ⊢
      have HDS8 : Hid (DecSt w1 w8 c t s.size gl be bl gw gp k (numB s.data.toList) P) := Lib.hid (HDS7.out.drew.call hr4)
      have HOWN := Lib.hid hro
      have HR : Hid (r = rootsI L (8 * s.size + 13 * t)) := Lib.hid (by rw [hr, HN.out, HD13.out])
      have HRT := Lib.hid hrt
      have c0 := HDS8.out.st.cr.h0
      obtain ⟨m, hm⟩ : ∃ m, L.length = m + 1 := ⟨L.length - 1, by omega⟩
      have HM := Lib.hid hm
      have hmi : (L.length : Int) - 1 = (m : Int) := by omega
      have hm17 : m ≤ 16 := by omega
      have hr17 : r.length ≤ 17 := by omega
      have lgw7 : gw < w7.drew.heap.size := HDS7.out.drew.gw2
      have lgp7 : gp < w7.drew.heap.size := HDS7.out.drew.gp2
      have HWW : Hid (regW t s q = regV t s.size (numB s.data.toList) ^^^ noSpare (spare t) (numB q.data.toList)) := Lib.hid rfl
      clear hro hr4 hr hrt hm hrl HDS7 c1 c11 HRO
      by_cases hmt : t < m
      · have hmtI : (t : Int) < (m : Int) := by omega
        go_wp2_with fail
        refine bodyPost_ret (v := .tuple #[.string ⟨#[]⟩, .string ⟨#[]⟩, .int .i64 0, .bool false]) (by simp [results, Tryz.results43, go_sem]) rfl ⟨?_, HK.out.syn HR1.out HDS8.out.st⟩
        rw [decR_few HWW.out HCL.out HL.out HR.out (.inl (by rw [HM.out]; omega))]; rfl
      · have hmtI : ¬ (t : Int) < (m : Int) := by omega
        by_cases hrm : r.length = m
        · subst hrm
          have hself : ((r.length : Int) != (r.length : Int)) = false := by simp
          have HVB : Hid (numB s.data.toList < 2 ^ (8 * s.size)) := Lib.hid (by
            have := numB_lt s.data.toList
            rwa [show s.data.toList.length = s.size by simp] at this)
          obtain ⟨V, hV⟩ : ∃ V, V = numB s.data.toList := ⟨_, rfl⟩
          rw [← hV] at HDS8 HVB
          have HV := Lib.hid hV
          clear hV hm17
          go_upto_block 2 with fail
          go_cut [] (fun wc => Hid (DecSt w1 wc c t s.size gl be bl gw gp k (decI s.size k d V P r r.length).1 (decI s.size k d V P r r.length).2))
          case first =>
            go_wp2_with fail
            go_loopw [109] (fun iv wr => ∃ i : Nat, i ≤ r.length ∧ iv = .int .i64 (i : Int) ∧ Hid (DecSt w1 wr c t s.size gl be bl gw gp k (decI s.size k d V P r i).1 (decI s.size k d V P r i).2) ∧ Hid (Stays (fun q => q = gw ∨ q = gp) w8 wr)) (fun iv _ => r.length - (intOf iv).toNat)
            case atStart => exact ⟨0, Nat.zero_le _, rfl, HDS8, Lib.hid (Stays.refl _ _)⟩
            case round =>
              clear c0 hself hmi
              obtain ⟨i, hi, rfl, HDSi, HSi⟩ := hrel
              obtain ⟨wz, rfl⟩ : ∃ wz : World, wz = wr := ⟨_, rfl⟩
              by_cases hir : i < r.length
              · obtain ⟨g, cap', heq, hg1, hg2, hint, _⟩ := own_ints HOWN.out (by intro h; rw [h] at hir; simp at hir)
                simp only [Value.slice.injEq] at heq
                obtain ⟨rfl, _, rfl⟩ := heq
                obtain ⟨x, hx⟩ : ∃ x, x = r.getD i 0 := ⟨_, rfl⟩
                have hxn : x < n := by rw [hx]; exact getD_lt HRT.out hir
                have cx : wz.cell? ⟨g, i, none⟩ = some (.int .i64 (x : Int)) := HSi.out.cell (by rw [hx]; exact hint i hir) (by show ¬ (g = gw ∨ g = gp); omega)
                have hirI : (i : Int) < (r.length : Int) := by omega
                obtain ⟨y, hy⟩ : ∃ y, y = n - 1 - x := ⟨_, rfl⟩
                have hyi : (n : Int) - 1 - (x : Int) = (y : Int) := by omega
                have hyn : y < 100000 := by omega
                have cz1 := HDSi.out.st.cr.h1
                have HNX : Hid (decI s.size k d V P r (i + 1) = decStep s.size k d (decI s.size k d V P r i) x) := Lib.hid (by rw [hx]; rfl)
                obtain ⟨VP, hVP⟩ : ∃ VP, VP = decI s.size k d V P r i := ⟨_, rfl⟩
                rw [← hVP] at HDSi HNX
                have HYN : Hid (8 * s.size + d - 1 - x = y) := Lib.hid (by rw [hy, HN.out])
                have HNI := HN.out
                have hd8 : d ≤ 8 * k := by rw [HD13.out, HNB.out, par_spare]; omega
                clear hx hVP hint hy
                by_cases hlow : y < 8 * s.size
                · have hlowI : (y : Int) < 8 * (s.size : Int) := by omega
                  obtain ⟨q8, hq8⟩ : ∃ q8, q8 = y / 8 := ⟨_, rfl⟩
                  obtain ⟨r8, hr8⟩ : ∃ r8, r8 = y % 8 := ⟨_, rfl⟩
                  have hqi : (y : Int) / 8 = (q8 : Int) := by omega
                  have hri : (y : Int) % 8 = (r8 : Int) := by omega
                  have hqn : q8 < s.size := by omega
                  have hqnI : (q8 : Int) < (s.size : Int) := by omega
                  have hr87 : r8 < 8 := by omega
                  have hsh := shr128 hr87
                  have hz1 : 128 / 2 ^ r8 = 2 ^ (7 - r8) := (by decide : ∀ r, r < 8 → 128 / 2 ^ r = 2 ^ (7 - r)) r8 hr87
                  have hz2 : 2 ^ (7 - r8) < 256 := (by decide : ∀ r, r < 8 → 2 ^ (7 - r) < 256) r8 hr87
                  obtain ⟨z, hz⟩ : ∃ z, z = 2 ^ (7 - r8) := ⟨_, rfl⟩
                  rw [← hz] at hsh hz1 hz2
                  have hbb := byteAt_lt s.size VP.1 q8
                  have cq := HDSi.out.wd.cell q8 hqn
                  have fq := HDSi.out.wd.free q8 hqn
                  have hnew := HDSi.out.turnW hlow
                  rw [← hq8, ← hr8, hz1] at hnew
                  obtain ⟨b, hb⟩ : ∃ b, b = byteAt s.size VP.1 q8 := ⟨_, rfl⟩
                  rw [← hb] at cq hbb hnew
                  have hxo := xor_u8N b z hbb hz2
                  have HNEW : Hid (DecSt w1 (wz.setCell ⟨gw, q8, none⟩ (.int .u8 ((b ^^^ z : Nat) : Int))).drew c t s.size gl be bl gw gp k (decI s.size k d V P r (i + 1)).1 (decI s.size k d V P r (i + 1)).2) := Lib.hid (by
                    rw [HNX.out]
                    unfold decStep
                    rw [HYN.out, if_pos hlow]
                    exact hnew.drew)
                  have HSN : Hid (Stays (fun q => q = gw ∨ q = gp) w8 (wz.setCell ⟨gw, q8, none⟩ (.int .u8 ((b ^^^ z : Nat) : Int))).drew) := Lib.hid ((HSi.out.setCell (.inl rfl) _).drew)
                  clear hq8 hr8 hz hz1 hz2 hb hnew HNI
                  go_wp2_with fail
                  go_region
                  go_wp2_with fail
                  go_roundw
                  case rel => exact ⟨i + 1, by omega, by go_num, HNEW, HSN⟩
                  case measure => simp [intOf]; omega
                · have hlowI : ¬ (y : Int) < 8 * (s.size : Int) := by omega
                  obtain ⟨u, hu⟩ : ∃ u, u = y - 8 * s.size := ⟨_, rfl⟩
                  have hui : (y : Int) - 8 * (s.size : Int) = (u : Int) := by omega
                  have hul : u < 8 * k := by omega
                  obtain ⟨q8, hq8⟩ : ∃ q8, q8 = u / 8 := ⟨_, rfl⟩
                  obtain ⟨r8, hr8⟩ : ∃ r8, r8 = u % 8 := ⟨_, rfl⟩
                  have hqi : (u : Int) / 8 = (q8 : Int) := by omega
                  have hri : (u : Int) % 8 = (r8 : Int) := by omega
                  have hqn : q8 < k := by omega
                  have hqnI : (q8 : Int) < (k : Int) := by omega
                  have hr87 : r8 < 8 := by omega
                  have hsh := shr128 hr87
                  have hz1 : 128 / 2 ^ r8 = 2 ^ (7 - r8) := (by decide : ∀ r, r < 8 → 128 / 2 ^ r = 2 ^ (7 - r)) r8 hr87
                  have hz2 : 2 ^ (7 - r8) < 256 := (by decide : ∀ r, r < 8 → 2 ^ (7 - r) < 256) r8 hr87
                  obtain ⟨z, hz⟩ : ∃ z, z = 2 ^ (7 - r8) := ⟨_, rfl⟩
                  rw [← hz] at hsh hz1 hz2
                  have hbb := byteAt_lt k VP.2 q8
                  have cq := HDSi.out.pr.cell q8 hqn
                  have fq := HDSi.out.pr.free q8 hqn
                  have hnew := HDSi.out.turnP hul
                  rw [← hq8, ← hr8, hz1] at hnew
                  obtain ⟨b, hb⟩ : ∃ b, b = byteAt k VP.2 q8 := ⟨_, rfl⟩
                  rw [← hb] at cq hbb hnew
                  have hxo := xor_u8N b z hbb hz2
                  have HNEW : Hid (DecSt w1 (wz.setCell ⟨gp, q8, none⟩ (.int .u8 ((b ^^^ z : Nat) : Int))).drew c t s.size gl be bl gw gp k (decI s.size k d V P r (i + 1)).1 (decI s.size k d V P r (i + 1)).2) := Lib.hid (by
                    rw [HNX.out]
                    unfold decStep
                    rw [HYN.out, if_neg hlow, ← hu]
                    exact hnew.drew)
                  have HSN : Hid (Stays (fun q => q = gw ∨ q = gp) w8 (wz.setCell ⟨gp, q8, none⟩ (.int .u8 ((b ^^^ z : Nat) : Int))).drew) := Lib.hid ((HSi.out.setCell (.inr rfl) _).drew)
                  clear hq8 hr8 hz hz1 hz2 hb hnew HNI hu
                  go_wp2_with fail
                  go_region
                  go_wp2_with fail
                  go_roundw
                  case rel => exact ⟨i + 1, by omega, by go_num, HNEW, HSN⟩
                  case measure => simp [intOf]; omega
              · have hirI : ¬ (i : Int) < (r.length : Int) := by omega
                obtain rfl : i = r.length := by omega
                go_wp2_with fail
                go_meet
                exact HDSi
          case rest =>
            have HDSi := hcut
            obtain ⟨wz, rfl⟩ : ∃ wz : World, wz = wc := ⟨_, rfl⟩
            obtain ⟨i, hie⟩ : ∃ i, i = r.length := ⟨_, rfl⟩
            rw [← hie] at HDSi
            clear hcut
            · skip
              have HHP := HPE.out
              have hPl : P < 2 ^ (8 * k) := by
                rw [HPE.out, HNB.out]
                have h1 := numB_lt q.data.toList
                rw [show q.data.toList.length = parN t by rw [← HQ.out]; simp] at h1
                rw [par_spare] at h1 ⊢
                exact shl_lt (shr_lt h1 rfl) (Nat.le_refl _)
              have hlt := decI_lt (deg := d) HVB.out hPl hc0 hpp r i
              have hregd : regI (parN t) (lowN t) (decI s.size k d V P r i).1 (8 * s.size) (8 * s.size) = regV t s.size (decI s.size k d V P r i).1 := rfl
              have HDEC : Hid (decI s.size (parN t) (13 * t) (numB s.data.toList) (noSpare (spare t) (numB q.data.toList)) r r.length = decI s.size k d V P r i) := Lib.hid (by
                rw [hie, ← HPE.out, ← HNB.out, ← HD13.out, ← HV.out])
              obtain ⟨VP, hVP⟩ : ∃ VP, VP = decI s.size k d V P r i := ⟨_, rfl⟩
              rw [← hVP] at HDSi HDEC hlt hregd
              obtain ⟨X, hX⟩ : ∃ X, X = strOf s.size VP.1 := ⟨_, rfl⟩
              have hXs : X.size = s.size := by rw [hX]; exact str_size _ _
              have hXn : numB X.data.toList = VP.1 := by rw [hX]; exact num_str hlt.1
              obtain ⟨Z, hZ⟩ : ∃ Z, Z = strOf k (regV t s.size VP.1) := ⟨_, rfl⟩
              have HLTR : Hid (regV t s.size VP.1 < 2 ^ (8 * k)) := Lib.hid (by rw [HNB.out]; exact regV_lt ht1 ht8 _ _ hlt.1)
              have HLT := Lib.hid hlt
              have hdv := divide_any c gl (parN t) (parN t) (lowN t) X wz.drew HDSi.out.drew.st.cr.h12 HDSi.out.drew.st.cr.low (par_pos ht1) (by have := par_le ht8; omega) (by omega)
              rw [hXs, hXn, hregd, ← HNB.out] at hdv
              have HDV := Lib.hid hdv
              have hcw : (convert 47 9 (.slice (some ⟨gw, 0, none⟩) s.size wcap)).run Tryz.prog wz.drew = .ok (.string X) wz.drew := by rw [hX]; exact SV.string HDSi.out.drew.wd
              have hcp : (convert 47 9 (.slice (some ⟨gp, 0, none⟩) k pc)).run Tryz.prog wz.drew = .ok (.string (strOf k VP.2)) wz.drew := SV.string HDSi.out.drew.pr
              have HCW : Hid (∀ W, DecSt w1 W c t s.size gl be bl gw gp k VP.1 VP.2 → (convert 47 9 (.slice (some ⟨gw, 0, none⟩) s.size wcap)).run Tryz.prog W = .ok (.string X) W) := Lib.hid (fun W h => by rw [hX]; exact SV.string h.wd)
              have HCP : Hid (∀ W, DecSt w1 W c t s.size gl be bl gw gp k VP.1 VP.2 → (convert 47 9 (.slice (some ⟨gp, 0, none⟩) k pc)).run Tryz.prog W = .ok (.string (strOf k VP.2)) W) := Lib.hid (fun W h => SV.string h.pr)
              have HCR : Hid (∀ (W : World) (g cap : Nat), VRow W g k (regV t s.size VP.1) → (convert 47 9 (.slice (some ⟨g, 0, none⟩) k cap)).run Tryz.prog W = .ok (.string Z) W) := Lib.hid (fun W g cap h => by rw [hZ]; exact row_string h)
              have HX := Lib.hid hX
              have HZ := Lib.hid hZ
              have HIE := Lib.hid hie
              clear hVP hX hXs hXn hZ hdv hlt hregd hie HHP
              by_cases hre : regV t s.size VP.1 = VP.2
              · have hyz : strOf k VP.2 = Z := by rw [HZ.out, hre]
                rw [hyz] at hcp HCP
                clear hyz
                have hzz1 : (Z.toList == Z.toList) = true := by simp
                have hzz2 : (Z.toList != Z.toList) = false := by simp
                have HSOME : Hid (decV t s.size (decR t s.size (numB s.data.toList) (numB q.data.toList)) = .tuple #[.string X, .string Z, .int .i64 (r.length : Int), .bool true]) := Lib.hid (by
                  rw [decR_good HWW.out HL.out HR.out HCL.out (by rw [HM.out]; omega) (by rw [HM.out]; omega) (by rw [HDEC.out]; exact hre), HDEC.out]
                  show Value.tuple #[.string (strOf s.size VP.1), .string (strOf (parN t) VP.2), .int .i64 (r.length : Int), .bool true] = _
                  rw [← HX.out, ← hre, ← HNB.out, ← HZ.out])
                have HDSd := Lib.hid HDSi.out.drew
                clear hre
                clear HX HZ HLTR HLT HCL HL HR HRT HM HWW HVB HOWN HDEC lgw7 lgp7 hr17 hmt hmtI hd104 hn100 nga hL17 hL1 ngs hn16 n1 n2 n3 n4 n5 n6 lgr lgw lgp lgw4 lgp4 hsz2 hsz3 hsz4 hgw1 hgp1
                clear HN HD13 HPE HD HNB HN2 HSS HS8 HL8 HQ HV hcv lc
                go_wp2_with fail
                go_region_with (go_at_call 58; refine HDV.out.mono ?_; rintro e w9 ⟨rfl, hv9, hb9⟩; have HDS9 := Lib.hid (HDSd.out.below hb9); have hcr9 : (convert 47 9 (.slice (some ⟨wz.heap.size, 0, none⟩) k k)).run Tryz.prog w9 = .ok (.string Z) w9 := HCR.out w9 _ k hv9; have hcp9 := HCP.out w9 HDS9.out; have hcw9 := HCW.out w9 HDS9.out; clear hv9 hb9)
                all_goals
                  have hcw10 := HCW.out w9.drew HDS9.out.drew
                  have hcp10 := HCP.out w9.drew HDS9.out.drew
                  go_wp2_with fail
                  go_region
                  all_goals
                    go_wp2_with fail
                    refine bodyPost_ret (v := .tuple #[.string X, .string Z, .int .i64 (r.length : Int), .bool true]) (by simp [results, Tryz.results43, go_sem]) rfl ⟨by rw [HSOME.out], HK.out.syn HR1.out HDS9.out.drew.st⟩
              · obtain ⟨Y, hY⟩ : ∃ Y, Y = strOf k VP.2 := ⟨_, rfl⟩
                rw [← hY] at hcp HCP
                have hzy : Z ≠ Y := fun h => hre (strOf_inj HLTR.out HLT.out.2 (by rw [← HZ.out, ← hY, h]))
                obtain ⟨hzy1, hzy2⟩ := str_ne hzy
                have HNONE : Hid (decR t s.size (numB s.data.toList) (numB q.data.toList) = none) := Lib.hid (decR_bad HWW.out HL.out HR.out HCL.out (by rw [HDEC.out]; exact hre))
                have HDSd := Lib.hid HDSi.out.drew
                clear hY hre hzy
                clear HX HZ HLTR HLT HCL HL HR HRT HM HWW HVB HOWN HDEC lgw7 lgp7 hr17 hmt hmtI hd104 hn100 nga hL17 hL1 ngs hn16 n1 n2 n3 n4 n5 n6 lgr lgw lgp lgw4 lgp4 hsz2 hsz3 hsz4 hgw1 hgp1
                clear HN HD13 HPE HD HNB HN2 HSS HS8 HL8 HQ HV hcv lc
                go_wp2_with fail
                go_region_with (go_at_call 58; refine HDV.out.mono ?_; rintro e w9 ⟨rfl, hv9, hb9⟩; have HDS9 := Lib.hid (HDSd.out.below hb9); have hcr9 : (convert 47 9 (.slice (some ⟨wz.heap.size, 0, none⟩) k k)).run Tryz.prog w9 = .ok (.string Z) w9 := HCR.out w9 _ k hv9; have hcp9 := HCP.out w9 HDS9.out; have hcw9 := HCW.out w9 HDS9.out; clear hv9 hb9)
                all_goals
                  go_wp2_with fail
                  refine bodyPost_ret (v := .tuple #[.string ⟨#[]⟩, .string ⟨#[]⟩, .int .i64 0, .bool false]) (by simp [results, Tryz.results43, go_sem]) rfl ⟨by rw [HNONE.out]; rfl, HK.out.syn HR1.out HDS9.out.st⟩
        · have hrmI : ((r.length : Int) != (m : Int)) = true := by simp; omega
          go_wp2_with fail
          refine bodyPost_ret (v := .tuple #[.string ⟨#[]⟩, .string ⟨#[]⟩, .int .i64 0, .bool false]) (by simp [results, Tryz.results43, go_sem]) rfl ⟨?_, HK.out.syn HR1.out HDS8.out.st⟩
          rw [decR_few HWW.out HCL.out HL.out HR.out (.inr (by rw [HM.out]; omega))]; rfl
theorem Decode_any (c t chunk : Nat) (s q : ByteArray) (hs : s.size = chunk) (hq : q.size = parN t) (hc0 : 0 < chunk) (hc : chunk ≤ 256) (ht1 : 1 ≤ t) (ht8 : t ≤ 8) (w : World) (h : CodeAt w c t chunk) :
    Calls Tryz.prog 43 #[.pointer (some ⟨c, 0, none⟩), .string s, .string q] w fun e w' => e = .returned (decV t chunk (decR t chunk (numB s.data.toList) (numB q.data.toList))) ∧ Coded c t chunk w w' := by
  cases hcl : clB (regW t s q) (parN t) (13 * t) (2 * t)
  · subst hs
    exact Decode_turned c t s q hq hc0 hc ht1 ht8 w h hcl
  · refine (Decode_clean c t chunk s q hs hq hc ht1 ht8 w h hcl).mono fun e w' ⟨he, hk⟩ => ⟨?_, hk⟩
    have hw : regW t s q = regV t chunk (numB s.data.toList) ^^^ noSpare (spare t) (numB q.data.toList) := by unfold regW regV; rw [hs]
    rw [hw] at hcl
    rw [he]
    unfold decR
    rw [if_pos hcl]
    show _ = Ending.returned (.tuple #[.string (strOf chunk (numB s.data.toList)), .string (strOf (parN t) (noSpare (spare t) (numB q.data.toList))), .int .i64 ((0 : Nat) : Int), .bool true])
    rw [← hs, str_num]; rfl
end Go.Proofs.YtgfjeaegigjnaaaGreatDoor

