/- Decode of a code word: nothing is turned. -/
import Derived.Test.YtldekkniammllaaCodK
namespace Go.Proofs.Ytldekkniammllaa
open Go.RowKit
set_option linter.unusedVariables false
set_option linter.unusedSimpArgs false

theorem Coded.syn {c t chunk gl be bl : Nat} {w w1 w2 : World} (h : Coded c t chunk w w1) (h1 : CodeReady w1 c t chunk gl be bl) (k : SynSt w1 w2 c t chunk gl be bl) : Coded c t chunk w w2 := by
  obtain ⟨gl', be', bl', k1, k2, k3⟩ := h
  obtain ⟨rfl, rfl, rfl⟩ := k1.one h1
  exact ⟨_, _, _, k.cr, k2.trans (k.on.mono (by omega) (by omega)), k3⟩
/-- The register of a word that came in. -/
def regW (t : Nat) (s q : ByteArray) : Nat := regI (parN t) (lowN t) (numB s.data.toList) (8 * s.size) (8 * s.size) ^^^ noSpare (spare t) (numB q.data.toList)

set_option maxHeartbeats 6400000 in
set_option maxRecDepth 100000 in
theorem Decode_clean (c t chunk : Nat) (s q : ByteArray) (hs : s.size = chunk) (hq : q.size = parN t) (hc : chunk ≤ 256) (ht1 : 1 ≤ t) (ht8 : t ≤ 8) (w : World) (h : CodeAt w c t chunk)
    (hcl : clB (regW t s q) (parN t) (13 * t) (2 * t) = true) :
    Calls Try.prog 16 #[.pointer (some ⟨c, 0, none⟩), .string s, .string q] w fun e w' => e = .returned (.tuple #[.string s, .string (strOf (parN t) (noSpare (spare t) (numB q.data.toList))), .int .i64 0, .bool true]) ∧ Coded c t chunk w w' := by
  have h1 : w.cell? ⟨c, 1, none⟩ = some (.int .i64 (chunk : Int)) := by
    rcases h with h | ⟨_, _, _, h⟩ <;> exact h.h1
  have lc := h.lc
  have hsne : ((s.size : Int) != (chunk : Int)) = false := by simp; omega
  have hqne : ((q.size : Int) != ((parN t : Nat) : Int)) = false := by simp; omega
  have HP := Lib.hid (Parity_any c t chunk ht1 ht8 w h)
  have hcv := conv_str s
  have HS := Lib.hid hs
  have HQ := Lib.hid hq
  have HCL := Lib.hid hcl
  have hpp := par_pos ht1
  have hpl := par_le ht8
  have hss : s.size ≤ 1000000 := by omega
  clear h hs hq hcl
  go_enter Try.func16, Try.ntmps16
  go_wp2_with fail
  go_at_call 13
  refine HP.out.mono ?_
  rintro e w1 ⟨rfl, hk⟩
  have HK := Lib.hid hk
  obtain ⟨gl, be, bl, hr1, ho1, _⟩ := hk
  have HR1 := Lib.hid hr1
  clear hr1 ho1 HP
  go_wp2_with fail
  have hbw2 := below_bytes w1 s
  generalize Lib.bytesWorld w1 5 s = w2 at *
  have HST2 := Lib.hid ((SynSt.start HR1.out).new (S := fun _ => False) (Stays.of_below hbw2) (fun _ q => q.elim))
  have HC := Lib.hid (clean_any c t q w2 ht1 ht8 HST2.out.cr.h11 HQ.out)
  have hsz2 := hbw2.size
  clear hbw2
  go_at_call 23
  refine HC.out.mono ?_
  intro e w3 hcq
  obtain ⟨pc, rfl, hpv, hb3⟩ := hcq
  obtain ⟨gp, hgp⟩ : ∃ gp, gp = w2.heap.size := ⟨_, rfl⟩
  rw [← hgp] at hpv
  rw [← hgp]
  have lgp : gp < w3.heap.size := World.block_lt_of_cell? _ _ (hpv.cell 0 hpp)
  have HPV := Lib.hid hpv
  have HST3 := Lib.hid (HST2.out.new (S := fun _ => False) (Stays.of_below hb3) (fun _ q => q.elim))
  have hsz3 := hb3.size
  have n4 : gp ≠ c := by have := HST2.out.lc; omega
  clear hpv hb3 HC hgp
  have HDV := Lib.hid (divide_any c gl (parN t) (parN t) (lowN t) s w3 HST3.out.cr.h12 HST3.out.cr.low hpp (by omega) hss)
  go_wp2_with fail
  go_at_call 19
  refine HDV.out.mono ?_
  rintro e w4 ⟨rfl, hv4, hb4⟩
  obtain ⟨gr, hgr⟩ : ∃ gr, gr = w3.heap.size := ⟨_, rfl⟩
  rw [← hgr] at hv4
  rw [← hgr]
  have lgr : gr < w4.heap.size := World.block_lt_of_cell? _ _ (hv4.cell 0 hpp)
  have HST4 := Lib.hid (HST3.out.new (S := fun _ => False) (Stays.of_below hb4) (fun _ q => q.elim))
  have HPV4 : Hid (SV w4 gp (parN t) (noSpare (spare t) (numB q.data.toList))) := Lib.hid (SRow.stays HPV.out (S := fun _ => False) (Stays.of_below hb4) lgp id)
  have hsz4 := hb4.size
  obtain ⟨nb, hnb⟩ : ∃ nb, nb = parN t := ⟨_, rfl⟩
  obtain ⟨D, hD⟩ : ∃ D, D = regI (parN t) (lowN t) (numB s.data.toList) (8 * s.size) (8 * s.size) := ⟨_, rfl⟩
  obtain ⟨P, hP⟩ : ∃ P, P = noSpare (spare t) (numB q.data.toList) := ⟨_, rfl⟩
  rw [← hD] at hv4
  rw [← hP] at HPV4
  rw [← hnb] at hv4 HPV4 hpp hpl hqne
  rw [← hnb]
  have HV4 := Lib.hid hv4
  have HNB := Lib.hid hnb
  have HD := Lib.hid hD
  have HPE := Lib.hid hP
  have n1 : gr ≠ gp := by omega
  have n2 : gr ≠ c := by have := HST4.out.lc; omega
  have n3 : w1.heap.size ≤ gr := by omega
  clear hv4 hb4 hnb hD hP hgr HDV HPV
  go_wp2_with fail
  go_loopw [50] (fun iv wr => ∃ k : Nat, k ≤ nb ∧ iv = .int .i64 (k : Int) ∧ Hid (Row wr gr nb (fun j => .int .u8 ((xrow nb D P k j : Nat) : Int))) ∧ Hid (Stays (· = gr) w4 wr)) (fun iv _ => nb - (intOf iv).toNat)
  case atStart => exact ⟨0, Nat.zero_le _, rfl, Lib.hid (Row.congr HV4.out fun j hj => by unfold xrow; rw [if_neg (by omega)]), Lib.hid (Stays.refl _ _)⟩
  case round =>
    obtain ⟨k, hk, rfl, HR, HSt⟩ := hrel
    obtain ⟨wy, rfl⟩ : ∃ wy : World, wy = wr := ⟨_, rfl⟩
    by_cases hkn : k < nb
    · have k2 : wy.cell? ⟨gp, k, none⟩ = some (.int .u8 ((byteAt nb P k : Nat) : Int)) := HSt.out.cell (HPV4.out.cell k hkn) (Ne.symm n1)
      have k3 : wy.cell? ⟨gr, k, none⟩ = some (.int .u8 ((byteAt nb D k : Nat) : Int)) := by
        have := HR.out.cell k hkn
        rw [this]; unfold xrow; rw [if_neg (Nat.lt_irrefl _)]
      have kf := HR.out.free k
      have b1 := byteAt_lt nb P k
      have b2 := byteAt_lt nb D k
      obtain ⟨x, hx⟩ : ∃ x, x = byteAt nb P k := ⟨_, rfl⟩
      obtain ⟨y, hy⟩ : ∃ y, y = byteAt nb D k := ⟨_, rfl⟩
      rw [← hx] at k2 b1
      rw [← hy] at k3 b2
      have hxo := xor_u8 y x b2 b1
      have hki : (k : Int) < (nb : Int) := by omega
      have hR4 : Row (wy.setCell ⟨gr, k, none⟩ (.int .u8 (bits BinOp.xor .u8 (y : Int) (x : Int)))).drew gr nb (fun j => .int .u8 ((xrow nb D P (k + 1) j : Nat) : Int)) := by
        rw [hxo]
        refine ((Row.set HR.out k _).congr fun j hj => ?_).drew
        by_cases e : j = k
        · subst e; rw [upd_same]; unfold xrow; rw [if_pos (Nat.lt_succ_self _), hx, hy]
        · rw [upd_other _ _ e]; unfold xrow
          have e2 : (j < k + 1) ↔ (j < k) := by omega
          simp only [e2]
      have HR4 := Lib.hid hR4
      clear hx hy hxo hR4
      go_wp2_with fail
      go_region
      go_wp2_with fail
      go_roundw
      case rel => exact ⟨k + 1, by omega, by go_num, HR4, Lib.hid ((HSt.out.trans Row.stay).drew)⟩
      case measure => simp [intOf]; omega
    · obtain rfl : k = nb := by omega
      have hvx : SV wy gr k (regW t s q) := by
        have : regW t s q = D ^^^ P := by rw [HD.out, HPE.out]; rfl
        rw [this]
        refine ⟨fun j hj => ?_, fun j _ => HR.out.free j⟩
        rw [HR.out.cell j hj]
        unfold xrow
        rw [if_pos hj, byteAt_xor]
      have HSTy := Lib.hid (HST4.out.new HSt.out (fun q hq => by have : q = gr := hq; omega))
      have HPVy : Hid (SV wy gp k P) := Lib.hid (SRow.stays HPV4.out HSt.out (by omega) (Ne.symm n1))
      have lgry : gr < wy.heap.size := by have := HSt.out.size; omega
      have lgpy : gp < wy.heap.size := by have := HSt.out.size; omega
      have hsyn := syndromes_any c t chunk gl be bl gr k (regW t s q) wy ht1 ht8 HSTy.out.cr (by rw [← HNB.out]; exact hvx) n2 lgry
      rw [← HNB.out] at hsyn
      have HSY := Lib.hid hsyn
      clear hvx hsyn
      go_wp2_with fail
      go_at_call 24
      refine HSY.out.mono ?_
      intro e w6 hsq
      obtain ⟨gs, rfl, hs1, hs2, hs3, hs4⟩ := hsq
      rw [HCL.out]
      have hpv6 : SV w6 gp k P := SRow.stays HPVy.out hs4.on.st lgpy n4
      have hcs := SV.string (cap := pc) hpv6
      have hcsd := SV.string (cap := pc) (SRow.drew hpv6)
      have HFIN : Hid (SynSt w1 w6 c t chunk gl be bl) := Lib.hid ⟨hs4.cr, HSTy.out.on.trans hs4.on, HSTy.out.lc, HSTy.out.lg, HSTy.out.le, HSTy.out.ll⟩
      obtain ⟨X, hX⟩ : ∃ X, X = strOf k P := ⟨_, rfl⟩
      rw [← hX] at hcs hcsd
      have HX := Lib.hid hX
      clear hs1 hs2 hs3 hs4 hpv6 hX HSY
      go_wp2_with fail
      go_region
      go_wp2_with fail
      refine bodyPost_ret (v := .tuple #[.string s, .string X, .int .i64 0, .bool true]) (by simp [results, Try.results16, go_sem]) rfl ⟨?_, HK.out.syn HR1.out HFIN.out.drew⟩
      rw [HX.out, HPE.out, HNB.out]
end Go.Proofs.Ytldekkniammllaa
