/- The division of a chunk. -/
import Derived.Test.YtldekkniammllaaCodA
namespace Go.Proofs.Ytldekkniammllaa
open Go.RowKit
set_option linter.unusedVariables false
set_option linter.unusedSimpArgs false

theorem str_at {s : ByteArray} {j : Nat} {c : UInt8} (h : s.data.toList[j]? = some c) : ∃ hj : j < s.size, s[j]'hj = c := by
  obtain ⟨h1, h2⟩ := List.getElem?_eq_some_iff.1 h
  have h3 : j < s.size := by simpa using h1
  exact ⟨h3, by rw [← h2]; rfl⟩
theorem shr_u8 (b n : Nat) : (b : Int) / 2 ^ n = ((b >>> n : Nat) : Int) := div_shr b n
theorem bit_u8 (b n : Nat) (hb : b < 256) : bits BinOp.and .u8 ((b : Int) / 2 ^ n) 1 = ((if b.testBit n then 1 else 0 : Nat) : Int) := by
  rw [div_shr]
  have h1 : b >>> n ≤ b := by rw [Nat.shiftRight_eq_div_pow]; exact Nat.div_le_self _ _
  have := and_u8 (b >>> n) 1 (by omega) (by decide)
  rw [show ((1 : Nat) : Int) = 1 from rfl] at this
  rw [this, Nat.and_one_is_mod, Nat.testBit_eq_decide_div_mod_eq, ← Nat.shiftRight_eq_div_pow]
  rcases Nat.mod_two_eq_zero_or_one (b >>> n) with h | h <;> simp [h]
theorem top_bit (V k : Nat) : (V >>> k) % 2 = if V.testBit k then 1 else 0 := by
  rw [Nat.testBit_eq_decide_div_mod_eq, ← Nat.shiftRight_eq_div_pow]
  rcases Nat.mod_two_eq_zero_or_one (V >>> k) with h | h <;> simp [h]
/-- k bytes of LOW laid over V. -/
def xrow (n V U k j : Nat) : Nat := if j < k then byteAt n V j ^^^ byteAt n U j else byteAt n V j
theorem make_bytes (n : Nat) (hn : n ≤ 1000000) (W : World) : (Instr.makeSlice 43 (.int .i64 (n : Int)) (.int .i64 (n : Int))).run Try.prog W = .ok (.slice (some ⟨W.heap.size, 0, none⟩) n n) (W.alloc (.cells (madeCells #[.int .u8 0] n) 5)) :=
  run_make_row' (P := Try.prog) 43 5 (.int .u8 0) 1 (by kernel_rfl) (by kernel_rfl) rfl .i64 .i64 n (by omega) (by omega) W

set_option maxHeartbeats 6400000 in
set_option maxRecDepth 100000 in
theorem divide_any (c gl cl n LOW : Nat) (s : ByteArray) (w : World) (h12 : w.cell? ⟨c, 12, none⟩ = some (.slice (some ⟨gl, 0, none⟩) n cl)) (hl : VRow w gl n LOW) (hn0 : 0 < n) (hn : n ≤ 1000) (hs : s.size ≤ 1000000) :
    Calls Try.prog 19 #[.pointer (some ⟨c, 0, none⟩), .string s] w fun x w' => x = .returned (.slice (some ⟨w.heap.size, 0, none⟩) n n) ∧ VRow w' w.heap.size n (regI n LOW (numB s.data.toList) (8 * s.size) (8 * s.size)) ∧ Below w.heap.size w w' := by
  have hsl : s.data.toList.length = s.size := by simp
  have lc : c < w.heap.size := World.block_lt_of_cell? _ _ h12
  have lgl : gl < w.heap.size := World.block_lt_of_cell? _ _ (hl.cell 0 hn0)
  have hmk := make_bytes n (by omega)
  obtain ⟨D, hD⟩ : ∃ D, D = numB s.data.toList := ⟨_, rfl⟩
  obtain ⟨m, hm⟩ : ∃ m, m = s.size := ⟨_, rfl⟩
  obtain ⟨g, hg⟩ : ∃ g, g = w.heap.size := ⟨_, rfl⟩
  have hbit : ∀ i, i < m → ∃ b : UInt8, ∃ hj : i < s.size, s[i]'hj = b ∧ ∀ t, t < 8 → D.testBit (8 * m - 1 - (8 * i + t)) = b.toNat.testBit (7 - t) := by
    intro i hi
    obtain ⟨b, hb⟩ : ∃ b, s.data.toList[i]? = some b := ⟨_, List.getElem?_eq_getElem (by rw [hsl]; omega)⟩
    obtain ⟨hj, hc⟩ := str_at hb
    refine ⟨_, hj, hc, fun t ht => ?_⟩
    have := numB_bit s.data.toList i t _ hb ht
    rw [hsl, ← hD, ← hm] at this
    exact this
  have hz0 : VRow (w.alloc (.cells (madeCells #[.int .u8 0] n) 5)) g n 0 := by
    rw [hg]
    exact Row.made _ _ _ _ _ (fun j hj => by rw [madeCells_get _ _ _ hj, byteAt_zero]; rfl)
  have hb0 : Below g w (w.alloc (.cells (madeCells #[.int .u8 0] n) 5)) := by rw [hg]; exact (Below.refl _ _).alloc (Nat.le_refl _) _
  have hgs : g < (w.alloc (.cells (madeCells #[.int .u8 0] n) 5)).heap.size := by rw [hg]; simp
  rw [← hg] at lc lgl
  rw [← hD, ← hm, ← hg]
  rw [← hm] at hs
  have HBIT := Lib.hid hbit
  have HZ0 := Lib.hid hz0
  have HB0 := Lib.hid hb0
  have HG := Lib.hid hg
  have HL := Lib.hid hl
  have H12 := Lib.hid h12
  have Hm := Lib.hid hm
  clear hsl hD hm hbit hz0 hb0 hl
  go_enter Try.func19, Try.ntmps19
  go_wp2_with fail
  try rw [← HG.out]
  try rw [← Hm.out]
  generalize w.alloc (.cells (madeCells #[.int .u8 0] n) 5) = W0 at *
  clear hg hmk h12
  have hgc : c ≠ g := by omega
  have hgl : gl ≠ g := by omega
  go_loopw [17] (fun iv wr => ∃ i : Nat, i ≤ m ∧ iv = .int .i64 (i : Int) ∧ Hid (VRow wr g n (regI n LOW D (8 * m) (8 * i))) ∧ Hid (Stays (· = g) W0 wr)) (fun iv _ => m - (intOf iv).toNat)
  case atStart => exact ⟨0, Nat.zero_le _, rfl, HZ0, Lib.hid (Stays.refl _ _)⟩
  case round =>
    obtain ⟨i, him, rfl, HR, HS⟩ := hrel
    obtain ⟨wq, rfl⟩ : ∃ wq : World, wq = wr := ⟨_, rfl⟩
    by_cases hlt : i < m
    · obtain ⟨b, hj, hsb, hbits⟩ := HBIT.out i hlt
      have HBS := Lib.hid hbits
      have HHJ := Lib.hid hsb
      have hltI : (i : Int) < (m : Int) := by omega
      clear hbits hsb
      go_wp2_with fail
      go_loopw [7] (fun kv wz => ∃ t : Nat, t ≤ 8 ∧ kv = .int .i64 (7 - (t : Int)) ∧ Hid (VRow wz g n (regI n LOW D (8 * m) (8 * i + t))) ∧ Hid (Stays (· = g) W0 wz)) (fun kv _ => (intOf kv + 1).toNat)
      case atStart => exact ⟨0, by omega, rfl, HR, HS⟩
      case round =>
        obtain ⟨t, ht, rfl, HRz, HSz⟩ := hrel
        obtain ⟨wz, rfl⟩ : ∃ wz : World, wz = wr := ⟨_, rfl⟩
        by_cases ht8 : t < 8
        · obtain ⟨k, hk⟩ : ∃ k, k = 7 - t := ⟨_, rfl⟩
          have hki : (7 : Int) - (t : Int) = (k : Int) := by omega
          rw [hki]
          have hk7 : k ≤ 7 := by omega
          obtain ⟨V, hV⟩ : ∃ V, V = regI n LOW D (8 * m) (8 * i + t) := ⟨_, rfl⟩
          rw [← hV] at HRz
          have hnext : regI n LOW D (8 * m) (8 * i + (t + 1)) = regStep n LOW V (b.toNat.testBit k) := by
            show regI n LOW D (8 * m) (8 * i + t + 1) = _
            show regStep n LOW (regI n LOW D (8 * m) (8 * i + t)) (D.testBit (8 * m - 1 - (8 * i + t))) = _
            rw [← hV, HBS.out t ht8, ← hk]
          have hb256 : b.toNat < 256 := UInt8.toNat_lt b
          have hba := bit_u8 b.toNat k hb256
          have htb := top_bit V (8 * n - 1)
          have hsb := HHJ.out
          have HNX := Lib.hid hnext
          have HK := Lib.hid hk
          have HKI := Lib.hid hki
          have hgz : g < wz.heap.size := by have := HSz.out.size; omega
          clear hV hnext hk hki
          go_wp2_with fail
          have HLC := Lib.hid (left_any g n n V wz.drew (Row.drew HRz.out) hn0 hn)
          rw [htb] at HLC
          have hV2 : Hid (VRow wz g n V) := HRz
          obtain ⟨V2, hV2e⟩ : ∃ V2, V2 = (2 * V) % 2 ^ (8 * n) := ⟨_, rfl⟩
          rw [← hV2e] at HLC
          have hnx2 : regI n LOW D (8 * m) (8 * i + (t + 1)) = V2 ^^^ (if V.testBit (8 * n - 1) != b.toNat.testBit k then LOW else 0) := by
            rw [HNX.out, hV2e]; rfl
          have HNX2 := Lib.hid hnx2
          clear htb hV2e hnx2 HNX
          generalize hc1 : V.testBit (8 * n - 1) = c1 at HLC HNX2
          generalize hc2 : b.toNat.testBit k = c2 at hba HNX2
          obtain ⟨o1, ho1⟩ : ∃ o : Nat, o = if c1 = true then 1 else 0 := ⟨_, rfl⟩
          obtain ⟨o2, ho2⟩ : ∃ o : Nat, o = if c2 = true then 1 else 0 := ⟨_, rfl⟩
          rw [← ho1] at HLC
          rw [← ho2] at hba
          have hne : (((o1 : Nat) : Int) != ((o2 : Nat) : Int)) = (c1 != c2) := by rw [ho1, ho2]; cases c1 <;> cases c2 <;> rfl
          clear ho1 ho2 hc1 hc2
          by_cases hcc : (c1 != c2) = true
          · rw [hcc] at hne HNX2
            clear hcc
            go_region_with (go_at_call 32; refine HLC.out.mono ?_; rintro e w3 ⟨rfl, hr3, hs3⟩; have HR3 := Lib.hid hr3; have HS3 := Lib.hid hs3; clear hr3 hs3)
            all_goals
              go_wp2_with fail
              go_loopw [35] (fun qv wy => ∃ q : Nat, q ≤ n ∧ qv = .int .i64 (q : Int) ∧ Hid (Row wy g n (fun j => .int .u8 ((xrow n V2 LOW q j : Nat) : Int))) ∧ Hid (Stays (· = g) W0 wy)) (fun qv _ => n - (intOf qv).toNat)
              case atStart => exact ⟨0, Nat.zero_le _, rfl, Lib.hid (Row.congr HR3.out fun j hj => by unfold xrow; rw [if_neg (by omega)]), Lib.hid (HSz.out.trans ((Stays.drew (Stays.refl _ _)).trans HS3.out))⟩
              case round =>
                obtain ⟨q, hq, rfl, HRy, HSy⟩ := hrel
                obtain ⟨wy, rfl⟩ : ∃ wy : World, wy = wr := ⟨_, rfl⟩
                by_cases hqn : q < n
                · have k1 : wy.cell? ⟨c, 12, none⟩ = some (.slice (some ⟨gl, 0, none⟩) n cl) := HSy.out.cell ((HB0.out.cell (p := ⟨c, 12, none⟩) (by exact lc)).trans H12.out) hgc
                  have k2 : wy.cell? ⟨gl, q, none⟩ = some (.int .u8 ((byteAt n LOW q : Nat) : Int)) := HSy.out.cell ((HB0.out.cell (p := ⟨gl, q, none⟩) (by exact lgl)).trans (HL.out.cell q hqn)) hgl
                  have k3 : wy.cell? ⟨g, q, none⟩ = some (.int .u8 ((byteAt n V2 q : Nat) : Int)) := by
                    have := HRy.out.cell q hqn
                    rw [this]; unfold xrow; rw [if_neg (Nat.lt_irrefl _)]
                  have kf := HRy.out.free q
                  have b1 := byteAt_lt n LOW q
                  have b2 := byteAt_lt n V2 q
                  obtain ⟨x, hx⟩ : ∃ x, x = byteAt n LOW q := ⟨_, rfl⟩
                  obtain ⟨y, hy⟩ : ∃ y, y = byteAt n V2 q := ⟨_, rfl⟩
                  rw [← hx] at k2 b1
                  rw [← hy] at k3 b2
                  have hxo := xor_u8 y x b2 b1
                  have hqi : (q : Int) < (n : Int) := by omega
                  have hR4 : Row (wy.setCell ⟨g, q, none⟩ (.int .u8 (bits BinOp.xor .u8 (y : Int) (x : Int)))).drew g n (fun j => .int .u8 ((xrow n V2 LOW (q + 1) j : Nat) : Int)) := by
                    rw [hxo]
                    refine ((Row.set HRy.out q _).congr fun j hj => ?_).drew
                    by_cases e : j = q
                    · subst e; rw [upd_same]; unfold xrow; rw [if_pos (Nat.lt_succ_self _), hx, hy]
                    · rw [upd_other _ _ e]; unfold xrow
                      have e2 : (j < q + 1) ↔ (j < q) := by omega
                      simp only [e2]
                  have HR4 := Lib.hid hR4
                  clear hx hy hxo hR4
                  go_wp2_with fail
                  go_region
                  go_wp2_with fail
                  go_roundw
                  case rel => exact ⟨q + 1, by omega, by go_num, HR4, Lib.hid ((HSy.out.trans Row.stay).drew)⟩
                  case measure => simp [intOf]; omega
                · obtain rfl : q = n := by omega
                  have HRf : Hid (VRow wy g q (regI q LOW D (8 * m) (8 * i + (t + 1)))) := Lib.hid (by
                    rw [HNX2.out]
                    exact Row.congr HRy.out fun j hj => by unfold xrow; rw [if_pos hj, byteAt_xor]; rfl)
                  clear HRy
                  go_wp2_with fail
                  go_roundw
                  case rel => exact ⟨t + 1, by omega, by have := HK.out; go_num, HRf, HSy⟩
                  case measure => simp [intOf]
          · rw [Bool.not_eq_true] at hcc
            rw [hcc] at hne HNX2
            clear hcc
            go_region_with (go_at_call 32; refine HLC.out.mono ?_; rintro e w3 ⟨rfl, hr3, hs3⟩; have HR3 := Lib.hid hr3; have HS3 := Lib.hid hs3; clear hr3 hs3)
            all_goals
              go_wp2_with fail
              go_roundw
              case rel => exact ⟨t + 1, by omega, by have := HK.out; go_num, Lib.hid (by rw [HNX2.out]; have := HR3.out; simpa using this), Lib.hid (HSz.out.trans ((Stays.drew (Stays.refl _ _)).trans HS3.out))⟩
              case measure => simp [intOf]
        · obtain rfl : t = 8 := by omega
          go_wp2_with fail
          go_roundw
          case rel => exact ⟨i + 1, by omega, by go_num, HRz, HSz⟩
          case measure => simp [intOf]; omega
    · obtain rfl : i = m := by omega
      go_wp2_with fail
      go_ret
      exact ⟨rfl, HR.out, by have := HB0.out; rw [HG.out] at this ⊢; exact Below.stays this (S := (· = g)) HS.out (fun q hq => by rw [hq, HG.out]; exact Nat.le_refl _) (by rw [← HG.out]; omega)⟩
end Go.Proofs.Ytldekkniammllaa
