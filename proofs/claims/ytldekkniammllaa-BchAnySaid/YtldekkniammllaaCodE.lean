/- Encode. -/
import Derived.Test.YtldekkniammllaaCodD
namespace Go.Proofs.Ytldekkniammllaa
open Go.RowKit
set_option linter.unusedVariables false
set_option linter.unusedSimpArgs false

theorem Coded.below {c t chunk : Nat} {w w' w'' : World} (h : Coded c t chunk w w') (lc : c < w.heap.size) (k : Below w'.heap.size w' w'') : Coded c t chunk w w'' := by
  obtain ⟨gl, be, bl, h1, h2, h3⟩ := h
  exact ⟨gl, be, bl, h1.below k, h2.below k lc, h3⟩
/-- The parity of a chunk, as the program has it. -/
def parS (t : Nat) (s : ByteArray) : ByteArray := strOf (parN t) (regI (parN t) (lowN t) (numB s.data.toList) (8 * s.size) (8 * s.size))
theorem row_string {w : World} {g n V cap : Nat} (h : VRow w g n V) : (convert 43 9 (.slice (some ⟨g, 0, none⟩) n cap)).run Try.prog w = .ok (.string (strOf n V)) w := by
  have := run_convert_bytes_back (P := Try.prog) w 43 9 5 ⟨g, 0, none⟩ cap (bytesOf n V) (by kernel_rfl) (by kernel_rfl) (by kernel_rfl) (by
    intro j hj
    rw [bytesOf_length] at hj
    have h1 := bytesOf_get (V := V) hj
    rw [List.getElem?_eq_getElem (by rw [bytesOf_length]; exact hj)] at h1
    rw [Option.some.inj h1, addr_add, Nat.zero_add, h.cell j hj, UInt8.toNat_ofNat_of_lt' (byteAt_lt n V j)])
  rw [bytesOf_length] at this
  exact this
theorem par_pos {t : Nat} (h : 1 ≤ t) : 0 < parN t := by unfold parN; omega
theorem par_le {t : Nat} (h : t ≤ 8) : parN t ≤ 13 := by unfold parN; omega

theorem Encode_nil (s : ByteArray) (w : World) : Calls Try.prog 11 #[.pointer none, .string s] w fun e w' => e = .returned (.tuple #[.string ⟨#[]⟩, .int .i64 1]) ∧ w' = w := by
  go_enter Try.func11, Try.ntmps11
  go_wp2_with fail
  go_ret2
  exact ⟨rfl, rfl⟩
theorem Encode_long (c t chunk : Nat) (s : ByteArray) (hs : s.size ≠ chunk) (w : World) (h1 : w.cell? ⟨c, 1, none⟩ = some (.int .i64 (chunk : Int))) :
    Calls Try.prog 11 #[.pointer (some ⟨c, 0, none⟩), .string s] w fun e w' => e = .returned (.tuple #[.string ⟨#[]⟩, .int .i64 2]) ∧ w' = w := by
  have hne : ((s.size : Int) != (chunk : Int)) = true := by simp; omega
  clear hs
  go_enter Try.func11, Try.ntmps11
  go_wp2_with fail
  go_ret2
  exact ⟨rfl, rfl⟩
set_option maxHeartbeats 1600000 in
theorem Encode_any (c t chunk : Nat) (s : ByteArray) (hs : s.size = chunk) (hc : chunk ≤ 256) (ht1 : 1 ≤ t) (ht8 : t ≤ 8) (w : World) (h : CodeAt w c t chunk) :
    Calls Try.prog 11 #[.pointer (some ⟨c, 0, none⟩), .string s] w fun e w' => e = .returned (.tuple #[.string (parS t s), .int .i64 0]) ∧ Coded c t chunk w w' := by
  have h1 : w.cell? ⟨c, 1, none⟩ = some (.int .i64 (chunk : Int)) := by
    rcases h with h | ⟨_, _, _, h⟩ <;> exact h.h1
  have hne : ((s.size : Int) != (chunk : Int)) = false := by simp; omega
  have lc := h.lc
  have HR := Lib.hid (ready_any c t chunk ht1 ht8 w h)
  have hsz : s.size ≤ 1000000 := by omega
  have HSZ := Lib.hid hs
  clear h hs
  go_enter Try.func11, Try.ntmps11
  go_wp2_with fail
  go_at_call 18
  refine HR.out.mono ?_
  rintro e w1 ⟨rfl, hq⟩
  have HC := Lib.hid hq
  obtain ⟨gl, be, bl, hr, ho, hk⟩ := hq
  have HDV := Lib.hid (divide_any c gl (parN t) (parN t) (lowN t) s w1 hr.h12 hr.low (par_pos ht1) (by have := par_le ht8; omega) hsz)
  clear hr ho hk HR
  go_wp2_with fail
  go_at_call 19
  refine HDV.out.mono ?_
  rintro e w2 ⟨rfl, hv, hb⟩
  have hcv := row_string (cap := parN t) hv
  have HX : Hid (strOf (parN t) (regI (parN t) (lowN t) (numB s.data.toList) (8 * s.size) (8 * s.size)) = parS t s) := Lib.hid rfl
  rw [HX.out] at hcv
  have HC2 := Lib.hid (HC.out.below lc hb)
  clear hv hb HC HDV
  go_wp2_with fail
  go_ret2
  exact ⟨rfl, HC2.out⟩

/-! ## The document's -/
theorem rdegree_any (t : Nat) (ht1 : 1 ≤ t) (ht8 : t ≤ 8) (w : World) : Calls Try.prog 12 #[.int .i64 (t : Int)] w fun e w' => e = .returned (.int .i64 ((13 * t : Nat) : Int)) ∧ Below w.heap.size w w' := by
  have HG := Lib.hid (rgenerator_any t ht1 ht8 w)
  go_enter Try.func12, Try.ntmps12
  go_wp2_with fail
  go_at_call 20
  refine HG.out.mono ?_
  rintro e w1 ⟨v, rfl, hp, hb⟩
  obtain ⟨g, cap, rfl, _, _, hi⟩ := hp.at (gen_ne (by omega))
  rw [terms_rest (by omega)] at hi ⊢
  have hc : w1.cell? ⟨g, 0, none⟩ = some (.int .i64 ((13 * t : Nat) : Int)) := hi 0 (by simp)
  have HB := Lib.hid hb
  obtain ⟨d, hd⟩ : ∃ d, d = 13 * t := ⟨_, rfl⟩
  rw [← hd] at hc
  have HD := Lib.hid hd
  clear hi hp hb hd
  go_wp2_with fail
  go_ret
  exact ⟨by rw [← HD.out]; rfl, HB.out⟩
end Go.Proofs.Ytldekkniammllaa
