/- The law BchAny. -/
import Derived.Test.YtldekkniammllaaLCorrects
namespace Go.Proofs.Ytldekkniammllaa
open Go.RowKit
set_option linter.unusedVariables false
set_option linter.unusedSimpArgs false

set_option maxHeartbeats 6400000 in
set_option maxRecDepth 100000 in
theorem BchAny_walk (a0 a1 : Int) (x y : ByteArray) (w : World) (w0 : (Lit.int .i64 a0).wf = true) (w1 : (Lit.int .i64 a1).wf = true) :
    Calls Try.prog 5 #[.int .i64 a0, .int .i64 a1, .agg #[.string x, .string y]] w fun e w' => e = .returned (.bool true) ∧ Below w.heap.size w w' := by
  clear w0 w1
  have HSP := Lib.hid (fun w => speaks_ok w)
  go_enter Try.func5, Try.ntmps5
  go_wp2_with fail
  go_at_call 8
  refine (HSP.out _).mono ?_
  rintro e w1 ⟨rfl, hb1⟩
  have hz1 := hb1.size
  simp only [World.size_alloc] at hz1
  have cx : w1.cell? ⟨w.heap.size, 0, none⟩ = some (.string x) := (hb1.cell (p := ⟨w.heap.size, 0, none⟩) (by simp)).trans (by simp)
  have cy : w1.cell? ⟨w.heap.size, 1, none⟩ = some (.string y) := (hb1.cell (p := ⟨w.heap.size, 1, none⟩) (by simp)).trans (by simp)
  have HB1 : Hid (Below w.heap.size w w1) := Lib.hid (((Below.refl _ _).alloc (Nat.le_refl _) _).trans (hb1.mono (by simp)))
  clear hb1 HSP
  go_wp2_with fail
  go_region
  clear cx cy
  have HB1d : Hid (Below w.heap.size w w1.drew) := Lib.hid HB1.out.drew
  obtain ⟨wa, hwa⟩ : ∃ wa : World, wa = w1.drew := ⟨_, rfl⟩
  have hza : w.heap.size ≤ wa.heap.size := by rw [hwa]; show w.heap.size ≤ w1.heap.size; omega
  rw [← hwa] at HB1d
  rw [← hwa]
  clear hwa HB1 hz1
  by_cases hok : 1 ≤ a0 ∧ a0 ≤ 8 ∧ 1 ≤ a1 ∧ a1 ≤ 256
  · obtain ⟨h1, h2, h3, h4⟩ := hok
    obtain ⟨t, rfl⟩ := Int.eq_ofNat_of_zero_le (show 0 ≤ a0 by omega)
    obtain ⟨chunk, rfl⟩ := Int.eq_ofNat_of_zero_le (show 0 ≤ a1 by omega)
    have ht1 : 1 ≤ t := by omega
    have ht8 : t ≤ 8 := by omega
    have hc1 : 1 ≤ chunk := by omega
    have hc256 : chunk ≤ 256 := by omega
    go_wp2_with fail
    go_at_call 9
    refine (New_yes t chunk ht1 ht8 hc1 hc256 wa).mono ?_
    rintro e w2 ⟨rfl, hf, hb⟩
    obtain ⟨c, hc⟩ : ∃ c, c = wa.heap.size := ⟨_, rfl⟩
    rw [← hc] at hf ⊢
    have HB2 : Hid (Below w.heap.size w w2) := Lib.hid (HB1d.out.trans (hb.mono hza))
    have hwc : w.heap.size ≤ c := by omega
    have HK2 : Hid (CodeAt w2 c t chunk) := Lib.hid (.inl hf)
    have HH1 := Lib.hid hf.h1
    clear hf hb hc h1 h2 h3 h4
    by_cases hsx : x.size = chunk
    · have hsxI : ((x.size : Int) != (chunk : Int)) = false := by simp; omega
      by_cases hsy : y.size = parN t
      · have hsyI : ((y.size : Int) != ((parN t : Nat) : Int)) = false := by simp; omega
        obtain ⟨a, b, k, ok, hv⟩ := decV_form t chunk (decR t chunk (numB x.data.toList) (numB y.data.toList))
        have HWD := Lib.hid (fun w h => word_of c t chunk x y hsx hsy hc1 hc256 ht1 ht8 a b k ok hv w h)
        have HDC := Lib.hid (Decode_any c t chunk x y hsx hsy hc1 hc256 ht1 ht8 w2 HK2.out)
        rw [hv] at HDC
        clear hv hsx hsy
        go_wp2_with fail
        go_at_call 16
        refine HDC.out.mono ?_
        rintro e w5 ⟨rfl, hk5⟩
        have HB5 : Hid (Below w.heap.size w w5) := Lib.hid (below_coded HB2.out hk5 hwc)
        have HK5 := Lib.hid hk5.at
        clear hk5 HDC
        go_wp2_with fail
        go_at_call 13
        refine (Parity_any c t chunk ht1 ht8 w5 HK5.out).mono ?_
        rintro e w6 ⟨rfl, hk6⟩
        have HB6 : Hid (Below w.heap.size w w6) := Lib.hid (below_coded HB5.out hk6 hwc)
        have HK6 := Lib.hid hk6.at
        clear hk6
        go_wp2_with fail
        go_at_call 17
        refine (HWD.out _ HK6.out).mono ?_
        rintro e w7 ⟨rfl, hk7⟩
        have HB7 : Hid (Below w.heap.size w w7) := Lib.hid (by
          rcases hk7 with rfl | hk7
          · exact HB6.out
          · exact below_coded HB6.out hk7 hwc)
        clear hk7
        go_wp2_with fail
        go_ret
        exact ⟨rfl, HB7.out⟩
      · have hsyI : ((y.size : Int) != ((parN t : Nat) : Int)) = true := by simp; omega
        have HDC := Lib.hid (Decode_par c t chunk x y hsx hsy ht1 ht8 w2 HK2.out)
        clear hsx hsy
        go_wp2_with fail
        go_at_call 16
        refine HDC.out.mono ?_
        rintro e w5 ⟨rfl, hk5⟩
        have HB5 : Hid (Below w.heap.size w w5) := Lib.hid (below_coded HB2.out hk5 hwc)
        have HK5 := Lib.hid hk5.at
        clear hk5 HDC
        go_wp2_with fail
        go_at_call 13
        refine (Parity_any c t chunk ht1 ht8 w5 HK5.out).mono ?_
        rintro e w6 ⟨rfl, hk6⟩
        have HB6 : Hid (Below w.heap.size w w6) := Lib.hid (below_coded HB5.out hk6 hwc)
        clear hk6
        go_wp2_with fail
        go_ret
        exact ⟨rfl, HB6.out⟩
    · have hsxI : ((x.size : Int) != (chunk : Int)) = true := by simp; omega
      have HDC := Lib.hid (Decode_long c t chunk x y hsx w2 HH1.out)
      clear hsx
      go_wp2_with fail
      go_at_call 16
      refine HDC.out.mono ?_
      rintro e w' ⟨rfl, hw'⟩
      obtain rfl := hw'.symm
      clear HDC
      go_wp2_with fail
      go_ret
      exact ⟨rfl, HB2.out⟩
  · have hbad : a0 < 1 ∨ 8 < a0 ∨ a1 < 1 ∨ 256 < a1 := by omega
    have HN := Lib.hid (New_no a0 a1 hbad wa)
    clear hok hbad
    go_wp2_with fail
    go_at_call 9
    refine HN.out.mono ?_
    rintro e w' ⟨rfl, hw'⟩
    obtain rfl := hw'.symm
    go_wp2_with fail
    go_at_call 16
    refine (Decode_nil x y _).mono ?_
    rintro e w' ⟨rfl, hw'⟩
    obtain rfl := hw'.symm
    go_wp2_with fail
    go_at_call 13
    refine (Parity_nil _).mono ?_
    rintro e w' ⟨rfl, hw'⟩
    obtain rfl := hw'.symm
    go_wp2_with fail
    go_ret
    exact ⟨rfl, HB1d.out⟩
end Go.Proofs.Ytldekkniammllaa
