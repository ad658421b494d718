/- The law BchCorrects. -/
import Derived.Test.YtldekkniammllaaFlpA
namespace Go.Proofs.Ytldekkniammllaa
open Go.RowKit
set_option linter.unusedVariables false
set_option linter.unusedSimpArgs false

theorem decV_form (t chunk : Nat) (r : Option (Nat × Nat × Nat)) : ∃ (a b : ByteArray) (k : Int) (ok : Bool), decV t chunk r = .tuple #[.string a, .string b, .int .i64 k, .bool ok] := by
  cases r with
  | none => exact ⟨_, _, _, _, rfl⟩
  | some z => exact ⟨_, _, _, _, rfl⟩
theorem IntRow.len_le {w : World} {a : Option Addr} {len cap : Nat} {zs : List Int} {k : IntKind} (h : IntRow k w a len cap zs) : len ≤ 9223372036854775807 := by
  rcases h with ⟨_, h, _⟩ | ⟨x, _, h1, h2, _⟩
  · omega
  · unfold maxLen at h2; omega
/-- What Decode makes of a code word with turned bits. -/
theorem flip_facts {t : Nat} (ht1 : 1 ≤ t) (ht8 : t ≤ 8) (s : ByteArray) (hs0 : 0 < s.size) (hs : s.size ≤ 256) {es : List Nat} (h1 : es.Nodup) (h2 : ∀ x ∈ es, x < 8 * s.size + 13 * t) (x y : ByteArray)
    (hx : x = strOf s.size (decI s.size (parN t) (13 * t) (numB s.data.toList) (numB (parS t s).data.toList) es es.length).1) (hy : y = strOf (parN t) (decI s.size (parN t) (13 * t) (numB s.data.toList) (numB (parS t s).data.toList) es es.length).2) :
    x.size = s.size ∧ y.size = parN t ∧ (es.length ≤ t → decV t s.size (decR t s.size (numB x.data.toList) (numB y.data.toList)) = .tuple #[.string s, .string (parS t s), .int .i64 (es.length : Int), .bool true]) := by
  have hV := numB_lt s.data.toList
  rw [show s.data.toList.length = s.size by simp] at hV
  have hR := regV_lt ht1 ht8 s.size _ hV
  have hpn : numB (parS t s).data.toList = regV t s.size (numB s.data.toList) := num_str hR
  rw [hpn] at hx hy
  have hl := decI_lt (deg := 13 * t) hV hR hs0 (par_pos ht1) es es.length
  subst hx hy
  refine ⟨str_size _ _, str_size _ _, fun hle => ?_⟩
  rw [num_str hl.1, num_str hl.2, decR_right ht1 ht8 hs0 hs hV h1 h2 hle _ _ hl.1 hl.2 (word_dec (par_spare t) h2 _ (Nat.le_refl _))]
  show Value.tuple #[.string (strOf s.size (numB s.data.toList)), .string (strOf (parN t) (regV t s.size (numB s.data.toList))), .int .i64 (es.length : Int), .bool true] = _
  rw [str_num]
  rfl

set_option maxHeartbeats 6400000 in
set_option maxRecDepth 100000 in
theorem BchCorrects_walk (a0 : Int) (s : ByteArray) (A : Option Addr) (len cap : Nat) (zs : List Int) (w : World) (w0 : (Lit.int .i64 a0).wf = true) (hsz : s.size ≤ 140737488351232) (hrow : IntRow .i64 w A len cap zs) :
    Calls Try.prog 4 #[.int .i64 a0, .string s, .slice A len cap] w fun e w' => e = .returned (.bool true) ∧ Below w.heap.size w w' := by
  clear w0 hsz
  have HSP := Lib.hid (fun w => speaks_ok w)
  have HROW := Lib.hid hrow
  clear hrow
  go_enter Try.func4, Try.ntmps4
  go_wp2_with fail
  go_at_call 8
  refine (HSP.out _).mono ?_
  rintro e w1 ⟨rfl, hb1⟩
  have HB1 := Lib.hid hb1
  have hs1 := hb1.size
  clear hb1
  by_cases hok : 1 ≤ a0 ∧ a0 ≤ 8 ∧ 1 ≤ (s.size : Int) ∧ (s.size : Int) ≤ 256
  · obtain ⟨h1, h2, h3, h4⟩ := hok
    have HST := Lib.hid (fun w => settings_yes a0 (s.size : Int) h1 h2 h3 h4 w)
    obtain ⟨t, rfl⟩ := Int.eq_ofNat_of_zero_le (show 0 ≤ a0 by omega)
    have ht1 : 1 ≤ t := by omega
    have ht8 : t ≤ 8 := by omega
    have hc1 : 1 ≤ s.size := by omega
    have hc256 : s.size ≤ 256 := by omega
    go_wp2_with fail
    go_at_call 10
    refine (HST.out _).mono ?_
    rintro e w' ⟨rfl, hw'⟩
    obtain rfl := hw'.symm
    go_wp2_with fail
    go_at_call 9
    refine (New_yes t s.size ht1 ht8 hc1 hc256 w1).mono ?_
    rintro e w2 ⟨rfl, hf, hb⟩
    obtain ⟨c, hc⟩ : ∃ c, c = w1.heap.size := ⟨_, rfl⟩
    rw [← hc] at hf ⊢
    have HB2 : Hid (Below w.heap.size w w2) := Lib.hid (HB1.out.trans (hb.mono hs1))
    have hwc : w.heap.size ≤ c := by omega
    have HE := Lib.hid (Encode_any c t s.size s rfl hc256 ht1 ht8 w2 (.inl hf))
    clear hf hb hc
    go_wp2_with fail
    go_at_call 11
    refine HE.out.mono ?_
    rintro e w3 ⟨rfl, hk⟩
    have HB3 : Hid (Below w.heap.size w w3) := Lib.hid (below_coded HB2.out hk hwc)
    have HK3 := Lib.hid hk.at
    have HFL := Lib.hid (flipped_any t s (parS t s) A len cap zs ht1 ht8 hc1 hc256 (str_size _ _) w3 w HROW.out HB3.out HROW.out.len_le)
    clear hk HE HST
    go_wp2_with fail
    go_at_call 15
    refine HFL.out.mono ?_
    intro e w4 hfq
    obtain ⟨es, hes, rfl, hb4⟩ := hfq
    obtain ⟨f1, f2, f3⟩ := flipS_ok (show 0 < 8 * s.size + 13 * t by omega) t zs len
    rw [← hes] at f1 f2 f3
    obtain ⟨x, hx⟩ : ∃ x, x = strOf s.size (decI s.size (parN t) (13 * t) (numB s.data.toList) (numB (parS t s).data.toList) es es.length).1 := ⟨_, rfl⟩
    obtain ⟨y, hy⟩ : ∃ y, y = strOf (parN t) (decI s.size (parN t) (13 * t) (numB s.data.toList) (numB (parS t s).data.toList) es es.length).2 := ⟨_, rfl⟩
    rw [← hx, ← hy]
    obtain ⟨g1, g2, g3⟩ := flip_facts ht1 ht8 s hc1 hc256 f1 f2 x y hx hy
    have HB4 : Hid (Below w.heap.size w w4) := Lib.hid (HB3.out.trans (hb4.mono HB3.out.size))
    have HK4 : Hid (CodeAt w4 c t s.size) := Lib.hid (CodeAt.below HK3.out hb4)
    have HDC := Lib.hid (Decode_any c t s.size x y g1 g2 hc1 hc256 ht1 ht8 w4 HK4.out)
    have HG := Lib.hid (And.intro g1 g2)
    have hkI : es.length ≤ 10 := by omega
    clear hes f1 f2 f3 hx hy hb4 HFL HK3 g1 g2
    by_cases hle : es.length ≤ t
    · have hleI : (es.length : Int) ≤ (t : Int) := by omega
      have hv := g3 hle
      obtain ⟨S, hS⟩ : ∃ S, S = parS t s := ⟨_, rfl⟩
      rw [← hS] at hv
      rw [hv] at HDC
      rw [← hS]
      have hss1 : (s.toList == s.toList) = true := by simp
      have hss2 : (S.toList == S.toList) = true := by simp
      clear g3 hv hS hle
      go_wp2_with fail
      go_at_call 16
      refine HDC.out.mono ?_
      rintro e w5 ⟨rfl, hk5⟩
      have HB5 : Hid (Below w.heap.size w w5) := Lib.hid (below_coded HB4.out hk5 hwc)
      clear hk5 HDC
      go_wp2_with fail
      go_ret
      refine ⟨?_, HB5.out⟩
      rfl
    · have hleI : ¬ (es.length : Int) ≤ (t : Int) := by omega
      obtain ⟨a, b, k, ok, hv⟩ := decV_form t s.size (decR t s.size (numB x.data.toList) (numB y.data.toList))
      have HWD := Lib.hid (fun w h => word_of c t s.size x y HG.out.1 HG.out.2 hc1 hc256 ht1 ht8 a b k ok hv w h)
      rw [hv] at HDC
      clear g3 hv hle
      go_wp2_with fail
      go_at_call 16
      refine HDC.out.mono ?_
      rintro e w5 ⟨rfl, hk5⟩
      have HB5 : Hid (Below w.heap.size w w5) := Lib.hid (below_coded HB4.out hk5 hwc)
      have HK5 := Lib.hid hk5.at
      clear hk5 HDC
      go_wp2_with fail
      go_at_call 17
      refine (HWD.out _ HK5.out).mono ?_
      rintro e w6 ⟨rfl, hk6⟩
      have HB6 : Hid (Below w.heap.size w w6) := Lib.hid (by
        rcases hk6 with rfl | hk6
        · exact HB5.out
        · exact below_coded HB5.out hk6 hwc)
      clear hk6
      go_wp2_with fail
      go_ret
      exact ⟨rfl, HB6.out⟩
  · have hbad : a0 < 1 ∨ 8 < a0 ∨ (s.size : Int) < 1 ∨ 256 < (s.size : Int) := by omega
    have HST := Lib.hid (fun w => settings_no a0 (s.size : Int) hbad w)
    clear hok hbad
    go_wp2_with fail
    go_at_call 10
    refine (HST.out _).mono ?_
    rintro e w' ⟨rfl, hw'⟩
    obtain rfl := hw'.symm
    go_wp2_with fail
    go_ret
    exact ⟨rfl, HB1.out⟩
end Go.Proofs.Ytldekkniammllaa
