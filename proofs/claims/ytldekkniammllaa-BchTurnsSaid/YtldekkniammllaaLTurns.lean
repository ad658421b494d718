/- The law BchTurns. -/
import Derived.Test.YtldekkniammllaaLCorrects
namespace Go.Proofs.Ytldekkniammllaa
open Go.RowKit
set_option linter.unusedVariables false
set_option linter.unusedSimpArgs false

/-- A code word is decoded as it is. -/
theorem code_as_is {t : Nat} (ht1 : 1 ≤ t) (ht8 : t ≤ 8) (s : ByteArray) (hs0 : 0 < s.size) (hs : s.size ≤ 256) : decV t s.size (decR t s.size (numB s.data.toList) (numB (parS t s).data.toList)) = .tuple #[.string s, .string (parS t s), .int .i64 0, .bool true] := by
  have hV := numB_lt s.data.toList
  rw [show s.data.toList.length = s.size by simp] at hV
  have hR := regV_lt ht1 ht8 s.size _ hV
  have hpn : numB (parS t s).data.toList = regV t s.size (numB s.data.toList) := num_str hR
  rw [hpn, decR_right ht1 ht8 hs0 hs hV (es := []) List.nodup_nil (by simp) (Nat.zero_le _) _ _ hV hR (by show _ = _ ^^^ 0; rw [Nat.xor_zero])]
  show Value.tuple #[.string (strOf s.size (numB s.data.toList)), .string (strOf (parN t) (regV t s.size (numB s.data.toList))), .int .i64 ((0 : Nat) : Int), .bool true] = _
  rw [str_num]
  rfl
/-- What is answered: nothing, or a code word. -/
theorem dec_cases {t chunk : Nat} (ht1 : 1 ≤ t) (ht8 : t ≤ 8) (x y : ByteArray) (hx : x.size = chunk) (hy : y.size = parN t) (hc0 : 0 < chunk) :
    decV t chunk (decR t chunk (numB x.data.toList) (numB y.data.toList)) = .tuple #[.string ⟨#[]⟩, .string ⟨#[]⟩, .int .i64 0, .bool false] ∨
    ∃ (a : ByteArray) (k : Int), a.size = chunk ∧ decV t chunk (decR t chunk (numB x.data.toList) (numB y.data.toList)) = .tuple #[.string a, .string (parS t a), .int .i64 k, .bool true] := by
  have hxl := numB_lt x.data.toList
  rw [show x.data.toList.length = chunk by rw [← hx]; simp] at hxl
  have hyl := numB_lt y.data.toList
  rw [show y.data.toList.length = parN t by rw [← hy]; simp] at hyl
  cases hr : decR t chunk (numB x.data.toList) (numB y.data.toList) with
  | none => exact .inl rfl
  | some z =>
    obtain ⟨V, P, n⟩ := z
    obtain ⟨h1, h2, _⟩ := decR_word ht1 ht8 hc0 hxl hyl hr
    have hsz : (strOf chunk V).size = chunk := str_size _ _
    refine .inr ⟨strOf chunk V, n, hsz, ?_⟩
    have hpar : parS t (strOf chunk V) = strOf (parN t) P := by
      unfold parS
      rw [num_str h1, hsz, h2]; rfl
    rw [hpar]; rfl

set_option maxHeartbeats 6400000 in
set_option maxRecDepth 100000 in
theorem BchTurns_walk (a0 : Int) (s : ByteArray) (A : Option Addr) (len cap : Nat) (zs : List Int) (w : World) (w0 : (Lit.int .i64 a0).wf = true) (hsz : s.size ≤ 140737488351232) (hrow : IntRow .i64 w A len cap zs) :
    Calls Try.prog 7 #[.int .i64 a0, .string s, .slice A len cap] w fun e w' => e = .returned (.bool true) ∧ Below w.heap.size w w' := by
  clear w0 hsz
  have HSP := Lib.hid (fun w => speaks_ok w)
  have HROW := Lib.hid hrow
  clear hrow
  go_enter Try.func7, Try.ntmps7
  go_wp2_with fail
  go_at_call 8
  refine (HSP.out _).mono ?_
  rintro e w1 ⟨rfl, hb1⟩
  have HB1 := Lib.hid hb1
  have hs1 := hb1.size
  clear hb1
  by_cases hok : 1 ≤ a0 ∧ a0 ≤ 8 ∧ 1 ≤ (s.size : Int) ∧ (s.size : Int) ≤ 256
  · obtain ⟨h1, h2, h3, h4⟩ := hok
    have HST := Lib.hid (fun w => settings_yes a0 (s.size : Int) h1 h2 h3 h4 w)
    obtain ⟨t, rfl⟩ := Int.eq_ofNat_of_zero_le (show 0 ≤ a0 by omega)
    have ht1 : 1 ≤ t := by omega
    have ht8 : t ≤ 8 := by omega
    have hc1 : 1 ≤ s.size := by omega
    have hc256 : s.size ≤ 256 := by omega
    go_wp2_with fail
    go_at_call 10
    refine (HST.out _).mono ?_
    rintro e w' ⟨rfl, hw'⟩
    obtain rfl := hw'.symm
    go_wp2_with fail
    go_at_call 9
    refine (New_yes t s.size ht1 ht8 hc1 hc256 w1).mono ?_
    rintro e w2 ⟨rfl, hf, hb⟩
    obtain ⟨c, hc⟩ : ∃ c, c = w1.heap.size := ⟨_, rfl⟩
    rw [← hc] at hf ⊢
    have HB2 : Hid (Below w.heap.size w w2) := Lib.hid (HB1.out.trans (hb.mono hs1))
    have hwc : w.heap.size ≤ c := by omega
    have HE := Lib.hid (Encode_any c t s.size s rfl hc256 ht1 ht8 w2 (.inl hf))
    clear hf hb hc
    go_wp2_with fail
    go_at_call 11
    refine HE.out.mono ?_
    rintro e w3 ⟨rfl, hk⟩
    have HB3 : Hid (Below w.heap.size w w3) := Lib.hid (below_coded HB2.out hk hwc)
    have HK3 := Lib.hid hk.at
    have HFL := Lib.hid (flipped_any t s (parS t s) A len cap zs ht1 ht8 hc1 hc256 (str_size _ _) w3 w HROW.out HB3.out HROW.out.len_le)
    clear hk HE HST
    go_wp2_with fail
    go_at_call 15
    refine HFL.out.mono ?_
    intro e w4 hfq
    obtain ⟨es, hes, rfl, hb4⟩ := hfq
    obtain ⟨f1, f2, f3⟩ := flipS_ok (show 0 < 8 * s.size + 13 * t by omega) t zs len
    rw [← hes] at f1 f2 f3
    obtain ⟨x, hx⟩ : ∃ x, x = strOf s.size (decI s.size (parN t) (13 * t) (numB s.data.toList) (numB (parS t s).data.toList) es es.length).1 := ⟨_, rfl⟩
    obtain ⟨y, hy⟩ : ∃ y, y = strOf (parN t) (decI s.size (parN t) (13 * t) (numB s.data.toList) (numB (parS t s).data.toList) es es.length).2 := ⟨_, rfl⟩
    rw [← hx, ← hy]
    obtain ⟨g1, g2, g3⟩ := flip_facts ht1 ht8 s hc1 hc256 f1 f2 x y hx hy
    have HB4 : Hid (Below w.heap.size w w4) := Lib.hid (HB3.out.trans (hb4.mono HB3.out.size))
    have HK4 : Hid (CodeAt w4 c t s.size) := Lib.hid (CodeAt.below HK3.out hb4)
    have HDC := Lib.hid (Decode_any c t s.size x y g1 g2 hc1 hc256 ht1 ht8 w4 HK4.out)
    have HG := Lib.hid (And.intro g1 g2)
    have hkI : es.length ≤ 10 := by omega
    clear hes f1 f2 f3 hx hy hb4 HFL HK3 g1 g2
    have HDC2 := Lib.hid (fun w h => Decode_any c t s.size x y HG.out.1 HG.out.2 hc1 hc256 ht1 ht8 w h)
    have hcases := dec_cases ht1 ht8 x y HG.out.1 HG.out.2 hc1
    have hright : es.length ≤ t → ∃ (a : ByteArray) (k : Int), a.size = s.size ∧ decV t s.size (decR t s.size (numB x.data.toList) (numB y.data.toList)) = .tuple #[.string a, .string (parS t a), .int .i64 k, .bool true] := fun h => ⟨s, _, rfl, g3 h⟩
    clear g3 HDC
    by_cases hsome : ∃ (a : ByteArray) (k : Int), a.size = s.size ∧ decV t s.size (decR t s.size (numB x.data.toList) (numB y.data.toList)) = .tuple #[.string a, .string (parS t a), .int .i64 k, .bool true]
    · obtain ⟨a, k, has, hv⟩ := hsome
      have hai := code_as_is ht1 ht8 a (by omega) (by omega)
      have HDA := Lib.hid (fun w h => Decode_any c t s.size a (parS t a) has (str_size _ _) hc1 hc256 ht1 ht8 w h)
      rw [has] at hai
      rw [hv] at HDC2
      rw [hai] at HDA
      obtain ⟨S, hS⟩ : ∃ S, S = parS t a := ⟨_, rfl⟩
      rw [← hS] at HDC2 HDA
      have hss1 : (a.toList == a.toList) = true := by simp
      have hss2 : (S.toList == S.toList) = true := by simp
      have hss3 : (a.toList != a.toList) = false := by simp
      have hss4 : (S.toList != S.toList) = false := by simp
      have hkk : (k != k) = false := by simp
      clear hcases hright hai hv hS has
      go_wp2_with fail
      go_at_call 16
      refine (HDC2.out _ HK4.out).mono ?_
      rintro e w5 ⟨rfl, hk5⟩
      have HB5 : Hid (Below w.heap.size w w5) := Lib.hid (below_coded HB4.out hk5 hwc)
      have HK5 := Lib.hid hk5.at
      clear hk5
      go_wp2_with fail
      go_at_call 16
      refine (HDC2.out _ HK5.out).mono ?_
      rintro e w6 ⟨rfl, hk6⟩
      have HB6 : Hid (Below w.heap.size w w6) := Lib.hid (below_coded HB5.out hk6 hwc)
      have HK6 := Lib.hid hk6.at
      clear hk6 HDC2
      by_cases hle : es.length ≤ t
      · have hleI : (es.length : Int) ≤ (t : Int) := by omega
        clear hle
        go_wp2_with fail
        go_at_call 16
        refine (HDA.out _ HK6.out).mono ?_
        rintro e w7 ⟨rfl, hk7⟩
        have HB7 : Hid (Below w.heap.size w w7) := Lib.hid (below_coded HB6.out hk7 hwc)
        clear hk7
        go_wp2_with fail
        go_ret
        exact ⟨rfl, HB7.out⟩
      · have hleI : ¬ (es.length : Int) ≤ (t : Int) := by omega
        clear hle
        go_wp2_with fail
        go_at_call 16
        refine (HDA.out _ HK6.out).mono ?_
        rintro e w7 ⟨rfl, hk7⟩
        have HB7 : Hid (Below w.heap.size w w7) := Lib.hid (below_coded HB6.out hk7 hwc)
        clear hk7
        go_wp2_with fail
        go_ret
        exact ⟨rfl, HB7.out⟩
    · have hno := hcases.resolve_right hsome
      have hle : ¬ es.length ≤ t := fun h => hsome (hright h)
      have hleI : ¬ (es.length : Int) ≤ (t : Int) := by omega
      have hgtI : (t : Int) < (es.length : Int) := by omega
      rw [hno] at HDC2
      clear hcases hright hno hsome hle
      go_wp2_with fail
      go_at_call 16
      refine (HDC2.out _ HK4.out).mono ?_
      rintro e w5 ⟨rfl, hk5⟩
      have HB5 : Hid (Below w.heap.size w w5) := Lib.hid (below_coded HB4.out hk5 hwc)
      have HK5 := Lib.hid hk5.at
      clear hk5
      go_wp2_with fail
      go_at_call 16
      refine (HDC2.out _ HK5.out).mono ?_
      rintro e w6 ⟨rfl, hk6⟩
      have HB6 : Hid (Below w.heap.size w w6) := Lib.hid (below_coded HB5.out hk6 hwc)
      clear hk6 HDC2
      go_wp2_with fail
      go_ret
      exact ⟨rfl, HB6.out⟩
  · have hbad : a0 < 1 ∨ 8 < a0 ∨ (s.size : Int) < 1 ∨ 256 < (s.size : Int) := by omega
    have HST := Lib.hid (fun w => settings_no a0 (s.size : Int) hbad w)
    clear hok hbad
    go_wp2_with fail
    go_at_call 10
    refine (HST.out _).mono ?_
    rintro e w' ⟨rfl, hw'⟩
    obtain rfl := hw'.symm
    go_wp2_with fail
    go_at_call 8
    refine (HSP.out _).mono ?_
    rintro e w2 ⟨rfl, hb2⟩
    have HB2 : Hid (Below w.heap.size w w2) := Lib.hid (HB1.out.trans (hb2.mono hs1))
    clear hb2
    go_wp2_with fail
    go_ret
    exact ⟨rfl, HB2.out⟩
end Go.Proofs.Ytldekkniammllaa
