/- The law's turning of bits: the walk. -/
import Derived.Test.YtldekkniammllaaWrd
import Derived.Test.YtldekkniammllaaOpen
namespace Go.Proofs.Ytldekkniammllaa
open Go.RowKit
set_option linter.unusedVariables false
set_option linter.unusedSimpArgs false

/-- The exponent of a place. -/
def placeE (n : Nat) (z : Int) : Nat := n - 1 - (z % (n : Int)).toNat
/-- The exponents that are turned, of the first i places. -/
def flipS (n t : Nat) (zs : List Int) : Nat → List Nat
  | 0 => []
  | i + 1 => if placeE n (zs.getD i 0) ∈ flipS n t zs i ∨ t + 2 ≤ (flipS n t zs i).length then flipS n t zs i else flipS n t zs i ++ [placeE n (zs.getD i 0)]
theorem flipS_ok {n : Nat} (hn : 0 < n) (t : Nat) (zs : List Int) (i : Nat) : (flipS n t zs i).Nodup ∧ (∀ x ∈ flipS n t zs i, x < n) ∧ (flipS n t zs i).length ≤ t + 2 := by
  induction i with
  | zero => exact ⟨List.nodup_nil, by simp [flipS], by simp [flipS]⟩
  | succ i ih =>
    obtain ⟨h1, h2, h3⟩ := ih
    unfold flipS
    split
    · exact ⟨h1, h2, h3⟩
    · next h =>
      obtain ⟨h4, h5⟩ := not_or.1 h
      refine ⟨?_, ?_, by rw [List.length_append]; simp; omega⟩
      · refine List.nodup_append.2 ⟨h1, by simp, ?_⟩
        intro a ha b hb e
        rw [List.mem_singleton] at hb
        subst hb; subst e
        exact h4 ha
      · intro x hx
        rcases List.mem_append.1 hx with h | h
        · exact h2 x h
        · rw [List.mem_singleton] at h
          rw [h]; unfold placeE; omega
theorem decI_append (chunk nb deg V P : Nat) (L M : List Nat) (i : Nat) (hi : i ≤ L.length) : decI chunk nb deg V P (L ++ M) i = decI chunk nb deg V P L i := by
  induction i with
  | zero => rfl
  | succ i ih =>
    show decStep _ _ _ _ _ = decStep _ _ _ _ _
    rw [ih (by omega)]
    congr 1
    rw [List.getD_eq_getElem?_getD, List.getD_eq_getElem?_getD, List.getElem?_append_left (by omega)]
theorem decI_snoc (chunk nb deg V P : Nat) (L : List Nat) (e : Nat) : decI chunk nb deg V P (L ++ [e]) (L ++ [e]).length = decStep chunk nb deg (decI chunk nb deg V P L L.length) e := by
  rw [List.length_append]
  show decStep _ _ _ (decI chunk nb deg V P (L ++ [e]) L.length) ((L ++ [e]).getD L.length 0) = _
  rw [decI_append _ _ _ _ _ _ _ _ (Nat.le_refl _)]
  congr 1
  rw [List.getD_eq_getElem?_getD, List.getElem?_append_right (Nat.le_refl _)]
  simp
theorem make_bools (n : Nat) (hn : n ≤ 1000000) (W : World) : (Instr.makeSlice 68 (.int .i64 (n : Int)) (.int .i64 (n : Int))).run Try.prog W = .ok (.slice (some ⟨W.heap.size, 0, none⟩) n n) (W.alloc (.cells (madeCells #[.bool false] n) 4)) :=
  run_make_row' (P := Try.prog) 68 4 (.bool false) 1 (by kernel_rfl) (by kernel_rfl) rfl .i64 .i64 n (by omega) (by omega) W
/-- What stands while bits are turned. -/
structure FlipSt (w0 w : World) (gt gw gp n chunk nb d V P : Nat) (es : List Nat) : Prop where
  bel : Below w0.heap.size w0 w
  tr : Row w gt n (fun j => .bool (decide (n - 1 - j ∈ es)))
  wd : SV w gw chunk (decI chunk nb d V P es es.length).1
  pr : SV w gp nb (decI chunk nb d V P es es.length).2
  gt1 : w0.heap.size ≤ gt
  gt2 : gt < w.heap.size
  gw1 : w0.heap.size ≤ gw
  gw2 : gw < w.heap.size
  gp1 : w0.heap.size ≤ gp
  gp2 : gp < w.heap.size
  n1 : gt ≠ gw
  n2 : gt ≠ gp
  n3 : gw ≠ gp
section
variable {w0 w : World} {gt gw gp n chunk nb d V P k : Nat} {es : List Nat}
theorem FlipSt.mark (h : Row w gt n (fun j => .bool (decide (n - 1 - j ∈ es)))) (hk : k < n) : Row (w.setCell ⟨gt, k, none⟩ (.bool true)) gt n (fun j => .bool (decide (n - 1 - j ∈ es ++ [n - 1 - k]))) :=
  (Row.set h k (.bool true)).congr fun j hj => by
    by_cases e : j = k
    · rw [e, upd_same]; simp
    · rw [upd_other _ _ e]
      have : ¬ (n - 1 - j = n - 1 - k) := by omega
      simp [this]
/-- A place of the chunk is turned. -/
theorem FlipSt.turnW (h : FlipSt w0 w gt gw gp n chunk nb d V P es) (hn : n = 8 * chunk + d) (hk : k < n) (hlow : k < 8 * chunk) :
    FlipSt w0 ((w.setCell ⟨gt, k, none⟩ (.bool true)).setCell ⟨gw, k / 8, none⟩ (.int .u8 ((byteAt chunk (decI chunk nb d V P es es.length).1 (k / 8) ^^^ 128 / 2 ^ (k % 8) : Nat) : Int))).drew gt gw gp n chunk nb d V P (es ++ [n - 1 - k]) := by
  obtain ⟨h1, h2, h3, h4, h5, h6, h7, h8, h9, h10, h11, h12, h13⟩ := h
  have s1 : Stays (· = gt) w (w.setCell ⟨gt, k, none⟩ (.bool true)) := Row.stay
  have e1 := SV.turn (SRow.stays h3 s1 h8 (Ne.symm h11)) hlow
  refine ⟨((h1.setCell h5 _).setCell h7 _).drew, ((FlipSt.mark h2 hk).other _ _ (Ne.symm h11)).drew, ?_, ?_, h5, by simpa using h6, h7, by simpa using h8, h9, by simpa using h10, h11, h12, h13⟩
  · rw [decI_snoc]
    unfold decStep
    rw [if_pos (by omega), show 8 * chunk + d - 1 - (n - 1 - k) = k by omega]
    exact SRow.drew e1
  · rw [decI_snoc]
    unfold decStep
    rw [if_pos (by omega)]
    exact SRow.drew (SRow.stays (S := (· = gw)) (SRow.stays h4 s1 h10 (Ne.symm h12)) Row.stay (by simpa using h10) (Ne.symm h13))
theorem FlipSt.turnP (h : FlipSt w0 w gt gw gp n chunk nb d V P es) (hn : n = 8 * chunk + d) (hk : k < n) (hlow : ¬ k < 8 * chunk) (hnb : d ≤ 8 * nb) :
    FlipSt w0 ((w.setCell ⟨gt, k, none⟩ (.bool true)).setCell ⟨gp, (k - 8 * chunk) / 8, none⟩ (.int .u8 ((byteAt nb (decI chunk nb d V P es es.length).2 ((k - 8 * chunk) / 8) ^^^ 128 / 2 ^ ((k - 8 * chunk) % 8) : Nat) : Int))).drew gt gw gp n chunk nb d V P (es ++ [n - 1 - k]) := by
  obtain ⟨h1, h2, h3, h4, h5, h6, h7, h8, h9, h10, h11, h12, h13⟩ := h
  have s1 : Stays (· = gt) w (w.setCell ⟨gt, k, none⟩ (.bool true)) := Row.stay
  have e1 := SV.turn (SRow.stays h4 s1 h10 (Ne.symm h12)) (show k - 8 * chunk < 8 * nb by omega)
  refine ⟨((h1.setCell h5 _).setCell h9 _).drew, ((FlipSt.mark h2 hk).other _ _ (Ne.symm h12)).drew, ?_, ?_, h5, by simpa using h6, h7, by simpa using h8, h9, by simpa using h10, h11, h12, h13⟩
  · rw [decI_snoc]
    unfold decStep
    rw [if_neg (by omega)]
    exact SRow.drew (SRow.stays (S := (· = gp)) (SRow.stays h3 s1 h8 (Ne.symm h11)) Row.stay (by simpa using h8) h13)
  · rw [decI_snoc]
    unfold decStep
    rw [if_neg (by omega), show 8 * chunk + d - 1 - (n - 1 - k) - 8 * chunk = k - 8 * chunk by omega]
    exact SRow.drew e1
end

theorem tmod_place {n : Nat} (hn : 0 < n) (z : Int) : (z % (n : Int)).toNat < n ∧ -(n : Int) < z.tmod n ∧ z.tmod n < n ∧ (((z % (n : Int)).toNat : Nat) : Int) = if z.tmod n < 0 then z.tmod n + n else z.tmod n := by
  have h1 := Int.emod_nonneg z (show (n : Int) ≠ 0 by omega)
  have h2 := Int.emod_lt_of_pos z (show (0 : Int) < n by omega)
  have h3 := Int.tmod_eq_emod (a := z) (b := n)
  have h4 : (n : Int).natAbs = n := by simp
  rw [h4] at h3
  by_cases hd : 0 ≤ z ∨ (n : Int) ∣ z
  · rw [if_pos hd] at h3
    refine ⟨by omega, by omega, by omega, ?_⟩
    rw [if_neg (by omega)]
    omega
  · rw [if_neg hd] at h3
    have h5 : z % (n : Int) ≠ 0 := fun h => hd (.inr (Int.dvd_of_emod_eq_zero h))
    refine ⟨by omega, by omega, by omega, ?_⟩
    rw [if_pos (by omega)]
    omega
def FlipQ (t : Nat) (s q : ByteArray) (zs : List Int) (len : Nat) (w : World) (e : Ending) (w' : World) : Prop :=
  ∃ es, es = flipS (8 * s.size + 13 * t) t zs len ∧ e = .returned (.tuple #[.string (strOf s.size (decI s.size (parN t) (13 * t) (numB s.data.toList) (numB q.data.toList) es es.length).1), .string (strOf (parN t) (decI s.size (parN t) (13 * t) (numB s.data.toList) (numB q.data.toList) es es.length).2), .int .i64 (es.length : Int)]) ∧ Below w.heap.size w w'
set_option maxHeartbeats 6400000 in
set_option maxRecDepth 100000 in
theorem flipped_any (t : Nat) (s q : ByteArray) (a : Option Addr) (len cap : Nat) (zs : List Int) (ht1 : 1 ≤ t) (ht8 : t ≤ 8) (hs0 : 0 < s.size) (hs : s.size ≤ 256) (hq : q.size = parN t) (w w0 : World) (hz : IntRow .i64 w0 a len cap zs) (hw : Below w0.heap.size w0 w) (hlen : len ≤ 9223372036854775807) :
    Calls Try.prog 15 #[.int .i64 (t : Int), .string s, .string q, .slice a len cap] w (FlipQ t s q zs len w) := by
  have hps := par_spare t
  have hpl := par_le ht8
  have hpp := par_pos ht1
  have HDG := Lib.hid (fun w => rdegree_any t ht1 ht8 w)
  obtain ⟨d, hd⟩ : ∃ d, d = 13 * t := ⟨_, rfl⟩
  have hd104 : 13 ≤ d ∧ d ≤ 104 ∧ d ≤ 8 * q.size ∧ q.size ≤ 13 ∧ 0 < q.size := by rw [hd, hq, hps]; omega
  obtain ⟨hd13, hd104, hdnb, hq13, hq0⟩ := hd104
  rw [← hd] at HDG
  obtain ⟨n, hn⟩ : ∃ n, n = 8 * s.size + d := ⟨_, rfl⟩
  have hnl : 21 ≤ n ∧ n ≤ 2152 := by omega
  obtain ⟨hn21, hn2⟩ := hnl
  have hmk := make_bools n (by omega)
  have hc1 := conv_str s
  have hc2 := conv_str q
  have e1 : 8 * (s.size : Int) + (d : Int) = (n : Int) := by omega
  have hQ : ∀ e w', (∃ es, es = flipS n t zs len ∧ e = .returned (.tuple #[.string (strOf s.size (decI s.size q.size d (numB s.data.toList) (numB q.data.toList) es es.length).1), .string (strOf q.size (decI s.size q.size d (numB s.data.toList) (numB q.data.toList) es es.length).2), .int .i64 (es.length : Int)]) ∧ Below w.heap.size w w') → FlipQ t s q zs len w e w' := by
    intro e w' h
    rw [hn, hd, hq] at h
    exact h
  have HQ := Lib.hid hQ
  have HN := Lib.hid hn
  have HZ := Lib.hid hz
  have HW := Lib.hid hw
  clear hps hd hn hQ hz hw hq hpl hpp
  go_enter Try.func15, Try.ntmps15
  go_wp2_with fail
  go_at_call 12
  refine (HDG.out _).mono ?_
  rintro e w1 ⟨rfl, hb1⟩
  have HB1 := Lib.hid hb1
  have hz1 := hb1.size
  clear hb1 HDG
  go_wp2_with fail
  obtain ⟨W1, hW1⟩ : ∃ W1 : World, W1 = w1.alloc (.cells (madeCells #[.bool false] n) 4) := ⟨_, rfl⟩
  have hs1 : W1.heap.size = w1.heap.size + 1 := by rw [hW1]; simp
  have hbel1 : Below w1.heap.size w1 W1 := by rw [hW1]; exact (Below.refl _ _).alloc (Nat.le_refl _) _
  have hrow1 : Row W1 w1.heap.size n (fun j => .bool (decide (n - 1 - j ∈ ([] : List Nat)))) := by
    rw [hW1]
    exact Row.made _ _ _ _ _ (fun j hj => by rw [madeCells_get _ _ _ hj]; simp)
  have hbel2 := below_bytes W1 s
  have hbel3 := below_bytes (Lib.bytesWorld W1 5 s) q
  have hwd2 := bytes_row W1 s
  have hpr3 := bytes_row (Lib.bytesWorld W1 5 s) q
  rw [← hW1]
  obtain ⟨gt, hgt⟩ : ∃ gt, gt = w1.heap.size := ⟨_, rfl⟩
  rw [← hs1]
  generalize Lib.bytesWorld W1 5 s = W2 at *
  generalize Lib.bytesWorld W2 5 q = W3 at *
  generalize grownCap W1 s.size 0 5 = k1 at *
  generalize grownCap W2 q.size 0 5 = k2 at *
  obtain ⟨gw, hgw⟩ : ∃ gw, gw = W1.heap.size := ⟨_, rfl⟩
  obtain ⟨gp, hgp⟩ : ∃ gp, gp = W2.heap.size := ⟨_, rfl⟩
  have lgw : gw < W2.heap.size := by rw [hgw]; exact World.block_lt_of_cell? _ _ (hwd2.cell 0 hs0)
  have lgp : gp < W3.heap.size := by rw [hgp]; exact World.block_lt_of_cell? _ _ (hpr3.cell 0 hq0)
  have hz2 := hbel2.size
  have hz3 := hbel3.size
  have hfs : FlipSt w W3 gt gw gp n s.size q.size d (numB s.data.toList) (numB q.data.toList) [] := by
    have hb123 : Below w1.heap.size w1 W3 := (hbel1.trans (hbel2.mono hbel1.size)).trans (hbel3.mono (by omega))
    rw [hgt, hgw, hgp]
    refine ⟨HB1.out.trans (hb123.mono hz1), ?_, ?_, hpr3, hz1, by omega, by omega, by omega, by omega, by omega, by omega, by omega, by omega⟩
    · exact Row.stays (Row.stays hrow1 (S := fun _ => False) (Stays.of_below hbel2) (by omega) id) (S := fun _ => False) (Stays.of_below hbel3) (by omega) id
    · exact SRow.stays hwd2 (S := fun _ => False) (Stays.of_below hbel3) (by omega) id
  rw [← hgt, ← hgw, ← hgp]
  have HF := Lib.hid hfs
  clear hfs hrow1 hbel1 hbel2 hbel3 hwd2 hpr3 hgt hgw hgp hs1 hW1 hmk hc1 hc2 e1
  go_loopw [13, 16] (fun cv iv wr => ∃ i : Nat, i ≤ len ∧ iv = .int .i64 (i : Int) ∧ cv = .int .i64 ((flipS n t zs i).length : Int) ∧ Hid (FlipSt w wr gt gw gp n s.size q.size d (numB s.data.toList) (numB q.data.toList) (flipS n t zs i))) (fun _ iv _ => len - (intOf iv).toNat)
  case atStart => exact ⟨0, Nat.zero_le _, rfl, rfl, HF⟩
  case round =>
    clear HF
    obtain ⟨i, hi, rfl, rfl, HF⟩ := hrel
    obtain ⟨wz, rfl⟩ : ∃ wz : World, wz = wr := ⟨_, rfl⟩
    obtain ⟨f1, f2, f3⟩ := flipS_ok (show 0 < n by omega) t zs i
    have HNX : Hid (flipS n t zs (i + 1) = if placeE n (zs.getD i 0) ∈ flipS n t zs i ∨ t + 2 ≤ (flipS n t zs i).length then flipS n t zs i else flipS n t zs i ++ [placeE n (zs.getD i 0)]) := Lib.hid rfl
    obtain ⟨es, hes⟩ : ∃ es, es = flipS n t zs i := ⟨_, rfl⟩
    rw [← hes] at f1 f2 f3 HNX HF
    rw [← hes]
    have HES := Lib.hid hes
    have F1 := Lib.hid f1
    have F2 := Lib.hid f2
    clear hes f1 f2
    by_cases hlt : i < len
    · have hltI : (i : Int) < (len : Int) := by omega
      rcases HZ.out with ⟨_, h0, _⟩ | ⟨x, hx, hlc, hcm, hzl, hcell, hwf⟩
      · omega
      · subst hx
        obtain ⟨z, hz⟩ : ∃ z, z = zs.getD i 0 := ⟨_, rfl⟩
        have hcz : wz.cell? (x.add i) = some (.int .i64 z) := by
          rw [hz]
          have h1 := hcell i (by omega)
          have hxb : (x.add i).block < w0.heap.size := World.block_lt_of_cell? _ _ h1
          have h2 := (HW.out.cell (p := x.add i) hxb).trans h1
          exact (HF.out.bel.cell (p := x.add i) (by have := HW.out.size; omega)).trans h2
        have hwz : (Lit.int .i64 z).wf = true := by
          rw [hz, List.getD_eq_getElem?_getD, List.getElem?_eq_getElem (by omega)]
          exact hwf _ (List.getElem_mem _)
        have hzb := wf_i64 hwz
        rw [← hz] at HNX
        have HZZ := Lib.hid hz
        clear hz hcell hwf hwz
        obtain ⟨hkn, hr1, hr2, hkr⟩ := tmod_place (show 0 < n by omega) z
        obtain ⟨k, hk⟩ : ∃ k, k = (z % (n : Int)).toNat := ⟨_, rfl⟩
        rw [← hk] at hkn hkr
        have hpe : placeE n z = n - 1 - k := by unfold placeE; rw [← hk]
        rw [hpe] at HNX
        obtain ⟨r, hr⟩ : ∃ r, z.tmod n = r := ⟨_, rfl⟩
        rw [hr] at hr1 hr2 hkr
        have HKR := Lib.hid hkr
        clear hk hpe hkr
        go_upto_if 44 with fail
        go_cut [17] (fun v wc => v = .int .i64 (k : Int) ∧ wz = wc)
        case first =>
          by_cases hr0 : r < 0
          · have hrk : r + (n : Int) = (k : Int) := by have := HKR.out; rw [if_pos hr0] at this; omega
            go_wp2_with fail
            go_meet
            case rel => exact ⟨rfl, rfl⟩
          · have hrk : r = (k : Int) := by have := HKR.out; rw [if_neg hr0] at this; omega
            go_wp2_with fail
            go_meet
            case rel => exact ⟨rfl, rfl⟩
        case rest =>
          obtain ⟨rfl, rfl⟩ := hcut
          clear hcz hr HKR
          have ck := HF.out.tr.cell k hkn
          have fk := HF.out.tr.free k
          have hknI : (k : Int) < (n : Int) := by omega
          by_cases hm : n - 1 - k ∈ es
          · have hmb : decide (n - 1 - k ∈ es) = true := by simpa using hm
            rw [hmb] at ck
            have HNX2 : Hid (flipS n t zs (i + 1) = es) := Lib.hid (by rw [HNX.out, if_pos (.inl hm)])
            clear hm hmb HNX
            go_wp2_with fail
            go_roundw
            case rel => exact ⟨i + 1, by omega, by go_num, by rw [HNX2.out], by rw [HNX2.out]; exact HF⟩
            case measure => simp [intOf]; omega
          · have hmb : decide (n - 1 - k ∈ es) = false := by simpa using hm
            rw [hmb] at ck
            by_cases hfull : t + 2 ≤ es.length
            · have hfI : (t : Int) + 2 ≤ (es.length : Int) := by omega
              have HNX2 : Hid (flipS n t zs (i + 1) = es) := Lib.hid (by rw [HNX.out, if_pos (.inr hfull)])
              clear hm hmb HNX
              go_wp2_with fail
              go_roundw
              case rel => exact ⟨i + 1, by omega, by go_num, by rw [HNX2.out], by rw [HNX2.out]; exact HF⟩
              case measure => simp [intOf]; omega
            · have hfI : ¬ (t : Int) + 2 ≤ (es.length : Int) := by omega
              have HNX2 : Hid (flipS n t zs (i + 1) = es ++ [n - 1 - k]) := Lib.hid (by rw [HNX.out, if_neg (by rintro (h | h); exact hm h; exact hfull h)])
              have HLN : Hid ((es ++ [n - 1 - k]).length = es.length + 1) := Lib.hid (by simp)
              clear hm hmb HNX
              obtain ⟨VP, hVP⟩ : ∃ VP, VP = decI s.size q.size d (numB s.data.toList) (numB q.data.toList) es es.length := ⟨_, rfl⟩
              have hwd := HF.out.wd
              have hpr := HF.out.pr
              have hlt1 := HF.out.n1
              have hlt2 := HF.out.n2
              rw [← hVP] at hwd hpr
              have s1 : Stays (· = gt) wz (wz.setCell ⟨gt, k, none⟩ (.bool true)) := Row.stay
              have hwd1 := SRow.stays hwd s1 HF.out.gw2 (Ne.symm hlt1)
              have hpr1 := SRow.stays hpr s1 HF.out.gp2 (Ne.symm hlt2)
              have HWD := Lib.hid hwd1
              have HPR := Lib.hid hpr1
              have hNI := HN.out
              clear s1 hwd hpr hwd1 hpr1
              by_cases hlow : k < 8 * s.size
              · have hlowI : (k : Int) < 8 * (s.size : Int) := by omega
                have HNEW := Lib.hid (HF.out.turnW hNI hkn hlow)
                rw [← hVP] at HNEW
                obtain ⟨q8, hq8⟩ : ∃ q8, q8 = k / 8 := ⟨_, rfl⟩
                obtain ⟨r8, hr8⟩ : ∃ r8, r8 = k % 8 := ⟨_, rfl⟩
                have hqi : (k : Int) / 8 = (q8 : Int) := by omega
                have hri : (k : Int) % 8 = (r8 : Int) := by omega
                have hqn : q8 < s.size := by omega
                have hqnI : (q8 : Int) < (s.size : Int) := by omega
                have hr87 : r8 < 8 := by omega
                have hsh := shr128 hr87
                have hz1 : 128 / 2 ^ r8 = 2 ^ (7 - r8) := (by decide : ∀ r, r < 8 → 128 / 2 ^ r = 2 ^ (7 - r)) r8 hr87
                have hz2 : 2 ^ (7 - r8) < 256 := (by decide : ∀ r, r < 8 → 2 ^ (7 - r) < 256) r8 hr87
                obtain ⟨y, hy⟩ : ∃ y, y = 2 ^ (7 - r8) := ⟨_, rfl⟩
                rw [← hy] at hsh hz1 hz2
                have hbb := byteAt_lt s.size VP.1 q8
                have cq := HWD.out.cell q8 hqn
                have fq := HWD.out.free q8 hqn
                rw [← hq8, ← hr8, hz1] at HNEW
                obtain ⟨b, hb⟩ : ∃ b, b = byteAt s.size VP.1 q8 := ⟨_, rfl⟩
                rw [← hb] at cq hbb HNEW
                have hxo := xor_u8 b y hbb hz2
                have HQ8 := Lib.hid (And.intro hq8 hr8)
                clear hq8 hr8 hy hz1 hz2 hb hNI hVP
                go_wp2_with fail
                go_region
                go_wp2_with fail
                go_roundw
                case rel => exact ⟨i + 1, by omega, by go_num, by rw [HNX2.out, HLN.out]; go_num, by rw [HNX2.out]; exact HNEW⟩
                case measure => simp [intOf]; omega
              · have hlowI : ¬ (k : Int) < 8 * (s.size : Int) := by omega
                have HNEW := Lib.hid (HF.out.turnP hNI hkn hlow hdnb)
                rw [← hVP] at HNEW
                obtain ⟨u, hu⟩ : ∃ u, u = k - 8 * s.size := ⟨_, rfl⟩
                have hui : (k : Int) - 8 * (s.size : Int) = (u : Int) := by omega
                rw [← hu] at HNEW
                obtain ⟨q8, hq8⟩ : ∃ q8, q8 = u / 8 := ⟨_, rfl⟩
                obtain ⟨r8, hr8⟩ : ∃ r8, r8 = u % 8 := ⟨_, rfl⟩
                have hqi : (u : Int) / 8 = (q8 : Int) := by omega
                have hri : (u : Int) % 8 = (r8 : Int) := by omega
                have hqn : q8 < q.size := by omega
                have hqnI : (q8 : Int) < (q.size : Int) := by omega
                have hr87 : r8 < 8 := by omega
                have hsh := shr128 hr87
                have hz1 : 128 / 2 ^ r8 = 2 ^ (7 - r8) := (by decide : ∀ r, r < 8 → 128 / 2 ^ r = 2 ^ (7 - r)) r8 hr87
                have hz2 : 2 ^ (7 - r8) < 256 := (by decide : ∀ r, r < 8 → 2 ^ (7 - r) < 256) r8 hr87
                obtain ⟨y, hy⟩ : ∃ y, y = 2 ^ (7 - r8) := ⟨_, rfl⟩
                rw [← hy] at hsh hz1 hz2
                have hbb := byteAt_lt q.size VP.2 q8
                have cq := HPR.out.cell q8 hqn
                have fq := HPR.out.free q8 hqn
                rw [← hq8, ← hr8, hz1] at HNEW
                obtain ⟨b, hb⟩ : ∃ b, b = byteAt q.size VP.2 q8 := ⟨_, rfl⟩
                rw [← hb] at cq hbb HNEW
                have hxo := xor_u8 b y hbb hz2
                have HQ8 := Lib.hid (And.intro hq8 hr8)
                clear hq8 hr8 hy hz1 hz2 hb hNI hVP hu
                go_wp2_with fail
                go_region
                go_wp2_with fail
                go_roundw
                case rel => exact ⟨i + 1, by omega, by go_num, by rw [HNX2.out, HLN.out]; go_num, by rw [HNX2.out]; exact HNEW⟩
                case measure => simp [intOf]; omega
    · obtain rfl : i = len := by omega
      have hltI : ¬ (i : Int) < (i : Int) := by omega
      have hcw := SV.string (cap := k1) HF.out.wd
      have hcp := SV.string (cap := k2) HF.out.pr
      have hcwd := SV.string (cap := k1) (SRow.drew HF.out.wd)
      have hcpd := SV.string (cap := k2) (SRow.drew HF.out.pr)
      obtain ⟨X, hX⟩ : ∃ X, X = strOf s.size (decI s.size q.size d (numB s.data.toList) (numB q.data.toList) es es.length).1 := ⟨_, rfl⟩
      obtain ⟨Y, hY⟩ : ∃ Y, Y = strOf q.size (decI s.size q.size d (numB s.data.toList) (numB q.data.toList) es es.length).2 := ⟨_, rfl⟩
      rw [← hX] at hcw hcwd
      rw [← hY] at hcp hcpd
      have HX := Lib.hid hX
      have HY := Lib.hid hY
      clear hX hY HNX
      go_wp2_with fail
      go_region
      go_wp2_with fail
      refine bodyPost_ret (v := .tuple #[.string X, .string Y, .int .i64 (es.length : Int)]) (by simp [results, Try.results15, go_sem]) rfl (HQ.out _ _ ⟨es, HES.out, by rw [HX.out, HY.out], HF.out.bel.drew⟩)
end Go.Proofs.Ytldekkniammllaa
