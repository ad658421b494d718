/- The locator and its roots. -/
import Derived.Test.YtgfjeaegigjnaaaGreatDoorPgN
import Derived.Test.YtgfjeaegigjnaaaGreatDoorShelf
import Derived.Deep.CutBlock
import Derived.Deep.DeepCutAuto
namespace Go.Proofs.YtgfjeaegigjnaaaGreatDoor
open Go.RowKit
set_option linter.unusedVariables false
set_option linter.unusedSimpArgs false

/-- What stands at the head of round n: the code, the two lists. -/
structure LocSt (w0 w : World) (c t chunk gl be bl gs n2 : Nat) (S : Nat → Nat) (gn go : Nat) (NW OL : List Nat) : Prop where
  st : SynSt w0 w c t chunk gl be bl
  s : ∀ k, k < n2 → w.cell? ⟨gs, k, none⟩ = some (intV (S k))
  nw : IntsAt w gn NW
  ol : IntsAt w go OL
  gs1 : gs ≠ c
  gs2 : gs < w.heap.size
  gn1 : w0.heap.size ≤ gn
  gn2 : gn < w.heap.size
  go1 : w0.heap.size ≤ go
  go2 : go < w.heap.size
section
variable {w0 w w' : World} {c t chunk gl be bl gs n2 gn go : Nat} {S : Nat → Nat} {NW OL : List Nat}
theorem LocSt.readied (h : LocSt w0 w c t chunk gl be bl gs n2 S gn go NW OL) (k : Readied c 5 w w') : LocSt w0 w' c t chunk gl be bl gs n2 S gn go NW OL := by
  obtain ⟨k1, k2⟩ := h.st.cr.readied k
  have hc := h.st.lc
  have hz := k2.st.size
  have h1 := h.gs2
  have h2 := h.gn1
  have h3 := h.gn2
  have h4 := h.go1
  have h5 := h.go2
  exact ⟨h.st.readied k, fun i hi => k2.st.cell (p := ⟨gs, i, none⟩) (h.s i hi) h.gs1, h.nw.stays k2.st (by show gn ≠ c; omega), h.ol.stays k2.st (by show go ≠ c; omega), h.gs1, by omega, h2, by omega, h4, by omega⟩
theorem LocSt.below (h : LocSt w0 w c t chunk gl be bl gs n2 S gn go NW OL) (k : Below w.heap.size w w') : LocSt w0 w' c t chunk gl be bl gs n2 S gn go NW OL := by
  have hz := k.size
  have h1 := h.gs2
  have h3 := h.gn2
  have h5 := h.go2
  exact ⟨h.st.new (S := fun _ => False) (Stays.of_below k) (fun _ q => q.elim), fun i hi => (k.cell (p := ⟨gs, i, none⟩) h1).trans (h.s i hi), h.nw.below k h3, h.ol.below k h5, h.gs1, by omega, h.gn1, by omega, h.go1, by omega⟩
theorem LocSt.drew (h : LocSt w0 w c t chunk gl be bl gs n2 S gn go NW OL) : LocSt w0 w.drew c t chunk gl be bl gs n2 S gn go NW OL := h.below (Below.refl _ _).drew
theorem LocSt.fat (h : LocSt w0 w c t chunk gl be bl gs n2 S gn go NW OL) : FieldAt w c 5 := .inr ⟨be, bl, h.st.cr.field⟩
/-- A store in a block that is none of these. -/
theorem LocSt.set (h : LocSt w0 w c t chunk gl be bl gs n2 S gn go NW OL) {g : Nat} (o : Nat) (v : Value) (h0 : w0.heap.size ≤ g) (h1 : g ≠ gs) (h2 : g ≠ gn) (h3 : g ≠ go) : LocSt w0 (w.setCell ⟨g, o, none⟩ v) c t chunk gl be bl gs n2 S gn go NW OL := by
  have hs : Stays (· = g) w (w.setCell ⟨g, o, none⟩ v) := Row.stay
  have hz := hs.size
  have k1 := h.gs2
  have k2 := h.gn2
  have k3 := h.go2
  exact ⟨h.st.set o v h0, fun i hi => hs.cell (p := ⟨gs, i, none⟩) (h.s i hi) (Ne.symm h1), h.nw.stays hs (Ne.symm h2), h.ol.stays hs (Ne.symm h3), h.gs1, by omega, h.gn1, by omega, h.go1, by omega⟩
theorem IntsAt.get {L : List Nat} {g i x : Nat} (h : IntsAt w g L) (hi : i < L.length) (hx : x = L.getD i 0) : w.cell? ⟨g, i, none⟩ = some (.int .i64 (x : Int)) := by
  rw [hx]; exact h i hi
theorem clone_cell {L : List Nat} {g j : Nat} (h : IntsAt w g L) (hj : j < (L.map (fun x : Nat => (x : Int))).length) : w.cell? ⟨g, 0 + j, none⟩ = some (.int .i64 ((L.map (fun x : Nat => (x : Int))).getD j 0)) := by
  have hj2 : j < L.length := by simpa using hj
  rw [Nat.zero_add, h j hj2]
  simp [intV, List.getD_eq_getElem?_getD, List.getElem?_eq_getElem hj2]
end
/-- The list to be, as long as it must be. -/
def NextSt (w2 wx : World) (e : TypeId) (v : Value) (m : Nat) (NW : List Nat) : Prop := ∃ (X : List Nat), X.length = m ∧ (∀ j, X.getD j 0 = NW.getD j 0) ∧ wx.ownsRow w2.heap.size e 1 v X.length (X.map intV) ∧ Below w2.heap.size w2 wx
theorem own_cap2 {w : World} {B g n cap size : Nat} {e : TypeId} {xs : List Value} (h : w.ownsRow B e size (.slice (some ⟨g, 0, none⟩) n cap) n xs) : n ≤ cap := by
  rcases h.2 with ⟨h1, _⟩ | ⟨g', cap', cur, hv, _, _, h2, _⟩
  · cases h1
  · cases hv; exact h2
theorem trimL_step {Y : List Nat} {g : Nat} (h1 : 1 < Y.length) (h2 : Y.getD (Y.length - 1) 0 = 0) : trimL Y (g + 1) = trimL (Y.take (Y.length - 1)) g := by
  show (if _ then _ else _) = _
  rw [if_pos ⟨h1, h2⟩]
theorem trimL_stop {Y : List Nat} (g : Nat) (h : ¬ (1 < Y.length ∧ Y.getD (Y.length - 1) 0 = 0)) : trimL Y g = Y := by
  cases g with
  | zero => rfl
  | succ g => show (if _ then _ else _) = _; rw [if_neg h]
theorem ints_take {w : World} {a p : Nat} {L : List Nat} (h : IntsAt w a L) : IntsAt w a (L.take p) := fun j hj => by
  rw [List.length_take] at hj
  rw [h j (by omega), List.getD_eq_getElem?_getD, List.getD_eq_getElem?_getD, List.getElem?_take_of_lt (by omega)]
theorem getD_nought (X : List Nat) (j : Nat) : (X ++ [0]).getD j 0 = X.getD j 0 := by
  rw [List.getD_eq_getElem?_getD, List.getD_eq_getElem?_getD, List.getElem?_append]
  split
  · rfl
  · rename_i h
    rw [List.getElem?_eq_none (l := X) (by omega)]
    match j - X.length with
    | 0 => rfl
    | n + 1 => simp
def LocQ (c t chunk gl be bl n2 : Nat) (S : Nat → Nat) (w : World) (e : Ending) (w' : World) : Prop := ∃ gv cap f, e = .returned (.slice (some ⟨gv, 0, none⟩) (trimL (bmI S n2).now f).length cap) ∧ 20 ≤ f ∧ IntsAt w' gv (trimL (bmI S n2).now f) ∧ w.heap.size ≤ gv ∧ gv < w'.heap.size ∧ SynSt w w' c t chunk gl be bl
set_option maxHeartbeats 6400000 in
set_option maxRecDepth 100000 in
theorem locator_any (c t chunk gl be bl gs n2 cs : Nat) (S : Nat → Nat) (w : World) (h : CodeReady w c t chunk gl be bl) (hs : ∀ k, k < n2 → w.cell? ⟨gs, k, none⟩ = some (intV (S k))) (hS : ∀ k, S k < 8192) (hn2 : n2 ≤ 16) (hgs : gs ≠ c) (lgs : gs < w.heap.size) :
    Calls Tryz.prog 66 #[.pointer (some ⟨c, 0, none⟩), .slice (some ⟨gs, 0, none⟩) n2 cs] w (LocQ c t chunk gl be bl n2 S w) := by
  obtain ⟨i0, hi0, hz0, hz1, hz2⟩ := info_parts info_int
  have HOK := Lib.hid (fun n => bm_ok (s := S) hS n)
  have HS8 := Lib.hid hS
  have hst0 := SynSt.start h
  have HST0 := Lib.hid hst0
  have HSC := Lib.hid hs
  clear h hs hS hst0
  go_enter Tryz.func66, Tryz.ntmps66
  go_wp2_with fail
  obtain ⟨W0, hW0⟩ : ∃ W0 : World, W0 = (w.alloc (.cells #[.int .i64 1] 3)).alloc (.cells #[.int .i64 1] 3) := ⟨_, rfl⟩
  have hl0 : LocSt w W0 c t chunk gl be bl gs n2 S w.heap.size (w.heap.size + 1) [1] [1] := by
    have hb : Below w.heap.size w W0 := by rw [hW0]; exact ((Below.refl _ _).alloc (Nat.le_refl _) _).alloc (by simp) _
    refine ⟨HST0.out.new (S := fun _ => False) (Stays.of_below hb) (fun _ q => q.elim), fun k hk => (hb.cell (p := ⟨gs, k, none⟩) lgs).trans (HSC.out k hk), fun j hj => ?_, fun j hj => ?_, hgs, by have := hb.size; omega, Nat.le_refl _, by rw [hW0]; simp; omega, by omega, by rw [hW0]; simp⟩
    · obtain rfl : j = 0 := by simpa using hj
      rw [hW0, World.cell?_alloc_lt _ _ _ (by simp)]
      exact (World.cell?_alloc_new _ _ _ _).trans rfl
    · obtain rfl : j = 0 := by simpa using hj
      have h := World.cell?_alloc_new (w.alloc (.cells #[.int .i64 1] 3)) #[.int .i64 1] 3 0
      rw [World.size_alloc] at h
      rw [hW0, h]; rfl
  rw [← hW0]
  have HL0 := Lib.hid hl0
  clear hW0 hl0 HSC
  go_loopg [6, 7, 8, 9, 10, 26] n2 (fun gk nv ov lv gv av iv wr => ∃ (n gn cn go co : Nat) (NW OL : List Nat) (ln gp ls : Nat), n + gk = n2 ∧ iv = .int .i64 (n : Int) ∧ nv = .slice (some ⟨gn, 0, none⟩) NW.length cn ∧ ov = .slice (some ⟨go, 0, none⟩) OL.length co ∧ lv = .int .i64 (ln : Int) ∧ gv = .int .i64 (gp : Int) ∧ av = .int .i64 (ls : Int) ∧ Hid (bmI S n = ⟨NW, OL, ln, gp, ls⟩) ∧ NW.length ≤ cn ∧ Hid (LocSt w wr c t chunk gl be bl gs n2 S gn go NW OL))
  case atStart => exact ⟨0, w.heap.size, 1, w.heap.size + 1, 1, [1], [1], 0, 1, 1, by omega, rfl, rfl, rfl, rfl, rfl, rfl, Lib.hid rfl, Nat.le_refl _, HL0⟩
  case round =>
    clear HL0 HST0
    obtain ⟨n, gn, cn, go, co, NW, OL, ln, gp, ls, hnk, rfl, rfl, rfl, rfl, rfl, rfl, HBM, hcn, HL⟩ := hrel
    obtain ⟨wq, rfl⟩ : ∃ wq : World, wq = wr := ⟨_, rfl⟩
    have hok := HOK.out n
    rw [HBM.out] at hok
    obtain ⟨k1, k2, k3, k4, k5, k6, k7, k8, k9, k10⟩ := hok
    try simp only at k1 k2 k3 k4 k5 k6 k7 k8 k9 k10
    have HN8 := Lib.hid k9
    have HO8 := Lib.hid k10
    clear k9 k10
    by_cases hlt : n < n2
    · have hltI : (n : Int) < (n2 : Int) := by omega
      have csn : wq.cell? ⟨gs, n, none⟩ = some (.int .i64 ((S n : Nat) : Int)) := HL.out.s n hlt
      have hd0 := dsc_lt HS8.out NW n 0
      have hnext : bmI S (n + 1) = bmStep S ⟨NW, OL, ln, gp, ls⟩ n := by show bmStep S (bmI S n) n = _; rw [HBM.out]
      have HNEXT := Lib.hid hnext
      clear hnext
      go_upto_block 2 with fail
      go_cut [12] (fun dv wx => dv = .int .i64 ((BM.disc S ⟨NW, OL, ln, gp, ls⟩ n : Nat) : Int) ∧ Hid (LocSt w wx c t chunk gl be bl gs n2 S gn go NW OL))
      case first =>
        go_wp2_with fail
        go_loopw [12, 13] (fun dv iv wr => ∃ i : Nat, i ≤ min ln (NW.length - 1) ∧ iv = .int .i64 ((i : Int) + 1) ∧ dv = .int .i64 ((dsc S NW n i : Nat) : Int) ∧ Hid (LocSt w wr c t chunk gl be bl gs n2 S gn go NW OL)) (fun _ iv _ => NW.length - (intOf iv).toNat)
        case atStart => exact ⟨0, Nat.zero_le _, rfl, rfl, HL⟩
        case round =>
          clear csn
          obtain ⟨i, hi, rfl, rfl, HLz⟩ := hrel
          obtain ⟨wz, rfl⟩ : ∃ wz : World, wz = wr := ⟨_, rfl⟩
          by_cases him : i < min ln (NW.length - 1)
          · have t1 : (i : Int) + 1 ≤ (ln : Int) := by omega
            have t2 : (i : Int) + 1 < (NW.length : Int) := by omega
            have x8 := HN8.out (i + 1)
            have y8 := HS8.out (n - (i + 1))
            have cx : wz.cell? ⟨gn, i + 1, none⟩ = some (.int .i64 ((NW.getD (i + 1) 0 : Nat) : Int)) := HLz.out.nw (i + 1) (by omega)
            have cy : wz.cell? ⟨gs, n - (i + 1), none⟩ = some (.int .i64 ((S (n - (i + 1)) : Nat) : Int)) := HLz.out.s _ (by omega)
            have hds := dsc_lt HS8.out NW n i
            have hnx : dsc S NW n (i + 1) = dsc S NW n i ^^^ mulP (NW.getD (i + 1) 0) (S (n - (i + 1))) := rfl
            obtain ⟨x, hx⟩ : ∃ x, x = NW.getD (i + 1) 0 := ⟨_, rfl⟩
            obtain ⟨j, hj⟩ : ∃ j, j = n - (i + 1) := ⟨_, rfl⟩
            rw [← hj] at cy y8 hnx
            obtain ⟨y, hy⟩ : ∃ y, y = S j := ⟨_, rfl⟩
            rw [← hx] at cx x8 hnx
            rw [← hy] at cy y8 hnx
            obtain ⟨D, hD⟩ : ∃ D, D = dsc S NW n i := ⟨_, rfl⟩
            rw [← hD] at hds hnx
            rw [← hD]
            obtain ⟨m, hm⟩ : ∃ m, m = mulP x y := ⟨_, rfl⟩
            have hm8 := mulP_lt x y8
            rw [← hm] at hnx hm8
            have hxo := xor_i64 D m (by omega) (by omega)
            have hji : (n : Int) - ((i : Int) + 1) = (j : Int) := by omega
            have e1 : IntKind.i64.wrap ((n : Int) - ((i : Int) + 1)) = (j : Int) := by rw [hji]; exact (IntWalk.i64_left _).trans (IntWalk.wrap64_in _ (by omega))
            have hjn : (j : Int) < (n2 : Int) := by omega
            have hi1 : ((i : Int) + 1).toNat = i + 1 := by omega
            have hi0' : 0 ≤ (i : Int) + 1 := by omega
            have HMU := Lib.hid (Mul_any c 5 x y x8 y8 wz.drew HLz.out.drew.fat)
            rw [← hm] at HMU
            have HLd := Lib.hid HLz.out.drew
            have HNX := Lib.hid hnx
            have HX := Lib.hid hx
            have HY := Lib.hid hy
            have HJ := Lib.hid hj
            have hiN : i + 1 < NW.length := by omega
            have hjN : j < n2 := by omega
            have HCX : Hid (∀ W, LocSt w W c t chunk gl be bl gs n2 S gn go NW OL → W.cell? ⟨gn, i + 1, none⟩ = some (.int .i64 (x : Int))) := Lib.hid (fun W h => h.nw.get hiN hx)
            have HCY : Hid (∀ W, LocSt w W c t chunk gl be bl gs n2 S gn go NW OL → W.cell? ⟨gs, j, none⟩ = some (.int .i64 (y : Int))) := Lib.hid (fun W h => by rw [hy]; exact h.s j hjN)
            clear hx hj hy hD hm hji hnx
            go_wp2_with fail
            go_region_with (go_at_call 84; refine HMU.out.mono ?_; rintro e w3 ⟨rfl, hq⟩; have HL3 := Lib.hid (HLd.out.readied hq); have cx3 := HCX.out w3 HL3.out; have cy3 := HCY.out w3 HL3.out; clear hq)
            all_goals (clear e1 cx cy HCX HCY HLd HLz HMU; go_wp2_with fail; go_roundw)
            case rel => exact ⟨i + 1, by omega, by go_num, by rw [HNX.out], HL3⟩
            case rel => exact ⟨i + 1, by omega, by go_num, by rw [HNX.out], HL3⟩
            case measure => simp [intOf]; omega
            case measure => simp [intOf]; omega
          · have him2 : i = min ln (NW.length - 1) := by omega
            have HE : Hid (dsc S NW n i = BM.disc S ⟨NW, OL, ln, gp, ls⟩ n) := Lib.hid (by rw [him2]; rfl)
            clear HN8 HO8 HNEXT HBM HOK HS8 him2
            go_wp2_with fail
            all_goals (go_meet; exact ⟨by rw [HE.out], HLz⟩)
      case rest =>
        obtain ⟨rfl, HL1⟩ := hcut
        obtain ⟨wy, rfl⟩ : ∃ wy : World, wy = wc := ⟨_, rfl⟩
        clear HL csn
        obtain ⟨d, hd⟩ : ∃ d, d = BM.disc S ⟨NW, OL, ln, gp, ls⟩ n := ⟨_, rfl⟩
        have hd8 : d < 8192 := by rw [hd]; exact dsc_lt HS8.out _ _ _
        rw [← hd]
        have HD := Lib.hid hd
        clear hd
        by_cases hd0 : d = 0
        · subst hd0
          go_wp2_with fail
          go_roundg (gk - 1)
          case measure => omega
          case rel => exact ⟨n + 1, gn, cn, go, co, NW, OL, ln, gp + 1, ls, by omega, by go_num, rfl, rfl, rfl, by go_num, rfl, Lib.hid (by rw [HNEXT.out, bmStep, if_pos HD.out.symm]), hcn, HL1⟩
        · have hd00 : ((d : Int) == 0) = false := by simp; omega
          have hex : expN (8191 - logN ls) < 8192 := expN_lt _
          obtain ⟨y, hy⟩ : ∃ y, y = expN (8191 - logN ls) := ⟨_, rfl⟩
          obtain ⟨q, hq⟩ : ∃ q, q = mulP y d := ⟨_, rfl⟩
          have hq8 : q < 8192 := by rw [hq]; exact mulP_lt _ hd8
          have HQ : Hid (q = quotN ls d) := Lib.hid (by rw [hq, hy]; rfl)
          rw [← hy] at hex
          have HY := Lib.hid hy
          have HQ0 := Lib.hid hq
          have hnl : NW.length * 8 ≤ 140737488355328 := by omega
          clear hy hq
          go_upto_block 4 with (first | (go_at_call 85; refine (Inv_any c 5 ls k7 k8 _ (by first | exact HL1.out.fat | exact HL1.out.drew.fat)).mono ?_; rintro e w1 ⟨rfl, hq1⟩; have HL2 : Hid (LocSt w w1 c t chunk gl be bl gs n2 S gn go NW OL) := Lib.hid (by first | exact HL1.out.readied hq1 | exact HL1.out.drew.readied hq1); rw [← HY.out]; clear hq1) | (go_at_call 84; refine (Mul_any c 5 y d hex hd8 _ (by first | exact HL2.out.fat | exact HL2.out.drew.fat)).mono ?_; rintro e w2 ⟨rfl, hq2⟩; have HL3 : Hid (LocSt w w2 c t chunk gl be bl gs n2 S gn go NW OL) := Lib.hid (by first | exact HL2.out.readied hq2 | exact HL2.out.drew.readied hq2); rw [← HQ0.out]; clear hq2) | (go_at_call 86; refine (Tryz.slices_Clone_int gn 0 NW.length cn (NW.map (fun x : Nat => (x : Int))) _ (by simp) hnl (fun j hj => by first | exact clone_cell HL3.out.nw hj | exact clone_cell HL3.out.drew.nw hj)).mono ?_; rintro e w3 ⟨v3, rfl, hown, hnil, hbel⟩))
          have HL4 : Hid (LocSt w w3 c t chunk gl be bl gs n2 S gn go NW OL) := Lib.hid (by first | exact HL3.out.below hbel | exact HL3.out.drew.below hbel)
          clear HL1 HL2
          obtain ⟨wb, hwb⟩ : ∃ wb : World, wb = w2 := ⟨_, rfl⟩
          have HBEL : Hid (Below w2.heap.size w2 w3) := Lib.hid (by first | exact hbel | exact (Below.refl _ _).drew.trans hbel)
          have HOWN : Hid (w3.ownsRow w2.heap.size 3 1 v3 NW.length (NW.map intV)) := Lib.hid (by
            have e : (List.map (fun x : Nat => (x : Int)) NW).take NW.length = NW.map (fun x : Nat => (x : Int)) := List.take_of_length_le (by simp)
            have e2 : (NW.map (fun x : Nat => (x : Int))).map (Value.int .i64) = NW.map intV := by rw [List.map_map]; rfl
            rw [e, e2] at hown
            exact hown)
          clear hown hnil hbel hwb
          obtain ⟨M, hM⟩ : ∃ M, M = max NW.length (OL.length + gp) := ⟨_, rfl⟩
          have hM1 : NW.length ≤ M ∧ OL.length + gp ≤ M ∧ M ≤ 40 := by omega
          have hM2 : M = NW.length ∨ M = OL.length + gp := by omega
          have HM := Lib.hid hM
          clear hM
          go_cut [16] (fun v wx => Hid (NextSt w2 wx 3 v M NW))
          case first =>
            go_wp2_with fail
            go_loopg [16] (M - NW.length) (fun gk v wr => ∃ X : List Nat, X.length + gk = M ∧ NW.length ≤ X.length ∧ Hid (∀ j, X.getD j 0 = NW.getD j 0) ∧ Hid (wr.ownsRow w2.heap.size 3 1 v X.length (X.map intV)) ∧ Hid (Below w2.heap.size w2 wr))
            case atStart => exact ⟨NW, by omega, Nat.le_refl _, Lib.hid (fun _ => rfl), HOWN, HBEL⟩
            case round =>
              clear HOWN HBEL HL3 HL4
              obtain ⟨X, hX, hX1, HXN, HOX, HBX⟩ := hrel
              obtain ⟨wz, rfl⟩ : ∃ wz : World, wz = wr := ⟨_, rfl⟩
              obtain ⟨g, cap, rfl, hg1, hg2, hint, hfr⟩ := own_ints HOX.out (by intro h; rw [h] at hX1; simp at hX1; rw [hX1] at k2; simp at k2)
              clear hint hfr
              by_cases hxm : X.length < OL.length + gp
              · have t1 : (X.length : Int) < (OL.length : Int) + (gp : Int) := by omega
                go_wp2_with (at_builtin; refine wpList_append_own _ rfl _ _ 55 rfl w2.heap.size 3 i0 (.int .i64 0) 1 8 (by kernel_rfl) hi0 hz0 hz1 hz2 rfl (by decide) _ _ _ rfl (HOX.out.alloc _) ⟨wz.heap.size, 0, none⟩ 1 1 [.int .i64 0] rfl rfl ?c1 ?c2 ?c3 ?c4 ?c5 ?_)
                case c1 =>
                  intro i u hu
                  cases i with
                  | zero => simp at hu; subst hu; simp [Addr.add]
                  | succ i => simp at hu
                case c2 => intro u hu; simp at hu; subst hu; rfl
                case c3 => unfold maxLen; omega
                case c4 => omega
                case c5 => have := HBX.out.size; simp; omega
                intro v' w4 hown' hgrow _
                have HB4 : Hid (Below w2.heap.size w2 w4) := Lib.hid ((HBX.out.alloc HBX.out.size _).grown hgrow (by have := HBX.out.size; simp; omega) (fun q hq => (HOX.out.lt q hq).1))
                have HO4 : Hid (w4.ownsRow w2.heap.size 3 1 v' (X ++ [0]).length ((X ++ [0]).map intV)) := Lib.hid (by
                  rw [List.length_append, List.map_append]; exact hown')
                have HX4 : Hid (∀ j, (X ++ [0]).getD j 0 = NW.getD j 0) := Lib.hid (fun j => (getD_nought X j).trans (HXN.out j))
                have hX4 : (X ++ [0]).length = X.length + 1 := by simp
                have HX4l := Lib.hid hX4
                clear hown' hgrow hX4 HOX HBX
                go_wp2_with fail
                go_roundg (gk - 1)
                case measure => omega
                case rel => exact ⟨X ++ [0], by rw [HX4l.out]; omega, by rw [HX4l.out]; omega, HX4, HO4, HB4⟩
              · have t1 : ¬ (X.length : Int) < (OL.length : Int) + (gp : Int) := by omega
                have hX0 : X.length = M := by omega
                have HX0 := Lib.hid hX0
                clear hX0
                go_wp2_with fail
                go_meet
                exact Lib.hid ⟨X, HX0.out, HXN.out, HOX.out, HBX.out⟩
          case rest =>
            obtain ⟨X, hX, hXN, hXO, hXB⟩ := hcut.out
            obtain ⟨gx, cx, rfl, hgx1, hgx2, hXI, hXf⟩ := own_ints hXO (by intro h; rw [h] at hX; simp at hX; omega)
            obtain ⟨wx, rfl⟩ : ∃ wx : World, wx = wc := ⟨_, rfl⟩
            have HL5 : Hid (LocSt w wx c t chunk gl be bl gs n2 S gn go NW OL) := Lib.hid (HL3.out.below hXB)
            have z1 := HL3.out.gs2
            have z2 := HL3.out.gn2
            have z3 := HL3.out.go2
            have z4 := HL3.out.gn1
            have hz := hXB.size
            have hg1 : w.heap.size ≤ gx := by omega
            have hg2 : gx ≠ gs := by omega
            have hg3 : gx ≠ gn := by omega
            have hg4 : gx ≠ go := by omega
            have HXC : Hid (SRow wx gx M (fun j => intV (adf NW OL q gp 0 j))) := Lib.hid ⟨fun j hj => by rw [adf_zero, ← hXN j]; exact hXI j (by omega), fun j _ => hXf j⟩
            have z5 := HL5.out.st.lc
            have hg5 : gx ≠ c := by omega
            have hcx : M ≤ cx := by rw [← hX]; exact own_cap2 hXO
            clear hXI hXN hXO hXB z1 z2 z3 z4 z5 hz HL3 HL4 HOWN HBEL hcut hgx1 hXf
            rw [hX]
            go_upto_block 6 with fail
            go_cut [] (fun wy => Hid (LocSt w wy c t chunk gl be bl gs n2 S gn go NW OL) ∧ Hid (SRow wy gx M (fun j => intV (adf NW OL q gp OL.length j))) ∧ gx < wy.heap.size)
            case first =>
              go_wp2_with fail
              go_loopg [86] OL.length (fun gk iv wr => ∃ i : Nat, i + gk = OL.length ∧ iv = .int .i64 (i : Int) ∧ Hid (LocSt w wr c t chunk gl be bl gs n2 S gn go NW OL) ∧ Hid (SRow wr gx M (fun j => intV (adf NW OL q gp i j))) ∧ gx < wr.heap.size)
              case atStart => exact ⟨0, by omega, rfl, HL5, HXC, hgx2⟩
              case round =>
                clear HL5 HXC
                obtain ⟨i, hi, rfl, HLi, HCi, hsz⟩ := hrel
                obtain ⟨wz, rfl⟩ : ∃ wz : World, wz = wr := ⟨_, rfl⟩
                by_cases hil : i < OL.length
                · have hilI : (i : Int) < (OL.length : Int) := by omega
                  obtain ⟨x, hx⟩ : ∃ x, x = OL.getD i 0 := ⟨_, rfl⟩
                  have co : wz.cell? ⟨go, i, none⟩ = some (.int .i64 (x : Int)) := HLi.out.ol.get hil hx
                  have x8 : x < 8192 := by rw [hx]; exact HO8.out i
                  obtain ⟨k, hk⟩ : ∃ k, k = i + gp := ⟨_, rfl⟩
                  have hkM : k < M := by omega
                  have hkMI : (k : Int) < (M : Int) := by omega
                  have hki : (i : Int) + (gp : Int) = (k : Int) := by omega
                  have e1 : IntKind.i64.wrap ((i : Int) + (gp : Int)) = (k : Int) := by rw [hki]; exact (IntWalk.i64_left _).trans (IntWalk.wrap64_in _ (by omega))
                  obtain ⟨E, hE⟩ : ∃ E, E = adf NW OL q gp i k := ⟨_, rfl⟩
                  have hE8 : E < 8192 := by rw [hE]; exact adf_lt HN8.out HO8.out _ _ _ _
                  have ck : wz.cell? ⟨gx, k, none⟩ = some (.int .i64 (E : Int)) := by rw [hE]; exact HCi.out.cell k hkM
                  have fk := HCi.out.free k hkM
                  obtain ⟨m, hm⟩ : ∃ m, m = mulP q x := ⟨_, rfl⟩
                  have hm8 : m < 8192 := by rw [hm]; exact mulP_lt _ x8
                  have hxo := xor_i64 E m (by omega) (by omega)
                  have HNX : Hid (∀ j, adf NW OL q gp (i + 1) j = if j = k then E ^^^ m else adf NW OL q gp i j) := Lib.hid (fun j => by
                    rw [adf_step, ← hk, ← hx, ← hm, hE]
                    by_cases e : j = k
                    · rw [if_pos e, if_pos e, e]
                    · rw [if_neg e, if_neg e])
                  have HMU := Lib.hid (Mul_any c 5 q x hq8 x8 wz.drew HLi.out.drew.fat)
                  rw [← hm] at HMU
                  have HLd := Lib.hid HLi.out.drew
                  have HCD : Hid (SRow wz.drew gx M (fun j => intV (adf NW OL q gp i j))) := Lib.hid (SRow.drew HCi.out)
                  clear hx hk hki hE hm
                  go_wp2_with fail
                  go_region_with (go_at_call 84; refine HMU.out.mono ?_; rintro e w3 ⟨rfl, hq3⟩; have HL7 := Lib.hid (HLd.out.readied hq3); have HO3 := Lib.hid (HLd.out.st.cr.readied hq3).2; have ck3 : w3.cell? ⟨gx, k, none⟩ = some (.int .i64 (E : Int)) := HO3.out.st.cell (p := ⟨gx, k, none⟩) ((World.cell?_drew _ _).trans ck) hg5; have fk3 : w3.frozen? ⟨gx, k, none⟩ = false := (HO3.out.st.frozen (p := ⟨gx, k, none⟩) hg5 (by simpa using hsz)).trans ((World.frozen?_drew _ _).trans fk); clear hq3)
                  all_goals
                    have HR4 : Hid (SRow (w3.setCell ⟨gx, k, none⟩ (.int .i64 ((E ^^^ m : Nat) : Int))) gx M (fun j => intV (adf NW OL q gp (i + 1) j))) := Lib.hid ((SRow.set (SRow.stays HCD.out HO3.out.st (by simpa using hsz) hg5) k (intV (E ^^^ m))).congr fun j hj => by
                      by_cases e : j = k
                      · rw [e, upd_same, HNX.out, if_pos rfl]
                      · rw [upd_other _ _ e, HNX.out, if_neg e])
                    have HS4 := Lib.hid (HL7.out.set (g := gx) k (.int .i64 ((E ^^^ m : Nat) : Int)) hg1 hg2 hg3 hg4)
                    have hz4 : gx < (w3.setCell ⟨gx, k, none⟩ (.int .i64 ((E ^^^ m : Nat) : Int))).heap.size := by have := HO3.out.st.size; simp at this; simp; omega
                    clear ck3 fk3 ck fk e1 co HMU HLd HCD HL7 HO3 HCi HLi HNX
                    go_wp2_with fail
                    go_roundg (gk - 1)
                    case measure => omega
                    case rel => exact ⟨i + 1, by omega, by go_num, HS4, HR4, hz4⟩
                · have hie : i = OL.length := by omega
                  have HIE := Lib.hid hie
                  clear hie
                  go_wp2_with fail
                  go_meet
                  exact ⟨HLi, Lib.hid (by rw [← HIE.out]; exact HCi.out), hsz⟩
            case rest =>
              obtain ⟨HL6, HXC6, hsz6⟩ := hcut
              obtain ⟨wy2, rfl⟩ : ∃ wy2 : World, wy2 = wc := ⟨_, rfl⟩
              have HA : Hid (M = (addS NW OL q gp).length) := Lib.hid (by rw [addS_length, HM.out])
              have HIA : Hid (IntsAt wy2 gx (addS NW OL q gp)) := Lib.hid (fun j hj => by
                rw [addS_length, ← HM.out] at hj
                rw [HXC6.out.cell j hj, addS_get _ _ _ _ _ (by rw [← HM.out]; exact hj)])
              clear HL5 HXC HXC6
              by_cases hln : 2 * ln ≤ n
              · have hlnI : 2 * (ln : Int) ≤ (n : Int) := by omega
                go_wp2_with fail
                go_roundg (gk - 1)
                case measure => omega
                case rel => exact ⟨n + 1, gx, cx, gn, cn, addS NW OL q gp, NW, n + 1 - ln, 1, d, by omega, by go_num, by rw [HA.out], rfl, by go_num, rfl, rfl, Lib.hid (by rw [HNEXT.out, bmStep, if_neg (by rw [← HD.out]; exact hd0)]; simp only; rw [if_pos hln, ← HD.out, ← HQ.out]), by rw [← HA.out]; exact hcx, Lib.hid ⟨HL6.out.st, HL6.out.s, HIA.out, HL6.out.nw, hgs, HL6.out.gs2, hg1, hsz6, HL6.out.gn1, HL6.out.gn2⟩⟩
              · have hlnI : ¬ 2 * (ln : Int) ≤ (n : Int) := by omega
                go_wp2_with fail
                go_roundg (gk - 1)
                case measure => omega
                case rel => exact ⟨n + 1, gx, cx, go, co, addS NW OL q gp, OL, ln, gp + 1, ls, by omega, by go_num, by rw [HA.out], rfl, rfl, by go_num, rfl, Lib.hid (by rw [HNEXT.out, bmStep, if_neg (by rw [← HD.out]; exact hd0)]; simp only; rw [if_neg hln, ← HD.out, ← HQ.out]), by rw [← HA.out]; exact hcx, Lib.hid ⟨HL6.out.st, HL6.out.s, HIA.out, HL6.out.ol, hgs, HL6.out.gs2, hg1, hsz6, HL6.out.go1, HL6.out.go2⟩⟩
    · obtain rfl : n = n2 := by omega
      have hltI : ¬ (n : Int) < (n : Int) := by omega
      clear HOK HS8
      have HNW : Hid ((bmI S n).now = NW) := Lib.hid (by rw [HBM.out])
      clear HBM HN8 HO8
      go_wp2_with fail
      go_loopg [6] 40 (fun gk v wr => ∃ (Y : List Nat) (cap : Nat), v = .slice (some ⟨gn, 0, none⟩) Y.length cap ∧ Y.length ≤ gk + 1 ∧ 1 ≤ Y.length ∧ Y.length ≤ 17 ∧ Y.length ≤ cap ∧ Hid (trimL NW 40 = trimL Y gk) ∧ Hid (LocSt w wr c t chunk gl be bl gs n S gn go Y OL))
      case atStart => exact ⟨NW, cn, rfl, by omega, k2, by omega, hcn, Lib.hid rfl, HL⟩
      case round =>
        clear HL
        obtain ⟨Y, cap, rfl, hY1, hY2, hY3, hY4, HT, HLY⟩ := hrel
        obtain ⟨wz, rfl⟩ : ∃ wz : World, wz = wr := ⟨_, rfl⟩
        obtain ⟨p, hp⟩ : ∃ p, Y.length = p + 1 := ⟨Y.length - 1, by omega⟩
        have HP := Lib.hid hp
        have e0 : (Y.length : Int) - 1 = (p : Int) := by omega
        have e1 : IntKind.i64.wrap ((Y.length : Int) - 1) = (p : Int) := by rw [e0]; exact (IntWalk.i64_left _).trans (IntWalk.wrap64_in _ (by omega))
        by_cases h1 : 1 < Y.length
        · have h1I : (1 : Int) < (Y.length : Int) := by omega
          have hpl : (p : Int) < (Y.length : Int) := by omega
          obtain ⟨z, hz⟩ : ∃ z, z = Y.getD p 0 := ⟨_, rfl⟩
          have cz : wz.cell? ⟨gn, p, none⟩ = some (.int .i64 (z : Int)) := HLY.out.nw.get (by omega) hz
          have HZ := Lib.hid hz
          clear hp e0 hz
          by_cases h2 : z = 0
          · subst h2
            have hpc : (p : Int) ≤ (cap : Int) := by omega
            have HT2 : Hid (trimL NW 40 = trimL (Y.take p) (gk - 1)) := Lib.hid (by
              rw [HT.out]
              have hg : gk = (gk - 1) + 1 := by have := HP.out; omega
              rw [hg, trimL_step h1 (by rw [HP.out, Nat.add_sub_cancel, ← HZ.out]), HP.out, Nat.add_sub_cancel, Nat.add_sub_cancel])
            have hlt : (Y.take p).length = p := by rw [List.length_take, HP.out]; omega
            have HLT := Lib.hid hlt
            clear hlt
            go_wp2_with fail
            go_roundg (gk - 1)
            case measure => omega
            case rel => exact ⟨Y.take p, cap, by rw [HLT.out], by rw [HLT.out]; have := HP.out; omega, by rw [HLT.out]; have := HP.out; omega, by rw [HLT.out]; have := HP.out; omega, by rw [HLT.out]; have := HP.out; omega, HT2, Lib.hid ⟨HLY.out.st, HLY.out.s, ints_take HLY.out.nw, HLY.out.ol, HLY.out.gs1, HLY.out.gs2, HLY.out.gn1, HLY.out.gn2, HLY.out.go1, HLY.out.go2⟩⟩
          · have h2I : ((z : Int) == 0) = false := by simp; omega
            have HF : Hid (trimL NW 40 = Y) := Lib.hid (by rw [HT.out, trimL_stop]; rw [HP.out, Nat.add_sub_cancel, ← HZ.out]; exact fun h => h2 h.2)
            clear h2
            go_wp2_with fail
            go_ret
            exact ⟨gn, cap, 40, by rw [HNW.out, HF.out]; rfl, by omega, by rw [HNW.out, HF.out]; first | exact HLY.out.nw | exact HLY.out.drew.nw, HLY.out.gn1, by first | exact HLY.out.gn2 | exact HLY.out.drew.gn2, by first | exact HLY.out.st | exact HLY.out.drew.st⟩
        · have h1I : ¬ (1 : Int) < (Y.length : Int) := by omega
          have HF : Hid (trimL NW 40 = Y) := Lib.hid (by rw [HT.out, trimL_stop]; exact fun h => h1 h.1)
          clear hp e0
          go_wp2_with fail
          go_ret
          exact ⟨gn, cap, 40, by rw [HNW.out, HF.out]; rfl, by omega, by rw [HNW.out, HF.out]; first | exact HLY.out.nw | exact HLY.out.drew.nw, HLY.out.gn1, by first | exact HLY.out.gn2 | exact HLY.out.drew.gn2, by first | exact HLY.out.st | exact HLY.out.drew.st⟩
end Go.Proofs.YtgfjeaegigjnaaaGreatDoor

namespace Go.Proofs.YtgfjeaegigjnaaaGreatDoor
open Go.RowKit
set_option linter.unusedVariables false
set_option linter.unusedSimpArgs false

/-- The logarithms of the first i terms; behind them nought. -/
noncomputable def lrow (L : List Nat) (i j : Nat) : Nat := if j < i then logN (L.getD j 0) else 0
def RootQ (c t chunk gl be bl n : Nat) (L : List Nat) (w : World) (e : Ending) (w' : World) : Prop := ∃ v, e = .returned v ∧ w'.ownsRow w.heap.size 3 1 v (rootsI L n).length ((rootsI L n).map intV) ∧ SynSt w w' c t chunk gl be bl
theorem own_shape {w : World} {B e n size : Nat} {v : Value} {xs : List Value} (h : w.ownsRow B e size v n xs) : ∃ a cap, v = .slice a n cap := by
  rcases h.2 with ⟨h1, h2⟩ | ⟨g, cap, cur, hv, _⟩
  · exact ⟨none, 0, by rw [h1, h2]⟩
  · exact ⟨_, cap, hv⟩
set_option maxHeartbeats 6400000 in
set_option maxRecDepth 100000 in
theorem roots_any (c t chunk gl be bl gn n cn : Nat) (L : List Nat) (w : World) (h : CodeReady w c t chunk gl be bl) (hl : IntsAt w gn L) (hL : ∀ j, L.getD j 0 < 8192) (hl17 : L.length ≤ 17) (hn : n ≤ 100000) (hgn : gn ≠ c) (lgn : gn < w.heap.size) :
    Calls Tryz.prog 67 #[.pointer (some ⟨c, 0, none⟩), .slice (some ⟨gn, 0, none⟩) L.length cn, .int .i64 (n : Int)] w (RootQ c t chunk gl be bl n L w) := by
  obtain ⟨i0, hi0, hz0, hz1, hz2⟩ := info_parts info_int
  have hmk := make_ints L.length (by omega)
  have hst0 := SynSt.start h
  have HST0 := Lib.hid hst0
  have HG : Hid (∀ W, SynSt w W c t chunk gl be bl → IntsAt W gn L) := Lib.hid (fun W hW j hj => hW.on.st.cell (p := ⟨gn, j, none⟩) (hl j hj) hgn)
  have HL8 := Lib.hid hL
  clear hst0 h hl hL
  go_enter Tryz.func67, Tryz.ntmps67
  go_wp2_with fail
  obtain ⟨g, hg⟩ : ∃ g, g = w.heap.size := ⟨_, rfl⟩
  have hrow0 : NRow (w.alloc (.cells (madeCells #[.int .i64 0] L.length) 3)) g L.length (lrow L 0) := by
    rw [hg]
    exact Row.made _ _ _ _ _ (fun j hj => by rw [madeCells_getN _ _ _ hj]; unfold lrow; rw [if_neg (by omega)]; rfl)
  have hst1 := HST0.out.alloc (.cells (madeCells #[.int .i64 0] L.length) 3)
  have hg1 : g < (w.alloc (.cells (madeCells #[.int .i64 0] L.length) 3)).heap.size := by rw [hg]; simp
  try rw [← hg]
  have hgw : w.heap.size ≤ g := by omega
  have hgg : g ≠ gn := by omega
  have hgc : g ≠ c := by have := HST0.out.lc; omega
  generalize w.alloc (.cells (madeCells #[.int .i64 0] L.length) 3) = W1 at *
  have HROW0 := Lib.hid hrow0
  have HST1 := Lib.hid hst1
  clear hrow0 hst1 hg hmk
  go_loopg [24] L.length (fun gk iv wr => ∃ i : Nat, i + gk = L.length ∧ iv = .int .i64 (i : Int) ∧ g < wr.heap.size ∧ Hid (NRow wr g L.length (lrow L i)) ∧ Hid (SynSt w wr c t chunk gl be bl))
  case atStart => exact ⟨0, by omega, rfl, hg1, HROW0, HST1⟩
  case round =>
    clear HROW0 HST1 hg1
    obtain ⟨i, hi, rfl, hgz, HR, HS⟩ := hrel
    obtain ⟨wq, rfl⟩ : ∃ wq : World, wq = wr := ⟨_, rfl⟩
    by_cases hlt : i < L.length
    · have hltI : (i : Int) < (L.length : Int) := by omega
      obtain ⟨x, hx⟩ : ∃ x, x = L.getD i 0 := ⟨_, rfl⟩
      have cx : wq.cell? ⟨gn, i, none⟩ = some (.int .i64 (x : Int)) := (HG.out wq HS.out).get hlt hx
      have x8 : x < 8192 := by rw [hx]; exact HL8.out i
      have ck : wq.cell? ⟨g, i, none⟩ = some (.int .i64 0) := by
        have := HR.out.cell i hlt
        rw [this]; unfold lrow; rw [if_neg (Nat.lt_irrefl _)]; rfl
      have fk := HR.out.free i
      have HLOG : Hid (∃ b : Bool, Calls Tryz.prog 87 #[.pointer (some ⟨c, 5, none⟩), .int .i64 (x : Int)] wq fun e w' => e = .returned (.tuple #[.int .i64 ((logN x : Nat) : Int), .bool b]) ∧ SynSt w w' c t chunk gl be bl ∧ Only c 5 11 wq w') := Lib.hid (by
        by_cases h0 : x = 0
        · refine ⟨false, ?_⟩
          rw [h0]
          refine (Log_zero c 5 _).mono ?_
          rintro e w' ⟨rfl, rfl⟩
          exact ⟨by rw [logN_zero]; rfl, HS.out, Only.refl _ _ _ _⟩
        · refine ⟨true, (Log_any c 5 x (by omega) x8 _ (.inr ⟨be, bl, HS.out.cr.field⟩)).mono ?_⟩
          rintro e w' ⟨rfl, hq⟩
          exact ⟨rfl, HS.out.readied hq, (HS.out.cr.readied hq).2⟩)
      obtain ⟨b, hlog⟩ := HLOG.out
      have HLO := Lib.hid hlog
      obtain ⟨l, hlx⟩ : ∃ l, l = logN x := ⟨_, rfl⟩
      rw [← hlx] at HLO
      have HNX : Hid (∀ j, lrow L (i + 1) j = if j = i then l else lrow L i j) := Lib.hid (fun j => by
        unfold lrow
        by_cases e : j = i
        · rw [if_pos e, if_pos (by omega), e, hlx, hx]
        · rw [if_neg e]
          by_cases e2 : j < i
          · rw [if_pos e2, if_pos (by omega)]
          · rw [if_neg e2, if_neg (by omega)])
      have HRD : Hid (NRow wq g L.length (lrow L i)) := HR
      clear hx hlog HLOG hlx
      go_wp2_with (go_at_call 87; refine HLO.out.mono ?_; rintro e w3 ⟨rfl, hs3, ho3⟩; have HS3 := Lib.hid hs3; have HO3 := Lib.hid ho3; have ck3 : w3.cell? ⟨g, i, none⟩ = some (.int .i64 0) := HO3.out.st.cell (p := ⟨g, i, none⟩) ck hgc; have fk3 : w3.frozen? ⟨g, i, none⟩ = false := (HO3.out.st.frozen (p := ⟨g, i, none⟩) hgc (by simpa using hgz)).trans fk; clear hs3 ho3)
      all_goals
        have HR4 : Hid (NRow (w3.setCell ⟨g, i, none⟩ (.int .i64 (l : Int))) g L.length (lrow L (i + 1))) := Lib.hid ((NRow.set (Row.only HRD.out HO3.out (by simpa using hgz) hgc) i l).congr fun j hj => by
          by_cases e : j = i
          · rw [e, upd_same, HNX.out, if_pos rfl]
          · rw [upd_other _ _ e, HNX.out, if_neg e])
        have HS4 := Lib.hid (HS3.out.set (g := g) i (.int .i64 (l : Int)) hgw)
        have hz4 : g < (w3.setCell ⟨g, i, none⟩ (.int .i64 (l : Int))).heap.size := by
          have := HO3.out.st.size
          try simp at this
          simp; omega
        clear ck3 fk3 ck fk cx HLO HRD HR HS HS3 HO3 HNX
        go_wp2_with fail
        go_roundg (gk - 1)
        case measure => omega
        case rel => exact ⟨i + 1, by omega, by go_num, hz4, HR4, HS4⟩
    · obtain rfl : i = L.length := by omega
      have hltI : ¬ (L.length : Int) < (L.length : Int) := by omega
      have HOW0 : Hid (wq.ownsRow (g + 1) 3 1 (.slice none 0 0) (rootsI L 0).length ((rootsI L 0).map intV)) := Lib.hid ⟨rfl, .inl ⟨rfl, rfl⟩⟩
      go_wp2_with fail
      go_loopg [11, 12] n (fun gk ov ev wr => ∃ e : Nat, e + gk = n ∧ ev = .int .i64 (e : Int) ∧ g < wr.heap.size ∧ Hid (NRow wr g L.length (lrow L L.length)) ∧ Hid (SynSt w wr c t chunk gl be bl) ∧ Hid (wr.ownsRow (g + 1) 3 1 ov (rootsI L e).length ((rootsI L e).map intV)))
      case atStart => exact ⟨0, by omega, rfl, hgz, HR, HS, HOW0⟩
      case round =>
        clear HOW0 HR HS hgz hltI hlt
        obtain ⟨e, he, rfl, hgz, HR, HS, HOW⟩ := hrel
        obtain ⟨wp, rfl⟩ : ∃ wp : World, wp = wr := ⟨_, rfl⟩
        obtain ⟨a, cap, rfl⟩ := own_shape HOW.out
        obtain ⟨r, hr⟩ : ∃ r, r = (rootsI L e).length := ⟨_, rfl⟩
        have hrl := rootsI_length L e
        rw [← hr] at hrl HOW ⊢
        obtain ⟨hr1, hr2⟩ := hrl
        have HRL := Lib.hid hr
        clear hr
        by_cases hen : e < n
        · have henI : (e : Int) < (n : Int) := by omega
          by_cases hrL : r < L.length
          · have hrLI : (r : Int) < (L.length : Int) := by omega
            go_wp2_with fail
            go_loopg [13, 53] L.length (fun gk vv iv wr => ∃ i : Nat, i + gk = L.length ∧ iv = .int .i64 (i : Int) ∧ vv = .int .i64 ((chien L e i : Nat) : Int) ∧ g < wr.heap.size ∧ Hid (NRow wr g L.length (lrow L L.length)) ∧ Hid (SynSt w wr c t chunk gl be bl) ∧ Hid (wr.ownsRow (g + 1) 3 1 (.slice a r cap) r ((rootsI L e).map intV)))
            case atStart => exact ⟨0, by omega, rfl, rfl, hgz, HR, HS, HOW⟩
            case round =>
              clear HR HS hgz HOW
              obtain ⟨i, hi, rfl, rfl, hgz, HR, HS, HOW⟩ := hrel
              obtain ⟨wz, rfl⟩ : ∃ wz : World, wz = wr := ⟨_, rfl⟩
              obtain ⟨D, hD⟩ : ∃ D, D = chien L e i := ⟨_, rfl⟩
              have hD8 := chien_lt L e i
              rw [← hD] at hD8
              rw [← hD]
              by_cases hil : i < L.length
              · have hilI : (i : Int) < (L.length : Int) := by omega
                obtain ⟨x, hx⟩ : ∃ x, x = L.getD i 0 := ⟨_, rfl⟩
                have cx : wz.cell? ⟨gn, i, none⟩ = some (.int .i64 (x : Int)) := (HG.out wz HS.out).get hil hx
                have hch : chien L e (i + 1) = if x = 0 then D else D ^^^ expN (chE x i e) := by rw [hx, hD]; rfl
                by_cases h0 : x = 0
                · rw [if_pos h0] at hch
                  have HNX := Lib.hid hch
                  subst h0
                  clear hx hD hch
                  go_wp2_with fail
                  go_roundg (L.length - i - 1)
                  case measure => omega
                  case rel => exact ⟨i + 1, by omega, by go_num, by rw [HNX.out], hgz, HR, HS, HOW⟩
                · rw [if_neg h0] at hch
                  have h0I : ((x : Int) != 0) = true := by simp; omega
                  have hm := chE_eq x i e
                  have hl8 := logN_lt x
                  obtain ⟨l, hl⟩ : ∃ l, l = logN x := ⟨_, rfl⟩
                  have ck : wz.cell? ⟨g, i, none⟩ = some (.int .i64 (l : Int)) := by
                    rw [HR.out.cell i hil]; unfold lrow; rw [if_pos hil, ← hx, ← hl]; rfl
                  rw [← hl] at hm hl8
                  obtain ⟨E, hE⟩ : ∃ E, E = i * e := ⟨_, rfl⟩
                  have hEi : (i : Int) * (e : Int) = (E : Int) := by rw [hE, Int.natCast_mul]
                  have hEl : E ≤ 17 * 100000 := by rw [hE]; exact Nat.mul_le_mul (by omega) (by omega)
                  rw [hEi] at hm
                  have e1 : IntKind.i64.wrap ((i : Int) * (e : Int)) = (E : Int) := by rw [hEi]; exact (IntWalk.i64_left _).trans (IntWalk.wrap64_in _ (by omega))
                  obtain ⟨m, hmm⟩ : ∃ m, m = chE x i e := ⟨_, rfl⟩
                  rw [← hmm] at hm hch
                  obtain ⟨y, hy⟩ : ∃ y, y = expN m := ⟨_, rfl⟩
                  have hy8 : y < 8192 := by rw [hy]; exact expN_lt _
                  have hxo := xor_i64 D y (by omega) (by omega)
                  have HEXP := Lib.hid (Exp_any c 5 ((l : Int) - (E : Int)) m hm (by omega) (by omega) wz (.inr ⟨be, bl, HS.out.cr.field⟩))
                  rw [← hy] at hch HEXP
                  have HNX := Lib.hid hch
                  have hSd := HS.out
                  have HSD := Lib.hid hSd
                  have hRd : NRow wz g L.length (lrow L L.length) := HR.out
                  have HRD := Lib.hid hRd
                  have HOD : Hid (wz.ownsRow (g + 1) 3 1 (.slice a r cap) r ((rootsI L e).map intV)) := HOW
                  have hcg : c < g := by have := HS.out.lc; omega
                  clear hx hD hl hE hEi hm hmm hy hch hSd hRd
                  go_wp2_with (go_at_call 83; refine HEXP.out.mono ?_; rintro e w3 ⟨rfl, hq⟩; have HS3 := Lib.hid (HSD.out.readied hq); have HO3 := Lib.hid (HSD.out.cr.readied hq).2; have ck3 : w3.cell? ⟨g, i, none⟩ = some (.int .i64 (l : Int)) := HO3.out.st.cell (p := ⟨g, i, none⟩) ck hgc; clear hq)
                  all_goals
                    have HR4 : Hid (NRow w3 g L.length (lrow L L.length)) := Lib.hid (Row.only HRD.out HO3.out hgz hgc)
                    have HO4 : Hid (w3.ownsRow (g + 1) 3 1 (.slice a r cap) r ((rootsI L e).map intV)) := Lib.hid (own_stays HOD.out HO3.out.st (fun k hk => by have := (HOD.out.lt k hk).1; show k ≠ c; omega))
                    have hz4 : g < w3.heap.size := by
                      have := HO3.out.st.size
                      try simp at this
                      omega
                    clear ck3 ck cx e1 HEXP HSD HRD HOD HO3
                    go_wp2_with fail
                    go_roundg (L.length - i - 1)
                    case measure => omega
                    case rel => exact ⟨i + 1, by omega, by go_num, by rw [HNX.out], hz4, HR4, HS3, HO4⟩
              · obtain rfl : i = L.length := by omega
                have hilI : ¬ (L.length : Int) < (L.length : Int) := by omega
                have hru : rootsI L (e + 1) = if (rootsI L e).length < L.length ∧ D = 0 then rootsI L e ++ [e] else rootsI L e := by rw [hD]; rfl
                rw [← HRL.out] at hru
                by_cases h0 : D = 0
                · rw [if_pos ⟨hrL, h0⟩] at hru
                  have HNX := Lib.hid hru
                  subst h0
                  clear hru hD
                  go_wp2_with (at_builtin; refine wpList_append_own _ rfl _ _ 55 rfl (g + 1) 3 i0 (.int .i64 0) 1 8 (by kernel_rfl) hi0 hz0 hz1 hz2 rfl (by decide) _ _ _ rfl (HOW.out.alloc _) ⟨wz.heap.size, 0, none⟩ 1 1 [.int .i64 (e : Int)] rfl rfl ?c1 ?c2 ?c3 ?c4 ?c5 ?_)
                  case c2 => rfl
                  case c3 => unfold maxLen; omega
                  case c4 => omega
                  case c5 => first | omega | (simp; omega)
                  intro v' w4 hown' hgrow _
                  have hbel : Below (g + 1) wz w4 := ((Below.refl _ _).alloc (by omega) _).grown hgrow (by simp; omega) (fun q hq => (HOW.out.lt q hq).1)
                  have HST4 : Hid (Stays (fun q => g + 1 ≤ q) wz w4) := Lib.hid ⟨hbel.os, hbel.tape, hbel.output, hbel.size, fun i _ hn => hbel.block i (by omega)⟩
                  have HR4 : Hid (NRow w4 g L.length (lrow L L.length)) := Lib.hid (Row.stays HR.out HST4.out hgz (by omega))
                  have HS4 : Hid (SynSt w w4 c t chunk gl be bl) := Lib.hid (HS.out.new HST4.out (fun q hq => by omega))
                  have hz4 : g < w4.heap.size := by have := hbel.size; omega
                  have HO4 : Hid (w4.ownsRow (g + 1) 3 1 v' (rootsI L (e + 1)).length ((rootsI L (e + 1)).map intV)) := Lib.hid (by
                    rw [HNX.out, List.length_append, List.map_append, ← HRL.out]
                    exact hown')
                  clear hown' hgrow hbel HST4 HOW HR HS HNX
                  go_wp2_with fail
                  go_roundg (n - e - 1)
                  case measure => omega
                  case rel => exact ⟨e + 1, by omega, by go_num, hz4, HR4, HS4, HO4⟩
                · rw [if_neg (fun h => h0 h.2)] at hru
                  have HNX := Lib.hid hru
                  have h0I : ((D : Int) == 0) = false := by simp; omega
                  clear hru hD
                  go_wp2_with fail
                  go_roundg (n - e - 1)
                  case measure => omega
                  case rel => exact ⟨e + 1, by omega, by go_num, hgz, HR, HS, by rw [HNX.out, ← HRL.out]; exact HOW⟩
          · have hrLI : ¬ (r : Int) < (L.length : Int) := by omega
            have HFULL : Hid (rootsI L n = rootsI L e) := Lib.hid (by
              have h1 := rootsI_full L e (n - e) (by rw [← HRL.out]; omega)
              rwa [show e + (n - e) = n by omega] at h1)
            go_wp2_with fail
            go_ret
            exact ⟨_, rfl, by rw [HFULL.out, ← HRL.out]; exact own_mono (by first | exact HOW.out | exact World.ownsRow.drew HOW.out) (by omega), by first | exact HS.out | exact HS.out.drew⟩
        · obtain rfl : e = n := by omega
          have henI : ¬ (e : Int) < (e : Int) := by omega
          go_wp2_with fail
          go_ret
          exact ⟨_, rfl, by rw [← HRL.out]; exact own_mono (by first | exact HOW.out | exact World.ownsRow.drew HOW.out) (by omega), by first | exact HS.out | exact HS.out.drew⟩
end Go.Proofs.YtgfjeaegigjnaaaGreatDoor

