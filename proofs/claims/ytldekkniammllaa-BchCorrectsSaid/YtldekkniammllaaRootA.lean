/- The roots of a locator: the walk. -/
import Derived.Test.YtldekkniammllaaLocA
import Derived.Test.YtldekkniammllaaLocP
namespace Go.Proofs.Ytldekkniammllaa
open Go.RowKit
set_option linter.unusedVariables false
set_option linter.unusedSimpArgs false

/-- The logarithms of the first i terms; behind them nought. -/
noncomputable def lrow (L : List Nat) (i j : Nat) : Nat := if j < i then logN (L.getD j 0) else 0
def RootQ (c t chunk gl be bl n : Nat) (L : List Nat) (w : World) (e : Ending) (w' : World) : Prop := ∃ v, e = .returned v ∧ w'.ownsRow w.heap.size 3 1 v (rootsI L n).length ((rootsI L n).map intV) ∧ SynSt w w' c t chunk gl be bl

theorem own_shape {w : World} {B e n size : Nat} {v : Value} {xs : List Value} (h : w.ownsRow B e size v n xs) : ∃ a cap, v = .slice a n cap := by
  rcases h.2 with ⟨h1, h2⟩ | ⟨g, cap, cur, hv, _⟩
  · exact ⟨none, 0, by rw [h1, h2]⟩
  · exact ⟨_, cap, hv⟩
set_option maxHeartbeats 6400000 in
set_option maxRecDepth 100000 in
theorem roots_any (c t chunk gl be bl gn n cn : Nat) (L : List Nat) (w : World) (h : CodeReady w c t chunk gl be bl) (hl : IntsAt w gn L) (hL : ∀ j, L.getD j 0 < 8192) (hl17 : L.length ≤ 17) (hn : n ≤ 100000) (hgn : gn ≠ c) (lgn : gn < w.heap.size) :
    Calls Try.prog 26 #[.pointer (some ⟨c, 0, none⟩), .slice (some ⟨gn, 0, none⟩) L.length cn, .int .i64 (n : Int)] w (RootQ c t chunk gl be bl n L w) := by
  obtain ⟨i0, hi0, hz0, hz1, hz2⟩ := info_parts info_int
  have hmk := make_ints L.length (by omega)
  have hst0 := SynSt.start h
  have HST0 := Lib.hid hst0
  have HG : Hid (∀ W, SynSt w W c t chunk gl be bl → IntsAt W gn L) := Lib.hid (fun W hW j hj => hW.on.st.cell (p := ⟨gn, j, none⟩) (hl j hj) hgn)
  have HL8 := Lib.hid hL
  clear hst0 h hl hL
  go_enter Try.func26, Try.ntmps26
  go_wp2_with fail
  obtain ⟨g, hg⟩ : ∃ g, g = w.heap.size := ⟨_, rfl⟩
  have hrow0 : NRow (w.alloc (.cells (madeCells #[.int .i64 0] L.length) 3)) g L.length (lrow L 0) := by
    rw [hg]
    exact Row.made _ _ _ _ _ (fun j hj => by rw [madeCells_get _ _ _ hj]; unfold lrow; rw [if_neg (by omega)]; rfl)
  have hst1 := HST0.out.alloc (.cells (madeCells #[.int .i64 0] L.length) 3)
  have hg1 : g < (w.alloc (.cells (madeCells #[.int .i64 0] L.length) 3)).heap.size := by rw [hg]; simp
  try rw [← hg]
  have hgw : w.heap.size ≤ g := by omega
  have hgg : g ≠ gn := by omega
  have hgc : g ≠ c := by have := HST0.out.lc; omega
  generalize w.alloc (.cells (madeCells #[.int .i64 0] L.length) 3) = W1 at *
  have HROW0 := Lib.hid hrow0
  have HST1 := Lib.hid hst1
  clear hrow0 hst1 hg hmk
  go_loopg [24] L.length (fun gk iv wr => ∃ i : Nat, i + gk = L.length ∧ iv = .int .i64 (i : Int) ∧ g < wr.heap.size ∧ Hid (NRow wr g L.length (lrow L i)) ∧ Hid (SynSt w wr c t chunk gl be bl))
  case atStart => exact ⟨0, by omega, rfl, hg1, HROW0, HST1⟩
  case round =>
    clear HROW0 HST1 hg1
    obtain ⟨i, hi, rfl, hgz, HR, HS⟩ := hrel
    obtain ⟨wq, rfl⟩ : ∃ wq : World, wq = wr := ⟨_, rfl⟩
    by_cases hlt : i < L.length
    · have hltI : (i : Int) < (L.length : Int) := by omega
      obtain ⟨x, hx⟩ : ∃ x, x = L.getD i 0 := ⟨_, rfl⟩
      have cx : wq.cell? ⟨gn, i, none⟩ = some (.int .i64 (x : Int)) := (HG.out wq HS.out).get hlt hx
      have x8 : x < 8192 := by rw [hx]; exact HL8.out i
      have ck : wq.cell? ⟨g, i, none⟩ = some (.int .i64 0) := by
        have := HR.out.cell i hlt
        rw [this]; unfold lrow; rw [if_neg (Nat.lt_irrefl _)]; rfl
      have fk := HR.out.free i
      have HLOG : Hid (∃ b : Bool, Calls Try.prog 40 #[.pointer (some ⟨c, 5, none⟩), .int .i64 (x : Int)] wq fun e w' => e = .returned (.tuple #[.int .i64 ((logN x : Nat) : Int), .bool b]) ∧ SynSt w w' c t chunk gl be bl ∧ Only c 5 11 wq w') := Lib.hid (by
        by_cases h0 : x = 0
        · refine ⟨false, ?_⟩
          rw [h0]
          refine (Log_zero c 5 _).mono ?_
          rintro e w' ⟨rfl, rfl⟩
          exact ⟨by rw [logN_zero]; rfl, HS.out, Only.refl _ _ _ _⟩
        · refine ⟨true, (Log_any c 5 x (by omega) x8 _ (.inr ⟨be, bl, HS.out.cr.field⟩)).mono ?_⟩
          rintro e w' ⟨rfl, hq⟩
          exact ⟨rfl, HS.out.readied hq, (HS.out.cr.readied hq).2⟩)
      obtain ⟨b, hlog⟩ := HLOG.out
      have HLO := Lib.hid hlog
      obtain ⟨l, hlx⟩ : ∃ l, l = logN x := ⟨_, rfl⟩
      rw [← hlx] at HLO
      have HNX : Hid (∀ j, lrow L (i + 1) j = if j = i then l else lrow L i j) := Lib.hid (fun j => by
        unfold lrow
        by_cases e : j = i
        · rw [if_pos e, if_pos (by omega), e, hlx, hx]
        · rw [if_neg e]
          by_cases e2 : j < i
          · rw [if_pos e2, if_pos (by omega)]
          · rw [if_neg e2, if_neg (by omega)])
      have HRD : Hid (NRow wq g L.length (lrow L i)) := HR
      clear hx hlog HLOG hlx
      go_wp2_with (go_at_call 40; refine HLO.out.mono ?_; rintro e w3 ⟨rfl, hs3, ho3⟩; have HS3 := Lib.hid hs3; have HO3 := Lib.hid ho3; have ck3 : w3.cell? ⟨g, i, none⟩ = some (.int .i64 0) := HO3.out.st.cell (p := ⟨g, i, none⟩) ck hgc; have fk3 : w3.frozen? ⟨g, i, none⟩ = false := (HO3.out.st.frozen (p := ⟨g, i, none⟩) hgc (by simpa using hgz)).trans fk; clear hs3 ho3)
      all_goals
        have HR4 : Hid (NRow (w3.setCell ⟨g, i, none⟩ (.int .i64 (l : Int))) g L.length (lrow L (i + 1))) := Lib.hid ((NRow.set (Row.only HRD.out HO3.out (by simpa using hgz) hgc) i l).congr fun j hj => by
          by_cases e : j = i
          · rw [e, upd_same, HNX.out, if_pos rfl]
          · rw [upd_other _ _ e, HNX.out, if_neg e])
        have HS4 := Lib.hid (HS3.out.set (g := g) i (.int .i64 (l : Int)) hgw)
        have hz4 : g < (w3.setCell ⟨g, i, none⟩ (.int .i64 (l : Int))).heap.size := by
          have := HO3.out.st.size
          try simp at this
          simp; omega
        clear ck3 fk3 ck fk cx HLO HRD HR HS HS3 HO3 HNX
        go_wp2_with fail
        go_roundg (gk - 1)
        case measure => omega
        case rel => exact ⟨i + 1, by omega, by go_num, hz4, HR4, HS4⟩
    · obtain rfl : i = L.length := by omega
      have hltI : ¬ (L.length : Int) < (L.length : Int) := by omega
      have HOW0 : Hid (wq.ownsRow (g + 1) 3 1 (.slice none 0 0) (rootsI L 0).length ((rootsI L 0).map intV)) := Lib.hid ⟨rfl, .inl ⟨rfl, rfl⟩⟩
      go_wp2_with fail
      go_loopg [11, 12] n (fun gk ov ev wr => ∃ e : Nat, e + gk = n ∧ ev = .int .i64 (e : Int) ∧ g < wr.heap.size ∧ Hid (NRow wr g L.length (lrow L L.length)) ∧ Hid (SynSt w wr c t chunk gl be bl) ∧ Hid (wr.ownsRow (g + 1) 3 1 ov (rootsI L e).length ((rootsI L e).map intV)))
      case atStart => exact ⟨0, by omega, rfl, hgz, HR, HS, HOW0⟩
      case round =>
        clear HOW0 HR HS hgz hltI hlt
        obtain ⟨e, he, rfl, hgz, HR, HS, HOW⟩ := hrel
        obtain ⟨wp, rfl⟩ : ∃ wp : World, wp = wr := ⟨_, rfl⟩
        obtain ⟨a, cap, rfl⟩ := own_shape HOW.out
        obtain ⟨r, hr⟩ : ∃ r, r = (rootsI L e).length := ⟨_, rfl⟩
        have hrl := rootsI_length L e
        rw [← hr] at hrl HOW ⊢
        obtain ⟨hr1, hr2⟩ := hrl
        have HRL := Lib.hid hr
        clear hr
        by_cases hen : e < n
        · have henI : (e : Int) < (n : Int) := by omega
          by_cases hrL : r < L.length
          · have hrLI : (r : Int) < (L.length : Int) := by omega
            go_wp2_with fail
            go_loopg [13, 53] L.length (fun gk vv iv wr => ∃ i : Nat, i + gk = L.length ∧ iv = .int .i64 (i : Int) ∧ vv = .int .i64 ((chien L e i : Nat) : Int) ∧ g < wr.heap.size ∧ Hid (NRow wr g L.length (lrow L L.length)) ∧ Hid (SynSt w wr c t chunk gl be bl) ∧ Hid (wr.ownsRow (g + 1) 3 1 (.slice a r cap) r ((rootsI L e).map intV)))
            case atStart => exact ⟨0, by omega, rfl, rfl, hgz, HR, HS, HOW⟩
            case round =>
              clear HR HS hgz HOW
              obtain ⟨i, hi, rfl, rfl, hgz, HR, HS, HOW⟩ := hrel
              obtain ⟨wz, rfl⟩ : ∃ wz : World, wz = wr := ⟨_, rfl⟩
              obtain ⟨D, hD⟩ : ∃ D, D = chien L e i := ⟨_, rfl⟩
              have hD8 := chien_lt L e i
              rw [← hD] at hD8
              rw [← hD]
              by_cases hil : i < L.length
              · have hilI : (i : Int) < (L.length : Int) := by omega
                obtain ⟨x, hx⟩ : ∃ x, x = L.getD i 0 := ⟨_, rfl⟩
                have cx : wz.cell? ⟨gn, i, none⟩ = some (.int .i64 (x : Int)) := (HG.out wz HS.out).get hil hx
                have hch : chien L e (i + 1) = if x = 0 then D else D ^^^ expN (chE x i e) := by rw [hx, hD]; rfl
                by_cases h0 : x = 0
                · rw [if_pos h0] at hch
                  have HNX := Lib.hid hch
                  subst h0
                  clear hx hD hch
                  go_wp2_with fail
                  go_roundg (L.length - i - 1)
                  case measure => omega
                  case rel => exact ⟨i + 1, by omega, by go_num, by rw [HNX.out], hgz, HR, HS, HOW⟩
                · rw [if_neg h0] at hch
                  have h0I : ((x : Int) != 0) = true := by simp; omega
                  have hm := chE_eq x i e
                  have hl8 := logN_lt x
                  obtain ⟨l, hl⟩ : ∃ l, l = logN x := ⟨_, rfl⟩
                  have ck : wz.cell? ⟨g, i, none⟩ = some (.int .i64 (l : Int)) := by
                    rw [HR.out.cell i hil]; unfold lrow; rw [if_pos hil, ← hx, ← hl]; rfl
                  rw [← hl] at hm hl8
                  obtain ⟨E, hE⟩ : ∃ E, E = i * e := ⟨_, rfl⟩
                  have hEi : (i : Int) * (e : Int) = (E : Int) := by rw [hE, Int.natCast_mul]
                  have hEl : E ≤ 17 * 100000 := by rw [hE]; exact Nat.mul_le_mul (by omega) (by omega)
                  rw [hEi] at hm
                  have e1 : IntKind.i64.wrap ((i : Int) * (e : Int)) = (E : Int) := by rw [hEi]; exact (IntWalk.i64_left _).trans (IntWalk.wrap64_in _ (by omega))
                  obtain ⟨m, hmm⟩ : ∃ m, m = chE x i e := ⟨_, rfl⟩
                  rw [← hmm] at hm hch
                  obtain ⟨y, hy⟩ : ∃ y, y = expN m := ⟨_, rfl⟩
                  have hy8 : y < 8192 := by rw [hy]; exact expN_lt _
                  have hxo := xor_i64 D y (by omega) (by omega)
                  have HEXP := Lib.hid (Exp_any c 5 ((l : Int) - (E : Int)) m hm (by omega) (by omega) wz (.inr ⟨be, bl, HS.out.cr.field⟩))
                  rw [← hy] at hch HEXP
                  have HNX := Lib.hid hch
                  have hSd := HS.out
                  have HSD := Lib.hid hSd
                  have hRd : NRow wz g L.length (lrow L L.length) := HR.out
                  have HRD := Lib.hid hRd
                  have HOD : Hid (wz.ownsRow (g + 1) 3 1 (.slice a r cap) r ((rootsI L e).map intV)) := HOW
                  have hcg : c < g := by have := HS.out.lc; omega
                  clear hx hD hl hE hEi hm hmm hy hch hSd hRd
                  go_wp2_with (go_at_call 36; refine HEXP.out.mono ?_; rintro e w3 ⟨rfl, hq⟩; have HS3 := Lib.hid (HSD.out.readied hq); have HO3 := Lib.hid (HSD.out.cr.readied hq).2; have ck3 : w3.cell? ⟨g, i, none⟩ = some (.int .i64 (l : Int)) := HO3.out.st.cell (p := ⟨g, i, none⟩) ck hgc; clear hq)
                  all_goals
                    have HR4 : Hid (NRow w3 g L.length (lrow L L.length)) := Lib.hid (Row.only HRD.out HO3.out hgz hgc)
                    have HO4 : Hid (w3.ownsRow (g + 1) 3 1 (.slice a r cap) r ((rootsI L e).map intV)) := Lib.hid (own_stays HOD.out HO3.out.st (fun k hk => by have := (HOD.out.lt k hk).1; show k ≠ c; omega))
                    have hz4 : g < w3.heap.size := by
                      have := HO3.out.st.size
                      try simp at this
                      omega
                    clear ck3 ck cx e1 HEXP HSD HRD HOD HO3
                    go_wp2_with fail
                    go_roundg (L.length - i - 1)
                    case measure => omega
                    case rel => exact ⟨i + 1, by omega, by go_num, by rw [HNX.out], hz4, HR4, HS3, HO4⟩
              · obtain rfl : i = L.length := by omega
                have hilI : ¬ (L.length : Int) < (L.length : Int) := by omega
                have hru : rootsI L (e + 1) = if (rootsI L e).length < L.length ∧ D = 0 then rootsI L e ++ [e] else rootsI L e := by rw [hD]; rfl
                rw [← HRL.out] at hru
                by_cases h0 : D = 0
                · rw [if_pos ⟨hrL, h0⟩] at hru
                  have HNX := Lib.hid hru
                  subst h0
                  clear hru hD
                  go_wp2_with (at_builtin; refine wpList_append_own _ rfl _ _ 34 rfl (g + 1) 3 i0 (.int .i64 0) 1 8 (by kernel_rfl) hi0 hz0 hz1 hz2 rfl (by decide) _ _ _ rfl (HOW.out.alloc _) ⟨wz.heap.size, 0, none⟩ 1 1 [.int .i64 (e : Int)] rfl rfl ?c1 ?c2 ?c3 ?c4 ?c5 ?_)
                  case c2 => rfl
                  case c3 => unfold maxLen; omega
                  case c4 => omega
                  case c5 => first | omega | (simp; omega)
                  intro v' w4 hown' hgrow _
                  have hbel : Below (g + 1) wz w4 := ((Below.refl _ _).alloc (by omega) _).grown hgrow (by simp; omega) (fun q hq => (HOW.out.lt q hq).1)
                  have HST4 : Hid (Stays (fun q => g + 1 ≤ q) wz w4) := Lib.hid ⟨hbel.os, hbel.tape, hbel.output, hbel.size, fun i _ hn => hbel.block i (by omega)⟩
                  have HR4 : Hid (NRow w4 g L.length (lrow L L.length)) := Lib.hid (Row.stays HR.out HST4.out hgz (by omega))
                  have HS4 : Hid (SynSt w w4 c t chunk gl be bl) := Lib.hid (HS.out.new HST4.out (fun q hq => by omega))
                  have hz4 : g < w4.heap.size := by have := hbel.size; omega
                  have HO4 : Hid (w4.ownsRow (g + 1) 3 1 v' (rootsI L (e + 1)).length ((rootsI L (e + 1)).map intV)) := Lib.hid (by
                    rw [HNX.out, List.length_append, List.map_append, ← HRL.out]
                    exact hown')
                  clear hown' hgrow hbel HST4 HOW HR HS HNX
                  go_wp2_with fail
                  go_roundg (n - e - 1)
                  case measure => omega
                  case rel => exact ⟨e + 1, by omega, by go_num, hz4, HR4, HS4, HO4⟩
                · rw [if_neg (fun h => h0 h.2)] at hru
                  have HNX := Lib.hid hru
                  have h0I : ((D : Int) == 0) = false := by simp; omega
                  clear hru hD
                  go_wp2_with fail
                  go_roundg (n - e - 1)
                  case measure => omega
                  case rel => exact ⟨e + 1, by omega, by go_num, hgz, HR, HS, by rw [HNX.out, ← HRL.out]; exact HOW⟩
          · have hrLI : ¬ (r : Int) < (L.length : Int) := by omega
            have HFULL : Hid (rootsI L n = rootsI L e) := Lib.hid (by
              have h1 := rootsI_full L e (n - e) (by rw [← HRL.out]; omega)
              rwa [show e + (n - e) = n by omega] at h1)
            go_wp2_with fail
            go_ret
            exact ⟨_, rfl, by rw [HFULL.out, ← HRL.out]; exact own_mono (by first | exact HOW.out | exact World.ownsRow.drew HOW.out) (by omega), by first | exact HS.out | exact HS.out.drew⟩
        · obtain rfl : e = n := by omega
          have henI : ¬ (e : Int) < (e : Int) := by omega
          go_wp2_with fail
          go_ret
          exact ⟨_, rfl, by rw [← HRL.out]; exact own_mono (by first | exact HOW.out | exact World.ownsRow.drew HOW.out) (by omega), by first | exact HS.out | exact HS.out.drew⟩
end Go.Proofs.Ytldekkniammllaa
