/- slices.Equal, IndexFunc and ContainsFunc over lists of exponents none of which is the one that is sought. -/
import Derived.Test.YtldekkniammllaaPolC
namespace Go.Proofs.Ytldekkniammllaa
open Go.RowKit
set_option linter.unusedVariables false
set_option linter.unusedSimpArgs false

set_option maxHeartbeats 3200000 in
theorem equal_no (a b ca cb : Nat) (L M : List Nat) (hne : L ≠ M) (w : World) (hL : IntsAt w a L) (hM : IntsAt w b M) (h1 : L.length ≤ 1000) (h2 : M.length ≤ 1000) :
    Calls Try.prog 46 #[.slice (some ⟨a, 0, none⟩) L.length ca, .slice (some ⟨b, 0, none⟩) M.length cb] w fun e w' => e = .returned (.bool false) ∧ Stays (fun _ => False) w w' := by
  obtain ⟨m, hm⟩ : ∃ m, m = L.length := ⟨_, rfl⟩
  obtain ⟨n, hn⟩ : ∃ n, n = M.length := ⟨_, rfl⟩
  have HL := Lib.hid hL
  have HM := Lib.hid hM
  have HNE := Lib.hid hne
  rw [← hm] at h1
  rw [← hn] at h2
  rw [← hm, ← hn]
  have Hm := Lib.hid hm
  have Hn := Lib.hid hn
  clear hL hM hm hn hne
  by_cases hmn : m = n
  · have hd : decide ((m : Int) = (n : Int)) = true := by simp; omega
    subst hmn
    go_enter Try.func46, Try.ntmps46
    go_wp2_with fail
    go_loopw [13] (fun i wr => ∃ k : Nat, k ≤ m ∧ i = .int .i64 (k : Int) ∧ Hid (L.take k = M.take k) ∧ Hid (Stays (fun _ => False) w wr)) (fun i _ => m - (intOf i).toNat)
    case atStart => exact ⟨0, Nat.zero_le _, rfl, Lib.hid rfl, Lib.hid (Stays.refl _ _)⟩
    case round =>
      obtain ⟨k, hk, rfl, HT, HS⟩ := hrel
      obtain ⟨wq, rfl⟩ : ∃ wq : World, wq = wr := ⟨_, rfl⟩
      by_cases hlt : k < m
      · have c1 : wq.cell? ⟨a, k, none⟩ = some (.int .i64 ((L.getD k 0 : Nat) : Int)) := HS.out.cell (HL.out k (by have := Hm.out; omega)) id
        have c2 : wq.cell? ⟨b, k, none⟩ = some (.int .i64 ((M.getD k 0 : Nat) : Int)) := HS.out.cell (HM.out k (by have := Hn.out; omega)) id
        obtain ⟨x, hx⟩ : ∃ x, x = L.getD k 0 := ⟨_, rfl⟩
        obtain ⟨y, hy⟩ : ∃ y, y = M.getD k 0 := ⟨_, rfl⟩
        rw [← hx] at c1
        rw [← hy] at c2
        have HX := Lib.hid hx
        have HY := Lib.hid hy
        clear hx hy
        by_cases hxy : x = y
        · have hb : (((x : Nat) : Int) != ((y : Nat) : Int)) = false := by simp; omega
          have hlt2 : (k : Int) < (m : Int) := by omega
          have HXY := Lib.hid hxy
          clear hxy
          go_wp2_with fail
          go_quiet (fail)
          go_wp2_with fail
          go_roundw
          case rel =>
            refine ⟨k + 1, by omega, by go_num, Lib.hid ?_, Lib.hid (HS.out.drewN _)⟩
            have e1 := Hm.out
            have e2 := Hn.out
            have e3 := HX.out
            have e4 := HY.out
            rw [List.getD_eq_getElem?_getD, List.getElem?_eq_getElem (by omega)] at e3 e4
            rw [List.take_add_one, List.take_add_one, HT.out, List.getElem?_eq_getElem (by omega), List.getElem?_eq_getElem (by omega)]
            simp only [Option.getD_some] at e3 e4
            rw [← e3, ← e4, HXY.out]
          case measure => simp [intOf]; omega
        · have hb : (((x : Nat) : Int) != ((y : Nat) : Int)) = true := by simp; omega
          have hlt2 : (k : Int) < (m : Int) := by omega
          have HXY := Lib.hid hxy
          clear hxy
          go_wp2_with fail
          go_quiet (fail)
          go_wp2_with fail
          go_ret
          exact ⟨rfl, HS.out.drewN _⟩
      · obtain rfl : k = m := by omega
        exfalso
        have e := HT.out
        rw [List.take_of_length_le (by have := Hm.out; omega), List.take_of_length_le (by have := Hn.out; omega)] at e
        exact HNE.out e
  · have hd : (((m : Nat) : Int) != ((n : Nat) : Int)) = true := by simp; omega
    go_enter Try.func46, Try.ntmps46
    go_wp2_with fail
    go_ret
    exact ⟨rfl, Stays.refl _ _⟩

theorem gen1_no (a b p ca cb : Nat) (L M : List Nat) (hne : L ≠ M) (w : World) (hL : IntsAt w a L) (hM : IntsAt w b M) (h1 : L.length ≤ 1000) (h2 : M.length ≤ 1000) (hp : w.cell? ⟨p, 0, none⟩ = some (.slice (some ⟨b, 0, none⟩) M.length cb)) :
    Calls Try.prog 45 #[.slice (some ⟨a, 0, none⟩) L.length ca, .pointer (some ⟨p, 0, none⟩)] w fun e w' => e = .returned (.bool false) ∧ Stays (fun _ => False) w w' := by
  have HC := Lib.hid (equal_no a b ca cb L M hne w hL hM h1 h2)
  go_enter Try.func45, Try.ntmps45
  go_wp2_with (go_at_call 46; refine HC.out.mono ?_; rintro e w' ⟨rfl, hs⟩)
  go_ret
  exact ⟨rfl, hs⟩

/-- What was seen: lists, each at the head of a block, none of them M. -/
def SeenNo (w : World) (M : List Nat) (vs : List Value) : Prop := ∀ i, i < vs.length → ∃ a c L, vs[i]? = some (.slice (some ⟨a, 0, none⟩) L.length c) ∧ IntsAt w a L ∧ L ≠ M ∧ L.length ≤ 1000
theorem SeenNo.stays {w w' : World} {M : List Nat} {vs : List Value} (h : SeenNo w M vs) (k : Stays (fun _ => False) w w') : SeenNo w' M vs := fun i hi => by
  obtain ⟨a, c, L, h1, h2, h3⟩ := h i hi
  exact ⟨a, c, L, h1, h2.stays k id, h3⟩

set_option maxHeartbeats 3200000 in
theorem index_no (b p cb : Nat) (M : List Nat) (B : Nat) (sv : Value) (vs : List Value) (w : World) (ho : w.ownsRow B 76 1 sv vs.length vs) (hs : SeenNo w M vs) (hM : IntsAt w b M) (h2 : M.length ≤ 1000) (hv : vs.length ≤ 1000)
    (hp : w.cell? ⟨p, 0, none⟩ = some (.slice (some ⟨b, 0, none⟩) M.length cb)) :
    Calls Try.prog 63 #[sv, .func (.func 45) #[] #[.pointer (some ⟨p, 0, none⟩)]] w fun e w' => e = .returned (.int .i64 (-1)) ∧ Stays (fun _ => False) w w' := by
  obtain ⟨ad, c, hsv⟩ : ∃ ad c, sv = .slice ad vs.length c := by
    rcases ho.2 with ⟨h, h0⟩ | ⟨g, cap, cur, h, _⟩
    · exact ⟨_, _, by rw [h, h0]⟩
    · exact ⟨_, cap, h⟩
  have hcells : ∀ i, i < vs.length → ∃ g, ad = some ⟨g, 0, none⟩ ∧ w.cell? ⟨g, i, none⟩ = vs[i]? := by
    intro i hi
    rcases ho.2 with ⟨h, h0⟩ | ⟨g, cap, cur, h, _⟩
    · omega
    · refine ⟨g, ?_, ?_⟩
      · rw [hsv] at h; injection h
      · have h' := ho
        rw [h] at h'
        exact h'.cellAt i (by omega)
  subst hsv
  obtain ⟨n, hn⟩ : ∃ n, n = vs.length := ⟨_, rfl⟩
  rw [← hn] at hv ⊢
  have HN := Lib.hid hn
  have HC := Lib.hid hcells
  have HSN := Lib.hid hs
  have HM := Lib.hid hM
  have HP := Lib.hid hp
  have Hh2 := Lib.hid h2
  clear hn hcells hs hM hp ho h2
  go_enter Try.func63, Try.ntmps63
  go_wp2_with fail
  go_loopw [8] (fun i wr => ∃ k : Nat, k ≤ n ∧ i = .int .i64 (k : Int) ∧ Hid (Stays (fun _ => False) w wr)) (fun i _ => n - (intOf i).toNat)
  case atStart => exact ⟨0, Nat.zero_le _, rfl, Lib.hid (Stays.refl _ _)⟩
  case round =>
    obtain ⟨k, hk, rfl, HS⟩ := hrel
    obtain ⟨wq, rfl⟩ : ∃ wq : World, wq = wr := ⟨_, rfl⟩
    by_cases hlt : k < n
    · obtain ⟨g, rfl, hc⟩ := HC.out k (by have := HN.out; omega)
      obtain ⟨a, c', L, e1, e2, e3, e4⟩ := HSN.out k (by have := HN.out; omega)
      rw [e1] at hc
      have hcq : wq.cell? ⟨g, k, none⟩ = some (.slice (some ⟨a, 0, none⟩) L.length c') := HS.out.cell hc id
      have HG := Lib.hid (gen1_no a b p c' cb L M e3 wq (e2.stays HS.out id) (HM.out.stays HS.out id) e4 Hh2.out (HS.out.cell HP.out id))
      have hlt2 : (k : Int) < (n : Int) := by omega
      clear e1 e2 e3 hc
      go_wp2_with (go_at_call 45; refine HG.out.mono ?_; rintro e w' ⟨rfl, hs⟩)
      have HS2 := Lib.hid (HS.out.trans hs)
      clear hs
      go_wp2_with fail
      go_roundw
      case rel => exact ⟨k + 1, by omega, by go_num, HS2⟩
      case measure => simp [intOf]; omega
    · obtain rfl : k = n := by omega
      go_wp2_with fail
      go_ret
      exact ⟨rfl, HS.out⟩

theorem seen_no (b p cb : Nat) (M : List Nat) (B : Nat) (sv : Value) (vs : List Value) (w : World) (ho : w.ownsRow B 76 1 sv vs.length vs) (hs : SeenNo w M vs) (hM : IntsAt w b M) (h2 : M.length ≤ 1000) (hv : vs.length ≤ 1000)
    (hp : w.cell? ⟨p, 0, none⟩ = some (.slice (some ⟨b, 0, none⟩) M.length cb)) :
    Calls Try.prog 44 #[sv, .func (.func 45) #[] #[.pointer (some ⟨p, 0, none⟩)]] w fun e w' => e = .returned (.bool false) ∧ Stays (fun _ => False) w w' := by
  have HC := Lib.hid (index_no b p cb M B sv vs w ho hs hM h2 hv hp)
  clear ho hs hM hp
  go_enter Try.func44, Try.ntmps44
  go_wp2_with (go_at_call 63; refine HC.out.mono ?_; rintro e w' ⟨rfl, hs⟩)
  go_ret
  exact ⟨rfl, hs⟩
end Go.Proofs.Ytldekkniammllaa
