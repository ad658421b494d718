/- The document's minimal polynomial: the walk. -/
import Derived.Test.YtldekkniammllaaRefA
import Derived.Test.YtldekkniammllaaRefP
import Derived.Test.YtldekkniammllaaPolE
import Derived.Laws.AppendOwnNone
namespace Go.Proofs.Ytldekkniammllaa
open Go.RowKit
set_option linter.unusedVariables false
set_option linter.unusedSimpArgs false

theorem Below.drewN' {B : Nat} {a b : World} (h : Below B a b) (n : Nat) : Below B a (b.drewN n) := ⟨h.os, h.tape, h.output, h.size, h.block⟩
theorem grown_refl (w : World) (row : Option Nat) : w.grownBy w row := ⟨rfl, rfl, rfl, Nat.le_refl _, fun _ _ _ => rfl⟩
/-- 'append(dst, src...)' of numbers, whatever the source. -/
theorem append_ints {w : World} {ops : Array Oper} {rest : List Oper} {o : Oper} {a : Act} {Q : Exit → Act → World → Prop} (hgd : o.guard = none) (s x : Operand)
    (ho : o.op = Op.call { callee := Callee.builtin Builtin.append, args := #[s, x], argTypes := #[34, 34] }) (B : Nat) (v : Value) (n : Nat) (xs : List Value) (hs : a.eval s = v)
    (hown : w.ownsRow B 3 1 v n xs) (ao : Option Addr) (m c : Nat) (hx : a.eval x = .slice ao m c) (news : List Nat) (hl : news.length = m)
    (hcells : ∀ ad, ao = some ad → ∀ j, j < m → w.cell? (ad.add j) = some (intV (news.getD j 0))) (hnone : ao = none → m = 0 ∧ c = 0) (hb : n + m ≤ 1000000) (hbase : B ≤ w.heap.size)
    (h : ∀ v' w', w'.ownsRow B 3 1 v' (n + m) (xs ++ news.map intV) → w.grownBy w' v.ownBlock → wpList Try.prog ops Q rest (a.put o.dst v') w') : wpList Try.prog ops Q (o :: rest) a w := by
  obtain ⟨i0, hi, hz0, hz1, hz2⟩ := info_parts info_int
  cases ao with
  | none =>
    obtain ⟨rfl, rfl⟩ := hnone rfl
    obtain rfl : news = [] := List.length_eq_zero_iff.mp hl
    refine wpList_append_own_none hgd s x 34 ho B 3 i0 1 (by kernel_rfl) hi v n xs hs hown hx ?_
    exact h v w (by simpa using hown) (grown_refl _ _)
  | some ad =>
    refine wpList_append_own w hgd s x 34 ho B 3 i0 (.int .i64 0) 1 8 (by kernel_rfl) hi hz0 hz1 hz2 rfl (by decide) v n xs hs hown ad m c (news.map intV) hx (by rw [List.length_map, hl, Nat.mul_one]) (fun j u hj => ?_) (fun u hu => ?_) (by unfold maxLen; omega) (by omega) hbase (fun v' w' h1 h2 _ => h v' w' h1 h2)
    · rw [List.getElem?_map] at hj
      cases hj2 : news[j]? with
      | none => rw [hj2] at hj; cases hj
      | some y =>
        rw [hj2] at hj
        have hjm : j < m := by
          rcases Nat.lt_or_ge j news.length with h | h
          · omega
          · rw [List.getElem?_eq_none h] at hj2; cases hj2
        rw [hcells ad rfl j hjm, List.getD_eq_getElem?_getD, hj2]
        exact hj
    · obtain ⟨y, _, rfl⟩ := List.mem_map.mp hu
      rfl
theorem addr_add (g o j : Nat) : (⟨g, o, none⟩ : Addr).add j = ⟨g, o + j, none⟩ := by
  cases j with
  | zero => rfl
  | succ j => simp [Addr.add]
theorem drop_cells {B g i t : Nat} {L : List Nat} {wz W : World} (h : ∀ (W : World), Below B wz W → ∀ j, j < i → W.cell? ⟨g, j, none⟩ = some (intV (L.getD j 0))) (hb : Below B wz W) :
    ∀ ad, some (⟨g, t, none⟩ : Addr) = some ad → ∀ j, j < i - t → W.cell? (ad.add j) = some (intV ((L.drop t).getD j 0)) := by
  intro ad had j hj
  injection had with had
  subst had
  rw [addr_add, h W hb (t + j) (by omega), List.getD_eq_getElem?_getD, List.getD_eq_getElem?_getD, List.getElem?_drop]
theorem take_cells {B g i t : Nat} {L : List Nat} {wz W : World} (h : ∀ (W : World), Below B wz W → ∀ j, j < i → W.cell? ⟨g, j, none⟩ = some (intV (L.getD j 0))) (hb : Below B wz W) (ht : t ≤ i) :
    ∀ ad, some (⟨g, 0, none⟩ : Addr) = some ad → ∀ j, j < t → W.cell? (ad.add j) = some (intV ((L.take t).getD j 0)) := by
  intro ad had j hj
  injection had with had
  subst had
  rw [addr_add, Nat.zero_add, h W hb j (by omega), List.getD_eq_getElem?_getD, List.getD_eq_getElem?_getD, List.getElem?_take_of_lt hj]
theorem put_own {w w' : World} {B B' i t v : Nat} {r : Value} {R L : List Nat} (h : w.ownsRow B 3 1 r (0 + t + 1 + (i - t)) ([] ++ (R.take t).map intV ++ ([v] : List Nat).map intV ++ (R.drop t).map intV)) (k : Stays (fun _ => False) w w') (ht : t ≤ i) (hB : B' ≤ B) (hL : L = putAt R t v) :
    w'.ownsRow B' 3 1 r (i + 1) (L.map intV) := by
  have h' := own_mono (own_stays h k (fun _ _ e => e)) hB
  have e1 : 0 + t + 1 + (i - t) = i + 1 := by omega
  have e2 : ([] ++ (R.take t).map intV ++ ([v] : List Nat).map intV ++ (R.drop t).map intV) = L.map intV := by
    rw [hL]; unfold putAt; simp
  rw [e1, e2] at h'
  exact h'
theorem put_own0 {w w' : World} {B B' t v : Nat} {r : Value} {R L : List Nat} (h : w.ownsRow B 3 1 r (0 + t + 1 + 0) ([] ++ (R.take t).map intV ++ ([v] : List Nat).map intV ++ (R.drop t).map intV)) (k : Stays (fun _ => False) w w') (hB : B' ≤ B) (hL : L = putAt R t v) :
    w'.ownsRow B' 3 1 r (t + 1) (L.map intV) := put_own (i := t) (by rw [Nat.sub_self]; exact h) k (Nat.le_refl _) hB hL
theorem own_cap {w : World} {B e n n' cap : Nat} {a : Option Addr} {xs : List Value} (h : w.ownsRow B e 1 (.slice a n cap) n' xs) : n' ≤ cap := by
  rcases h.2 with ⟨h1, h2⟩ | ⟨g, c, cur, h1, _, _, h2, _⟩
  · omega
  · injection h1 with _ _ h3
    omega
theorem one_cell (w : World) (v : Nat) : ∀ ad, some (⟨w.heap.size, 0, none⟩ : Addr) = some ad → ∀ j, j < 1 → (w.alloc (.cells #[.int .i64 ((v : Nat) : Int)] 3)).cell? (ad.add j) = some (intV (([v] : List Nat).getD j 0)) := by
  intro ad had j hj
  injection had with had
  subst had
  obtain rfl : j = 0 := by omega
  simp [Addr.add]
  rfl
theorem exp_powR {k : Nat} (h : k < 16) : powR 1000 1 2 k = expN k := (by decide +kernel : ∀ k, k < 16 → powR 1000 1 2 k = expN k) k h
theorem wrap_pow_i64 {d : Nat} (h : d < 63) : IntKind.i64.wrap ((2 : Int) ^ d) = ((2 ^ d : Nat) : Int) := by
  have h1 : 2 ^ d < 2 ^ 63 := Nat.pow_lt_pow_right (by decide) h
  have h2 : ((2 ^ d : Nat) : Int) = (2 : Int) ^ d := by simp
  rw [← h2, IntKind.wrap_i64]
  generalize 2 ^ d = p at *
  omega

set_option maxHeartbeats 6400000 in
set_option maxRecDepth 100000 in
theorem rminimal_any (k A : Nat) (hk : k < 16) (hD : MinD (expN k) A) (w : World) :
    Calls Try.prog 33 #[.int .i64 (k : Int)] w fun e w' => ∃ v, e = .returned v ∧ PolyIn w' w.heap.size v A ∧ Below w.heap.size w w' := by
  obtain ⟨x, hx⟩ : ∃ x, x = expN k := ⟨_, rfl⟩
  have hxp := exp_powR hk
  rw [← hx] at hD hxp
  have HD := Lib.hid hD
  have HEX := Lib.hid (rexp_any k x (by omega) hxp)
  have hx8 := hD.lt
  clear hD hx hxp
  go_enter Try.func33, Try.ntmps33
  go_wp2_with (go_at_call 48; refine (HEX.out _).mono ?_; rintro e w' ⟨rfl, hw'⟩; obtain rfl := hw'.symm)
  go_loopw [4, 5, 6, 7] (fun rv mv pv dv wr => ∃ (d p : Nat), d ≤ 13 ∧ dv = .int .i64 (d : Int) ∧ pv = .int .i64 (p : Int) ∧ Hid (p = (stD x d).2.2) ∧ Hid (wr.ownsRow w.heap.size 3 1 rv d ((stD x d).1.map intV)) ∧ Hid (wr.ownsRow w.heap.size 3 1 mv d ((stD x d).2.1.map intV)) ∧ Hid (Below w.heap.size w wr) ∧ Hid (d = 0 → rv = .slice none 0 0 ∧ mv = .slice none 0 0)) (fun _ _ _ dv _ => 14 - (intOf dv).toNat)
  case atStart => exact ⟨0, 1, by omega, rfl, rfl, Lib.hid rfl, Lib.hid (World.ownsRow_nil _ _ _ _), Lib.hid (World.ownsRow_nil _ _ _ _), Lib.hid (Below.refl _ _), Lib.hid (fun _ => ⟨rfl, rfl⟩)⟩
  case round =>
    obtain ⟨d, p, hd, rfl, rfl, HP, HR, HM, HB, HNIL⟩ := hrel
    obtain ⟨wq, rfl⟩ : ∃ wq : World, wq = wr := ⟨_, rfl⟩
    clear HEX
    have hp8 := HD.out.pw d hd
    rw [← HP.out] at hp8
    have hwp := wrap_pow_i64 (d := d) (by omega)
    have hdd : decide ((d : Int) ≤ 13) = true := by simp; omega
    obtain ⟨hRl, hMl⟩ := stD_lengths x d
    have hrows := HD.out.rows d hd
    obtain ⟨R, hR⟩ : ∃ R, R = (stD x d).1 := ⟨_, rfl⟩
    obtain ⟨M, hM⟩ : ∃ M, M = (stD x d).2.1 := ⟨_, rfl⟩
    have hredD : redD x d = red R M p (2 ^ d) d := by rw [hR, hM, HP.out]; rfl
    rw [← hR] at hRl HR hrows
    rw [← hM] at hMl HM hrows
    have hm14 : 2 ^ d < 16384 := Nat.lt_of_lt_of_le (Nat.pow_lt_pow_right (by decide) (show d < 14 by omega)) (by decide)
    have hst1 : stD x (d + 1) = (putAt R (posF R (redD x d).1) (redD x d).1, putAt M (posF R (redD x d).1) (redD x d).2, mulP x p) := by rw [hR, hM, HP.out]; rfl
    have HRD := Lib.hid hredD
    have HST := Lib.hid hst1
    have HRL := Lib.hid hRl
    have HML := Lib.hid hMl
    have HROWS := Lib.hid hrows
    obtain ⟨m0, hm0⟩ : ∃ m0, m0 = 2 ^ d := ⟨_, rfl⟩
    rw [← hm0] at hwp hm14 HRD
    have HM0 := Lib.hid hm0
    clear hR hM hredD hst1 hRl hMl hrows HP hm0
    by_cases hd0 : d = 0
    · subst hd0
      obtain rfl : m0 = 1 := HM0.out
      obtain ⟨hn1, hn2⟩ := HNIL.out rfl
      subst hn1 hn2
      have hR0 : R = [] := List.length_eq_zero_iff.mp HRL.out
      have hM0' : M = [] := List.length_eq_zero_iff.mp HML.out
      have hst : stD x 1 = ([p], [1], mulP x p) := by
        have := HST.out
        rw [HRD.out, hR0, hM0'] at this
        exact this
      have hp0 : p ≠ 0 := by
        have := HD.out.nz 0 (by omega)
        rw [HRD.out] at this
        exact this
      have hpz : ((p : Int) == 0) = false := by simp; omega
      have HST2 := Lib.hid hst
      clear hR0 hM0' hst hp0 HNIL
      go_wp2_with fail
      go_quiet (fail)
      go_wp2_with fail
      refine wp_loop_rounds 1 ?_
      rw [rounds_succ]
      go_wp2_with fail
      refine wp_loop_rounds 1 ?_
      rw [rounds_succ]
      obtain ⟨wz, hwz⟩ : ∃ wz : World, wz = wq.drewN nq := ⟨_, rfl⟩
      rw [← hwz]
      have HB2 : Hid (Below w.heap.size w wz) := Lib.hid (by rw [hwz]; exact Below.drewN' HB.out _)
      clear hwz
      go_wp2_with (first | (at_builtin; refine append_ints rfl (.tmp 81) (.tmp 84) rfl wz.heap.size (.slice none 0 0) 0 [] rfl (World.ownsRow_nil _ _ _ _) none 0 0 rfl [] rfl (fun _ h => by cases h) (fun _ => ⟨rfl, rfl⟩) (by omega) (Nat.le_refl _) ?_; intro r1 w1 ho1 hg1; have HB1 : Hid (Below wz.heap.size wz w1) := Lib.hid ((Below.refl _ _).grown hg1 (Nat.le_refl _) (fun q hq => by simp [Value.ownBlock] at hq))) | (at_builtin; refine append_ints rfl (.tmp 86) (.tmp 88) rfl wz.heap.size r1 _ _ rfl (ho1.alloc _) (some ⟨w1.heap.size, 0, none⟩) 1 1 rfl [p] rfl (one_cell _ _) (fun h => by cases h) (by omega) (by have := HB1.out.size; simp; omega) ?_; intro r2 w2 ho2 hg2; have HB2' : Hid (Below wz.heap.size wz w2) := Lib.hid ((HB1.out.alloc HB1.out.size _).grown hg2 (by have := HB1.out.size; simp; omega) (fun q hq => (ho1.lt q hq).1))) | (at_builtin; refine append_ints rfl (.tmp 90) (.tmp 93) rfl wz.heap.size r2 _ _ rfl ho2 none 0 0 rfl [] rfl (fun _ h => by cases h) (fun _ => ⟨rfl, rfl⟩) (by omega) HB2'.out.size ?_; intro r3 w3 ho3 hg3; have HB3 : Hid (Below wz.heap.size wz w3) := Lib.hid (HB2'.out.grown hg3 HB2'.out.size (fun q hq => (ho2.lt q hq).1)); have HO3 := Lib.hid ho3) | (at_builtin; refine append_ints rfl (.tmp 95) (.tmp 98) rfl w3.heap.size (.slice none 0 0) 0 [] rfl (World.ownsRow_nil _ _ _ _) none 0 0 rfl [] rfl (fun _ h => by cases h) (fun _ => ⟨rfl, rfl⟩) (by omega) (Nat.le_refl _) ?_; intro r4 w4 ho4 hg4; have HB4 : Hid (Below w3.heap.size w3 w4) := Lib.hid ((Below.refl _ _).grown hg4 (Nat.le_refl _) (fun q hq => by simp [Value.ownBlock] at hq))) | (at_builtin; refine append_ints rfl (.tmp 100) (.tmp 102) rfl w3.heap.size r4 _ _ rfl (ho4.alloc _) (some ⟨w4.heap.size, 0, none⟩) 1 1 rfl [1] rfl (one_cell _ 1) (fun h => by cases h) (by omega) (by have := HB4.out.size; simp; omega) ?_; intro r5 w5 ho5 hg5; have HB5 : Hid (Below w3.heap.size w3 w5) := Lib.hid ((HB4.out.alloc HB4.out.size _).grown hg5 (by have := HB4.out.size; simp; omega) (fun q hq => (ho4.lt q hq).1))) | (at_builtin; refine append_ints rfl (.tmp 104) (.tmp 107) rfl w3.heap.size r5 _ _ rfl ho5 none 0 0 rfl [] rfl (fun _ h => by cases h) (fun _ => ⟨rfl, rfl⟩) (by omega) HB5.out.size ?_; intro r6 w6 ho6 hg6; have HB6 : Hid (Below w3.heap.size w3 w6) := Lib.hid (HB5.out.grown hg6 HB5.out.size (fun q hq => (ho5.lt q hq).1))) | (go_at_call 49; (with_reducible refine (rmul_any p x hp8 hx8 _).mono ?_); rintro e w' ⟨rfl, rfl⟩))
      have HOM := Lib.hid ho6
      have hz6 := HB2.out.size
      have hz3 := HB3.out.size
      clear ho1 hg1 ho2 hg2 ho3 hg3 ho4 hg4 ho5 hg5 ho6 hg6
      go_roundw
      case rel => exact ⟨1, mulP x p, by omega, by go_num, rfl, Lib.hid (by rw [HST2.out]), Lib.hid (by rw [HST2.out]; exact own_mono (own_stays HO3.out (Stays.of_below HB6.out) (fun _ _ e => e)) hz6), Lib.hid (by rw [HST2.out]; exact own_mono HOM.out (by omega)), Lib.hid (HB2.out.trans ((HB3.out.trans (HB6.out.mono hz3)).mono hz6)), Lib.hid (fun h => by omega)⟩
      case measure => simp [intOf]
    · obtain ⟨gr, cr, hrv, hgr1, hgr2, hri, _⟩ := own_ints (L := R) (by rw [HRL.out]; exact HR.out) (fun e => hd0 (by rw [← HRL.out, e]; rfl))
      obtain ⟨gm, cm, hmv, hgm1, hgm2, hmi, _⟩ := own_ints (L := M) (by rw [HML.out]; exact HM.out) (fun e => hd0 (by rw [← HML.out, e]; rfl))
      subst hrv hmv
      have hcr : d ≤ cr := own_cap HR.out
      have hcm : d ≤ cm := own_cap HM.out
      rw [HRL.out, HML.out]
      have HRI := Lib.hid hri
      have HMI := Lib.hid hmi
      clear hri hmi
      go_wp2_with fail
      go_quiet (fail)
      go_wp2_with fail
      obtain ⟨wz, hwz⟩ : ∃ wz : World, wz = wq.drewN nq := ⟨_, rfl⟩
      rw [← hwz]
      have HRI2 : Hid (IntsAt wz gr R) := Lib.hid (by rw [hwz]; exact HRI.out)
      have HMI2 : Hid (IntsAt wz gm M) := Lib.hid (by rw [hwz]; exact HMI.out)
      have HB2 : Hid (Below w.heap.size w wz) := Lib.hid (by rw [hwz]; exact Below.drewN' HB.out _)
      have hgz : gr < wz.heap.size ∧ gm < wz.heap.size := by rw [hwz]; exact ⟨hgr2, hgm2⟩
      obtain ⟨hgr3, hgm3⟩ := hgz
      clear hwz HRI HMI HB HR HM
      go_loop [8, 9, 10] (fun vv mv iv => ∃ (i v m : Nat), i ≤ d ∧ iv = .int .i64 (i : Int) ∧ vv = .int .i64 (v : Int) ∧ mv = .int .i64 (m : Int) ∧ Hid ((v, m) = red R M p m0 i) ∧ v < 8192 ∧ m < 16384) (fun _ _ iv => d - (intOf iv).toNat)
      case atStart => exact ⟨0, p, m0, by omega, rfl, rfl, rfl, Lib.hid rfl, hp8, hm14⟩
      case round =>
        obtain ⟨i, v, m, hid, rfl, rfl, rfl, HV, hv8, hm4⟩ := hrel
        by_cases hi : i < d
        · have c1 : wz.cell? ⟨gr, i, none⟩ = some (intV (R.getD i 0)) := HRI2.out i (by rw [HRL.out]; exact hi)
          have c2 : wz.cell? ⟨gm, i, none⟩ = some (intV (M.getD i 0)) := HMI2.out i (by rw [HML.out]; exact hi)
          obtain ⟨hr8, hm8⟩ := HROWS.out i (by omega)
          have hstep : red R M p m0 (i + 1) = if v ^^^ R.getD i 0 < v then (v ^^^ R.getD i 0, m ^^^ M.getD i 0) else (v, m) := by
            show (let s := red R M p m0 i; if s.1 ^^^ R.getD i 0 < s.1 then (s.1 ^^^ R.getD i 0, s.2 ^^^ M.getD i 0) else s) = _
            rw [← HV.out]
          obtain ⟨y, hy⟩ : ∃ y, y = R.getD i 0 := ⟨_, rfl⟩
          obtain ⟨z, hz⟩ : ∃ z, z = M.getD i 0 := ⟨_, rfl⟩
          rw [← hy] at c1 hr8 hstep
          rw [← hz] at c2 hm8 hstep
          unfold intV at c1 c2
          have hx1 := xor_i64 v y (by omega) (by omega)
          have hx2 := xor_i64 m z (by omega) (by omega)
          have hxl : v ^^^ y < 8192 := Nat.xor_lt_two_pow (n := 13) hv8 hr8
          have hxm : m ^^^ z < 16384 := Nat.xor_lt_two_pow (n := 14) hm4 hm8
          obtain ⟨v', hv'⟩ : ∃ v', v' = v ^^^ y := ⟨_, rfl⟩
          obtain ⟨m', hm'⟩ : ∃ m', m' = m ^^^ z := ⟨_, rfl⟩
          rw [← hv'] at hx1 hxl hstep
          rw [← hm'] at hx2 hxm hstep
          have HSTEP := Lib.hid hstep
          clear hstep hy hz hv' hm'
          by_cases hlt : v' < v
          · go_wp2_with fail
            go_round
            case rel => exact ⟨i + 1, v', m', by omega, by go_num, rfl, rfl, Lib.hid (by rw [HSTEP.out, if_pos hlt]), hxl, hxm⟩
            case measure => simp [intOf]; omega
          · go_wp2_with fail
            go_round
            case rel => exact ⟨i + 1, v, m, by omega, by go_num, rfl, rfl, Lib.hid (by rw [HSTEP.out, if_neg hlt]), hv8, hm4⟩
            case measure => simp [intOf]; omega
        · obtain rfl : i = d := by omega
          have hvm : (v, m) = redD x i := by rw [HV.out, HRD.out]
          have HVM := Lib.hid hvm
          clear HV hvm
          by_cases h13 : i = 13
          · have hv0 : v = 0 := by
              have := congrArg Prod.fst HVM.out
              rw [h13, HD.out.z] at this
              exact this
            subst hv0 h13
            have hmx : bl 14 m = terms A := by
              have := congrArg Prod.snd HVM.out
              rw [show m = _ from this]
              exact HD.out.mix
            have hbll := bl_length 14 m
            obtain ⟨F, hF⟩ : ∃ F, F = bl 14 m := ⟨_, rfl⟩
            rw [← hF] at hmx hbll
            have HF := Lib.hid hF
            have HMX := Lib.hid hmx
            clear hF hmx
            obtain ⟨i0, hi0, hz0, hz1, hz2⟩ := info_parts info_int
            go_wp2_with fail
            go_loopw [11, 12] (fun v e wy => ∃ (j : Int) (T : List Nat), -1 ≤ j ∧ j ≤ 13 ∧ e = .int .i64 j ∧ Hid (F = T ++ bl (j + 1).toNat m) ∧ Hid (wy.ownsRow w.heap.size 3 1 v T.length (T.map intV)) ∧ Hid (Below w.heap.size w wy)) (fun _ e _ => (intOf e + 1).toNat)
            case atStart => exact ⟨13, [], by omega, by omega, rfl, Lib.hid (by rw [HF.out]; rfl), Lib.hid (World.ownsRow_nil _ _ _ _), HB2⟩
            case round =>
              obtain ⟨j, T, hj0, hj1, rfl, HT, HO, HB⟩ := hrel
              obtain ⟨wy, rfl⟩ : ∃ wy : World, wy = wr := ⟨_, rfl⟩
              by_cases h0 : 0 ≤ j
              · obtain ⟨t, rfl⟩ := Int.eq_ofNat_of_zero_le h0
                have hbit := bit_int m t (by omega)
                have hT2 := HT.out
                rw [show ((t : Int) + 1).toNat = t + 1 by omega] at hT2
                unfold bl at hT2
                cases hbt : m.testBit t
                · rw [hbt] at hbit hT2
                  have HT2 : Hid (F = T ++ bl t m) := Lib.hid (by simpa using hT2)
                  clear hT2 hbt
                  go_wp2_with fail
                  go_roundw
                  case rel => exact ⟨(t : Int) - 1, T, by omega, by omega, rfl, Lib.hid (by have := HT2.out; rw [show ((t : Int) - 1 + 1).toNat = t by omega]; exact this), HO, HB⟩
                  case measure => simp [intOf]
                · rw [hbt] at hbit hT2
                  have HT2 : Hid (F = (T ++ [t]) ++ bl t m) := Lib.hid (by rw [hT2]; simp)
                  have hTl : T.length + 1 ≤ 14 := by
                    have := congrArg List.length HT2.out
                    simp at this
                    omega
                  clear hT2 hbt
                  go_wp2_with (at_builtin; refine wpList_append_own _ rfl _ _ 34 rfl w.heap.size 3 i0 (.int .i64 0) 1 8 (by kernel_rfl) hi0 hz0 hz1 hz2 rfl (by decide) _ _ _ rfl (HO.out.alloc _) ⟨wy.heap.size, 0, none⟩ 1 1 [.int .i64 (t : Int)] rfl rfl ?d1 ?d2 ?d3 ?d4 ?d5 ?_)
                  case d1 =>
                    intro i u hu
                    cases i with
                    | zero => simp at hu; subst hu; simp [Addr.add]
                    | succ i => simp at hu
                  case d2 => intro u hu; simp at hu; subst hu; rfl
                  case d3 => unfold maxLen; omega
                  case d4 => omega
                  case d5 => have := HB.out.size; simp; omega
                  intro v' w2 hown' hgrow _
                  have HB4 : Hid (Below w.heap.size w w2) := Lib.hid ((HB.out.alloc HB.out.size _).grown hgrow (by have := HB.out.size; simp; omega) (fun q hq => (HO.out.lt q hq).1))
                  have HO4 : Hid (w2.ownsRow w.heap.size 3 1 v' (T ++ [t]).length ((T ++ [t]).map intV)) := Lib.hid (by
                    rw [List.length_append, List.map_append]
                    exact hown')
                  clear hown' hgrow
                  go_wp2_with fail
                  go_roundw
                  case rel => exact ⟨(t : Int) - 1, T ++ [t], by omega, by omega, rfl, Lib.hid (by have := HT2.out; rw [show ((t : Int) - 1 + 1).toNat = t by omega]; exact this), HO4, HB4⟩
                  case measure => simp [intOf]
              · have : j = -1 := by omega
                subst this
                have hT : F = T := by simpa [bl] using HT.out
                subst hT
                go_wp2_with fail
                go_ret
                exact ⟨_, rfl, by have := HO.out; unfold PolyIn; rw [← HMX.out]; exact this, HB.out⟩
          · have hv0 : v ≠ 0 := by
              have := congrArg Prod.fst HVM.out
              rw [show v = _ from this]
              exact HD.out.nz i (by omega)
            have hvz : ((v : Int) == 0) = false := by simp; omega
            obtain ⟨q, hq⟩ : ∃ q, q = posF R v := ⟨_, rfl⟩
            have hqi : q ≤ i := by have := posF_le R v; rw [HRL.out] at this; omega
            have HQ := Lib.hid hq
            have hi12 : i < 13 := by omega
            clear hv0 hq h13
            go_wp2_with fail
            go_loop [13] (fun iv => ∃ t : Nat, t ≤ q ∧ iv = .int .i64 (t : Int)) (fun iv => q - (intOf iv).toNat)
            case atStart => exact ⟨0, by omega, rfl⟩
            case round =>
              obtain ⟨t, ht, rfl⟩ := hrel
              by_cases htq : t < q
              · have c1 : wz.cell? ⟨gr, t, none⟩ = some (intV (R.getD t 0)) := HRI2.out t (by rw [HRL.out]; omega)
                have hgt := posF_lt R v t (by rw [← HQ.out]; exact htq)
                obtain ⟨y, hy⟩ : ∃ y, y = R.getD t 0 := ⟨_, rfl⟩
                rw [← hy] at c1 hgt
                unfold intV at c1
                have hdt : decide ((v : Int) < (y : Int)) = true := by simp; omega
                have hti : (t : Int) < (i : Int) := by omega
                clear hy
                go_wp2_with fail
                go_round
                case rel => exact ⟨t + 1, by omega, by go_num⟩
                case measure => simp [intOf]; omega
              · obtain rfl : t = q := by omega
                have hst : stD x (i + 1) = (putAt R t v, putAt M t m, mulP x p) := by
                  rw [HST.out, ← HVM.out, ← HQ.out]
                have HST2 := Lib.hid hst
                have hRl2 := HRL.out
                have hMl2 := HML.out
                have HCR : Hid (∀ (W : World), Below wz.heap.size wz W → ∀ j, j < i → W.cell? ⟨gr, j, none⟩ = some (intV (R.getD j 0))) := Lib.hid (fun W hW j hj => (hW.cell (p := ⟨gr, j, none⟩) hgr3).trans (HRI2.out j (by rw [hRl2]; exact hj)))
                have HCM : Hid (∀ (W : World), Below wz.heap.size wz W → ∀ j, j < i → W.cell? ⟨gm, j, none⟩ = some (intV (M.getD j 0))) := Lib.hid (fun W hW j hj => (hW.cell (p := ⟨gm, j, none⟩) hgm3).trans (HMI2.out j (by rw [hMl2]; exact hj)))
                have hexit : t < i → ∃ y, wz.cell? ⟨gr, t, none⟩ = some (.int .i64 ((y : Nat) : Int)) ∧ (y : Int) ≤ (v : Int) := fun h => ⟨R.getD t 0, HRI2.out t (by rw [hRl2]; exact h), by
                  have := posF_at R v (by rw [← HQ.out, hRl2]; exact h)
                  rw [← HQ.out] at this
                  omega⟩
                have HEX2 := Lib.hid hexit
                clear hexit hRl2 hMl2
                by_cases hti : t < i
                · obtain ⟨y, hy1, hy2⟩ := HEX2.out hti
                  have hti2 : (t : Int) < (i : Int) := by omega
                  have HL1 : Hid ((R.take t).length = t) := Lib.hid (by rw [List.length_take, HRL.out]; omega)
                  have HL2 : Hid ((R.drop t).length = i - t) := Lib.hid (by rw [List.length_drop, HRL.out])
                  have HL3 : Hid ((M.take t).length = t) := Lib.hid (by rw [List.length_take, HML.out]; omega)
                  have HL4 : Hid ((M.drop t).length = i - t) := Lib.hid (by rw [List.length_drop, HML.out])
                  have hit : i - t ≤ 13 := by omega
                  go_wp2_with (first | (at_builtin; refine append_ints rfl (.tmp 81) (.tmp 84) rfl wz.heap.size (.slice none 0 0) 0 [] rfl (World.ownsRow_nil _ _ _ _) (some ⟨gr, 0, none⟩) t cr rfl (R.take t) HL1.out (take_cells HCR.out (Below.refl _ _) hqi) (fun h => by cases h) (by omega) (Nat.le_refl _) ?_; intro r1 w1 ho1 hg1; have HB1 : Hid (Below wz.heap.size wz w1) := Lib.hid ((Below.refl _ _).grown hg1 (Nat.le_refl _) (fun q hq => by simp [Value.ownBlock] at hq))) | (at_builtin; refine append_ints rfl (.tmp 86) (.tmp 88) rfl wz.heap.size r1 _ _ rfl (ho1.alloc _) (some ⟨w1.heap.size, 0, none⟩) 1 1 rfl [v] rfl (one_cell _ _) (fun h => by cases h) (by omega) (by have := HB1.out.size; simp; omega) ?_; intro r2 w2 ho2 hg2; have HB2' : Hid (Below wz.heap.size wz w2) := Lib.hid ((HB1.out.alloc HB1.out.size _).grown hg2 (by have := HB1.out.size; simp; omega) (fun q hq => (ho1.lt q hq).1))) | (at_builtin; refine append_ints rfl (.tmp 90) (.tmp 93) rfl wz.heap.size r2 _ _ rfl ho2 (some ⟨gr, t, none⟩) (i - t) (cr - t) rfl (R.drop t) HL2.out (drop_cells HCR.out HB2'.out) (fun h => by cases h) (by omega) HB2'.out.size ?_; intro r3 w3 ho3 hg3; have HB3 : Hid (Below wz.heap.size wz w3) := Lib.hid (HB2'.out.grown hg3 HB2'.out.size (fun q hq => (ho2.lt q hq).1)); have HO3 := Lib.hid ho3) | (at_builtin; refine append_ints rfl (.tmp 95) (.tmp 98) rfl w3.heap.size (.slice none 0 0) 0 [] rfl (World.ownsRow_nil _ _ _ _) (some ⟨gm, 0, none⟩) t cm rfl (M.take t) HL3.out (take_cells HCM.out HB3.out hqi) (fun h => by cases h) (by omega) (Nat.le_refl _) ?_; intro r4 w4 ho4 hg4; have HB4 : Hid (Below w3.heap.size w3 w4) := Lib.hid ((Below.refl _ _).grown hg4 (Nat.le_refl _) (fun q hq => by simp [Value.ownBlock] at hq))) | (at_builtin; refine append_ints rfl (.tmp 100) (.tmp 102) rfl w3.heap.size r4 _ _ rfl (ho4.alloc _) (some ⟨w4.heap.size, 0, none⟩) 1 1 rfl [m] rfl (one_cell _ _) (fun h => by cases h) (by omega) (by have := HB4.out.size; simp; omega) ?_; intro r5 w5 ho5 hg5; have HB5 : Hid (Below w3.heap.size w3 w5) := Lib.hid ((HB4.out.alloc HB4.out.size _).grown hg5 (by have := HB4.out.size; simp; omega) (fun q hq => (ho4.lt q hq).1)); have HBZ5 : Hid (Below wz.heap.size wz w5) := Lib.hid (HB3.out.trans (HB5.out.mono HB3.out.size))) | (at_builtin; refine append_ints rfl (.tmp 104) (.tmp 107) rfl w3.heap.size r5 _ _ rfl ho5 (some ⟨gm, t, none⟩) (i - t) (cm - t) rfl (M.drop t) HL4.out (drop_cells HCM.out HBZ5.out) (fun h => by cases h) (by omega) HB5.out.size ?_; intro r6 w6 ho6 hg6; have HB6 : Hid (Below w3.heap.size w3 w6) := Lib.hid (HB5.out.grown hg6 HB5.out.size (fun q hq => (ho5.lt q hq).1))) | (go_at_call 49; (with_reducible refine (rmul_any p x hp8 hx8 _).mono ?_); rintro e w' ⟨rfl, rfl⟩))
                  have HOM := Lib.hid ho6
                  have hz6 := HB2.out.size
                  have hz3 := HB3.out.size
                  clear ho1 hg1 ho2 hg2 ho3 hg3 ho4 hg4 ho5 hg5 ho6 hg6
                  go_roundw
                  case rel => exact ⟨i + 1, mulP x p, by omega, by go_num, rfl, Lib.hid (by rw [HST2.out]), Lib.hid (put_own HO3.out (Stays.of_below HB6.out) hqi hz6 (by rw [HST2.out])), Lib.hid (put_own HOM.out (Stays.refl _ _) hqi (by omega) (by rw [HST2.out])), Lib.hid (HB2.out.trans ((HB3.out.trans (HB6.out.mono hz3)).mono hz6)), Lib.hid (fun h => by omega)⟩
                  case measure => simp [intOf]; omega
                · obtain rfl : t = i := by omega
                  have HL1 : Hid ((R.take t).length = t) := Lib.hid (by rw [List.length_take, HRL.out]; omega)
                  have HL2 : Hid ((R.drop t).length = 0) := Lib.hid (by rw [List.length_drop, HRL.out, Nat.sub_self])
                  have HL3 : Hid ((M.take t).length = t) := Lib.hid (by rw [List.length_take, HML.out]; omega)
                  have HL4 : Hid ((M.drop t).length = 0) := Lib.hid (by rw [List.length_drop, HML.out, Nat.sub_self])
                  go_wp2_with (first | (at_builtin; refine append_ints rfl (.tmp 81) (.tmp 84) rfl wz.heap.size (.slice none 0 0) 0 [] rfl (World.ownsRow_nil _ _ _ _) (some ⟨gr, 0, none⟩) t cr rfl (R.take t) HL1.out (take_cells HCR.out (Below.refl _ _) hqi) (fun h => by cases h) (by omega) (Nat.le_refl _) ?_; intro r1 w1 ho1 hg1; have HB1 : Hid (Below wz.heap.size wz w1) := Lib.hid ((Below.refl _ _).grown hg1 (Nat.le_refl _) (fun q hq => by simp [Value.ownBlock] at hq))) | (at_builtin; refine append_ints rfl (.tmp 86) (.tmp 88) rfl wz.heap.size r1 _ _ rfl (ho1.alloc _) (some ⟨w1.heap.size, 0, none⟩) 1 1 rfl [v] rfl (one_cell _ _) (fun h => by cases h) (by omega) (by have := HB1.out.size; simp; omega) ?_; intro r2 w2 ho2 hg2; have HB2' : Hid (Below wz.heap.size wz w2) := Lib.hid ((HB1.out.alloc HB1.out.size _).grown hg2 (by have := HB1.out.size; simp; omega) (fun q hq => (ho1.lt q hq).1))) | (at_builtin; refine append_ints rfl (.tmp 90) (.tmp 93) rfl wz.heap.size r2 _ _ rfl ho2 _ 0 _ rfl (R.drop t) HL2.out (fun _ _ j hj => absurd hj (Nat.not_lt_zero _)) (fun h => by split at h <;> cases h) (by omega) HB2'.out.size ?_; intro r3 w3 ho3 hg3; have HB3 : Hid (Below wz.heap.size wz w3) := Lib.hid (HB2'.out.grown hg3 HB2'.out.size (fun q hq => (ho2.lt q hq).1)); have HO3 := Lib.hid ho3) | (at_builtin; refine append_ints rfl (.tmp 95) (.tmp 98) rfl w3.heap.size (.slice none 0 0) 0 [] rfl (World.ownsRow_nil _ _ _ _) (some ⟨gm, 0, none⟩) t cm rfl (M.take t) HL3.out (take_cells HCM.out HB3.out hqi) (fun h => by cases h) (by omega) (Nat.le_refl _) ?_; intro r4 w4 ho4 hg4; have HB4 : Hid (Below w3.heap.size w3 w4) := Lib.hid ((Below.refl _ _).grown hg4 (Nat.le_refl _) (fun q hq => by simp [Value.ownBlock] at hq))) | (at_builtin; refine append_ints rfl (.tmp 100) (.tmp 102) rfl w3.heap.size r4 _ _ rfl (ho4.alloc _) (some ⟨w4.heap.size, 0, none⟩) 1 1 rfl [m] rfl (one_cell _ _) (fun h => by cases h) (by omega) (by have := HB4.out.size; simp; omega) ?_; intro r5 w5 ho5 hg5; have HB5 : Hid (Below w3.heap.size w3 w5) := Lib.hid ((HB4.out.alloc HB4.out.size _).grown hg5 (by have := HB4.out.size; simp; omega) (fun q hq => (ho4.lt q hq).1)); have HBZ5 : Hid (Below wz.heap.size wz w5) := Lib.hid (HB3.out.trans (HB5.out.mono HB3.out.size))) | (at_builtin; refine append_ints rfl (.tmp 104) (.tmp 107) rfl w3.heap.size r5 _ _ rfl ho5 _ 0 _ rfl (M.drop t) HL4.out (fun _ _ j hj => absurd hj (Nat.not_lt_zero _)) (fun h => by split at h <;> cases h) (by omega) HB5.out.size ?_; intro r6 w6 ho6 hg6; have HB6 : Hid (Below w3.heap.size w3 w6) := Lib.hid (HB5.out.grown hg6 HB5.out.size (fun q hq => (ho5.lt q hq).1))) | (go_at_call 49; (with_reducible refine (rmul_any p x hp8 hx8 _).mono ?_); rintro e w' ⟨rfl, rfl⟩))
                  have HOM := Lib.hid ho6
                  have hz6 := HB2.out.size
                  have hz3 := HB3.out.size
                  clear ho1 hg1 ho2 hg2 ho3 hg3 ho4 hg4 ho5 hg5 ho6 hg6
                  go_roundw
                  case rel => exact ⟨t + 1, mulP x p, by omega, by go_num, rfl, Lib.hid (by rw [HST2.out]), Lib.hid (put_own0 HO3.out (Stays.of_below HB6.out) hz6 (by rw [HST2.out])), Lib.hid (put_own0 HOM.out (Stays.refl _ _) (by omega) (by rw [HST2.out])), Lib.hid (HB2.out.trans ((HB3.out.trans (HB6.out.mono hz3)).mono hz6)), Lib.hid (fun h => by omega)⟩
                  case measure => simp [intOf]; omega
end Go.Proofs.Ytldekkniammllaa
