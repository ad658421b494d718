/- The document's polynomials; division. -/
import Derived.Test.YtgfjeaegigjnaaaGreatDoorPgJ
import Derived.Test.YtgfjeaegigjnaaaGreatDoorPgK
import Derived.Laws.AppendOwnNone
namespace Go.Proofs.YtgfjeaegigjnaaaGreatDoor
set_option linter.unusedVariables false
set_option linter.unusedSimpArgs false

/-- v and its mix, reduced by the first i rows. -/
def red (R M : List Nat) (v m : Nat) : Nat → Nat × Nat
  | 0 => (v, m)
  | i + 1 => let s := red R M v m i
    if s.1 ^^^ R.getD i 0 < s.1 then (s.1 ^^^ R.getD i 0, s.2 ^^^ M.getD i 0) else s
/-- How many rows at the head are greater than v. -/
def posF : List Nat → Nat → Nat
  | [], _ => 0
  | x :: l, v => if v < x then posF l v + 1 else 0
theorem posF_le (l : List Nat) (v : Nat) : posF l v ≤ l.length := by
  induction l with
  | nil => exact Nat.le_refl _
  | cons x l ih => unfold posF; split <;> (rw [List.length_cons]; omega)
theorem posF_lt (l : List Nat) (v i : Nat) (h : i < posF l v) : v < l.getD i 0 := by
  induction l generalizing i with
  | nil => simp [posF] at h
  | cons x l ih =>
    unfold posF at h
    split at h
    · next hx =>
      match i with
      | 0 => simpa using hx
      | i + 1 => have := ih i (by omega); simpa using this
    · omega
theorem posF_at (l : List Nat) (v : Nat) (h : posF l v < l.length) : ¬ v < l.getD (posF l v) 0 := by
  induction l with
  | nil => simp at h
  | cons x l ih =>
    unfold posF at h ⊢
    split at h
    · next hx =>
      rw [if_pos hx]
      have := ih (by simpa using h)
      simpa using this
    · next hx => rw [if_neg hx]; simpa using hx
/-- One more row. -/
def putAt (l : List Nat) (i v : Nat) : List Nat := l.take i ++ [v] ++ l.drop i
theorem putAt_length {l : List Nat} {i : Nat} (v : Nat) (h : i ≤ l.length) : (putAt l i v).length = l.length + 1 := by
  unfold putAt
  rw [List.length_append, List.length_append, List.length_take, List.length_drop]
  simp; omega
/-- The rows, the mixes and the power at the head of round d. -/
def stD (r : Nat) : Nat → List Nat × List Nat × Nat
  | 0 => ([], [], 1)
  | d + 1 => let s := stD r d; let x := red s.1 s.2.1 s.2.2 (2 ^ d) d
    (putAt s.1 (posF s.1 x.1) x.1, putAt s.2.1 (posF s.1 x.1) x.2, mulP r s.2.2)
def redD (r d : Nat) : Nat × Nat := red (stD r d).1 (stD r d).2.1 (stD r d).2.2 (2 ^ d) d
theorem stD_lengths (r d : Nat) : (stD r d).1.length = d ∧ (stD r d).2.1.length = d := by
  induction d with
  | zero => exact ⟨rfl, rfl⟩
  | succ d ih =>
    have h := posF_le (stD r d).1 (red (stD r d).1 (stD r d).2.1 (stD r d).2.2 (2 ^ d) d).1
    refine ⟨?_, ?_⟩
    · show (putAt _ _ _).length = _
      rw [putAt_length _ h, ih.1]
    · show (putAt _ _ _).length = _
      rw [putAt_length _ (by rw [ih.2]; rw [ih.1] at h; exact h), ih.2]
/-- What is decided of a root. -/
structure MinD (r : Nat) (A : Nat) : Prop where
  lt : r < 8192
  nz : ∀ d, d < 13 → (redD r d).1 ≠ 0
  z : (redD r 13).1 = 0
  mix : bl 14 (redD r 13).2 = terms A
  rows : ∀ d, d ≤ 13 → ∀ i, i < 13 → (stD r d).1.getD i 0 < 8192 ∧ (stD r d).2.1.getD i 0 < 16384
  pw : ∀ d, d ≤ 13 → (stD r d).2.2 < 8192
def minB (r A : Nat) : Bool := decide (r < 8192) && (List.range 13).all (fun d => (redD r d).1 != 0) && (redD r 13).1 == 0 && bl 14 (redD r 13).2 == terms A && (List.range 14).all (fun d => (List.range 13).all (fun i => decide ((stD r d).1.getD i 0 < 8192) && decide ((stD r d).2.1.getD i 0 < 16384)) && decide ((stD r d).2.2 < 8192))
theorem MinD.of {r A : Nat} (h : minB r A = true) : MinD r A := by
  unfold minB at h
  simp only [Bool.and_eq_true, beq_iff_eq, List.all_eq_true, List.mem_range, decide_eq_true_eq, bne_iff_ne] at h
  obtain ⟨⟨⟨⟨h1, h2⟩, h3⟩, h4⟩, h5⟩ := h
  exact ⟨h1, fun d hd => h2 d hd, h3, h4, fun d hd i hi => (h5 d (by omega)).1 i hi, fun d hd => (h5 d (by omega)).2⟩
theorem red_lt {R M : List Nat} {v m : Nat} (hR : ∀ i, i < 13 → R.getD i 0 < 8192 ∧ M.getD i 0 < 16384) (hv : v < 8192) (hm : m < 16384) {i : Nat} (hi : i ≤ 13) : (red R M v m i).1 < 8192 ∧ (red R M v m i).2 < 16384 := by
  induction i with
  | zero => exact ⟨hv, hm⟩
  | succ i ih =>
    have h := ih (by omega)
    have h2 := hR i (by omega)
    show (if _ then _ else _ : Nat × Nat).1 < 8192 ∧ (if _ then _ else _ : Nat × Nat).2 < 16384
    split
    · exact ⟨Nat.xor_lt_two_pow (n := 13) h.1 h2.1, Nat.xor_lt_two_pow (n := 14) h.2 h2.2⟩
    · exact h
theorem min_ok {j : Nat} (h : j < 8) : MinD (expN (2 * j + 1)) (mkA j) := .of ((by decide +kernel : ∀ j, j < 8 → minB (expN (2 * j + 1)) (mkA j) = true) j h)
end Go.Proofs.YtgfjeaegigjnaaaGreatDoor

namespace Go.Proofs.YtgfjeaegigjnaaaGreatDoor
open Go.RowKit
set_option linter.unusedVariables false
set_option linter.unusedSimpArgs false

theorem Below.drewN' {B : Nat} {a b : World} (h : Below B a b) (n : Nat) : Below B a (b.drewN n) := ⟨h.os, h.tape, h.output, h.size, h.block⟩
theorem grown_refl (w : World) (row : Option Nat) : w.grownBy w row := ⟨rfl, rfl, rfl, Nat.le_refl _, fun _ _ _ => rfl⟩
/-- 'append(dst, src...)' of numbers, whatever the source. -/
theorem append_ints {w : World} {ops : Array Oper} {rest : List Oper} {o : Oper} {a : Act} {Q : Exit → Act → World → Prop} (hgd : o.guard = none) (s x : Operand)
    (ho : o.op = Op.call { callee := Callee.builtin Builtin.append, args := #[s, x], argTypes := #[55, 55] }) (B : Nat) (v : Value) (n : Nat) (xs : List Value) (hs : a.eval s = v)
    (hown : w.ownsRow B 3 1 v n xs) (ao : Option Addr) (m c : Nat) (hx : a.eval x = .slice ao m c) (news : List Nat) (hl : news.length = m)
    (hcells : ∀ ad, ao = some ad → ∀ j, j < m → w.cell? (ad.add j) = some (intV (news.getD j 0))) (hnone : ao = none → m = 0 ∧ c = 0) (hb : n + m ≤ 1000000) (hbase : B ≤ w.heap.size)
    (h : ∀ v' w', w'.ownsRow B 3 1 v' (n + m) (xs ++ news.map intV) → w.grownBy w' v.ownBlock → wpList Tryz.prog ops Q rest (a.put o.dst v') w') : wpList Tryz.prog ops Q (o :: rest) a w := by
  obtain ⟨i0, hi, hz0, hz1, hz2⟩ := info_parts info_int
  cases ao with
  | none =>
    obtain ⟨rfl, rfl⟩ := hnone rfl
    obtain rfl : news = [] := List.length_eq_zero_iff.mp hl
    refine wpList_append_own_none hgd s x 55 ho B 3 i0 1 (by kernel_rfl) hi v n xs hs hown hx ?_
    exact h v w (by simpa using hown) (grown_refl _ _)
  | some ad =>
    refine wpList_append_own w hgd s x 55 ho B 3 i0 (.int .i64 0) 1 8 (by kernel_rfl) hi hz0 hz1 hz2 rfl (by decide) v n xs hs hown ad m c (news.map intV) hx (by rw [List.length_map, hl, Nat.mul_one]) (fun j u hj => ?_) (fun u hu => ?_) (by unfold maxLen; omega) (by omega) hbase (fun v' w' h1 h2 _ => h v' w' h1 h2)
    · rw [List.getElem?_map] at hj
      cases hj2 : news[j]? with
      | none => rw [hj2] at hj; cases hj
      | some y =>
        rw [hj2] at hj
        have hjm : j < m := by
          rcases Nat.lt_or_ge j news.length with h | h
          · omega
          · rw [List.getElem?_eq_none h] at hj2; cases hj2
        rw [hcells ad rfl j hjm, List.getD_eq_getElem?_getD, hj2]
        exact hj
    · obtain ⟨y, _, rfl⟩ := List.mem_map.mp hu
      rfl
theorem addr_add (g o j : Nat) : (⟨g, o, none⟩ : Addr).add j = ⟨g, o + j, none⟩ := by
  cases j with
  | zero => rfl
  | succ j => simp [Addr.add]
theorem drop_cells {B g i t : Nat} {L : List Nat} {wz W : World} (h : ∀ (W : World), Below B wz W → ∀ j, j < i → W.cell? ⟨g, j, none⟩ = some (intV (L.getD j 0))) (hb : Below B wz W) :
    ∀ ad, some (⟨g, t, none⟩ : Addr) = some ad → ∀ j, j < i - t → W.cell? (ad.add j) = some (intV ((L.drop t).getD j 0)) := by
  intro ad had j hj
  injection had with had
  subst had
  rw [addr_add, h W hb (t + j) (by omega), List.getD_eq_getElem?_getD, List.getD_eq_getElem?_getD, List.getElem?_drop]
theorem take_cells {B g i t : Nat} {L : List Nat} {wz W : World} (h : ∀ (W : World), Below B wz W → ∀ j, j < i → W.cell? ⟨g, j, none⟩ = some (intV (L.getD j 0))) (hb : Below B wz W) (ht : t ≤ i) :
    ∀ ad, some (⟨g, 0, none⟩ : Addr) = some ad → ∀ j, j < t → W.cell? (ad.add j) = some (intV ((L.take t).getD j 0)) := by
  intro ad had j hj
  injection had with had
  subst had
  rw [addr_add, Nat.zero_add, h W hb j (by omega), List.getD_eq_getElem?_getD, List.getD_eq_getElem?_getD, List.getElem?_take_of_lt hj]
theorem put_own {w w' : World} {B B' i t v : Nat} {r : Value} {R L : List Nat} (h : w.ownsRow B 3 1 r (0 + t + 1 + (i - t)) ([] ++ (R.take t).map intV ++ ([v] : List Nat).map intV ++ (R.drop t).map intV)) (k : Stays (fun _ => False) w w') (ht : t ≤ i) (hB : B' ≤ B) (hL : L = putAt R t v) :
    w'.ownsRow B' 3 1 r (i + 1) (L.map intV) := by
  have h' := own_mono (own_stays h k (fun _ _ e => e)) hB
  have e1 : 0 + t + 1 + (i - t) = i + 1 := by omega
  have e2 : ([] ++ (R.take t).map intV ++ ([v] : List Nat).map intV ++ (R.drop t).map intV) = L.map intV := by
    rw [hL]; unfold putAt; simp
  rw [e1, e2] at h'
  exact h'
theorem put_own0 {w w' : World} {B B' t v : Nat} {r : Value} {R L : List Nat} (h : w.ownsRow B 3 1 r (0 + t + 1 + 0) ([] ++ (R.take t).map intV ++ ([v] : List Nat).map intV ++ (R.drop t).map intV)) (k : Stays (fun _ => False) w w') (hB : B' ≤ B) (hL : L = putAt R t v) :
    w'.ownsRow B' 3 1 r (t + 1) (L.map intV) := put_own (i := t) (by rw [Nat.sub_self]; exact h) k (Nat.le_refl _) hB hL
theorem own_cap {w : World} {B e n n' cap : Nat} {a : Option Addr} {xs : List Value} (h : w.ownsRow B e 1 (.slice a n cap) n' xs) : n' ≤ cap := by
  rcases h.2 with ⟨h1, h2⟩ | ⟨g, c, cur, h1, _, _, h2, _⟩
  · omega
  · injection h1 with _ _ h3
    omega
theorem one_cell (w : World) (v : Nat) : ∀ ad, some (⟨w.heap.size, 0, none⟩ : Addr) = some ad → ∀ j, j < 1 → (w.alloc (.cells #[.int .i64 ((v : Nat) : Int)] 3)).cell? (ad.add j) = some (intV (([v] : List Nat).getD j 0)) := by
  intro ad had j hj
  injection had with had
  subst had
  obtain rfl : j = 0 := by omega
  simp [Addr.add]
  rfl
theorem exp_powR {k : Nat} (h : k < 16) : powR 1000 1 2 k = expN k := (by decide +kernel : ∀ k, k < 16 → powR 1000 1 2 k = expN k) k h
theorem wrap_pow_i64 {d : Nat} (h : d < 63) : IntKind.i64.wrap ((2 : Int) ^ d) = ((2 ^ d : Nat) : Int) := by
  have h1 : 2 ^ d < 2 ^ 63 := Nat.pow_lt_pow_right (by decide) h
  have h2 : ((2 ^ d : Nat) : Int) = (2 : Int) ^ d := by simp
  rw [← h2, IntKind.wrap_i64]
  generalize 2 ^ d = p at *
  omega
set_option maxHeartbeats 6400000 in
set_option maxRecDepth 100000 in
theorem rminimal_any (k A : Nat) (hk : k < 16) (hD : MinD (expN k) A) (w : World) :
    Calls Tryz.prog 72 #[.int .i64 (k : Int)] w fun e w' => ∃ v, e = .returned v ∧ PolyIn w' w.heap.size v A ∧ Below w.heap.size w w' := by
  obtain ⟨x, hx⟩ : ∃ x, x = expN k := ⟨_, rfl⟩
  have hxp := exp_powR hk
  rw [← hx] at hD hxp
  have HD := Lib.hid hD
  have HEX := Lib.hid (rexp_any k x (by omega) hxp)
  have hx8 := hD.lt
  clear hD hx hxp
  go_enter Tryz.func72, Tryz.ntmps72
  go_wp2_with (go_at_call 95; refine (HEX.out _).mono ?_; rintro e w' ⟨rfl, hw'⟩; obtain rfl := hw'.symm)
  go_loopw [4, 5, 6, 7] (fun rv mv pv dv wr => ∃ (d p : Nat), d ≤ 13 ∧ dv = .int .i64 (d : Int) ∧ pv = .int .i64 (p : Int) ∧ Hid (p = (stD x d).2.2) ∧ Hid (wr.ownsRow w.heap.size 3 1 rv d ((stD x d).1.map intV)) ∧ Hid (wr.ownsRow w.heap.size 3 1 mv d ((stD x d).2.1.map intV)) ∧ Hid (Below w.heap.size w wr) ∧ Hid (d = 0 → rv = .slice none 0 0 ∧ mv = .slice none 0 0)) (fun _ _ _ dv _ => 14 - (intOf dv).toNat)
  case atStart => exact ⟨0, 1, by omega, rfl, rfl, Lib.hid rfl, Lib.hid (World.ownsRow_nil _ _ _ _), Lib.hid (World.ownsRow_nil _ _ _ _), Lib.hid (Below.refl _ _), Lib.hid (fun _ => ⟨rfl, rfl⟩)⟩
  case round =>
    obtain ⟨d, p, hd, rfl, rfl, HP, HR, HM, HB, HNIL⟩ := hrel
    obtain ⟨wq, rfl⟩ : ∃ wq : World, wq = wr := ⟨_, rfl⟩
    clear HEX
    have hp8 := HD.out.pw d hd
    rw [← HP.out] at hp8
    have hwp := wrap_pow_i64 (d := d) (by omega)
    have hdd : decide ((d : Int) ≤ 13) = true := by simp; omega
    obtain ⟨hRl, hMl⟩ := stD_lengths x d
    have hrows := HD.out.rows d hd
    obtain ⟨R, hR⟩ : ∃ R, R = (stD x d).1 := ⟨_, rfl⟩
    obtain ⟨M, hM⟩ : ∃ M, M = (stD x d).2.1 := ⟨_, rfl⟩
    have hredD : redD x d = red R M p (2 ^ d) d := by rw [hR, hM, HP.out]; rfl
    rw [← hR] at hRl HR hrows
    rw [← hM] at hMl HM hrows
    have hm14 : 2 ^ d < 16384 := Nat.lt_of_lt_of_le (Nat.pow_lt_pow_right (by decide) (show d < 14 by omega)) (by decide)
    have hst1 : stD x (d + 1) = (putAt R (posF R (redD x d).1) (redD x d).1, putAt M (posF R (redD x d).1) (redD x d).2, mulP x p) := by rw [hR, hM, HP.out]; rfl
    have HRD := Lib.hid hredD
    have HST := Lib.hid hst1
    have HRL := Lib.hid hRl
    have HML := Lib.hid hMl
    have HROWS := Lib.hid hrows
    obtain ⟨m0, hm0⟩ : ∃ m0, m0 = 2 ^ d := ⟨_, rfl⟩
    rw [← hm0] at hwp hm14 HRD
    have HM0 := Lib.hid hm0
    clear hR hM hredD hst1 hRl hMl hrows HP hm0
    by_cases hd0 : d = 0
    · subst hd0
      obtain rfl : m0 = 1 := HM0.out
      obtain ⟨hn1, hn2⟩ := HNIL.out rfl
      subst hn1 hn2
      have hR0 : R = [] := List.length_eq_zero_iff.mp HRL.out
      have hM0' : M = [] := List.length_eq_zero_iff.mp HML.out
      have hst : stD x 1 = ([p], [1], mulP x p) := by
        have := HST.out
        rw [HRD.out, hR0, hM0'] at this
        exact this
      have hp0 : p ≠ 0 := by
        have := HD.out.nz 0 (by omega)
        rw [HRD.out] at this
        exact this
      have hpz : ((p : Int) == 0) = false := by simp; omega
      have HST2 := Lib.hid hst
      clear hR0 hM0' hst hp0 HNIL
      go_wp2_with fail
      go_quiet (fail)
      go_wp2_with fail
      refine wp_loop_rounds 1 ?_
      rw [rounds_succ]
      go_wp2_with fail
      refine wp_loop_rounds 1 ?_
      rw [rounds_succ]
      obtain ⟨wz, hwz⟩ : ∃ wz : World, wz = wq.drewN nq := ⟨_, rfl⟩
      rw [← hwz]
      have HB2 : Hid (Below w.heap.size w wz) := Lib.hid (by rw [hwz]; exact Below.drewN' HB.out _)
      clear hwz
      go_wp2_with (first | (at_builtin; refine append_ints rfl (.tmp 81) (.tmp 84) rfl wz.heap.size (.slice none 0 0) 0 [] rfl (World.ownsRow_nil _ _ _ _) none 0 0 rfl [] rfl (fun _ h => by cases h) (fun _ => ⟨rfl, rfl⟩) (by omega) (Nat.le_refl _) ?_; intro r1 w1 ho1 hg1; have HB1 : Hid (Below wz.heap.size wz w1) := Lib.hid ((Below.refl _ _).grown hg1 (Nat.le_refl _) (fun q hq => by simp [Value.ownBlock] at hq))) | (at_builtin; refine append_ints rfl (.tmp 86) (.tmp 88) rfl wz.heap.size r1 _ _ rfl (ho1.alloc _) (some ⟨w1.heap.size, 0, none⟩) 1 1 rfl [p] rfl (one_cell _ _) (fun h => by cases h) (by omega) (by have := HB1.out.size; simp; omega) ?_; intro r2 w2 ho2 hg2; have HB2' : Hid (Below wz.heap.size wz w2) := Lib.hid ((HB1.out.alloc HB1.out.size _).grown hg2 (by have := HB1.out.size; simp; omega) (fun q hq => (ho1.lt q hq).1))) | (at_builtin; refine append_ints rfl (.tmp 90) (.tmp 93) rfl wz.heap.size r2 _ _ rfl ho2 none 0 0 rfl [] rfl (fun _ h => by cases h) (fun _ => ⟨rfl, rfl⟩) (by omega) HB2'.out.size ?_; intro r3 w3 ho3 hg3; have HB3 : Hid (Below wz.heap.size wz w3) := Lib.hid (HB2'.out.grown hg3 HB2'.out.size (fun q hq => (ho2.lt q hq).1)); have HO3 := Lib.hid ho3) | (at_builtin; refine append_ints rfl (.tmp 95) (.tmp 98) rfl w3.heap.size (.slice none 0 0) 0 [] rfl (World.ownsRow_nil _ _ _ _) none 0 0 rfl [] rfl (fun _ h => by cases h) (fun _ => ⟨rfl, rfl⟩) (by omega) (Nat.le_refl _) ?_; intro r4 w4 ho4 hg4; have HB4 : Hid (Below w3.heap.size w3 w4) := Lib.hid ((Below.refl _ _).grown hg4 (Nat.le_refl _) (fun q hq => by simp [Value.ownBlock] at hq))) | (at_builtin; refine append_ints rfl (.tmp 100) (.tmp 102) rfl w3.heap.size r4 _ _ rfl (ho4.alloc _) (some ⟨w4.heap.size, 0, none⟩) 1 1 rfl [1] rfl (one_cell _ 1) (fun h => by cases h) (by omega) (by have := HB4.out.size; simp; omega) ?_; intro r5 w5 ho5 hg5; have HB5 : Hid (Below w3.heap.size w3 w5) := Lib.hid ((HB4.out.alloc HB4.out.size _).grown hg5 (by have := HB4.out.size; simp; omega) (fun q hq => (ho4.lt q hq).1))) | (at_builtin; refine append_ints rfl (.tmp 104) (.tmp 107) rfl w3.heap.size r5 _ _ rfl ho5 none 0 0 rfl [] rfl (fun _ h => by cases h) (fun _ => ⟨rfl, rfl⟩) (by omega) HB5.out.size ?_; intro r6 w6 ho6 hg6; have HB6 : Hid (Below w3.heap.size w3 w6) := Lib.hid (HB5.out.grown hg6 HB5.out.size (fun q hq => (ho5.lt q hq).1))) | (go_at_call 96; (with_reducible refine (rmul_any p x hp8 hx8 _).mono ?_); rintro e w' ⟨rfl, rfl⟩))
      have HOM := Lib.hid ho6
      have hz6 := HB2.out.size
      have hz3 := HB3.out.size
      clear ho1 hg1 ho2 hg2 ho3 hg3 ho4 hg4 ho5 hg5 ho6 hg6
      go_roundw
      case rel => exact ⟨1, mulP x p, by omega, by go_num, rfl, Lib.hid (by rw [HST2.out]), Lib.hid (by rw [HST2.out]; exact own_mono (own_stays HO3.out (Stays.of_below HB6.out) (fun _ _ e => e)) hz6), Lib.hid (by rw [HST2.out]; exact own_mono HOM.out (by omega)), Lib.hid (HB2.out.trans ((HB3.out.trans (HB6.out.mono hz3)).mono hz6)), Lib.hid (fun h => by omega)⟩
      case measure => simp [intOf]
    · obtain ⟨gr, cr, hrv, hgr1, hgr2, hri, _⟩ := own_ints (L := R) (by rw [HRL.out]; exact HR.out) (fun e => hd0 (by rw [← HRL.out, e]; rfl))
      obtain ⟨gm, cm, hmv, hgm1, hgm2, hmi, _⟩ := own_ints (L := M) (by rw [HML.out]; exact HM.out) (fun e => hd0 (by rw [← HML.out, e]; rfl))
      subst hrv hmv
      have hcr : d ≤ cr := own_cap HR.out
      have hcm : d ≤ cm := own_cap HM.out
      rw [HRL.out, HML.out]
      have HRI := Lib.hid hri
      have HMI := Lib.hid hmi
      clear hri hmi
      go_wp2_with fail
      go_quiet (fail)
      go_wp2_with fail
      obtain ⟨wz, hwz⟩ : ∃ wz : World, wz = wq.drewN nq := ⟨_, rfl⟩
      rw [← hwz]
      have HRI2 : Hid (IntsAt wz gr R) := Lib.hid (by rw [hwz]; exact HRI.out)
      have HMI2 : Hid (IntsAt wz gm M) := Lib.hid (by rw [hwz]; exact HMI.out)
      have HB2 : Hid (Below w.heap.size w wz) := Lib.hid (by rw [hwz]; exact Below.drewN' HB.out _)
      have hgz : gr < wz.heap.size ∧ gm < wz.heap.size := by rw [hwz]; exact ⟨hgr2, hgm2⟩
      obtain ⟨hgr3, hgm3⟩ := hgz
      clear hwz HRI HMI HB HR HM
      go_loop [8, 9, 10] (fun vv mv iv => ∃ (i v m : Nat), i ≤ d ∧ iv = .int .i64 (i : Int) ∧ vv = .int .i64 (v : Int) ∧ mv = .int .i64 (m : Int) ∧ Hid ((v, m) = red R M p m0 i) ∧ v < 8192 ∧ m < 16384) (fun _ _ iv => d - (intOf iv).toNat)
      case atStart => exact ⟨0, p, m0, by omega, rfl, rfl, rfl, Lib.hid rfl, hp8, hm14⟩
      case round =>
        obtain ⟨i, v, m, hid, rfl, rfl, rfl, HV, hv8, hm4⟩ := hrel
        by_cases hi : i < d
        · have c1 : wz.cell? ⟨gr, i, none⟩ = some (intV (R.getD i 0)) := HRI2.out i (by rw [HRL.out]; exact hi)
          have c2 : wz.cell? ⟨gm, i, none⟩ = some (intV (M.getD i 0)) := HMI2.out i (by rw [HML.out]; exact hi)
          obtain ⟨hr8, hm8⟩ := HROWS.out i (by omega)
          have hstep : red R M p m0 (i + 1) = if v ^^^ R.getD i 0 < v then (v ^^^ R.getD i 0, m ^^^ M.getD i 0) else (v, m) := by
            show (let s := red R M p m0 i; if s.1 ^^^ R.getD i 0 < s.1 then (s.1 ^^^ R.getD i 0, s.2 ^^^ M.getD i 0) else s) = _
            rw [← HV.out]
          obtain ⟨y, hy⟩ : ∃ y, y = R.getD i 0 := ⟨_, rfl⟩
          obtain ⟨z, hz⟩ : ∃ z, z = M.getD i 0 := ⟨_, rfl⟩
          rw [← hy] at c1 hr8 hstep
          rw [← hz] at c2 hm8 hstep
          unfold intV at c1 c2
          have hx1 := xor_i64 v y (by omega) (by omega)
          have hx2 := xor_i64 m z (by omega) (by omega)
          have hxl : v ^^^ y < 8192 := Nat.xor_lt_two_pow (n := 13) hv8 hr8
          have hxm : m ^^^ z < 16384 := Nat.xor_lt_two_pow (n := 14) hm4 hm8
          obtain ⟨v', hv'⟩ : ∃ v', v' = v ^^^ y := ⟨_, rfl⟩
          obtain ⟨m', hm'⟩ : ∃ m', m' = m ^^^ z := ⟨_, rfl⟩
          rw [← hv'] at hx1 hxl hstep
          rw [← hm'] at hx2 hxm hstep
          have HSTEP := Lib.hid hstep
          clear hstep hy hz hv' hm'
          by_cases hlt : v' < v
          · go_wp2_with fail
            go_round
            case rel => exact ⟨i + 1, v', m', by omega, by go_num, rfl, rfl, Lib.hid (by rw [HSTEP.out, if_pos hlt]), hxl, hxm⟩
            case measure => simp [intOf]; omega
          · go_wp2_with fail
            go_round
            case rel => exact ⟨i + 1, v, m, by omega, by go_num, rfl, rfl, Lib.hid (by rw [HSTEP.out, if_neg hlt]), hv8, hm4⟩
            case measure => simp [intOf]; omega
        · obtain rfl : i = d := by omega
          have hvm : (v, m) = redD x i := by rw [HV.out, HRD.out]
          have HVM := Lib.hid hvm
          clear HV hvm
          by_cases h13 : i = 13
          · have hv0 : v = 0 := by
              have := congrArg Prod.fst HVM.out
              rw [h13, HD.out.z] at this
              exact this
            subst hv0 h13
            have hmx : bl 14 m = terms A := by
              have := congrArg Prod.snd HVM.out
              rw [show m = _ from this]
              exact HD.out.mix
            have hbll := bl_length 14 m
            obtain ⟨F, hF⟩ : ∃ F, F = bl 14 m := ⟨_, rfl⟩
            rw [← hF] at hmx hbll
            have HF := Lib.hid hF
            have HMX := Lib.hid hmx
            clear hF hmx
            obtain ⟨i0, hi0, hz0, hz1, hz2⟩ := info_parts info_int
            go_wp2_with fail
            go_loopw [11, 12] (fun v e wy => ∃ (j : Int) (T : List Nat), -1 ≤ j ∧ j ≤ 13 ∧ e = .int .i64 j ∧ Hid (F = T ++ bl (j + 1).toNat m) ∧ Hid (wy.ownsRow w.heap.size 3 1 v T.length (T.map intV)) ∧ Hid (Below w.heap.size w wy)) (fun _ e _ => (intOf e + 1).toNat)
            case atStart => exact ⟨13, [], by omega, by omega, rfl, Lib.hid (by rw [HF.out]; rfl), Lib.hid (World.ownsRow_nil _ _ _ _), HB2⟩
            case round =>
              obtain ⟨j, T, hj0, hj1, rfl, HT, HO, HB⟩ := hrel
              obtain ⟨wy, rfl⟩ : ∃ wy : World, wy = wr := ⟨_, rfl⟩
              by_cases h0 : 0 ≤ j
              · obtain ⟨t, rfl⟩ := Int.eq_ofNat_of_zero_le h0
                have hbit := bit_int m t (by omega)
                have hT2 := HT.out
                rw [show ((t : Int) + 1).toNat = t + 1 by omega] at hT2
                unfold bl at hT2
                cases hbt : m.testBit t
                · rw [hbt] at hbit hT2
                  have HT2 : Hid (F = T ++ bl t m) := Lib.hid (by simpa using hT2)
                  clear hT2 hbt
                  go_wp2_with fail
                  go_roundw
                  case rel => exact ⟨(t : Int) - 1, T, by omega, by omega, rfl, Lib.hid (by have := HT2.out; rw [show ((t : Int) - 1 + 1).toNat = t by omega]; exact this), HO, HB⟩
                  case measure => simp [intOf]
                · rw [hbt] at hbit hT2
                  have HT2 : Hid (F = (T ++ [t]) ++ bl t m) := Lib.hid (by rw [hT2]; simp)
                  have hTl : T.length + 1 ≤ 14 := by
                    have := congrArg List.length HT2.out
                    simp at this
                    omega
                  clear hT2 hbt
                  go_wp2_with (at_builtin; refine wpList_append_own _ rfl _ _ 55 rfl w.heap.size 3 i0 (.int .i64 0) 1 8 (by kernel_rfl) hi0 hz0 hz1 hz2 rfl (by decide) _ _ _ rfl (HO.out.alloc _) ⟨wy.heap.size, 0, none⟩ 1 1 [.int .i64 (t : Int)] rfl rfl ?d1 ?d2 ?d3 ?d4 ?d5 ?_)
                  case d1 =>
                    intro i u hu
                    cases i with
                    | zero => simp at hu; subst hu; simp [Addr.add]
                    | succ i => simp at hu
                  case d2 => intro u hu; simp at hu; subst hu; rfl
                  case d3 => unfold maxLen; omega
                  case d4 => omega
                  case d5 => have := HB.out.size; simp; omega
                  intro v' w2 hown' hgrow _
                  have HB4 : Hid (Below w.heap.size w w2) := Lib.hid ((HB.out.alloc HB.out.size _).grown hgrow (by have := HB.out.size; simp; omega) (fun q hq => (HO.out.lt q hq).1))
                  have HO4 : Hid (w2.ownsRow w.heap.size 3 1 v' (T ++ [t]).length ((T ++ [t]).map intV)) := Lib.hid (by
                    rw [List.length_append, List.map_append]
                    exact hown')
                  clear hown' hgrow
                  go_wp2_with fail
                  go_roundw
                  case rel => exact ⟨(t : Int) - 1, T ++ [t], by omega, by omega, rfl, Lib.hid (by have := HT2.out; rw [show ((t : Int) - 1 + 1).toNat = t by omega]; exact this), HO4, HB4⟩
                  case measure => simp [intOf]
              · have : j = -1 := by omega
                subst this
                have hT : F = T := by simpa [bl] using HT.out
                subst hT
                go_wp2_with fail
                go_ret
                exact ⟨_, rfl, by have := HO.out; unfold PolyIn; rw [← HMX.out]; exact this, HB.out⟩
          · have hv0 : v ≠ 0 := by
              have := congrArg Prod.fst HVM.out
              rw [show v = _ from this]
              exact HD.out.nz i (by omega)
            have hvz : ((v : Int) == 0) = false := by simp; omega
            obtain ⟨q, hq⟩ : ∃ q, q = posF R v := ⟨_, rfl⟩
            have hqi : q ≤ i := by have := posF_le R v; rw [HRL.out] at this; omega
            have HQ := Lib.hid hq
            have hi12 : i < 13 := by omega
            clear hv0 hq h13
            go_wp2_with fail
            go_loop [13] (fun iv => ∃ t : Nat, t ≤ q ∧ iv = .int .i64 (t : Int)) (fun iv => q - (intOf iv).toNat)
            case atStart => exact ⟨0, by omega, rfl⟩
            case round =>
              obtain ⟨t, ht, rfl⟩ := hrel
              by_cases htq : t < q
              · have c1 : wz.cell? ⟨gr, t, none⟩ = some (intV (R.getD t 0)) := HRI2.out t (by rw [HRL.out]; omega)
                have hgt := posF_lt R v t (by rw [← HQ.out]; exact htq)
                obtain ⟨y, hy⟩ : ∃ y, y = R.getD t 0 := ⟨_, rfl⟩
                rw [← hy] at c1 hgt
                unfold intV at c1
                have hdt : decide ((v : Int) < (y : Int)) = true := by simp; omega
                have hti : (t : Int) < (i : Int) := by omega
                clear hy
                go_wp2_with fail
                go_round
                case rel => exact ⟨t + 1, by omega, by go_num⟩
                case measure => simp [intOf]; omega
              · obtain rfl : t = q := by omega
                have hst : stD x (i + 1) = (putAt R t v, putAt M t m, mulP x p) := by
                  rw [HST.out, ← HVM.out, ← HQ.out]
                have HST2 := Lib.hid hst
                have hRl2 := HRL.out
                have hMl2 := HML.out
                have HCR : Hid (∀ (W : World), Below wz.heap.size wz W → ∀ j, j < i → W.cell? ⟨gr, j, none⟩ = some (intV (R.getD j 0))) := Lib.hid (fun W hW j hj => (hW.cell (p := ⟨gr, j, none⟩) hgr3).trans (HRI2.out j (by rw [hRl2]; exact hj)))
                have HCM : Hid (∀ (W : World), Below wz.heap.size wz W → ∀ j, j < i → W.cell? ⟨gm, j, none⟩ = some (intV (M.getD j 0))) := Lib.hid (fun W hW j hj => (hW.cell (p := ⟨gm, j, none⟩) hgm3).trans (HMI2.out j (by rw [hMl2]; exact hj)))
                have hexit : t < i → ∃ y, wz.cell? ⟨gr, t, none⟩ = some (.int .i64 ((y : Nat) : Int)) ∧ (y : Int) ≤ (v : Int) := fun h => ⟨R.getD t 0, HRI2.out t (by rw [hRl2]; exact h), by
                  have := posF_at R v (by rw [← HQ.out, hRl2]; exact h)
                  rw [← HQ.out] at this
                  omega⟩
                have HEX2 := Lib.hid hexit
                clear hexit hRl2 hMl2
                by_cases hti : t < i
                · obtain ⟨y, hy1, hy2⟩ := HEX2.out hti
                  have hti2 : (t : Int) < (i : Int) := by omega
                  have HL1 : Hid ((R.take t).length = t) := Lib.hid (by rw [List.length_take, HRL.out]; omega)
                  have HL2 : Hid ((R.drop t).length = i - t) := Lib.hid (by rw [List.length_drop, HRL.out])
                  have HL3 : Hid ((M.take t).length = t) := Lib.hid (by rw [List.length_take, HML.out]; omega)
                  have HL4 : Hid ((M.drop t).length = i - t) := Lib.hid (by rw [List.length_drop, HML.out])
                  have hit : i - t ≤ 13 := by omega
                  go_wp2_with (first | (at_builtin; refine append_ints rfl (.tmp 81) (.tmp 84) rfl wz.heap.size (.slice none 0 0) 0 [] rfl (World.ownsRow_nil _ _ _ _) (some ⟨gr, 0, none⟩) t cr rfl (R.take t) HL1.out (take_cells HCR.out (Below.refl _ _) hqi) (fun h => by cases h) (by omega) (Nat.le_refl _) ?_; intro r1 w1 ho1 hg1; have HB1 : Hid (Below wz.heap.size wz w1) := Lib.hid ((Below.refl _ _).grown hg1 (Nat.le_refl _) (fun q hq => by simp [Value.ownBlock] at hq))) | (at_builtin; refine append_ints rfl (.tmp 86) (.tmp 88) rfl wz.heap.size r1 _ _ rfl (ho1.alloc _) (some ⟨w1.heap.size, 0, none⟩) 1 1 rfl [v] rfl (one_cell _ _) (fun h => by cases h) (by omega) (by have := HB1.out.size; simp; omega) ?_; intro r2 w2 ho2 hg2; have HB2' : Hid (Below wz.heap.size wz w2) := Lib.hid ((HB1.out.alloc HB1.out.size _).grown hg2 (by have := HB1.out.size; simp; omega) (fun q hq => (ho1.lt q hq).1))) | (at_builtin; refine append_ints rfl (.tmp 90) (.tmp 93) rfl wz.heap.size r2 _ _ rfl ho2 (some ⟨gr, t, none⟩) (i - t) (cr - t) rfl (R.drop t) HL2.out (drop_cells HCR.out HB2'.out) (fun h => by cases h) (by omega) HB2'.out.size ?_; intro r3 w3 ho3 hg3; have HB3 : Hid (Below wz.heap.size wz w3) := Lib.hid (HB2'.out.grown hg3 HB2'.out.size (fun q hq => (ho2.lt q hq).1)); have HO3 := Lib.hid ho3) | (at_builtin; refine append_ints rfl (.tmp 95) (.tmp 98) rfl w3.heap.size (.slice none 0 0) 0 [] rfl (World.ownsRow_nil _ _ _ _) (some ⟨gm, 0, none⟩) t cm rfl (M.take t) HL3.out (take_cells HCM.out HB3.out hqi) (fun h => by cases h) (by omega) (Nat.le_refl _) ?_; intro r4 w4 ho4 hg4; have HB4 : Hid (Below w3.heap.size w3 w4) := Lib.hid ((Below.refl _ _).grown hg4 (Nat.le_refl _) (fun q hq => by simp [Value.ownBlock] at hq))) | (at_builtin; refine append_ints rfl (.tmp 100) (.tmp 102) rfl w3.heap.size r4 _ _ rfl (ho4.alloc _) (some ⟨w4.heap.size, 0, none⟩) 1 1 rfl [m] rfl (one_cell _ _) (fun h => by cases h) (by omega) (by have := HB4.out.size; simp; omega) ?_; intro r5 w5 ho5 hg5; have HB5 : Hid (Below w3.heap.size w3 w5) := Lib.hid ((HB4.out.alloc HB4.out.size _).grown hg5 (by have := HB4.out.size; simp; omega) (fun q hq => (ho4.lt q hq).1)); have HBZ5 : Hid (Below wz.heap.size wz w5) := Lib.hid (HB3.out.trans (HB5.out.mono HB3.out.size))) | (at_builtin; refine append_ints rfl (.tmp 104) (.tmp 107) rfl w3.heap.size r5 _ _ rfl ho5 (some ⟨gm, t, none⟩) (i - t) (cm - t) rfl (M.drop t) HL4.out (drop_cells HCM.out HBZ5.out) (fun h => by cases h) (by omega) HB5.out.size ?_; intro r6 w6 ho6 hg6; have HB6 : Hid (Below w3.heap.size w3 w6) := Lib.hid (HB5.out.grown hg6 HB5.out.size (fun q hq => (ho5.lt q hq).1))) | (go_at_call 96; (with_reducible refine (rmul_any p x hp8 hx8 _).mono ?_); rintro e w' ⟨rfl, rfl⟩))
                  have HOM := Lib.hid ho6
                  have hz6 := HB2.out.size
                  have hz3 := HB3.out.size
                  clear ho1 hg1 ho2 hg2 ho3 hg3 ho4 hg4 ho5 hg5 ho6 hg6
                  go_roundw
                  case rel => exact ⟨i + 1, mulP x p, by omega, by go_num, rfl, Lib.hid (by rw [HST2.out]), Lib.hid (put_own HO3.out (Stays.of_below HB6.out) hqi hz6 (by rw [HST2.out])), Lib.hid (put_own HOM.out (Stays.refl _ _) hqi (by omega) (by rw [HST2.out])), Lib.hid (HB2.out.trans ((HB3.out.trans (HB6.out.mono hz3)).mono hz6)), Lib.hid (fun h => by omega)⟩
                  case measure => simp [intOf]; omega
                · obtain rfl : t = i := by omega
                  have HL1 : Hid ((R.take t).length = t) := Lib.hid (by rw [List.length_take, HRL.out]; omega)
                  have HL2 : Hid ((R.drop t).length = 0) := Lib.hid (by rw [List.length_drop, HRL.out, Nat.sub_self])
                  have HL3 : Hid ((M.take t).length = t) := Lib.hid (by rw [List.length_take, HML.out]; omega)
                  have HL4 : Hid ((M.drop t).length = 0) := Lib.hid (by rw [List.length_drop, HML.out, Nat.sub_self])
                  go_wp2_with (first | (at_builtin; refine append_ints rfl (.tmp 81) (.tmp 84) rfl wz.heap.size (.slice none 0 0) 0 [] rfl (World.ownsRow_nil _ _ _ _) (some ⟨gr, 0, none⟩) t cr rfl (R.take t) HL1.out (take_cells HCR.out (Below.refl _ _) hqi) (fun h => by cases h) (by omega) (Nat.le_refl _) ?_; intro r1 w1 ho1 hg1; have HB1 : Hid (Below wz.heap.size wz w1) := Lib.hid ((Below.refl _ _).grown hg1 (Nat.le_refl _) (fun q hq => by simp [Value.ownBlock] at hq))) | (at_builtin; refine append_ints rfl (.tmp 86) (.tmp 88) rfl wz.heap.size r1 _ _ rfl (ho1.alloc _) (some ⟨w1.heap.size, 0, none⟩) 1 1 rfl [v] rfl (one_cell _ _) (fun h => by cases h) (by omega) (by have := HB1.out.size; simp; omega) ?_; intro r2 w2 ho2 hg2; have HB2' : Hid (Below wz.heap.size wz w2) := Lib.hid ((HB1.out.alloc HB1.out.size _).grown hg2 (by have := HB1.out.size; simp; omega) (fun q hq => (ho1.lt q hq).1))) | (at_builtin; refine append_ints rfl (.tmp 90) (.tmp 93) rfl wz.heap.size r2 _ _ rfl ho2 _ 0 _ rfl (R.drop t) HL2.out (fun _ _ j hj => absurd hj (Nat.not_lt_zero _)) (fun h => by split at h <;> cases h) (by omega) HB2'.out.size ?_; intro r3 w3 ho3 hg3; have HB3 : Hid (Below wz.heap.size wz w3) := Lib.hid (HB2'.out.grown hg3 HB2'.out.size (fun q hq => (ho2.lt q hq).1)); have HO3 := Lib.hid ho3) | (at_builtin; refine append_ints rfl (.tmp 95) (.tmp 98) rfl w3.heap.size (.slice none 0 0) 0 [] rfl (World.ownsRow_nil _ _ _ _) (some ⟨gm, 0, none⟩) t cm rfl (M.take t) HL3.out (take_cells HCM.out HB3.out hqi) (fun h => by cases h) (by omega) (Nat.le_refl _) ?_; intro r4 w4 ho4 hg4; have HB4 : Hid (Below w3.heap.size w3 w4) := Lib.hid ((Below.refl _ _).grown hg4 (Nat.le_refl _) (fun q hq => by simp [Value.ownBlock] at hq))) | (at_builtin; refine append_ints rfl (.tmp 100) (.tmp 102) rfl w3.heap.size r4 _ _ rfl (ho4.alloc _) (some ⟨w4.heap.size, 0, none⟩) 1 1 rfl [m] rfl (one_cell _ _) (fun h => by cases h) (by omega) (by have := HB4.out.size; simp; omega) ?_; intro r5 w5 ho5 hg5; have HB5 : Hid (Below w3.heap.size w3 w5) := Lib.hid ((HB4.out.alloc HB4.out.size _).grown hg5 (by have := HB4.out.size; simp; omega) (fun q hq => (ho4.lt q hq).1)); have HBZ5 : Hid (Below wz.heap.size wz w5) := Lib.hid (HB3.out.trans (HB5.out.mono HB3.out.size))) | (at_builtin; refine append_ints rfl (.tmp 104) (.tmp 107) rfl w3.heap.size r5 _ _ rfl ho5 _ 0 _ rfl (M.drop t) HL4.out (fun _ _ j hj => absurd hj (Nat.not_lt_zero _)) (fun h => by split at h <;> cases h) (by omega) HB5.out.size ?_; intro r6 w6 ho6 hg6; have HB6 : Hid (Below w3.heap.size w3 w6) := Lib.hid (HB5.out.grown hg6 HB5.out.size (fun q hq => (ho5.lt q hq).1))) | (go_at_call 96; (with_reducible refine (rmul_any p x hp8 hx8 _).mono ?_); rintro e w' ⟨rfl, rfl⟩))
                  have HOM := Lib.hid ho6
                  have hz6 := HB2.out.size
                  have hz3 := HB3.out.size
                  clear ho1 hg1 ho2 hg2 ho3 hg3 ho4 hg4 ho5 hg5 ho6 hg6
                  go_roundw
                  case rel => exact ⟨t + 1, mulP x p, by omega, by go_num, rfl, Lib.hid (by rw [HST2.out]), Lib.hid (put_own0 HO3.out (Stays.of_below HB6.out) hz6 (by rw [HST2.out])), Lib.hid (put_own0 HOM.out (Stays.refl _ _) (by omega) (by rw [HST2.out])), Lib.hid (HB2.out.trans ((HB3.out.trans (HB6.out.mono hz3)).mono hz6)), Lib.hid (fun h => by omega)⟩
                  case measure => simp [intOf]; omega
end Go.Proofs.YtgfjeaegigjnaaaGreatDoor

namespace Go.Proofs.YtgfjeaegigjnaaaGreatDoor
open Go.RowKit
set_option linter.unusedVariables false
set_option linter.unusedSimpArgs false

/-- A row of n bools that is the polynomial A. -/
def BRow (w : World) (g n A : Nat) : Prop := Row w g n (fun j => .bool (A.testBit j))
theorem BRow.flip {w : World} {g n A e : Nat} (h : BRow w g n A) : BRow (w.setCell ⟨g, e, none⟩ (.bool (!A.testBit e))) g n (A ^^^ 2 ^ e) := by
  refine (Row.set h _ _).congr fun j hj => ?_
  rw [Nat.testBit_xor, Nat.testBit_two_pow]
  by_cases h1 : j = e
  · subst h1; rw [upd_same]; simp
  · rw [upd_other _ _ h1]
    have : ¬ e = j := fun h => h1 h.symm
    simp [this]
theorem BRow.below {w w' : World} {g n A : Nat} (h : BRow w g n A) (k : Below w.heap.size w w') (hg : g < w.heap.size) : BRow w' g n A := Row.stays h (S := fun _ => False) (Stays.of_below k) hg id
theorem info_bool : (Tryz.prog.info? 4).map (fun i => (i.zero, i.size, i.bytes)) = some (some (.bool false), 1, 1) := by kernel_rfl
theorem make_bits (N : Nat) (hN : N = 16385) (W : World) : (Instr.makeSlice 176 (.int .i64 16385) (.int .i64 16385)).run Tryz.prog W = .ok (.slice (some ⟨W.heap.size, 0, none⟩) N N) (W.alloc (.cells (madeCells #[.bool false] N) 4)) := by
  have h := run_make_row' (P := Tryz.prog) 176 4 (.bool false) 1 (by kernel_rfl) (by kernel_rfl) rfl .i64 .i64 N (by omega) (by omega) W
  have hc : ((N : Nat) : Int) = 16385 := by omega
  rw [hc] at h
  exact h
theorem zero_bits (w : World) (N : Nat) : BRow (w.alloc (.cells (madeCells #[.bool false] N) 4)) w.heap.size N 0 := Row.made _ _ _ _ _ (fun j hj => by rw [madeCells_getN _ _ _ hj]; simp)
set_option maxHeartbeats 3200000 in
set_option maxRecDepth 100000 in
theorem rbits_any (a c N : Nat) (hN : N = 16385) (L : List Nat) (w : World) (h : IntsAt w a L) (hL : ∀ e ∈ L, e ≤ 16384) (hl : L.length ≤ 16512) (la : a < w.heap.size) :
    Calls Tryz.prog 98 #[.slice (some ⟨a, 0, none⟩) L.length c] w fun x w' => x = .returned (.slice (some ⟨w.heap.size, 0, none⟩) N N) ∧ BRow w' w.heap.size N (sumL 0 L) ∧ Below w.heap.size w w' := by
  have hmk := make_bits N hN
  have HN := Lib.hid hN
  have HH := Lib.hid h
  have HL := Lib.hid hL
  obtain ⟨g, hg⟩ : ∃ g, g = w.heap.size := ⟨_, rfl⟩
  have hr0 : BRow (w.alloc (.cells (madeCells #[.bool false] N) 4)) g N 0 := by rw [hg]; exact zero_bits w N
  have hb0 : Below g w (w.alloc (.cells (madeCells #[.bool false] N) 4)) := by rw [hg]; exact (Below.refl _ _).alloc (Nat.le_refl _) _
  rw [← hg] at la ⊢
  have HR0 := Lib.hid hr0
  have HB0 := Lib.hid hb0
  have HG := Lib.hid hg
  clear hr0 hb0 hN h hL
  go_enter Tryz.func98, Tryz.ntmps98
  go_wp2_with fail
  try rw [← HG.out]
  generalize w.alloc (.cells (madeCells #[.bool false] N) 4) = W0 at *
  clear hg hmk
  go_loopw [4] (fun i wr => ∃ k : Nat, k ≤ L.length ∧ i = .int .i64 k ∧ Hid (BRow wr g N (sumL 0 (L.take k))) ∧ Hid (Below g w wr)) (fun i _ => L.length - (intOf i).toNat)
  case atStart => exact ⟨0, Nat.zero_le _, rfl, HR0, HB0⟩
  case round =>
    obtain ⟨k, hk, rfl, HR, HB⟩ := hrel
    obtain ⟨wq, rfl⟩ : ∃ wq : World, wq = wr := ⟨_, rfl⟩
    by_cases hlt : k < L.length
    · obtain ⟨e, he⟩ : ∃ e, e = L.getD k 0 := ⟨_, rfl⟩
      have hel : L[k]? = some e := by
        rw [he, List.getD_eq_getElem?_getD, List.getElem?_eq_getElem hlt]; rfl
      have he2 : e ≤ 16384 := HL.out e (List.mem_of_getElem? hel)
      have hce : wq.cell? ⟨a, k, none⟩ = some (.int .i64 (e : Int)) := by
        have := HB.out.cell (p := ⟨a, k, none⟩) (by exact la) |>.trans (HH.out k hlt)
        rw [← he] at this
        exact this
      have heN : e < N := by rw [HN.out]; omega
      have hcb : wq.cell? ⟨g, e, none⟩ = some (.bool ((sumL 0 (L.take k)).testBit e)) := HR.out.cell e heN
      have hfb := HR.out.free e
      have hfl := BRow.flip (e := e) HR.out
      obtain ⟨t, ht⟩ : ∃ t, t = (sumL 0 (L.take k)).testBit e := ⟨_, rfl⟩
      rw [← ht] at hcb hfl
      have HFL := Lib.hid hfl
      have heNi : (e : Int) < (N : Int) := by omega
      have hki : (k : Int) < (L.length : Int) := by omega
      have HT : Hid (L.take (k + 1) = L.take k ++ [e]) := Lib.hid (by rw [List.take_add_one, hel]; rfl)
      clear hel he hfl ht
      go_wp2_with fail
      go_region
      go_wp2_with fail
      go_roundw
      case rel => exact ⟨k + 1, by omega, by go_num, Lib.hid (by rw [HT.out, sumL_snoc]; exact Row.drew HFL.out), Lib.hid (Below.drew (HB.out.setCell (by exact Nat.le_refl _) _))⟩
      case measure => simp [intOf]; omega
    · have hk2 : k = L.length := by omega
      subst hk2
      go_wp2_with fail
      go_ret
      refine ⟨rfl, ?_, HB.out⟩
      have := HR.out
      rw [List.take_length] at this
      exact this
set_option maxHeartbeats 3200000 in
set_option maxRecDepth 100000 in
theorem rlist_any (g n c A : Nat) (w : World) (h : BRow w g n A) (hn : n ≤ 20000) (lg : g < w.heap.size) :
    Calls Tryz.prog 97 #[.slice (some ⟨g, 0, none⟩) n c] w fun x w' => ∃ v, x = .returned v ∧ w'.ownsRow w.heap.size 3 1 v (bl n A).length ((bl n A).map intV) ∧ Below w.heap.size w w' := by
  obtain ⟨i0, hi, hz0, hz1, hz2⟩ := info_parts info_int
  obtain ⟨F, hF⟩ : ∃ F, F = bl n A := ⟨_, rfl⟩
  have hFl : F.length ≤ 20000 := by
    have := bl_length n A
    rw [hF]; omega
  have HH := Lib.hid h
  have HF := Lib.hid hF
  have HFL := Lib.hid hFl
  rw [← hF]
  clear h hF hFl
  go_enter Tryz.func97, Tryz.ntmps97
  go_wp2
  go_loopw [3, 4] (fun v i wr => ∃ (j : Int) (T : List Nat), -1 ≤ j ∧ j < n ∧ i = .int .i64 j ∧ Hid (F = T ++ bl (j + 1).toNat A) ∧ Hid (wr.ownsRow w.heap.size 3 1 v T.length (T.map intV)) ∧ Hid (Below w.heap.size w wr)) (fun _ i _ => (intOf i + 1).toNat)
  case atStart => exact ⟨(n : Int) - 1, [], by omega, by omega, rfl, Lib.hid (by simpa using HF.out), Lib.hid (World.ownsRow_nil _ _ _ _), Lib.hid (Below.refl _ _)⟩
  case round =>
    obtain ⟨j, T, hj0, hj1, rfl, HT, HO, HB⟩ := hrel
    obtain ⟨wq, rfl⟩ : ∃ wq : World, wq = wr := ⟨_, rfl⟩
    by_cases h0 : 0 ≤ j
    · obtain ⟨k, rfl⟩ := Int.eq_ofNat_of_zero_le h0
      have hk : k < n := by omega
      have hcv : wq.cell? ⟨g, k, none⟩ = some (.bool (A.testBit k)) := HB.out.cell (p := ⟨g, k, none⟩) (by exact lg) |>.trans (HH.out.cell k hk)
      have hT2 := HT.out
      rw [show ((k : Int) + 1).toNat = k + 1 by omega] at hT2
      unfold bl at hT2
      cases hbt : A.testBit k
      · rw [hbt] at hcv hT2
        have HT2 : Hid (F = T ++ bl k A) := Lib.hid (by simpa using hT2)
        clear hT2 hbt
        go_wp2_with fail
        go_roundw
        case rel => exact ⟨(k : Int) - 1, T, by omega, by omega, rfl, Lib.hid (by have := HT2.out; rw [show ((k : Int) - 1 + 1).toNat = k by omega]; exact this), HO, HB⟩
        case measure => simp [intOf]
      · rw [hbt] at hcv hT2
        have HT2 : Hid (F = (T ++ [k]) ++ bl k A) := Lib.hid (by rw [hT2]; simp)
        have hTl : T.length + 1 ≤ 20000 := by
          have h1 := congrArg List.length HT2.out
          have h2 := HFL.out
          simp at h1
          omega
        clear hT2 hbt
        go_wp2_with (at_builtin; refine wpList_append_own _ rfl _ _ 55 rfl w.heap.size 3 i0 (.int .i64 0) 1 8 (by kernel_rfl) hi hz0 hz1 hz2 rfl (by decide) _ _ _ rfl (HO.out.alloc _) ⟨wq.heap.size, 0, none⟩ 1 1 [.int .i64 (k : Int)] rfl rfl ?c1 ?c2 ?c3 ?c4 ?c5 ?_)
        case c1 =>
          intro i u hu
          cases i with
          | zero => simp at hu; subst hu; simp [Addr.add]
          | succ i => simp at hu
        case c2 => intro u hu; simp at hu; subst hu; rfl
        case c3 => unfold maxLen; omega
        case c4 => omega
        case c5 => have := HB.out.size; simp; omega
        intro v' w2 hown' hgrow _
        have HB4 : Hid (Below w.heap.size w w2) := Lib.hid ((HB.out.alloc HB.out.size _).grown hgrow (by have := HB.out.size; simp; omega) (fun q hq => (HO.out.lt q hq).1))
        have HO4 : Hid (w2.ownsRow w.heap.size 3 1 v' (T ++ [k]).length ((T ++ [k]).map intV)) := Lib.hid (by
          rw [List.length_append, List.map_append]
          exact hown')
        clear hown' hgrow
        go_wp2_with fail
        go_roundw
        case rel => exact ⟨(k : Int) - 1, T ++ [k], by omega, by omega, rfl, Lib.hid (by have := HT2.out; rw [show ((k : Int) - 1 + 1).toNat = k by omega]; exact this), HO4, HB4⟩
        case measure => simp [intOf]
    · have : j = -1 := by omega
      subst this
      have hT : F = T := by simpa [bl] using HT.out
      subst hT
      go_wp2_with fail
      go_ret
      exact ⟨_, rfl, HO.out, HB.out⟩
end Go.Proofs.YtgfjeaegigjnaaaGreatDoor

namespace Go.Proofs.YtgfjeaegigjnaaaGreatDoor
open Go.RowKit
set_option linter.unusedVariables false
set_option linter.unusedSimpArgs false

theorem sumL_acc (acc : Nat) (L : List Nat) : sumL acc L = acc ^^^ sumL 0 L := by
  induction L generalizing acc with
  | nil => simp [sumL]
  | cons x L ih =>
    show sumL (acc ^^^ 2 ^ x) L = acc ^^^ sumL (0 ^^^ 2 ^ x) L
    rw [ih, ih (0 ^^^ 2 ^ x), Nat.zero_xor, Nat.xor_assoc]
theorem sumL_shift (acc e : Nat) (L : List Nat) : sumL acc (L.map (e + ·)) = acc ^^^ ((sumL 0 L) <<< e) := by
  induction L generalizing acc with
  | nil => simp [sumL]
  | cons x L ih =>
    rw [List.map_cons]
    show sumL (acc ^^^ 2 ^ (e + x)) (L.map (e + ·)) = acc ^^^ (sumL (0 ^^^ 2 ^ x) L <<< e)
    rw [ih, sumL_acc (0 ^^^ 2 ^ x), Nat.zero_xor, Nat.shiftLeft_xor_distrib, Nat.xor_assoc]
    congr 2
    rw [Nat.shiftLeft_eq, ← Nat.pow_add, Nat.add_comm]
theorem terms_head {A : Nat} (h : A ≠ 0) : (terms A).getD 0 0 = A.log2 := by
  unfold terms
  rw [bl_top h Nat.lt_log2_self]; rfl
theorem own_row {w : World} {B n : Nat} {v : Value} {L : List Nat} (h : w.ownsRow B 3 1 v n (L.map intV)) (hn : n = L.length) (h0 : L ≠ []) : ∃ g cap, v = .slice (some ⟨g, 0, none⟩) n cap ∧ B ≤ g ∧ g < w.heap.size ∧ IntsAt w g L := by
  subst hn
  obtain ⟨g, cap, h1, h2, h3, h4, _⟩ := own_ints h h0
  exact ⟨g, cap, h1, h2, h3, h4⟩
set_option maxHeartbeats 6400000 in
set_option maxRecDepth 100000 in
theorem rpolyMul_any (a b ca cb A B : Nat) (w : World) (hA : A ≠ 0) (hB : B ≠ 0) (ha : IntsAt w a (terms A)) (hb : IntsAt w b (terms B)) (hd : A.log2 + B.log2 ≤ 16384) (la : a < w.heap.size) (lb : b < w.heap.size) :
    Calls Tryz.prog 74 #[.slice (some ⟨a, 0, none⟩) (terms A).length ca, .slice (some ⟨b, 0, none⟩) (terms B).length cb] w fun x w' =>
      ∃ v, x = .returned (.tuple #[v, .bool true]) ∧ PolyIn w' w.heap.size v (clmul A B) ∧ Below w.heap.size w w' := by
  have hAl := terms_length A
  have hBl := terms_length B
  have HtA : Hid (∀ e ∈ terms A, e ≤ 16384) := Lib.hid (fun e he => by have := terms_le he; omega)
  have HtB : Hid (∀ e ∈ terms B, e ≤ 16384) := Lib.hid (fun e he => by have := terms_le he; omega)
  have HM : Hid (mulL B 0 (terms A) = clmul A B) := Lib.hid rfl
  have HeA : Hid (∀ e ∈ terms A, e ≤ A.log2) := Lib.hid (fun e he => terms_le he)
  have HeB : Hid (∀ e ∈ terms B, e ≤ B.log2) := Lib.hid (fun e he => terms_le he)
  have HNA := Lib.hid (terms_ne hA)
  have HNB := Lib.hid (terms_ne hB)
  have HB1 : Hid (B < 2 ^ (B.log2 + 1)) := Lib.hid Nat.lt_log2_self
  have HT1 : Hid (bl 16385 A = terms A) := Lib.hid (terms_bl2 (by omega))
  have HT2 : Hid (bl 16385 B = terms B) := Lib.hid (terms_bl2 (by omega))
  have HT3 : Hid (∀ C : Nat, C.log2 < 16385 → bl 16385 C = terms C) := Lib.hid (fun C hC => terms_bl2 hC)
  have hhA := terms_head hA
  have hhB := terms_head hB
  have hsA := terms_sum A
  have hsB := terms_sum B
  obtain ⟨m, hm⟩ : ∃ m, m = A.log2 := ⟨_, rfl⟩
  obtain ⟨n, hn⟩ : ∃ n, n = B.log2 := ⟨_, rfl⟩
  obtain ⟨LA, hLA⟩ : ∃ LA, LA = terms A := ⟨_, rfl⟩
  obtain ⟨LB, hLB⟩ : ∃ LB, LB = terms B := ⟨_, rfl⟩
  obtain ⟨C, hC⟩ : ∃ C, C = clmul A B := ⟨_, rfl⟩
  rw [← hm] at hd hAl HeA hhA
  rw [← hn] at hd hBl HB1 HeB hhB
  rw [← hLA] at ha hAl HtA HeA HNA HT1 HM hhA hsA
  rw [← hLB] at hb hBl HtB HeB HNB HT2 hhB hsB
  rw [← hC] at HM
  rw [← hLA, ← hLB, ← hC]
  have HA := Lib.hid ha
  have HB := Lib.hid hb
  have HhA := Lib.hid hhA
  have HhB := Lib.hid hhB
  have HsA := Lib.hid hsA
  have HsB := Lib.hid hsB
  obtain ⟨N, hN⟩ : ∃ N : Nat, N = 16385 := ⟨16385, rfl⟩
  rw [← hN] at HT1 HT2 HT3
  have hmk := make_bits N hN
  have HN := Lib.hid hN
  clear ha hb hhA hhB hsA hsB hC hLA hLB hm hn hA hB hN
  go_enter Tryz.func74, Tryz.ntmps74
  go_wp2_with fail
  go_at_call 98
  refine (rbits_any a ca N HN.out LA w HA.out HtA.out (by omega) la).mono ?_
  rintro x w1 ⟨rfl, hr1, hb1⟩
  rw [HsA.out] at hr1
  have lw1 : w.heap.size < w1.heap.size := World.block_lt_of_cell? _ _ (hr1.cell 0 (by rw [HN.out]; decide))
  have HR1 := Lib.hid hr1
  have HB1w := Lib.hid hb1
  clear hr1 hb1
  go_wp2_with fail
  go_at_call 97
  refine (rlist_any _ _ _ A w1 HR1.out (by rw [HN.out]; decide) lw1).mono ?_
  rintro x w2 ⟨va, rfl, ho2, hb2⟩
  rw [HT1.out] at ho2
  have HO2 := Lib.hid ho2
  have HB2w : Hid (Below w.heap.size w w2) := Lib.hid (HB1w.out.trans (hb2.mono (by omega)))
  clear ho2 hb2 HR1
  have lw2 := HB2w.out.size
  go_wp2_with fail
  go_at_call 98
  refine (rbits_any b cb N HN.out LB w2 (HB.out.below HB2w.out lb) HtB.out (by omega) (by omega)).mono ?_
  rintro x w3 ⟨rfl, hr3, hb3⟩
  rw [HsB.out] at hr3
  have lw3 : w2.heap.size < w3.heap.size := World.block_lt_of_cell? _ _ (hr3.cell 0 (by rw [HN.out]; decide))
  have HR3 := Lib.hid hr3
  have HO3 := Lib.hid (own_stays HO2.out (Stays.of_below hb3) (fun _ _ e => e))
  have HB3w : Hid (Below w.heap.size w w3) := Lib.hid (HB2w.out.trans (hb3.mono lw2))
  clear hr3 hb3 HO2
  go_wp2_with fail
  go_at_call 97
  refine (rlist_any _ _ _ B w3 HR3.out (by rw [HN.out]; decide) lw3).mono ?_
  rintro x w4 ⟨vb, rfl, ho4, hb4⟩
  rw [HT2.out] at ho4
  have hO4 := own_stays HO3.out (Stays.of_below hb4) (fun _ _ e => e)
  have HB4w : Hid (Below w.heap.size w w4) := Lib.hid (HB3w.out.trans (hb4.mono (by omega)))
  obtain ⟨ga, xa, rfl, hga1, hga2, hia⟩ := own_row hO4 rfl HNA.out
  obtain ⟨gb, xb, rfl, hgb1, hgb2, hib⟩ := own_row ho4 rfl HNB.out
  have HIA := Lib.hid hia
  have HIB := Lib.hid hib
  clear ho4 hb4 hO4 HO3 HR3
  have hla0 : 0 < LA.length := List.length_pos_iff.mpr HNA.out
  have hlb0 : 0 < LB.length := List.length_pos_iff.mpr HNB.out
  have hza : ((LA.length : Int) == 0) = false := by rw [beq_eq_false_iff_ne]; omega
  have hzb : ((LB.length : Int) == 0) = false := by rw [beq_eq_false_iff_ne]; omega
  have ca0 : w4.cell? ⟨ga, 0, none⟩ = some (.int .i64 (m : Int)) := by have := hia 0 hla0; rw [HhA.out] at this; exact this
  have cb0 : w4.cell? ⟨gb, 0, none⟩ = some (.int .i64 (n : Int)) := by have := hib 0 hlb0; rw [HhB.out] at this; exact this
  have hla0i : 0 < (LA.length : Int) := by omega
  have hlb0i : 0 < (LB.length : Int) := by omega
  clear hia hib
  go_wp2_with fail
  go_quiet (fail)
  go_wp2_with fail
  obtain ⟨g3, hg3⟩ : ∃ g, g = w4.heap.size := ⟨_, rfl⟩
  have hz5 := zero_bits (w4.drewN nq) N
  have hz5' : BRow ((w4.drewN nq).alloc (.cells (madeCells #[.bool false] N) 4)) g3 N 0 := by rw [hg3]; exact hz5
  have hst5 : Stays (fun _ => False) w4 ((w4.drewN nq).alloc (.cells (madeCells #[.bool false] N) 4)) := ((Stays.refl _ _).drewN nq).alloc _
  have hb5 : Below w.heap.size w ((w4.drewN nq).alloc (.cells (madeCells #[.bool false] N) 4)) := (Below.drewN' HB4w.out nq).alloc (by show w.heap.size ≤ w4.heap.size; omega) _
  rw [← hg3]
  have hnga : ga ≠ g3 := by omega
  have hngb : gb ≠ g3 := by omega
  have hwg : w.heap.size ≤ g3 := by omega
  generalize (w4.drewN nq).alloc (.cells (madeCells #[.bool false] N) 4) = w5 at *
  have HZ5 := Lib.hid hz5'
  have HIA5 : Hid (IntsAt w5 ga LA) := Lib.hid (HIA.out.stays hst5 id)
  have HIB5 : Hid (IntsAt w5 gb LB) := Lib.hid (HIB.out.stays hst5 id)
  have HB5 := Lib.hid hb5
  have hN16 : 16385 ≤ N := by rw [HN.out]; exact Nat.le_refl _
  have hN17 : N ≤ 16385 := by rw [HN.out]; exact Nat.le_refl _
  clear hz5 hz5' hst5 hb5 hg3 ca0 cb0 hmk HIA HIB
  go_loopw [9] (fun i wr => ∃ k : Nat, k ≤ LA.length ∧ i = .int .i64 k ∧ Hid (BRow wr g3 N (mulL B 0 (LA.take k))) ∧ Hid (Stays (· = g3) w5 wr)) (fun i _ => LA.length - (intOf i).toNat)
  case atStart => exact ⟨0, Nat.zero_le _, rfl, HZ5, Lib.hid (Stays.refl _ _)⟩
  case round =>
    obtain ⟨i, hil, rfl, HR, HS⟩ := hrel
    obtain ⟨wq, rfl⟩ : ∃ wq : World, wq = wr := ⟨_, rfl⟩
    by_cases hlt : i < LA.length
    · obtain ⟨e, he⟩ : ∃ e, e = LA.getD i 0 := ⟨_, rfl⟩
      have hel : LA[i]? = some e := by
        rw [he, List.getD_eq_getElem?_getD, List.getElem?_eq_getElem hlt]; rfl
      have heL : e ∈ LA := List.mem_of_getElem? hel
      have hem : e ≤ m := HeA.out e heL
      have hcf : Hid (∀ W, Stays (· = g3) w5 W → W.cell? ⟨ga, i, none⟩ = some (.int .i64 (e : Int))) := Lib.hid (fun W hW => by
        have := hW.cell (HIA5.out i hlt) hnga
        rw [← he] at this
        exact this)
      have HT : Hid (LA.take (i + 1) = LA.take i ++ [e]) := Lib.hid (by rw [List.take_add_one, hel]; rfl)
      obtain ⟨X, hX⟩ : ∃ X, X = mulL B 0 (LA.take i) := ⟨_, rfl⟩
      rw [← hX] at HR
      have HX := Lib.hid hX
      have hli : (i : Int) < (LA.length : Int) := by omega
      clear he hel heL hX
      go_wp2_with fail
      go_loopw [10] (fun kv wz => ∃ k : Nat, k ≤ LB.length ∧ kv = .int .i64 k ∧ Hid (BRow wz g3 N (X ^^^ (sumL 0 (LB.take k) <<< e))) ∧ Hid (Stays (· = g3) w5 wz)) (fun kv _ => LB.length - (intOf kv).toNat)
      case atStart => exact ⟨0, Nat.zero_le _, rfl, Lib.hid (by have := HR.out; simpa [sumL] using this), HS⟩
      case round =>
        obtain ⟨k, hkl, rfl, HRz, HSz⟩ := hrel
        obtain ⟨wz, rfl⟩ : ∃ wz : World, wz = wr := ⟨_, rfl⟩
        by_cases hlt2 : k < LB.length
        · obtain ⟨f, hf⟩ : ∃ f, f = LB.getD k 0 := ⟨_, rfl⟩
          have hfl : LB[k]? = some f := by
            rw [hf, List.getD_eq_getElem?_getD, List.getElem?_eq_getElem hlt2]; rfl
          have hfn : f ≤ n := HeB.out f (List.mem_of_getElem? hfl)
          have c1 := hcf.out wz HSz.out
          have c2 : wz.cell? ⟨gb, k, none⟩ = some (.int .i64 (f : Int)) := by
            have := HSz.out.cell (HIB5.out k hlt2) hngb
            rw [← hf] at this
            exact this
          obtain ⟨Y, hY⟩ : ∃ Y, Y = X ^^^ (sumL 0 (LB.take k) <<< e) := ⟨_, rfl⟩
          rw [← hY] at HRz
          have hsum : X ^^^ (sumL 0 (LB.take (k + 1)) <<< e) = Y ^^^ 2 ^ (e + f) := by
            rw [List.take_add_one, hfl, Option.toList_some, sumL_snoc, Nat.shiftLeft_xor_distrib, ← Nat.xor_assoc, ← hY]
            congr 1
            rw [Nat.shiftLeft_eq, ← Nat.pow_add, Nat.add_comm]
          have c3 : wz.cell? ⟨g3, e + f, none⟩ = some (.bool (Y.testBit (e + f))) := HRz.out.cell (e + f) (by omega)
          have f3 := HRz.out.free (e + f)
          have hflip := BRow.flip (e := e + f) HRz.out
          obtain ⟨t, ht⟩ : ∃ t, t = Y.testBit (e + f) := ⟨_, rfl⟩
          rw [← ht] at c3 hflip
          have HFL := Lib.hid hflip
          have HSUM := Lib.hid hsum
          have i1 : (k : Int) < (LB.length : Int) := by omega
          have i2 : (e : Int) + (f : Int) < (N : Int) := by omega
          have i3 : 0 ≤ (e : Int) + (f : Int) := by omega
          have i4 : ((e : Int) + (f : Int)).toNat = e + f := by omega
          have i5 : IntKind.i64.wrap ((e : Int) + (f : Int)) = (e : Int) + (f : Int) := (IntWalk.i64_left _).trans (IntWalk.wrap64_in _ (by omega))
          clear hf hfl hY hsum hflip ht
          go_wp2_with fail
          go_region
          clear i5
          go_wp2_with fail
          go_roundw
          case rel => exact ⟨k + 1, by omega, by go_num, Lib.hid (by rw [HSUM.out]; exact Row.drew HFL.out), Lib.hid (HSz.out.trans Row.stay).drew⟩
          case measure => simp [intOf]; omega
        · obtain rfl : k = LB.length := by omega
          have HX2 : Hid (BRow wz g3 N (mulL B 0 (LA.take (i + 1)))) := Lib.hid (by
            have := HRz.out
            rw [List.take_length, HsB.out, HX.out, ← mulL_snoc, ← HT.out] at this
            exact this)
          clear HRz
          go_wp2_with fail
          go_roundw
          case rel => exact ⟨i + 1, by omega, by go_num, HX2, HSz⟩
          case measure => simp [intOf]; omega
    · obtain rfl : i = LA.length := by omega
      have hC1 : C.log2 < N := by
        rw [← HM.out]
        exact mulL_log HB1.out LA (by omega) (fun e he => by have := HeA.out e he; omega)
      have HC : Hid (bl N C = terms C) := Lib.hid (HT3.out C hC1)
      have HR5 : Hid (BRow wq g3 N C) := Lib.hid (by
        have := HR.out
        rw [List.take_length, HM.out] at this
        exact this)
      have hg35 : g3 < wq.heap.size := World.block_lt_of_cell? _ _ (HR5.out.cell 0 (by omega))
      have HBq : Hid (Below w.heap.size w wq) := Lib.hid (Below.stays HB5.out HS.out (fun q hq => by omega) (by have := HB5.out.size; omega))
      have hbs := HBq.out.size
      clear hC1 HR
      go_wp2_with fail
      go_at_call 97
      have hN20 : N ≤ 20000 := by omega
      refine (rlist_any g3 N N C wq HR5.out hN20 hg35).mono ?_
      rintro x w6 ⟨v6, rfl, how6, hb6⟩
      rw [HC.out] at how6
      have HO6 : Hid (PolyIn w6 w.heap.size v6 C) := Lib.hid (own_mono how6 hbs)
      have HB6 : Hid (Below w.heap.size w w6) := Lib.hid (HBq.out.trans (hb6.mono hbs))
      clear how6 hb6
      go_wp2_with fail
      go_ret2
      exact ⟨v6, rfl, HO6.out, HB6.out⟩
end Go.Proofs.YtgfjeaegigjnaaaGreatDoor

namespace Go.Proofs.YtgfjeaegigjnaaaGreatDoor
open Go.RowKit
set_option linter.unusedVariables false
set_option linter.unusedSimpArgs false

set_option maxRecDepth 100000 in
set_option maxHeartbeats 3200000 in
theorem same_no (a b ca cb : Nat) (L M : List Nat) (hne : L ≠ M) (w : World) (hL : IntsAt w a L) (hM : IntsAt w b M) (h1 : L.length ≤ 1000) (h2 : M.length ≤ 1000) :
    Calls Tryz.prog 73 #[.slice (some ⟨a, 0, none⟩) L.length ca, .slice (some ⟨b, 0, none⟩) M.length cb] w fun e w' => e = .returned (.bool false) ∧ Stays (fun _ => False) w w' := by
  obtain ⟨m, hm⟩ : ∃ m, m = L.length := ⟨_, rfl⟩
  obtain ⟨n, hn⟩ : ∃ n, n = M.length := ⟨_, rfl⟩
  have HL := Lib.hid hL
  have HM := Lib.hid hM
  have HNE := Lib.hid hne
  rw [← hm] at h1
  rw [← hn] at h2
  rw [← hm, ← hn]
  have Hm := Lib.hid hm
  have Hn := Lib.hid hn
  clear hL hM hm hn hne
  by_cases hmn : m = n
  · have hd : decide ((m : Int) = (n : Int)) = true := by simp; omega
    subst hmn
    go_enter Tryz.func73, Tryz.ntmps73
    go_wp2_with fail
    go_loopw [5] (fun i wr => ∃ k : Nat, k ≤ m ∧ i = .int .i64 (k : Int) ∧ Hid (L.take k = M.take k) ∧ Hid (Stays (fun _ => False) w wr)) (fun i _ => m - (intOf i).toNat)
    case atStart => exact ⟨0, Nat.zero_le _, rfl, Lib.hid rfl, Lib.hid (Stays.refl _ _)⟩
    case round =>
      obtain ⟨k, hk, rfl, HT, HS⟩ := hrel
      obtain ⟨wq, rfl⟩ : ∃ wq : World, wq = wr := ⟨_, rfl⟩
      by_cases hlt : k < m
      · have c1 : wq.cell? ⟨a, k, none⟩ = some (.int .i64 ((L.getD k 0 : Nat) : Int)) := HS.out.cell (HL.out k (by have := Hm.out; omega)) id
        have c2 : wq.cell? ⟨b, k, none⟩ = some (.int .i64 ((M.getD k 0 : Nat) : Int)) := HS.out.cell (HM.out k (by have := Hn.out; omega)) id
        obtain ⟨x, hx⟩ : ∃ x, x = L.getD k 0 := ⟨_, rfl⟩
        obtain ⟨y, hy⟩ : ∃ y, y = M.getD k 0 := ⟨_, rfl⟩
        rw [← hx] at c1
        rw [← hy] at c2
        have HX := Lib.hid hx
        have HY := Lib.hid hy
        clear hx hy
        by_cases hxy : x = y
        · have hb : (((x : Nat) : Int) != ((y : Nat) : Int)) = false := by simp; omega
          have hlt2 : (k : Int) < (m : Int) := by omega
          have HXY := Lib.hid hxy
          clear hxy
          go_wp2_with fail
          go_quiet (fail)
          go_wp2_with fail
          go_roundw
          case rel =>
            refine ⟨k + 1, by omega, by go_num, Lib.hid ?_, Lib.hid (HS.out.drewN _)⟩
            have e1 := Hm.out
            have e2 := Hn.out
            have e3 := HX.out
            have e4 := HY.out
            rw [List.getD_eq_getElem?_getD, List.getElem?_eq_getElem (by omega)] at e3 e4
            rw [List.take_add_one, List.take_add_one, HT.out, List.getElem?_eq_getElem (by omega), List.getElem?_eq_getElem (by omega)]
            simp only [Option.getD_some] at e3 e4
            rw [← e3, ← e4, HXY.out]
          case measure => simp [intOf]; omega
        · have hb : (((x : Nat) : Int) != ((y : Nat) : Int)) = true := by simp; omega
          have hlt2 : (k : Int) < (m : Int) := by omega
          have HXY := Lib.hid hxy
          clear hxy
          go_wp2_with fail
          go_quiet (fail)
          go_wp2_with fail
          go_ret
          exact ⟨rfl, HS.out.drewN _⟩
      · obtain rfl : k = m := by omega
        exfalso
        have e := HT.out
        rw [List.take_of_length_le (by have := Hm.out; omega), List.take_of_length_le (by have := Hn.out; omega)] at e
        exact HNE.out e
  · have hd : (((m : Nat) : Int) != ((n : Nat) : Int)) = true := by simp; omega
    go_enter Tryz.func73, Tryz.ntmps73
    go_wp2_with fail
    go_ret
    exact ⟨rfl, Stays.refl _ _⟩
theorem PolyIn.grownE {w w' : World} {B B2 A n e : Nat} {v sv : Value} {vs : List Value} (h : PolyIn w B v A) (k : w.grownBy w' sv.ownBlock) (hs : w.ownsRow B2 e 1 sv n vs) (he : 3 ≠ e) : PolyIn w' B v A :=
  own_stays h (grown_stays k) (fun q hq e' => own_ne h hs he q hq e')
/-- The state at the head of round j. -/
structure RGen (w0 w : World) (sv ov : Value) (vs : List Value) (n j : Nat) : Prop where
  bw : Below w0.heap.size w0 w
  out : PolyIn w w0.heap.size ov (genA j)
  len : vs.length = n
  own : w.ownsRow w0.heap.size 55 1 sv n vs
  each : ∀ i, i < n → ∃ v, vs[i]? = some v ∧ PolyIn w w0.heap.size v (mkA i)
section
variable {w0 w w' : World} {sv ov mv : Value} {vs : List Value} {n j : Nat}
theorem RGen.new (h : RGen w0 w sv ov vs n j) (k : Below w.heap.size w w') : RGen w0 w' sv ov vs n j := by
  have hs : Stays (fun _ => False) w w' := Stays.of_below k
  exact ⟨h.bw.trans (k.mono h.bw.size), h.out.new hs, h.len, own_stays h.own hs (fun _ _ e => e), fun i hi => by
    obtain ⟨v, e1, e2⟩ := h.each i hi
    exact ⟨v, e1, e2.new hs⟩⟩
theorem RGen.still (h : RGen w0 w sv ov vs n j) (hs : Stays (fun _ => False) w w') : RGen w0 w' sv ov vs n j := by
  refine ⟨?_, h.out.new hs, h.len, own_stays h.own hs (fun _ _ e => e), fun i hi => by
    obtain ⟨v, e1, e2⟩ := h.each i hi
    exact ⟨v, e1, e2.new hs⟩⟩
  exact Below.stays h.bw hs (fun _ e => e.elim) h.bw.size
theorem RGen.seen (h : RGen w0 w sv ov vs j j) (hj : j < 8) : SeenNo w (terms (mkA j)) vs := by
  intro i hi
  rw [h.len] at hi
  obtain ⟨v, e1, e2⟩ := h.each i hi
  obtain ⟨g, cap, h1, h2, h3, h4⟩ := e2.at (mk_ne (by omega))
  subst h1
  refine ⟨g, cap, _, e1, h4, mk_apart hi hj, ?_⟩
  have := terms_length (mkA i)
  rw [mk_log (by omega)] at this
  omega
theorem RGen.push {sv' : Value} (h : RGen w0 w sv ov vs n j) (hm : PolyIn w w0.heap.size mv (mkA n)) (hg : w.grownBy w' sv.ownBlock) (hown : w'.ownsRow w0.heap.size 55 1 sv' (n + 1) (vs ++ [mv])) :
    RGen w0 w' sv' ov (vs ++ [mv]) (n + 1) j := by
  refine ⟨h.bw.grown hg h.bw.size (fun q hq => (h.own.lt q hq).1), h.out.grownE hg h.own (by decide), by rw [List.length_append, h.len]; rfl, hown, fun i hi => ?_⟩
  rcases Nat.lt_or_ge i n with hi2 | hi2
  · obtain ⟨v, e1, e2⟩ := h.each i hi2
    exact ⟨v, by rw [List.getElem?_append_left (by rw [h.len]; exact hi2)]; exact e1, e2.grownE hg h.own (by decide)⟩
  · obtain rfl : i = n := by omega
    exact ⟨mv, by rw [List.getElem?_append_right (by rw [h.len]; exact Nat.le_refl _), h.len, Nat.sub_self]; rfl, hm.grownE hg h.own (by decide)⟩
theorem RGen.next {ov' : Value} (h : RGen w0 w sv ov vs n j) (k : Below w.heap.size w w') (ho : PolyIn w' w.heap.size ov' (genA (j + 1))) : RGen w0 w' sv ov' vs n (j + 1) := by
  have h' := h.new k
  exact ⟨h'.bw, own_mono ho h.bw.size, h'.len, h'.own, h'.each⟩
end
theorem info_ints : (Tryz.prog.info? 55).map (fun i => (i.zero, i.size, i.bytes)) = some (some (.slice none 0 0), 1, 24) := by kernel_rfl
set_option maxHeartbeats 3200000 in
set_option maxRecDepth 100000 in
theorem rgenerator_any (t : Nat) (ht1 : 1 ≤ t) (ht8 : t ≤ 8) (w : World) :
    Calls Tryz.prog 50 #[.int .i64 (t : Int)] w fun x w' => ∃ v, x = .returned v ∧ PolyIn w' w.heap.size v (genA t) ∧ Below w.heap.size w w' := by
  obtain ⟨i0, hi, hz0, hz1, hz2⟩ := info_parts info_ints
  have hst : RGen w (w.alloc (.cells #[.int .i64 0] 3)) (.slice none 0 0) (.slice (some ⟨w.heap.size, 0, none⟩) 1 1) [] 0 0 := by
    refine ⟨(Below.refl _ _).alloc (Nat.le_refl _) _, ?_, rfl, World.ownsRow_nil _ _ _ _, fun i hi => by omega⟩
    unfold PolyIn
    rw [gen_zero]
    exact World.ownsRow_lit w #[.int .i64 0] 1 (Nat.le_refl _) (by decide) rfl
  have HST := Lib.hid hst
  clear hst
  go_enter Tryz.func50, Tryz.ntmps50
  go_wp2_with fail
  generalize w.alloc (.cells #[.int .i64 0] 3) = W0 at *
  generalize (Value.slice (some ⟨w.heap.size, 0, none⟩) 1 1) = ov0 at *
  go_loopw [3, 4, 5] (fun ov sv kv wr => ∃ (j k : Nat) (vs : List Value), j ≤ t ∧ kv = .int .i64 (k : Int) ∧ Hid (k = 2 * j + 1) ∧ k ≤ 2 * t + 1 ∧ Hid (RGen w wr sv ov vs j j)) (fun _ _ kv _ => 2 * t + 1 - (intOf kv).toNat)
  case atStart => exact ⟨0, 1, [], by omega, rfl, Lib.hid rfl, by omega, HST⟩
  case round =>
    obtain ⟨j, k, vs, hjt, rfl, HK, hk2, HG⟩ := hrel
    obtain ⟨wq, rfl⟩ : ∃ wq : World, wq = wr := ⟨_, rfl⟩
    clear HST
    by_cases hlt : j < t
    · have hk := HK.out
      have hkt : (k : Int) < 2 * (t : Int) := by omega
      have hk16 : k < 16 := by omega
      have hmd : MinD (expN k) (mkA j) := by rw [hk]; exact min_ok (by omega)
      have HMD := Lib.hid hmd
      clear hk hmd
      go_wp2_with fail
      go_at_call 72
      refine (rminimal_any k (mkA j) hk16 HMD.out wq).mono ?_
      rintro x w1 ⟨mv, rfl, hmo, hb1⟩
      have hg1 := HG.out.new hb1
      have hmp : PolyIn w1 w.heap.size mv (mkA j) := own_mono hmo HG.out.bw.size
      obtain ⟨gm, cm, rfl, hgm1, hgm2, hmi⟩ := hmp.at (mk_ne (by omega))
      obtain ⟨go, co, hov, hgo1, hgo2, hgoi⟩ := hg1.out.at (gen_ne (by omega))
      subst hov
      obtain ⟨LM, hLM⟩ : ∃ LM, LM = terms (mkA j) := ⟨_, rfl⟩
      obtain ⟨LO, hLO⟩ : ∃ LO, LO = terms (genA j) := ⟨_, rfl⟩
      rw [← hLM] at hmi hmp
      rw [← hLO] at hgoi hg1
      rw [← hLM, ← hLO]
      have hml : LM.length ≤ 14 := by
        have := terms_length (mkA j)
        rw [mk_log (by omega), ← hLM] at this
        exact this
      have hol : LO.length ≤ 105 := by
        have := terms_length (genA j)
        rw [gen_log (by omega), ← hLO] at this
        omega
      have hsn : SeenNo w1 LM vs := by rw [hLM]; exact hg1.seen (by omega)
      obtain ⟨ad, cs, hsv⟩ : ∃ ad c, u4 = .slice ad j c := by
        rcases hg1.own.2 with ⟨h, h0⟩ | ⟨g, cap, cur, h, _⟩
        · exact ⟨_, _, by rw [h, h0]⟩
        · exact ⟨_, cap, h⟩
      have hcells : ∀ i, i < j → ∃ g, ad = some ⟨g, 0, none⟩ ∧ w1.cell? ⟨g, i, none⟩ = vs[i]? := by
        intro i hi
        rcases hg1.own.2 with ⟨h, h0⟩ | ⟨g, cap, cur, h, _⟩
        · omega
        · refine ⟨g, ?_, ?_⟩
          · rw [hsv] at h; injection h
          · have h' := hg1.own
            rw [h] at h'
            exact h'.cellAt i (by omega)
      subst hsv
      have hlen := hg1.len
      have HLM := Lib.hid hLM
      have HLO := Lib.hid hLO
      have HMI := Lib.hid hmi
      have HMP := Lib.hid hmp
      have HG1 := Lib.hid hg1
      have HSN := Lib.hid hsn
      have HCE := Lib.hid hcells
      have HLEN := Lib.hid hlen
      clear hLM hLO hmi hmp hg1 hsn hcells hgoi hmo hb1 HG hlen
      go_wp2_with fail
      go_loopw [7, 8] (fun kn iv wz => ∃ i : Nat, i ≤ j ∧ iv = .int .i64 (i : Int) ∧ kn = .bool false ∧ Hid (Stays (fun _ => False) w1 wz)) (fun _ iv _ => j - (intOf iv).toNat)
      case atStart => exact ⟨0, by omega, rfl, rfl, Lib.hid (Stays.refl _ _)⟩
      case round =>
        obtain ⟨i, hij, rfl, rfl, HS⟩ := hrel
        obtain ⟨wz, rfl⟩ : ∃ wz : World, wz = wr := ⟨_, rfl⟩
        by_cases hlt2 : i < j
        · obtain ⟨g, rfl, hc⟩ := HCE.out i hlt2
          obtain ⟨a, c', L, e1, e2, e3, e4⟩ := HSN.out i (by rw [HLEN.out]; exact hlt2)
          rw [e1] at hc
          have hcq : wz.cell? ⟨g, i, none⟩ = some (.slice (some ⟨a, 0, none⟩) L.length c') := HS.out.cell hc id
          have HSA := Lib.hid (same_no a gm c' cm L LM e3 wz (e2.stays HS.out id) (HMI.out.stays HS.out id) e4 (by omega))
          have hlti : (i : Int) < (j : Int) := by omega
          clear e1 e2 e3 hc
          go_wp2_with (go_at_call 73; refine HSA.out.mono ?_; rintro e w' ⟨rfl, hs⟩)
          have HS2 := Lib.hid (HS.out.trans hs)
          clear hs
          go_wp2_with fail
          go_roundw
          case rel => exact ⟨i + 1, by omega, by go_num, rfl, HS2⟩
          case measure => simp [intOf]; omega
        · obtain rfl : i = j := by omega
          have HG2 := Lib.hid (HG1.out.still HS.out)
          have HMP2 := Lib.hid (HMP.out.new HS.out)
          have hbz := HG2.out.bw.size
          clear HCE HSN HMI HS HG1 HMP
          go_wp2_with (at_builtin; refine wpList_append_own _ rfl _ _ 156 rfl w.heap.size 55 i0 (.slice none 0 0) 1 24 (by kernel_rfl) hi hz0 hz1 hz2 rfl (by decide) _ _ _ rfl (HG2.out.own.alloc _) ⟨wz.heap.size, 0, none⟩ 1 1 [.slice (some ⟨gm, 0, none⟩) LM.length cm] rfl rfl ?c1 ?c2 ?c3 ?c4 ?c5 ?_)
          case c1 =>
            intro i u hu
            cases i with
            | zero => simp at hu; subst hu; simp [Addr.add]
            | succ i => simp at hu
          case c2 => intro u hu; simp at hu; subst hu; rfl
          case c3 => unfold maxLen; omega
          case c4 => omega
          case c5 => simp; omega
          intro sv' w4 hown' hgrow _
          have hba : Below wz.heap.size wz (wz.alloc (.cells #[.slice (some ⟨gm, 0, none⟩) LM.length cm] 55)) := (Below.refl _ _).alloc (Nat.le_refl _) _
          have hg3 := HG2.out.new hba
          have hmp3 := HMP2.out.new (Stays.of_below hba)
          have HG4 := Lib.hid (hg3.push hmp3 hgrow hown')
          have hmp4 : PolyIn w4 w.heap.size (.slice (some ⟨gm, 0, none⟩) LM.length cm) (mkA i) := hmp3.grownE hgrow hg3.own (by decide)
          have HMUL : Hid (Calls Tryz.prog 74 #[.slice (some ⟨go, 0, none⟩) LO.length co, .slice (some ⟨gm, 0, none⟩) LM.length cm] w4 fun x w' => ∃ v, x = .returned (.tuple #[v, .bool true]) ∧ PolyIn w' w4.heap.size v (genA (i + 1)) ∧ Below w4.heap.size w4 w') := Lib.hid (by
            obtain ⟨g1, c1, e1, e2, e3, e4⟩ := HG4.out.out.at (gen_ne (by omega))
            obtain ⟨g2, c2, f1, f2, f3, f4⟩ := hmp4.at (mk_ne (by omega))
            injection e1 with e1 e1' e1''
            injection f1 with f1 f1' f1''
            injection e1 with e1
            injection f1 with f1
            injection e1 with e1
            injection f1 with f1
            subst e1 f1 e1'' f1''
            rw [HLO.out, HLM.out]
            have := rpolyMul_any go gm co cm (genA i) (mkA i) w4 (gen_ne (by omega)) (mk_ne (by omega)) e4 f4 (by rw [gen_log (by omega), mk_log (by omega)]; omega) e3 f3
            rw [gen_step (by omega)] at this
            exact this)
          clear hown' hgrow hba hg3 hmp3 hmp4 HLO HLM HG2 HMP2
          go_wp2_with fail
          go_at_call 74
          refine HMUL.out.mono ?_
          rintro x w5 ⟨ov', rfl, hov, hb5⟩
          have HST5 := Lib.hid (HG4.out.next hb5 hov)
          clear hov hb5 HMUL HG4
          have hk3 := HK.out
          go_wp2_with fail
          go_roundw
          case rel => exact ⟨i + 1, k + 2, _, by omega, by go_num, Lib.hid (by omega), by omega, HST5⟩
          case measure => simp [intOf]; omega
    · obtain rfl : j = t := by omega
      have hk := HK.out
      have hkt : ¬ (k : Int) < 2 * (j : Int) := by omega
      clear hk
      go_wp2_with fail
      go_ret
      exact ⟨_, rfl, HG.out.out, HG.out.bw⟩
end Go.Proofs.YtgfjeaegigjnaaaGreatDoor

namespace Go.Proofs.YtgfjeaegigjnaaaGreatDoor
set_option linter.unusedVariables false
set_option linter.unusedSimpArgs false

/-- Byte j of n, of a number of 8 n bits. -/
def byteAt (n V j : Nat) : Nat := (V >>> (8 * (n - 1 - j))) % 2 ^ 8
theorem byteAt_lt (n V j : Nat) : byteAt n V j < 256 := Nat.mod_lt _ (by decide)
theorem byteAt_bit (n V j t : Nat) : (byteAt n V j).testBit t = (decide (t < 8) && V.testBit (8 * (n - 1 - j) + t)) := by
  unfold byteAt
  rw [Nat.testBit_mod_two_pow, Nat.testBit_shiftRight]
theorem byteAt_zero (n j : Nat) : byteAt n 0 j = 0 := by unfold byteAt; simp
theorem byteAt_xor (n V U j : Nat) : byteAt n (V ^^^ U) j = byteAt n V j ^^^ byteAt n U j := by
  apply Nat.eq_of_testBit_eq
  intro t
  rw [byteAt_bit, Nat.testBit_xor, Nat.testBit_xor, byteAt_bit, byteAt_bit]
  cases decide (t < 8) <;> simp
def bytesOf (n V : Nat) : List UInt8 := (List.range n).map (fun j => UInt8.ofNat (byteAt n V j))
theorem bytesOf_length (n V : Nat) : (bytesOf n V).length = n := by simp [bytesOf]
theorem bytesOf_get {n V j : Nat} (h : j < n) : (bytesOf n V)[j]? = some (UInt8.ofNat (byteAt n V j)) := by
  unfold bytesOf
  rw [List.getElem?_map, List.getElem?_range h]; rfl
def strOf (n V : Nat) : ByteArray := ⟨(bytesOf n V).toArray⟩
theorem bytesOf_snoc (n V : Nat) : bytesOf (n + 1) (V * 256) = bytesOf n V ++ [0] := by
  unfold bytesOf
  rw [List.range_succ, List.map_append, List.map_singleton]
  congr 1
  · apply List.map_congr_left
    intro j hj
    rw [List.mem_range] at hj
    congr 1
    unfold byteAt
    rw [show 8 * (n + 1 - 1 - j) = 8 * (n - 1 - j) + 8 by omega, Nat.add_comm, Nat.shiftRight_add]
    congr 2
    rw [Nat.shiftRight_eq_div_pow]
    exact Nat.mul_div_cancel _ (by decide)
  · congr 1
    unfold byteAt
    rw [show 8 * (n + 1 - 1 - n) = 0 by omega, Nat.shiftRight_zero]
    have : V * 256 % 2 ^ 8 = 0 := Nat.mul_mod_left _ _
    rw [this]; rfl
/-- Bit i from the front lies in byte i / 8. -/
theorem byte_set {n V i : Nat} (h : i < 8 * n) (j : Nat) (hj : j < n) : byteAt n (V ^^^ 2 ^ (8 * n - 1 - i)) j = if j = i / 8 then byteAt n V j ^^^ 2 ^ (7 - i % 8) else byteAt n V j := by
  apply Nat.eq_of_testBit_eq
  intro t
  rw [byteAt_bit, Nat.testBit_xor, Nat.testBit_two_pow]
  split
  · next hji =>
    rw [Nat.testBit_xor, byteAt_bit, Nat.testBit_two_pow]
    by_cases ht : t < 8
    · have e : decide (8 * n - 1 - i = 8 * (n - 1 - j) + t) = decide (7 - i % 8 = t) := by
        congr 1; apply propext; constructor <;> intro _ <;> omega
      simp [ht, e]
    · have e : ¬ (7 - i % 8 = t) := by omega
      simp [ht, e]
  · next hji =>
    rw [byteAt_bit]
    by_cases ht : t < 8
    · have e : ¬ (8 * n - 1 - i = 8 * (n - 1 - j) + t) := by omega
      simp [ht, e]
    · simp [ht]
/-- One place left. -/
theorem byte_left {n V j : Nat} (hj : j < n) (out : Nat) (ho : out = if j + 1 < n then (V >>> (8 * (n - 1 - j) - 1)) % 2 else 0) : byteAt n (2 * V) j = ((byteAt n V j * 2) % 256) ||| out := by
  have ho2 : out < 2 := by rw [ho]; split <;> omega
  apply Nat.eq_of_testBit_eq
  intro t
  rw [byteAt_bit, Nat.testBit_or, show (256 : Nat) = 2 ^ 8 from rfl, Nat.testBit_mod_two_pow]
  have h2 : ∀ x s : Nat, (2 * x).testBit s = (decide (1 ≤ s) && x.testBit (s - 1)) := by
    intro x s
    have := Nat.testBit_shiftLeft (x := x) (i := 1) (j := s)
    rw [Nat.shiftLeft_eq, Nat.pow_one, Nat.mul_comm] at this
    exact this
  rw [h2, Nat.mul_comm (byteAt n V j) 2, h2, byteAt_bit]
  by_cases ht : t < 8
  · match t with
    | 0 =>
      have ob : out.testBit 0 = decide (out = 1) := by
        rw [Nat.testBit_zero]; congr 1; apply propext; constructor <;> intro _ <;> omega
      rw [ob]
      by_cases hl : j + 1 < n
      · have hv : V.testBit (8 * (n - 1 - j) - 1) = decide (out = 1) := by
          rw [ho, if_pos hl, Nat.testBit_eq_decide_div_mod_eq, Nat.shiftRight_eq_div_pow]
        have e2 : 1 ≤ 8 * (n - 1 - j) := by omega
        simp [hv, e2]
      · rw [ho, if_neg hl]
        have e2 : ¬ (1 ≤ 8 * (n - 1 - j)) := by omega
        simp [e2]
    | t + 1 =>
      have ob : out.testBit (t + 1) = false := Nat.testBit_lt_two_pow (Nat.lt_of_lt_of_le ho2 (by rw [Nat.pow_succ]; have := Nat.two_pow_pos t; omega))
      rw [ob]
      have e1 : t < 8 := by omega
      have e3 : 8 * (n - 1 - j) + (t + 1) - 1 = 8 * (n - 1 - j) + t := by omega
      have e4 : 1 ≤ 8 * (n - 1 - j) + (t + 1) := by omega
      simp [ht, e1, e3, e4]
  · have ob : out.testBit t = false := Nat.testBit_lt_two_pow (Nat.lt_of_lt_of_le ho2 (by
      have : 2 ^ 1 ≤ 2 ^ t := Nat.pow_le_pow_right (by decide) (by omega)
      simpa using this))
    simp [ht, ob]
/-- The number of a list of bytes. -/
def numB (L : List UInt8) : Nat := L.foldl (fun a b => a * 256 + b.toNat) 0
theorem numB_snoc (L : List UInt8) (b : UInt8) : numB (L ++ [b]) = numB L * 256 + b.toNat := by simp [numB]
theorem numF_acc (acc : Nat) (L : List UInt8) : L.foldl (fun a b => a * 256 + b.toNat) acc = acc * 2 ^ (8 * L.length) + numB L := by
  induction L generalizing acc with
  | nil => simp [numB]
  | cons b L ih =>
    show L.foldl _ (acc * 256 + b.toNat) = _
    have e : numB (b :: L) = L.foldl (fun a b => a * 256 + b.toNat) (0 * 256 + b.toNat) := rfl
    rw [ih, e, ih (0 * 256 + b.toNat), List.length_cons, Nat.mul_add, Nat.pow_add, Nat.zero_mul, Nat.zero_add, Nat.add_mul, Nat.mul_one]
    have : (2 : Nat) ^ 8 = 256 := rfl
    rw [this, Nat.mul_assoc, Nat.mul_comm 256, Nat.add_assoc]
theorem numB_append (L M : List UInt8) : numB (L ++ M) = numB L * 2 ^ (8 * M.length) + numB M := by
  have : numB (L ++ M) = M.foldl (fun a b => a * 256 + b.toNat) (numB L) := by unfold numB; rw [List.foldl_append]
  rw [this, numF_acc]
theorem numB_lt (L : List UInt8) : numB L < 2 ^ (8 * L.length) := by
  induction L with
  | nil => exact (by decide : (0 : Nat) < 1)
  | cons b L ih =>
    have e : numB (b :: L) = L.foldl (fun a b => a * 256 + b.toNat) (0 * 256 + b.toNat) := rfl
    rw [e, numF_acc, List.length_cons, Nat.mul_add, Nat.pow_add, Nat.zero_mul, Nat.zero_add]
    have hb : b.toNat + 1 ≤ 256 := UInt8.toNat_lt b
    have h8 : (2 : Nat) ^ (8 * 1) = 256 := rfl
    rw [h8]
    have := Nat.mul_le_mul_right (2 ^ (8 * L.length)) hb
    rw [Nat.add_mul, Nat.one_mul, Nat.mul_comm 256] at this
    omega
theorem numB_take (L : List UInt8) (i : Nat) (h : i ≤ L.length) : numB L >>> (8 * (L.length - i)) = numB (L.take i) := by
  have e := numB_append (L.take i) (L.drop i)
  rw [List.take_append_drop] at e
  have hl : (L.drop i).length = L.length - i := List.length_drop
  have hlt := numB_lt (L.drop i)
  rw [hl] at e hlt
  rw [e, Nat.shiftRight_eq_div_pow, Nat.add_comm, Nat.add_mul_div_right _ _ (Nat.two_pow_pos _), Nat.div_eq_of_lt hlt, Nat.zero_add]
theorem numB_bit (L : List UInt8) (i t : Nat) (b : UInt8) (h : L[i]? = some b) (ht : t < 8) : (numB L).testBit (8 * L.length - 1 - (8 * i + t)) = b.toNat.testBit (7 - t) := by
  have hi : i < L.length := by
    rcases Nat.lt_or_ge i L.length with h1 | h1
    · exact h1
    · rw [List.getElem?_eq_none h1] at h; cases h
  have e := numB_take L (i + 1) hi
  have e2 : L.take (i + 1) = L.take i ++ [b] := by rw [List.take_add_one, h]; rfl
  rw [e2, numB_snoc] at e
  have e3 : 8 * L.length - 1 - (8 * i + t) = 8 * (L.length - (i + 1)) + (7 - t) := by omega
  rw [e3, ← Nat.testBit_shiftRight, e]
  have e4 : (numB (L.take i) * 256 + b.toNat).testBit (7 - t) = ((numB (L.take i) * 256 + b.toNat) % 2 ^ 8).testBit (7 - t) := by
    rw [Nat.testBit_mod_two_pow]
    have : 7 - t < 8 := by omega
    simp [this]
  have hb : b.toNat < 256 := UInt8.toNat_lt b
  have e5 : (numB (L.take i) * 256 + b.toNat) % 2 ^ 8 = b.toNat := by
    rw [show (2 : Nat) ^ 8 = 256 from rfl]; omega
  rw [e4, e5]
/-- The register, one bit on. -/
def regStep (n LOW V : Nat) (bit : Bool) : Nat := ((2 * V) % 2 ^ (8 * n)) ^^^ (if V.testBit (8 * n - 1) != bit then LOW else 0)
/-- The register after i of the M bits of D. -/
def regI (n LOW D M : Nat) : Nat → Nat
  | 0 => 0
  | i + 1 => regStep n LOW (regI n LOW D M i) (D.testBit (M - 1 - i))
/-- The document's rest after i steps; T bits in all. -/
def docI (G d T B : Nat) : Nat → Nat
  | 0 => B
  | i + 1 => let C := docI G d T B i
    if C.testBit (T - 1 - i) then C ^^^ (G <<< (T - 1 - d - i)) else C
theorem two_mul_bit (x s : Nat) : (2 * x).testBit s = (decide (1 ≤ s) && x.testBit (s - 1)) := by
  have := Nat.testBit_shiftLeft (x := x) (i := 1) (j := s)
  rw [Nat.shiftLeft_eq, Nat.pow_one, Nat.mul_comm] at this
  exact this
theorem bit_none {x k t : Nat} (h : x < 2 ^ k) (ht : k ≤ t) : x.testBit t = false := Nat.testBit_lt_two_pow (Nat.lt_of_lt_of_le h (Nat.pow_le_pow_right (by decide) ht))
/-- One step of both. -/
theorem div_step {n s d G R j : Nat} (hn : 8 * n = d + s) (hd : 0 < d) (hG : G < 2 ^ (d + 1)) (hGd : G.testBit d = true) (hR : R < 2 ^ d) (D : Nat) (bit : Bool) (hb : D.testBit j = bit) :
    ∃ R', regStep n ((G ^^^ 2 ^ d) <<< s) (R <<< s) bit = R' <<< s ∧ R' < 2 ^ d ∧
      (let C := (R <<< (j + 1)) ^^^ ((D % 2 ^ (j + 1)) <<< d); if C.testBit (d + j) then C ^^^ (G <<< j) else C) = (R' <<< j) ^^^ ((D % 2 ^ j) <<< d) := by
  have hGl : G ^^^ 2 ^ d < 2 ^ d := by
    apply Nat.lt_pow_two_of_testBit
    intro i hi
    rw [Nat.testBit_xor, Nat.testBit_two_pow]
    by_cases h : d = i
    · subst h; simp [hGd]
    · have := bit_none hG (show d + 1 ≤ i by omega)
      simp [this, h]
  refine ⟨((2 * R) % 2 ^ d) ^^^ (if R.testBit (d - 1) != bit then G ^^^ 2 ^ d else 0), ?_, ?_, ?_⟩
  · unfold regStep
    have ht : (R <<< s).testBit (8 * n - 1) = R.testBit (d - 1) := by
      rw [Nat.testBit_shiftLeft, hn]
      have e1 : d + s - 1 ≥ s := by omega
      have e2 : d + s - 1 - s = d - 1 := by omega
      simp [e1, e2]
    have e : ∀ A B : Nat, (A ^^^ B) <<< s = (A <<< s) ^^^ (B <<< s) := fun A B => Nat.shiftLeft_xor_distrib
    rw [ht, e ((2 * R) % 2 ^ d)]
    congr 1
    · apply Nat.eq_of_testBit_eq
      intro t
      rw [Nat.testBit_mod_two_pow, two_mul_bit, Nat.testBit_shiftLeft, Nat.testBit_shiftLeft, Nat.testBit_mod_two_pow, two_mul_bit, hn]
      rcases Nat.lt_or_ge t s with h1 | h1
      · have e1 : ¬ (t - 1 ≥ s) := by omega
        have e2 : ¬ (t ≥ s) := by omega
        simp [e1, e2]
      · by_cases e0 : t = s
        · have e1 : ¬ (1 ≤ t - s) := by omega
          by_cases e3 : 1 ≤ t
          · have e4 : ¬ (t - 1 ≥ s) := by omega
            simp [e1, e4]
          · simp [e1, e3]
        · have e1 : t - 1 ≥ s := by omega
          have e3 : 1 ≤ t := by omega
          have e4 : 1 ≤ t - s := by omega
          have e5 : t - 1 - s = t - s - 1 := by omega
          have e6 : (t < d + s) ↔ (t - s < d) := by omega
          simp [e1, e3, e4, e5, e6, h1]
    · split
      · rfl
      · simp
  · refine Nat.xor_lt_two_pow (Nat.mod_lt _ (Nat.two_pow_pos _)) ?_
    split
    · exact hGl
    · exact Nat.two_pow_pos _
  · have htop : ((R <<< (j + 1)) ^^^ ((D % 2 ^ (j + 1)) <<< d)).testBit (d + j) = (R.testBit (d - 1) != bit) := by
      rw [Nat.testBit_xor, Nat.testBit_shiftLeft, Nat.testBit_shiftLeft, Nat.testBit_mod_two_pow]
      have e1 : d + j ≥ j + 1 := by omega
      have e2 : d + j - (j + 1) = d - 1 := by omega
      have e3 : d + j ≥ d := by omega
      have e4 : d + j - d = j := by omega
      simp [e1, e2, e4, hb]
    show (if _ then _ else _) = _
    rw [htop]
    apply Nat.eq_of_testBit_eq
    intro t
    have hsplit : ∀ (X : Nat), (if (R.testBit (d - 1) != bit) = true then ((R <<< (j + 1)) ^^^ ((D % 2 ^ (j + 1)) <<< d)) ^^^ X else ((R <<< (j + 1)) ^^^ ((D % 2 ^ (j + 1)) <<< d))) = ((R <<< (j + 1)) ^^^ ((D % 2 ^ (j + 1)) <<< d)) ^^^ (if (R.testBit (d - 1) != bit) = true then X else 0) := by
      intro X; split <;> simp
    have hif : ∀ (c : Bool) (X : Nat), (if c = true then X else 0).testBit t = (c && X.testBit t) := by
      intro c X; cases c <;> simp
    rw [hsplit, Nat.testBit_xor, Nat.testBit_xor, Nat.testBit_shiftLeft, Nat.testBit_shiftLeft, Nat.testBit_mod_two_pow, Nat.testBit_xor, Nat.testBit_shiftLeft, Nat.testBit_shiftLeft, Nat.testBit_mod_two_pow, hif, Nat.testBit_shiftLeft, Nat.testBit_xor, Nat.testBit_mod_two_pow, two_mul_bit]
    have hif2 : ∀ (c : Bool) (X i : Nat), (if c = true then X else 0).testBit i = (c && X.testBit i) := by
      intro c X i; cases c <;> simp
    rw [hif2, Nat.testBit_xor, Nat.testBit_two_pow]
    generalize hc : (R.testBit (d - 1) != bit) = c
    rcases Nat.lt_or_ge t j with h1 | h1
    · have a1 : ¬ (t ≥ j + 1) := by omega
      have a2 : ¬ (t ≥ j) := by omega
      by_cases h2 : t ≥ d
      · have a3 : t - d < j + 1 := by omega
        have a4 : t - d < j := by omega
        simp [a1, a2, h2, a3, a4]
      · simp [a1, a2, h2]
    · rcases Nat.lt_trichotomy t (d + j) with h2 | h2 | h2
      · have a2 : t - j < d := by omega
        have a3 : ¬ (d = t - j) := by omega
        by_cases h3 : t = j
        · subst h3
          have a1 : decide (t + 1 ≤ t) = false := by simp
          by_cases h4 : t ≥ d
          · have a4 : t - d < t := by omega
            have a5 : t - d < t + 1 := by omega
            have a6 : ¬ (d = 0) := by omega
            simp [h4, a4, a5, a6, a1, Bool.xor_comm]
          · have a6 : ¬ (d = 0) := by omega
            simp [h4, a6, a1]
        · have a1 : t ≥ j + 1 := by omega
          have a4 : 1 ≤ t - j := by omega
          have a5 : t - (j + 1) = t - j - 1 := by omega
          by_cases h4 : t ≥ d
          · have a6 : t - d < j := by omega
            have a7 : t - d < j + 1 := by omega
            simp [a1, a2, a3, a4, a5, a6, a7, h1, h4, Bool.xor_comm, Bool.xor_assoc, Bool.xor_left_comm]
          · simp [a1, a2, a3, a4, a5, h1, h4]
      · subst h2
        have a1 : d + j ≥ j + 1 := by omega
        have a2 : d + j - (j + 1) = d - 1 := by omega
        have a3 : d + j - d = j := by omega
        have a4 : d + j - j = d := by omega
        simp [a1, a2, a3, a4, hb, hGd]
        rw [← hc]
        cases R.testBit (d - 1) <;> cases bit <;> rfl
      · have a1 : t ≥ j + 1 := by omega
        have a2 : R.testBit (t - (j + 1)) = false := bit_none hR (by omega)
        have a3 : ¬ (t - d < j + 1) := by omega
        have a4 : ¬ (t - d < j) := by omega
        have a5 : G.testBit (t - j) = false := bit_none hG (by omega)
        have a6 : ¬ (t - j < d) := by omega
        have a7 : ¬ (d = t - j) := by omega
        simp [a2, a3, a4, a5, a6, a7]
theorem div_all {n s d G M : Nat} (hn : 8 * n = d + s) (hd : 0 < d) (hG : G < 2 ^ (d + 1)) (hGd : G.testBit d = true) (D : Nat) (hD : D < 2 ^ M) (i : Nat) (hi : i ≤ M) :
    ∃ R, regI n ((G ^^^ 2 ^ d) <<< s) D M i = R <<< s ∧ R < 2 ^ d ∧ docI G d (M + d) (D <<< d) i = (R <<< (M - i)) ^^^ ((D % 2 ^ (M - i)) <<< d) := by
  induction i with
  | zero => exact ⟨0, by simp [regI], Nat.two_pow_pos _, by simp [docI, Nat.mod_eq_of_lt hD]⟩
  | succ i ih =>
    obtain ⟨R, h1, h2, h3⟩ := ih (by omega)
    obtain ⟨R', k1, k2, k3⟩ := div_step hn hd hG hGd h2 D (D.testBit (M - 1 - i)) (j := M - 1 - i) rfl
    refine ⟨R', ?_, k2, ?_⟩
    · show regStep _ _ (regI _ _ _ _ i) _ = _
      rw [h1]; exact k1
    · show (let C := docI G d (M + d) (D <<< d) i; if C.testBit (M + d - 1 - i) then C ^^^ (G <<< (M + d - 1 - d - i)) else C) = _
      rw [h3]
      have e1 : M - i = M - 1 - i + 1 := by omega
      have e2 : M + d - 1 - i = d + (M - 1 - i) := by omega
      have e3 : M + d - 1 - d - i = M - 1 - i := by omega
      have e4 : M - (i + 1) = M - 1 - i := by omega
      rw [e1, e2, e3, e4]
      exact k3
/-- The register at the end, and the document's rest. -/
theorem div_end {n s d G M : Nat} (hn : 8 * n = d + s) (hd : 0 < d) (hG : G < 2 ^ (d + 1)) (hGd : G.testBit d = true) (D : Nat) (hD : D < 2 ^ M) :
    docI G d (M + d) (D <<< d) M < 2 ^ d ∧ regI n ((G ^^^ 2 ^ d) <<< s) D M M = docI G d (M + d) (D <<< d) M <<< s := by
  obtain ⟨R, h1, h2, h3⟩ := div_all hn hd hG hGd D hD M (Nat.le_refl _)
  rw [Nat.sub_self, Nat.shiftLeft_zero, Nat.pow_zero, Nat.mod_one, Nat.zero_shiftLeft, Nat.xor_zero] at h3
  rw [h3]
  exact ⟨h2, h1⟩
end Go.Proofs.YtgfjeaegigjnaaaGreatDoor

namespace Go.Proofs.YtgfjeaegigjnaaaGreatDoor
open Go.RowKit
set_option linter.unusedVariables false
set_option linter.unusedSimpArgs false

/-- A row of n bytes that is the number V. -/
def VRow (w : World) (g n V : Nat) : Prop := Row w g n (fun j => .int .u8 ((byteAt n V j : Nat) : Int))
theorem VRow.stays {w w' : World} {g n V : Nat} {S : Nat → Prop} (h : VRow w g n V) (k : Stays S w w') (hg : g < w.heap.size) (hs : ¬ S g) : VRow w' g n V := Row.stays h k hg hs
/-- What left has done, down to byte i. -/
def lft (n V i j : Nat) : Nat := if i ≤ j then byteAt n (2 * V) j else byteAt n V j
theorem VRow.mod {w : World} {g n V : Nat} (h : VRow w g n V) : VRow w g n (V % 2 ^ (8 * n)) := by
  refine Row.congr h fun j hj => ?_
  congr 2
  apply Nat.eq_of_testBit_eq
  intro t
  rw [byteAt_bit, byteAt_bit, Nat.testBit_mod_two_pow]
  by_cases ht : t < 8
  · have : 8 * (n - 1 - j) + t < 8 * n := by omega
    simp [ht, this]
  · simp [ht]
set_option maxRecDepth 100000 in
set_option maxHeartbeats 1600000 in
/-- One place left; what falls out. -/
theorem left_any (g n c V : Nat) (w : World) (h : VRow w g n V) (hn0 : 0 < n) (hn : n ≤ 1000) :
    Calls Tryz.prog 80 #[.slice (some ⟨g, 0, none⟩) n c] w fun x w' => x = .returned (.int .u8 (((V >>> (8 * n - 1)) % 2 : Nat) : Int)) ∧ VRow w' g n ((2 * V) % 2 ^ (8 * n)) ∧ Stays (· = g) w w' := by
  have HH := Lib.hid h
  clear h
  go_enter Tryz.func80, Tryz.ntmps80
  go_wp2_with fail
  go_loopw [3, 4] (fun ov iv wr => ∃ (i o : Nat), i ≤ n ∧ iv = .int .i64 ((i : Int) - 1) ∧ ov = .int .u8 (o : Int) ∧ Hid (o = if i < n then (V >>> (8 * (n - i) - 1)) % 2 else 0) ∧ Hid (Row wr g n (fun j => .int .u8 ((lft n V i j : Nat) : Int))) ∧ Hid (Stays (· = g) w wr)) (fun _ iv _ => (intOf iv + 1).toNat)
  case atStart => exact ⟨n, 0, Nat.le_refl _, rfl, rfl, Lib.hid (by rw [if_neg (by omega)]), Lib.hid (HH.out.congr fun j hj => by unfold lft; rw [if_neg (by omega)]), Lib.hid (Stays.refl _ _)⟩
  case round =>
    obtain ⟨i, o, hi, rfl, rfl, HO, HR, HS⟩ := hrel
    obtain ⟨wq, rfl⟩ : ∃ wq : World, wq = wr := ⟨_, rfl⟩
    have ho2 : o < 2 := by rw [HO.out]; split <;> omega
    by_cases h0 : 0 < i
    · obtain ⟨k, rfl⟩ : ∃ k, i = k + 1 := ⟨i - 1, by omega⟩
      have hki : ((k + 1 : Nat) : Int) - 1 = (k : Int) := by omega
      rw [hki]
      have hc : wq.cell? ⟨g, k, none⟩ = some (.int .u8 ((byteAt n V k : Nat) : Int)) := by
        have := HR.out.cell k (by omega)
        rw [this]; unfold lft; rw [if_neg (by omega)]
      have hf := HR.out.free k
      have hb := byteAt_lt n V k
      have hleft := byte_left (n := n) (V := V) (j := k) (by omega) o (by rw [HO.out, show 8 * (n - (k + 1)) = 8 * (n - 1 - k) by omega])
      have hout : byteAt n V k / 128 = if k < n then (V >>> (8 * (n - k) - 1)) % 2 else 0 := by
        rw [if_pos (by omega)]
        unfold byteAt
        rw [show 8 * (n - k) - 1 = 8 * (n - 1 - k) + 7 by omega, Nat.shiftRight_add]
        generalize V >>> (8 * (n - 1 - k)) = x
        rw [Nat.shiftRight_eq_div_pow]
        have : (2 : Nat) ^ 7 = 128 := rfl
        have h2 : (2 : Nat) ^ 8 = 256 := rfl
        rw [this, h2]; omega
      obtain ⟨x, hx⟩ : ∃ x, x = byteAt n V k := ⟨_, rfl⟩
      rw [← hx] at hc hb hleft hout
      have hor := or_u8 ((x * 2) % 256) o (by omega) (by omega)
      rw [← hleft] at hor
      have hwr : (((x * 2) % 256 : Nat) : Int) = IntKind.u8.wrap ((x : Int) * 2) := by rw [IntKind.wrap_u8]; omega
      rw [hwr] at hor
      have HX := Lib.hid hx
      have HOUT := Lib.hid hout
      have HL := Lib.hid hleft
      have HOR := Lib.hid hor
      have hkn : (k : Int) < (n : Int) := by omega
      clear hx hout hleft hor hwr hki
      go_wp2_with fail
      go_region
      go_wp2_with fail
      have hR2 : Row (wq.setCell ⟨g, k, none⟩ (.int .u8 (bits BinOp.or .u8 (IntKind.u8.wrap ((x : Int) * 2)) (o : Int)))).drew g n (fun j => .int .u8 ((lft n V k j : Nat) : Int)) := by
        rw [HOR.out]
        refine ((Row.set HR.out k _).congr fun j hj => ?_).drew
        by_cases e : j = k
        · subst e; rw [upd_same]; unfold lft; rw [if_pos (Nat.le_refl _)]
        · rw [upd_other _ _ e]; unfold lft
          have e2 : (k + 1 ≤ j) ↔ (k ≤ j) := by omega
          simp only [e2]
      have HR2 := Lib.hid hR2
      clear hR2
      go_roundw
      case rel => exact ⟨k, x / 128, by omega, rfl, by first | rfl | (congr 1; omega) | go_num, HOUT, HR2, Lib.hid ((HS.out.trans Row.stay).drew)⟩
      case measure => simp [intOf]
    · obtain rfl : i = 0 := by omega
      have ho := HO.out
      rw [if_pos hn0, Nat.sub_zero] at ho
      have HO2 := Lib.hid ho
      clear ho HO ho2
      go_wp2_with fail
      go_ret
      refine ⟨by rw [HO2.out]; rfl, ?_, HS.out⟩
      exact VRow.mod (HR.out.congr fun j hj => by unfold lft; rw [if_pos (Nat.zero_le _)])
end Go.Proofs.YtgfjeaegigjnaaaGreatDoor

namespace Go.Proofs.YtgfjeaegigjnaaaGreatDoor
open Go.RowKit
set_option linter.unusedVariables false
set_option linter.unusedSimpArgs false

theorem str_at {s : ByteArray} {j : Nat} {c : UInt8} (h : s.data.toList[j]? = some c) : ∃ hj : j < s.size, s[j]'hj = c := by
  obtain ⟨h1, h2⟩ := List.getElem?_eq_some_iff.1 h
  have h3 : j < s.size := by simpa using h1
  exact ⟨h3, by rw [← h2]; rfl⟩
theorem shr_u8 (b n : Nat) : (b : Int) / 2 ^ n = ((b >>> n : Nat) : Int) := div_shr b n
theorem bit_u8 (b n : Nat) (hb : b < 256) : bits BinOp.and .u8 ((b : Int) / 2 ^ n) 1 = ((if b.testBit n then 1 else 0 : Nat) : Int) := by
  rw [div_shr]
  have h1 : b >>> n ≤ b := by rw [Nat.shiftRight_eq_div_pow]; exact Nat.div_le_self _ _
  have := and_u8 (b >>> n) 1 (by omega) (by decide)
  rw [show ((1 : Nat) : Int) = 1 from rfl] at this
  rw [this, Nat.and_one_is_mod, Nat.testBit_eq_decide_div_mod_eq, ← Nat.shiftRight_eq_div_pow]
  rcases Nat.mod_two_eq_zero_or_one (b >>> n) with h | h <;> simp [h]
theorem top_bit (V k : Nat) : (V >>> k) % 2 = if V.testBit k then 1 else 0 := by
  rw [Nat.testBit_eq_decide_div_mod_eq, ← Nat.shiftRight_eq_div_pow]
  rcases Nat.mod_two_eq_zero_or_one (V >>> k) with h | h <;> simp [h]
/-- k bytes of LOW laid over V. -/
def xrow (n V U k j : Nat) : Nat := if j < k then byteAt n V j ^^^ byteAt n U j else byteAt n V j
theorem make_bytes (n : Nat) (hn : n ≤ 1000000) (W : World) : (Instr.makeSlice 47 (.int .i64 (n : Int)) (.int .i64 (n : Int))).run Tryz.prog W = .ok (.slice (some ⟨W.heap.size, 0, none⟩) n n) (W.alloc (.cells (madeCells #[.int .u8 0] n) 5)) :=
  run_make_row' (P := Tryz.prog) 47 5 (.int .u8 0) 1 (by kernel_rfl) (by kernel_rfl) rfl .i64 .i64 n (by omega) (by omega) W
set_option maxHeartbeats 6400000 in
set_option maxRecDepth 100000 in
theorem divide_any (c gl cl n LOW : Nat) (s : ByteArray) (w : World) (h12 : w.cell? ⟨c, 12, none⟩ = some (.slice (some ⟨gl, 0, none⟩) n cl)) (hl : VRow w gl n LOW) (hn0 : 0 < n) (hn : n ≤ 1000) (hs : s.size ≤ 1000000) :
    Calls Tryz.prog 58 #[.pointer (some ⟨c, 0, none⟩), .string s] w fun x w' => x = .returned (.slice (some ⟨w.heap.size, 0, none⟩) n n) ∧ VRow w' w.heap.size n (regI n LOW (numB s.data.toList) (8 * s.size) (8 * s.size)) ∧ Below w.heap.size w w' := by
  have hsl : s.data.toList.length = s.size := by simp
  have lc : c < w.heap.size := World.block_lt_of_cell? _ _ h12
  have lgl : gl < w.heap.size := World.block_lt_of_cell? _ _ (hl.cell 0 hn0)
  have hmk := make_bytes n (by omega)
  obtain ⟨D, hD⟩ : ∃ D, D = numB s.data.toList := ⟨_, rfl⟩
  obtain ⟨m, hm⟩ : ∃ m, m = s.size := ⟨_, rfl⟩
  obtain ⟨g, hg⟩ : ∃ g, g = w.heap.size := ⟨_, rfl⟩
  have hbit : ∀ i, i < m → ∃ b : UInt8, ∃ hj : i < s.size, s[i]'hj = b ∧ ∀ t, t < 8 → D.testBit (8 * m - 1 - (8 * i + t)) = b.toNat.testBit (7 - t) := by
    intro i hi
    obtain ⟨b, hb⟩ : ∃ b, s.data.toList[i]? = some b := ⟨_, List.getElem?_eq_getElem (by rw [hsl]; omega)⟩
    obtain ⟨hj, hc⟩ := str_at hb
    refine ⟨_, hj, hc, fun t ht => ?_⟩
    have := numB_bit s.data.toList i t _ hb ht
    rw [hsl, ← hD, ← hm] at this
    exact this
  have hz0 : VRow (w.alloc (.cells (madeCells #[.int .u8 0] n) 5)) g n 0 := by
    rw [hg]
    exact Row.made _ _ _ _ _ (fun j hj => by rw [madeCells_getN _ _ _ hj, byteAt_zero]; rfl)
  have hb0 : Below g w (w.alloc (.cells (madeCells #[.int .u8 0] n) 5)) := by rw [hg]; exact (Below.refl _ _).alloc (Nat.le_refl _) _
  have hgs : g < (w.alloc (.cells (madeCells #[.int .u8 0] n) 5)).heap.size := by rw [hg]; simp
  rw [← hg] at lc lgl
  rw [← hD, ← hm, ← hg]
  rw [← hm] at hs
  have HBIT := Lib.hid hbit
  have HZ0 := Lib.hid hz0
  have HB0 := Lib.hid hb0
  have HG := Lib.hid hg
  have HL := Lib.hid hl
  have H12 := Lib.hid h12
  have Hm := Lib.hid hm
  clear hsl hD hm hbit hz0 hb0 hl
  go_enter Tryz.func58, Tryz.ntmps58
  go_wp2_with fail
  try rw [← HG.out]
  try rw [← Hm.out]
  generalize w.alloc (.cells (madeCells #[.int .u8 0] n) 5) = W0 at *
  clear hg hmk h12
  have hgc : c ≠ g := by omega
  have hgl : gl ≠ g := by omega
  go_loopw [17] (fun iv wr => ∃ i : Nat, i ≤ m ∧ iv = .int .i64 (i : Int) ∧ Hid (VRow wr g n (regI n LOW D (8 * m) (8 * i))) ∧ Hid (Stays (· = g) W0 wr)) (fun iv _ => m - (intOf iv).toNat)
  case atStart => exact ⟨0, Nat.zero_le _, rfl, HZ0, Lib.hid (Stays.refl _ _)⟩
  case round =>
    obtain ⟨i, him, rfl, HR, HS⟩ := hrel
    obtain ⟨wq, rfl⟩ : ∃ wq : World, wq = wr := ⟨_, rfl⟩
    by_cases hlt : i < m
    · obtain ⟨b, hj, hsb, hbits⟩ := HBIT.out i hlt
      have HBS := Lib.hid hbits
      have HHJ := Lib.hid hsb
      have hltI : (i : Int) < (m : Int) := by omega
      clear hbits hsb
      go_wp2_with fail
      go_loopw [7] (fun kv wz => ∃ t : Nat, t ≤ 8 ∧ kv = .int .i64 (7 - (t : Int)) ∧ Hid (VRow wz g n (regI n LOW D (8 * m) (8 * i + t))) ∧ Hid (Stays (· = g) W0 wz)) (fun kv _ => (intOf kv + 1).toNat)
      case atStart => exact ⟨0, by omega, rfl, HR, HS⟩
      case round =>
        obtain ⟨t, ht, rfl, HRz, HSz⟩ := hrel
        obtain ⟨wz, rfl⟩ : ∃ wz : World, wz = wr := ⟨_, rfl⟩
        by_cases ht8 : t < 8
        · obtain ⟨k, hk⟩ : ∃ k, k = 7 - t := ⟨_, rfl⟩
          have hki : (7 : Int) - (t : Int) = (k : Int) := by omega
          rw [hki]
          have hk7 : k ≤ 7 := by omega
          obtain ⟨V, hV⟩ : ∃ V, V = regI n LOW D (8 * m) (8 * i + t) := ⟨_, rfl⟩
          rw [← hV] at HRz
          have hnext : regI n LOW D (8 * m) (8 * i + (t + 1)) = regStep n LOW V (b.toNat.testBit k) := by
            show regI n LOW D (8 * m) (8 * i + t + 1) = _
            show regStep n LOW (regI n LOW D (8 * m) (8 * i + t)) (D.testBit (8 * m - 1 - (8 * i + t))) = _
            rw [← hV, HBS.out t ht8, ← hk]
          have hb256 : b.toNat < 256 := UInt8.toNat_lt b
          have hba := bit_u8 b.toNat k hb256
          have htb := top_bit V (8 * n - 1)
          have hsb := HHJ.out
          have HNX := Lib.hid hnext
          have HK := Lib.hid hk
          have HKI := Lib.hid hki
          have hgz : g < wz.heap.size := by have := HSz.out.size; omega
          clear hV hnext hk hki
          go_wp2_with fail
          have HLC := Lib.hid (left_any g n n V wz.drew (Row.drew HRz.out) hn0 hn)
          rw [htb] at HLC
          have hV2 : Hid (VRow wz g n V) := HRz
          obtain ⟨V2, hV2e⟩ : ∃ V2, V2 = (2 * V) % 2 ^ (8 * n) := ⟨_, rfl⟩
          rw [← hV2e] at HLC
          have hnx2 : regI n LOW D (8 * m) (8 * i + (t + 1)) = V2 ^^^ (if V.testBit (8 * n - 1) != b.toNat.testBit k then LOW else 0) := by
            rw [HNX.out, hV2e]; rfl
          have HNX2 := Lib.hid hnx2
          clear htb hV2e hnx2 HNX
          generalize hc1 : V.testBit (8 * n - 1) = c1 at HLC HNX2
          generalize hc2 : b.toNat.testBit k = c2 at hba HNX2
          obtain ⟨o1, ho1⟩ : ∃ o : Nat, o = if c1 = true then 1 else 0 := ⟨_, rfl⟩
          obtain ⟨o2, ho2⟩ : ∃ o : Nat, o = if c2 = true then 1 else 0 := ⟨_, rfl⟩
          rw [← ho1] at HLC
          rw [← ho2] at hba
          have hne : (((o1 : Nat) : Int) != ((o2 : Nat) : Int)) = (c1 != c2) := by rw [ho1, ho2]; cases c1 <;> cases c2 <;> rfl
          clear ho1 ho2 hc1 hc2
          by_cases hcc : (c1 != c2) = true
          · rw [hcc] at hne HNX2
            clear hcc
            go_region_with (go_at_call 80; refine HLC.out.mono ?_; rintro e w3 ⟨rfl, hr3, hs3⟩; have HR3 := Lib.hid hr3; have HS3 := Lib.hid hs3; clear hr3 hs3)
            all_goals
              go_wp2_with fail
              go_loopw [35] (fun qv wy => ∃ q : Nat, q ≤ n ∧ qv = .int .i64 (q : Int) ∧ Hid (Row wy g n (fun j => .int .u8 ((xrow n V2 LOW q j : Nat) : Int))) ∧ Hid (Stays (· = g) W0 wy)) (fun qv _ => n - (intOf qv).toNat)
              case atStart => exact ⟨0, Nat.zero_le _, rfl, Lib.hid (Row.congr HR3.out fun j hj => by unfold xrow; rw [if_neg (by omega)]), Lib.hid (HSz.out.trans ((Stays.drew (Stays.refl _ _)).trans HS3.out))⟩
              case round =>
                obtain ⟨q, hq, rfl, HRy, HSy⟩ := hrel
                obtain ⟨wy, rfl⟩ : ∃ wy : World, wy = wr := ⟨_, rfl⟩
                by_cases hqn : q < n
                · have k1 : wy.cell? ⟨c, 12, none⟩ = some (.slice (some ⟨gl, 0, none⟩) n cl) := HSy.out.cell ((HB0.out.cell (p := ⟨c, 12, none⟩) (by exact lc)).trans H12.out) hgc
                  have k2 : wy.cell? ⟨gl, q, none⟩ = some (.int .u8 ((byteAt n LOW q : Nat) : Int)) := HSy.out.cell ((HB0.out.cell (p := ⟨gl, q, none⟩) (by exact lgl)).trans (HL.out.cell q hqn)) hgl
                  have k3 : wy.cell? ⟨g, q, none⟩ = some (.int .u8 ((byteAt n V2 q : Nat) : Int)) := by
                    have := HRy.out.cell q hqn
                    rw [this]; unfold xrow; rw [if_neg (Nat.lt_irrefl _)]
                  have kf := HRy.out.free q
                  have b1 := byteAt_lt n LOW q
                  have b2 := byteAt_lt n V2 q
                  obtain ⟨x, hx⟩ : ∃ x, x = byteAt n LOW q := ⟨_, rfl⟩
                  obtain ⟨y, hy⟩ : ∃ y, y = byteAt n V2 q := ⟨_, rfl⟩
                  rw [← hx] at k2 b1
                  rw [← hy] at k3 b2
                  have hxo := xor_u8N y x b2 b1
                  have hqi : (q : Int) < (n : Int) := by omega
                  have hR4 : Row (wy.setCell ⟨g, q, none⟩ (.int .u8 (bits BinOp.xor .u8 (y : Int) (x : Int)))).drew g n (fun j => .int .u8 ((xrow n V2 LOW (q + 1) j : Nat) : Int)) := by
                    rw [hxo]
                    refine ((Row.set HRy.out q _).congr fun j hj => ?_).drew
                    by_cases e : j = q
                    · subst e; rw [upd_same]; unfold xrow; rw [if_pos (Nat.lt_succ_self _), hx, hy]
                    · rw [upd_other _ _ e]; unfold xrow
                      have e2 : (j < q + 1) ↔ (j < q) := by omega
                      simp only [e2]
                  have HR4 := Lib.hid hR4
                  clear hx hy hxo hR4
                  go_wp2_with fail
                  go_region
                  go_wp2_with fail
                  go_roundw
                  case rel => exact ⟨q + 1, by omega, by go_num, HR4, Lib.hid ((HSy.out.trans Row.stay).drew)⟩
                  case measure => simp [intOf]; omega
                · obtain rfl : q = n := by omega
                  have HRf : Hid (VRow wy g q (regI q LOW D (8 * m) (8 * i + (t + 1)))) := Lib.hid (by
                    rw [HNX2.out]
                    exact Row.congr HRy.out fun j hj => by unfold xrow; rw [if_pos hj, byteAt_xor]; rfl)
                  clear HRy
                  go_wp2_with fail
                  go_roundw
                  case rel => exact ⟨t + 1, by omega, by have := HK.out; go_num, HRf, HSy⟩
                  case measure => simp [intOf]
          · rw [Bool.not_eq_true] at hcc
            rw [hcc] at hne HNX2
            clear hcc
            go_region_with (go_at_call 80; refine HLC.out.mono ?_; rintro e w3 ⟨rfl, hr3, hs3⟩; have HR3 := Lib.hid hr3; have HS3 := Lib.hid hs3; clear hr3 hs3)
            all_goals
              go_wp2_with fail
              go_roundw
              case rel => exact ⟨t + 1, by omega, by have := HK.out; go_num, Lib.hid (by rw [HNX2.out]; have := HR3.out; simpa using this), Lib.hid (HSz.out.trans ((Stays.drew (Stays.refl _ _)).trans HS3.out))⟩
              case measure => simp [intOf]
        · obtain rfl : t = 8 := by omega
          go_wp2_with fail
          go_roundw
          case rel => exact ⟨i + 1, by omega, by go_num, HRz, HSz⟩
          case measure => simp [intOf]; omega
    · obtain rfl : i = m := by omega
      go_wp2_with fail
      go_ret
      exact ⟨rfl, HR.out, by have := HB0.out; rw [HG.out] at this ⊢; exact Below.stays this (S := (· = g)) HS.out (fun q hq => by rw [hq, HG.out]; exact Nat.le_refl _) (by rw [← HG.out]; omega)⟩
end Go.Proofs.YtgfjeaegigjnaaaGreatDoor

