/- The document's generator. -/
import Derived.Test.YtldekkniammllaaRefD
namespace Go.Proofs.Ytldekkniammllaa
open Go.RowKit
set_option linter.unusedVariables false
set_option linter.unusedSimpArgs false

set_option maxHeartbeats 3200000 in
theorem same_no (a b ca cb : Nat) (L M : List Nat) (hne : L ≠ M) (w : World) (hL : IntsAt w a L) (hM : IntsAt w b M) (h1 : L.length ≤ 1000) (h2 : M.length ≤ 1000) :
    Calls Try.prog 34 #[.slice (some ⟨a, 0, none⟩) L.length ca, .slice (some ⟨b, 0, none⟩) M.length cb] w fun e w' => e = .returned (.bool false) ∧ Stays (fun _ => False) w w' := by
  obtain ⟨m, hm⟩ : ∃ m, m = L.length := ⟨_, rfl⟩
  obtain ⟨n, hn⟩ : ∃ n, n = M.length := ⟨_, rfl⟩
  have HL := Lib.hid hL
  have HM := Lib.hid hM
  have HNE := Lib.hid hne
  rw [← hm] at h1
  rw [← hn] at h2
  rw [← hm, ← hn]
  have Hm := Lib.hid hm
  have Hn := Lib.hid hn
  clear hL hM hm hn hne
  by_cases hmn : m = n
  · have hd : decide ((m : Int) = (n : Int)) = true := by simp; omega
    subst hmn
    go_enter Try.func34, Try.ntmps34
    go_wp2_with fail
    go_loopw [5] (fun i wr => ∃ k : Nat, k ≤ m ∧ i = .int .i64 (k : Int) ∧ Hid (L.take k = M.take k) ∧ Hid (Stays (fun _ => False) w wr)) (fun i _ => m - (intOf i).toNat)
    case atStart => exact ⟨0, Nat.zero_le _, rfl, Lib.hid rfl, Lib.hid (Stays.refl _ _)⟩
    case round =>
      obtain ⟨k, hk, rfl, HT, HS⟩ := hrel
      obtain ⟨wq, rfl⟩ : ∃ wq : World, wq = wr := ⟨_, rfl⟩
      by_cases hlt : k < m
      · have c1 : wq.cell? ⟨a, k, none⟩ = some (.int .i64 ((L.getD k 0 : Nat) : Int)) := HS.out.cell (HL.out k (by have := Hm.out; omega)) id
        have c2 : wq.cell? ⟨b, k, none⟩ = some (.int .i64 ((M.getD k 0 : Nat) : Int)) := HS.out.cell (HM.out k (by have := Hn.out; omega)) id
        obtain ⟨x, hx⟩ : ∃ x, x = L.getD k 0 := ⟨_, rfl⟩
        obtain ⟨y, hy⟩ : ∃ y, y = M.getD k 0 := ⟨_, rfl⟩
        rw [← hx] at c1
        rw [← hy] at c2
        have HX := Lib.hid hx
        have HY := Lib.hid hy
        clear hx hy
        by_cases hxy : x = y
        · have hb : (((x : Nat) : Int) != ((y : Nat) : Int)) = false := by simp; omega
          have hlt2 : (k : Int) < (m : Int) := by omega
          have HXY := Lib.hid hxy
          clear hxy
          go_wp2_with fail
          go_quiet (fail)
          go_wp2_with fail
          go_roundw
          case rel =>
            refine ⟨k + 1, by omega, by go_num, Lib.hid ?_, Lib.hid (HS.out.drewN _)⟩
            have e1 := Hm.out
            have e2 := Hn.out
            have e3 := HX.out
            have e4 := HY.out
            rw [List.getD_eq_getElem?_getD, List.getElem?_eq_getElem (by omega)] at e3 e4
            rw [List.take_add_one, List.take_add_one, HT.out, List.getElem?_eq_getElem (by omega), List.getElem?_eq_getElem (by omega)]
            simp only [Option.getD_some] at e3 e4
            rw [← e3, ← e4, HXY.out]
          case measure => simp [intOf]; omega
        · have hb : (((x : Nat) : Int) != ((y : Nat) : Int)) = true := by simp; omega
          have hlt2 : (k : Int) < (m : Int) := by omega
          have HXY := Lib.hid hxy
          clear hxy
          go_wp2_with fail
          go_quiet (fail)
          go_wp2_with fail
          go_ret
          exact ⟨rfl, HS.out.drewN _⟩
      · obtain rfl : k = m := by omega
        exfalso
        have e := HT.out
        rw [List.take_of_length_le (by have := Hm.out; omega), List.take_of_length_le (by have := Hn.out; omega)] at e
        exact HNE.out e
  · have hd : (((m : Nat) : Int) != ((n : Nat) : Int)) = true := by simp; omega
    go_enter Try.func34, Try.ntmps34
    go_wp2_with fail
    go_ret
    exact ⟨rfl, Stays.refl _ _⟩

theorem PolyIn.grownE {w w' : World} {B B2 A n e : Nat} {v sv : Value} {vs : List Value} (h : PolyIn w B v A) (k : w.grownBy w' sv.ownBlock) (hs : w.ownsRow B2 e 1 sv n vs) (he : 3 ≠ e) : PolyIn w' B v A :=
  own_stays h (grown_stays k) (fun q hq e' => own_ne h hs he q hq e')
/-- The state at the head of round j. -/
structure RGen (w0 w : World) (sv ov : Value) (vs : List Value) (n j : Nat) : Prop where
  bw : Below w0.heap.size w0 w
  out : PolyIn w w0.heap.size ov (genA j)
  len : vs.length = n
  own : w.ownsRow w0.heap.size 34 1 sv n vs
  each : ∀ i, i < n → ∃ v, vs[i]? = some v ∧ PolyIn w w0.heap.size v (mkA i)
section
variable {w0 w w' : World} {sv ov mv : Value} {vs : List Value} {n j : Nat}
theorem RGen.new (h : RGen w0 w sv ov vs n j) (k : Below w.heap.size w w') : RGen w0 w' sv ov vs n j := by
  have hs : Stays (fun _ => False) w w' := Stays.of_below k
  exact ⟨h.bw.trans (k.mono h.bw.size), h.out.new hs, h.len, own_stays h.own hs (fun _ _ e => e), fun i hi => by
    obtain ⟨v, e1, e2⟩ := h.each i hi
    exact ⟨v, e1, e2.new hs⟩⟩
theorem RGen.still (h : RGen w0 w sv ov vs n j) (hs : Stays (fun _ => False) w w') : RGen w0 w' sv ov vs n j := by
  refine ⟨?_, h.out.new hs, h.len, own_stays h.own hs (fun _ _ e => e), fun i hi => by
    obtain ⟨v, e1, e2⟩ := h.each i hi
    exact ⟨v, e1, e2.new hs⟩⟩
  exact Below.stays h.bw hs (fun _ e => e.elim) h.bw.size
theorem RGen.seen (h : RGen w0 w sv ov vs j j) (hj : j < 8) : SeenNo w (terms (mkA j)) vs := by
  intro i hi
  rw [h.len] at hi
  obtain ⟨v, e1, e2⟩ := h.each i hi
  obtain ⟨g, cap, h1, h2, h3, h4⟩ := e2.at (mk_ne (by omega))
  subst h1
  refine ⟨g, cap, _, e1, h4, mk_apart hi hj, ?_⟩
  have := terms_length (mkA i)
  rw [mk_log (by omega)] at this
  omega
theorem RGen.push {sv' : Value} (h : RGen w0 w sv ov vs n j) (hm : PolyIn w w0.heap.size mv (mkA n)) (hg : w.grownBy w' sv.ownBlock) (hown : w'.ownsRow w0.heap.size 34 1 sv' (n + 1) (vs ++ [mv])) :
    RGen w0 w' sv' ov (vs ++ [mv]) (n + 1) j := by
  refine ⟨h.bw.grown hg h.bw.size (fun q hq => (h.own.lt q hq).1), h.out.grownE hg h.own (by decide), by rw [List.length_append, h.len]; rfl, hown, fun i hi => ?_⟩
  rcases Nat.lt_or_ge i n with hi2 | hi2
  · obtain ⟨v, e1, e2⟩ := h.each i hi2
    exact ⟨v, by rw [List.getElem?_append_left (by rw [h.len]; exact hi2)]; exact e1, e2.grownE hg h.own (by decide)⟩
  · obtain rfl : i = n := by omega
    exact ⟨mv, by rw [List.getElem?_append_right (by rw [h.len]; exact Nat.le_refl _), h.len, Nat.sub_self]; rfl, hm.grownE hg h.own (by decide)⟩
theorem RGen.next {ov' : Value} (h : RGen w0 w sv ov vs n j) (k : Below w.heap.size w w') (ho : PolyIn w' w.heap.size ov' (genA (j + 1))) : RGen w0 w' sv ov' vs n (j + 1) := by
  have h' := h.new k
  exact ⟨h'.bw, own_mono ho h.bw.size, h'.len, h'.own, h'.each⟩
end
theorem info_ints : (Try.prog.info? 34).map (fun i => (i.zero, i.size, i.bytes)) = some (some (.slice none 0 0), 1, 24) := by kernel_rfl

set_option maxHeartbeats 3200000 in
set_option maxRecDepth 100000 in
theorem rgenerator_any (t : Nat) (ht1 : 1 ≤ t) (ht8 : t ≤ 8) (w : World) :
    Calls Try.prog 20 #[.int .i64 (t : Int)] w fun x w' => ∃ v, x = .returned v ∧ PolyIn w' w.heap.size v (genA t) ∧ Below w.heap.size w w' := by
  obtain ⟨i0, hi, hz0, hz1, hz2⟩ := info_parts info_ints
  have hst : RGen w (w.alloc (.cells #[.int .i64 0] 3)) (.slice none 0 0) (.slice (some ⟨w.heap.size, 0, none⟩) 1 1) [] 0 0 := by
    refine ⟨(Below.refl _ _).alloc (Nat.le_refl _) _, ?_, rfl, World.ownsRow_nil _ _ _ _, fun i hi => by omega⟩
    unfold PolyIn
    rw [gen_zero]
    exact World.ownsRow_lit w #[.int .i64 0] 1 (Nat.le_refl _) (by decide) rfl
  have HST := Lib.hid hst
  clear hst
  go_enter Try.func20, Try.ntmps20
  go_wp2_with fail
  generalize w.alloc (.cells #[.int .i64 0] 3) = W0 at *
  generalize (Value.slice (some ⟨w.heap.size, 0, none⟩) 1 1) = ov0 at *
  go_loopw [3, 4, 5] (fun ov sv kv wr => ∃ (j k : Nat) (vs : List Value), j ≤ t ∧ kv = .int .i64 (k : Int) ∧ Hid (k = 2 * j + 1) ∧ k ≤ 2 * t + 1 ∧ Hid (RGen w wr sv ov vs j j)) (fun _ _ kv _ => 2 * t + 1 - (intOf kv).toNat)
  case atStart => exact ⟨0, 1, [], by omega, rfl, Lib.hid rfl, by omega, HST⟩
  case round =>
    obtain ⟨j, k, vs, hjt, rfl, HK, hk2, HG⟩ := hrel
    obtain ⟨wq, rfl⟩ : ∃ wq : World, wq = wr := ⟨_, rfl⟩
    clear HST
    by_cases hlt : j < t
    · have hk := HK.out
      have hkt : (k : Int) < 2 * (t : Int) := by omega
      have hk16 : k < 16 := by omega
      have hmd : MinD (expN k) (mkA j) := by rw [hk]; exact min_ok (by omega)
      have HMD := Lib.hid hmd
      clear hk hmd
      go_wp2_with fail
      go_at_call 33
      refine (rminimal_any k (mkA j) hk16 HMD.out wq).mono ?_
      rintro x w1 ⟨mv, rfl, hmo, hb1⟩
      have hg1 := HG.out.new hb1
      have hmp : PolyIn w1 w.heap.size mv (mkA j) := own_mono hmo HG.out.bw.size
      obtain ⟨gm, cm, rfl, hgm1, hgm2, hmi⟩ := hmp.at (mk_ne (by omega))
      obtain ⟨go, co, hov, hgo1, hgo2, hgoi⟩ := hg1.out.at (gen_ne (by omega))
      subst hov
      obtain ⟨LM, hLM⟩ : ∃ LM, LM = terms (mkA j) := ⟨_, rfl⟩
      obtain ⟨LO, hLO⟩ : ∃ LO, LO = terms (genA j) := ⟨_, rfl⟩
      rw [← hLM] at hmi hmp
      rw [← hLO] at hgoi hg1
      rw [← hLM, ← hLO]
      have hml : LM.length ≤ 14 := by
        have := terms_length (mkA j)
        rw [mk_log (by omega), ← hLM] at this
        exact this
      have hol : LO.length ≤ 105 := by
        have := terms_length (genA j)
        rw [gen_log (by omega), ← hLO] at this
        omega
      have hsn : SeenNo w1 LM vs := by rw [hLM]; exact hg1.seen (by omega)
      obtain ⟨ad, cs, hsv⟩ : ∃ ad c, u4 = .slice ad j c := by
        rcases hg1.own.2 with ⟨h, h0⟩ | ⟨g, cap, cur, h, _⟩
        · exact ⟨_, _, by rw [h, h0]⟩
        · exact ⟨_, cap, h⟩
      have hcells : ∀ i, i < j → ∃ g, ad = some ⟨g, 0, none⟩ ∧ w1.cell? ⟨g, i, none⟩ = vs[i]? := by
        intro i hi
        rcases hg1.own.2 with ⟨h, h0⟩ | ⟨g, cap, cur, h, _⟩
        · omega
        · refine ⟨g, ?_, ?_⟩
          · rw [hsv] at h; injection h
          · have h' := hg1.own
            rw [h] at h'
            exact h'.cellAt i (by omega)
      subst hsv
      have hlen := hg1.len
      have HLM := Lib.hid hLM
      have HLO := Lib.hid hLO
      have HMI := Lib.hid hmi
      have HMP := Lib.hid hmp
      have HG1 := Lib.hid hg1
      have HSN := Lib.hid hsn
      have HCE := Lib.hid hcells
      have HLEN := Lib.hid hlen
      clear hLM hLO hmi hmp hg1 hsn hcells hgoi hmo hb1 HG hlen
      go_wp2_with fail
      go_loopw [7, 8] (fun kn iv wz => ∃ i : Nat, i ≤ j ∧ iv = .int .i64 (i : Int) ∧ kn = .bool false ∧ Hid (Stays (fun _ => False) w1 wz)) (fun _ iv _ => j - (intOf iv).toNat)
      case atStart => exact ⟨0, by omega, rfl, rfl, Lib.hid (Stays.refl _ _)⟩
      case round =>
        obtain ⟨i, hij, rfl, rfl, HS⟩ := hrel
        obtain ⟨wz, rfl⟩ : ∃ wz : World, wz = wr := ⟨_, rfl⟩
        by_cases hlt2 : i < j
        · obtain ⟨g, rfl, hc⟩ := HCE.out i hlt2
          obtain ⟨a, c', L, e1, e2, e3, e4⟩ := HSN.out i (by rw [HLEN.out]; exact hlt2)
          rw [e1] at hc
          have hcq : wz.cell? ⟨g, i, none⟩ = some (.slice (some ⟨a, 0, none⟩) L.length c') := HS.out.cell hc id
          have HSA := Lib.hid (same_no a gm c' cm L LM e3 wz (e2.stays HS.out id) (HMI.out.stays HS.out id) e4 (by omega))
          have hlti : (i : Int) < (j : Int) := by omega
          clear e1 e2 e3 hc
          go_wp2_with (go_at_call 34; refine HSA.out.mono ?_; rintro e w' ⟨rfl, hs⟩)
          have HS2 := Lib.hid (HS.out.trans hs)
          clear hs
          go_wp2_with fail
          go_roundw
          case rel => exact ⟨i + 1, by omega, by go_num, rfl, HS2⟩
          case measure => simp [intOf]; omega
        · obtain rfl : i = j := by omega
          have HG2 := Lib.hid (HG1.out.still HS.out)
          have HMP2 := Lib.hid (HMP.out.new HS.out)
          have hbz := HG2.out.bw.size
          clear HCE HSN HMI HS HG1 HMP
          go_wp2_with (at_builtin; refine wpList_append_own _ rfl _ _ 81 rfl w.heap.size 34 i0 (.slice none 0 0) 1 24 (by kernel_rfl) hi hz0 hz1 hz2 rfl (by decide) _ _ _ rfl (HG2.out.own.alloc _) ⟨wz.heap.size, 0, none⟩ 1 1 [.slice (some ⟨gm, 0, none⟩) LM.length cm] rfl rfl ?c1 ?c2 ?c3 ?c4 ?c5 ?_)
          case c1 =>
            intro i u hu
            cases i with
            | zero => simp at hu; subst hu; simp [Addr.add]
            | succ i => simp at hu
          case c2 => intro u hu; simp at hu; subst hu; rfl
          case c3 => unfold maxLen; omega
          case c4 => omega
          case c5 => simp; omega
          intro sv' w4 hown' hgrow _
          have hba : Below wz.heap.size wz (wz.alloc (.cells #[.slice (some ⟨gm, 0, none⟩) LM.length cm] 34)) := (Below.refl _ _).alloc (Nat.le_refl _) _
          have hg3 := HG2.out.new hba
          have hmp3 := HMP2.out.new (Stays.of_below hba)
          have HG4 := Lib.hid (hg3.push hmp3 hgrow hown')
          have hmp4 : PolyIn w4 w.heap.size (.slice (some ⟨gm, 0, none⟩) LM.length cm) (mkA i) := hmp3.grownE hgrow hg3.own (by decide)
          have HMUL : Hid (Calls Try.prog 35 #[.slice (some ⟨go, 0, none⟩) LO.length co, .slice (some ⟨gm, 0, none⟩) LM.length cm] w4 fun x w' => ∃ v, x = .returned (.tuple #[v, .bool true]) ∧ PolyIn w' w4.heap.size v (genA (i + 1)) ∧ Below w4.heap.size w4 w') := Lib.hid (by
            obtain ⟨g1, c1, e1, e2, e3, e4⟩ := HG4.out.out.at (gen_ne (by omega))
            obtain ⟨g2, c2, f1, f2, f3, f4⟩ := hmp4.at (mk_ne (by omega))
            injection e1 with e1 e1' e1''
            injection f1 with f1 f1' f1''
            injection e1 with e1
            injection f1 with f1
            injection e1 with e1
            injection f1 with f1
            subst e1 f1 e1'' f1''
            rw [HLO.out, HLM.out]
            have := rpolyMul_any go gm co cm (genA i) (mkA i) w4 (gen_ne (by omega)) (mk_ne (by omega)) e4 f4 (by rw [gen_log (by omega), mk_log (by omega)]; omega) e3 f3
            rw [gen_step (by omega)] at this
            exact this)
          clear hown' hgrow hba hg3 hmp3 hmp4 HLO HLM HG2 HMP2
          go_wp2_with fail
          go_at_call 35
          refine HMUL.out.mono ?_
          rintro x w5 ⟨ov', rfl, hov, hb5⟩
          have HST5 := Lib.hid (HG4.out.next hb5 hov)
          clear hov hb5 HMUL HG4
          have hk3 := HK.out
          go_wp2_with fail
          go_roundw
          case rel => exact ⟨i + 1, k + 2, _, by omega, by go_num, Lib.hid (by omega), by omega, HST5⟩
          case measure => simp [intOf]; omega
    · obtain rfl : j = t := by omega
      have hk := HK.out
      have hkt : ¬ (k : Int) < 2 * (j : Int) := by omega
      clear hk
      go_wp2_with fail
      go_ret
      exact ⟨_, rfl, HG.out.out, HG.out.bw⟩
end Go.Proofs.Ytldekkniammllaa
