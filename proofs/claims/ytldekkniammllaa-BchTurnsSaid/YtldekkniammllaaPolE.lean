/- The generator, as the program makes it. -/
import Derived.Test.YtldekkniammllaaPolD
import Derived.Test.YtldekkniammllaaPolQ
namespace Go.Proofs.Ytldekkniammllaa
open Go.RowKit
set_option linter.unusedVariables false
set_option linter.unusedSimpArgs false

theorem FieldReady.one {w : World} {b off be bl be' bl' : Nat} (h : FieldReady w b off be bl) (k : FieldReady w b off be' bl') : be' = be ∧ bl' = bl := by
  have h1 := k.tab.exp
  have h2 := k.tab.log
  rw [h.tab.exp] at h1
  rw [h.tab.log] at h2
  simp at h1 h2
  exact ⟨h1.symm, h2.symm⟩
theorem own_ne {w : World} {B1 B2 e1 e2 s1 s2 n1 n2 : Nat} {v1 v2 : Value} {x1 x2 : List Value} (h1 : w.ownsRow B1 e1 s1 v1 n1 x1) (h2 : w.ownsRow B2 e2 s2 v2 n2 x2) (he : e1 ≠ e2) : ∀ k, v1.ownBlock = some k → v2.ownBlock = some k → False := by
  intro k k1 k2
  rcases h1.2 with ⟨rfl, _⟩ | ⟨g, cap, cur, rfl, hb, hg, _⟩
  · simp [Value.ownBlock] at k1
  · rcases h2.2 with ⟨rfl, _⟩ | ⟨g', cap', cur', rfl, hb', hg', _⟩
    · simp [Value.ownBlock] at k2
    · simp [Value.ownBlock] at k1 k2
      subst k1 k2
      rw [hg] at hg'
      simp at hg'
      exact he hg'.2
/-- A polynomial in memory of the call's own. -/
def PolyIn (w : World) (B : Nat) (v : Value) (A : Nat) : Prop := w.ownsRow B 3 1 v (terms A).length ((terms A).map intV)
theorem PolyIn.stays {w w' : World} {B A : Nat} {v : Value} {S : Nat → Prop} (h : PolyIn w B v A) (k : Stays S w w') (hS : ∀ q, S q → q < B) : PolyIn w' B v A :=
  own_stays h k (fun q hq e => by have := (h.lt q hq).1; have := hS q e; omega)
theorem PolyIn.new {w w' : World} {B A : Nat} {v : Value} (h : PolyIn w B v A) (k : Stays (fun _ => False) w w') : PolyIn w' B v A := h.stays k (fun _ e => e.elim)

/-- The state at the head of round j. -/
structure GenSt (w0 w : World) (b off : Nat) (sv ov : Value) (j : Nat) : Prop where
  lb : b < w0.heap.size
  on : Only b off (off + 6) w0 w
  out : PolyIn w w0.heap.size ov (genA j)
  same : ∀ be bl, FieldReady w0 b off be bl → FieldReady w b off be bl
  fld : (j = 0 ∧ sv = .slice none 0 0 ∧ FieldAt w b off) ∨ ∃ B be bl vs, FieldReady w b off be bl ∧ be < B ∧ bl < B ∧ w0.heap.size ≤ B ∧ B ≤ w.heap.size ∧ vs.length = j ∧ w.ownsRow B 76 1 sv j vs ∧ ∀ i, i < j → ∃ v, vs[i]? = some v ∧ PolyIn w w0.heap.size v (mkA i)
/-- The state behind the call of Minimal: the field is ready; n lists seen, the product of j. -/
structure GenMid (w0 w : World) (b off be bl B : Nat) (sv ov : Value) (vs : List Value) (n j : Nat) : Prop where
  lb : b < w0.heap.size
  on : Only b off (off + 6) w0 w
  out : PolyIn w w0.heap.size ov (genA j)
  same : ∀ be bl, FieldReady w0 b off be bl → FieldReady w b off be bl
  fr : FieldReady w b off be bl
  le : be < B
  ll : bl < B
  hB : w0.heap.size ≤ B
  hB2 : B ≤ w.heap.size
  len : vs.length = n
  own : w.ownsRow B 76 1 sv n vs
  each : ∀ i, i < n → ∃ v, vs[i]? = some v ∧ PolyIn w w0.heap.size v (mkA i)
theorem GenSt.mid {w0 w w1 : World} {b off j : Nat} {sv ov : Value} (h : GenSt w0 w b off sv ov j) (hq : Readied b off w w1) : ∃ be bl B vs, GenMid w0 w1 b off be bl B sv ov vs j j := by
  have hsz := h.on.st.size
  have lb := h.lb
  have hS : ∀ q, q = b → q < w0.heap.size := fun q hq => by omega
  rcases h.fld with ⟨h1, h2, h3⟩ | ⟨B, be, bl, vs, h1, h2, h3, h4, h5, h6, h7, h8⟩
  · obtain ⟨be, bl, k1, k2, k3⟩ := hq
    have hsz1 := k2.st.size
    subst h1
    refine ⟨be, bl, w1.heap.size, [], h.lb, h.on.trans k2, h.out.stays k2.st hS, fun be' bl' hf => ?_, k1, k1.lt1, k1.lt2, by omega, Nat.le_refl _, rfl, by rw [h2]; exact World.ownsRow_nil _ _ _ _, fun i hi => by omega⟩
    obtain ⟨rfl, rfl⟩ := k3 be' bl' (h.same be' bl' hf)
    exact k1
  · obtain ⟨k1, k2⟩ := hq.same h1
    have hsz1 := k2.st.size
    refine ⟨be, bl, B, vs, h.lb, h.on.trans k2, h.out.stays k2.st hS, fun be' bl' hf => ?_, k1, h2, h3, h4, by omega, h6, own_stays h7 k2.st (fun q hq e => by have := (h7.lt q hq).1; omega), fun i hi => ?_⟩
    · obtain ⟨rfl, rfl⟩ := h1.one (h.same be' bl' hf)
      exact k1
    · obtain ⟨v, e1, e2⟩ := h8 i hi
      exact ⟨v, e1, e2.stays k2.st hS⟩
section
variable {w0 w w' : World} {b off be bl B j n : Nat} {sv ov mv : Value} {vs : List Value}
theorem GenMid.new (h : GenMid w0 w b off be bl B sv ov vs n j) (k : Stays (fun _ => False) w w') : GenMid w0 w' b off be bl B sv ov vs n j := by
  have := k.size
  have := h.hB2
  exact ⟨h.lb, h.on.new k (fun _ e => e.elim) h.lb, h.out.new k, fun be' bl' hf => (h.same be' bl' hf).stays k id id id, h.fr.stays k id id id, h.le, h.ll, h.hB, by omega, h.len, own_stays h.own k (fun _ _ e => e), fun i hi => by
    obtain ⟨v, e1, e2⟩ := h.each i hi
    exact ⟨v, e1, e2.new k⟩⟩
theorem PolyIn.at {B A : Nat} {v : Value} (h : PolyIn w B v A) (hA : A ≠ 0) : ∃ g cap, v = .slice (some ⟨g, 0, none⟩) (terms A).length cap ∧ B ≤ g ∧ g < w.heap.size ∧ IntsAt w g (terms A) := by
  obtain ⟨g, cap, h1, h2, h3, h4, h5⟩ := own_ints h (terms_ne hA)
  exact ⟨g, cap, h1, h2, h3, h4⟩
theorem GenMid.seen (h : GenMid w0 w b off be bl B sv ov vs j j) (hj : j < 8) : SeenNo w (terms (mkA j)) vs := by
  intro i hi
  rw [h.len] at hi
  obtain ⟨v, e1, e2⟩ := h.each i hi
  obtain ⟨g, cap, h1, h2, h3, h4⟩ := e2.at (mk_ne (by omega))
  subst h1
  refine ⟨g, cap, _, e1, h4, mk_apart hi hj, ?_⟩
  have := terms_length (mkA i)
  rw [mk_log (by omega)] at this
  omega
theorem PolyIn.grown {B B2 A n : Nat} {v : Value} {vs : List Value} (h : PolyIn w B v A) (k : w.grownBy w' sv.ownBlock) (hs : w.ownsRow B2 76 1 sv n vs) : PolyIn w' B v A :=
  own_stays h (grown_stays k) (fun q hq e => own_ne h hs (by decide) q hq e)
/-- What is appended to the list of those seen. -/
theorem GenMid.push {sv' : Value} (h : GenMid w0 w b off be bl B sv ov vs n j) (hm : PolyIn w w0.heap.size mv (mkA n)) (hg : w.grownBy w' sv.ownBlock) (hown : w'.ownsRow B 76 1 sv' (n + 1) (vs ++ [mv])) :
    GenMid w0 w' b off be bl B sv' ov (vs ++ [mv]) (n + 1) j := by
  have hs := grown_stays hg
  have h1 := h.le
  have h2 := h.ll
  have h3 := h.hB
  have h4 := h.lb
  have hS : ∀ q, sv.ownBlock = some q → B ≤ q := fun q hq => (h.own.lt q hq).1
  have hfr : ∀ be' bl', FieldReady w b off be' bl' → FieldReady w' b off be' bl' := fun be' bl' hf => by
    obtain ⟨rfl, rfl⟩ := h.fr.one hf
    exact hf.stays hs (fun q => by have := hS _ q; omega) (fun q => by have := hS _ q; omega) (fun q => by have := hS _ q; omega)
  refine ⟨h.lb, h.on.new hs (fun q hq => by have := hS q hq; omega) h.lb, h.out.grown hg h.own, fun be' bl' hf => hfr _ _ (h.same _ _ hf), hfr _ _ h.fr, h1, h2, h3, Nat.le_trans h.hB2 hs.size, by rw [List.length_append, h.len]; rfl, hown, fun i hi => ?_⟩
  rcases Nat.lt_or_ge i n with hi2 | hi2
  · obtain ⟨v, e1, e2⟩ := h.each i hi2
    exact ⟨v, by rw [List.getElem?_append_left (by rw [h.len]; exact hi2)]; exact e1, e2.grown hg h.own⟩
  · obtain rfl : i = n := by omega
    exact ⟨mv, by rw [List.getElem?_append_right (by rw [h.len]; exact Nat.le_refl _), h.len, Nat.sub_self]; rfl, hm.grown hg h.own⟩
theorem GenMid.next {ov' : Value} (h : GenMid w0 w b off be bl B sv ov vs (j + 1) j) (k : Below w.heap.size w w') (ho : PolyIn w' w.heap.size ov' (genA (j + 1))) : GenSt w0 w' b off sv ov' (j + 1) := by
  have h' := h.new (Stays.of_below k)
  have := h.on.st.size
  exact ⟨h'.lb, h'.on, own_mono ho this, h'.same, .inr ⟨B, be, bl, vs, h'.fr, h'.le, h'.ll, h'.hB, h'.hB2, h'.len, h'.own, h'.each⟩⟩
theorem GenMid.fat (h : GenMid w0 w b off be bl B sv ov vs n j) : FieldAt w b off := .inr ⟨be, bl, h.fr⟩
theorem GenSt.fat (h : GenSt w0 w b off sv ov j) : FieldAt w b off := by
  rcases h.fld with ⟨_, _, h3⟩ | ⟨B, be, bl, vs, h1, _⟩
  · exact h3
  · exact .inr ⟨be, bl, h1⟩
theorem GenSt.done (h : GenSt w0 w b off sv ov j) (hj : 0 < j) : PolyIn w w0.heap.size ov (genA j) ∧ Readied b off w0 w := by
  refine ⟨h.out, ?_⟩
  rcases h.fld with ⟨h1, _⟩ | ⟨B, be, bl, vs, h1, _⟩
  · omega
  · exact ⟨be, bl, h1, h.on, fun be' bl' hf => h1.one (h.same _ _ hf)⟩
end
theorem info_poly : (Try.prog.info? 76).map (fun i => (i.zero, i.size, i.bytes)) = some (some (.slice none 0 0), 1, 24) := by kernel_rfl

set_option maxHeartbeats 3200000 in
set_option maxRecDepth 100000 in
theorem generator_any (b off t : Nat) (ht1 : 1 ≤ t) (ht8 : t ≤ 8) (w : World) (h : FieldAt w b off) :
    Calls Try.prog 31 #[.pointer (some ⟨b, off, none⟩), .int .i64 (t : Int)] w fun x w' => ∃ v, x = .returned (.tuple #[v, .bool true]) ∧ PolyIn w' w.heap.size v (genA t) ∧ Readied b off w w' := by
  obtain ⟨i0, hi, hz0, hz1, hz2⟩ := info_parts info_poly
  have lb := h.lt
  have HF := Lib.hid h
  clear h
  go_enter Try.func31, Try.ntmps31
  go_wp2_with fail
  have hst : GenSt w (w.alloc (.cells #[.int .i64 0] 3)) b off (.slice none 0 0) (.slice (some ⟨w.heap.size, 0, none⟩) 1 1) 0 := by
    have hs : Stays (fun _ => False) w (w.alloc (.cells #[.int .i64 0] 3)) := (Stays.refl _ _).alloc _
    refine ⟨lb, (Only.refl _ _ _ _).alloc lb _, ?_, fun be bl hf => hf.alloc _, .inl ⟨rfl, rfl, ?_⟩⟩
    · unfold PolyIn
      rw [gen_zero]
      exact World.ownsRow_lit w #[.int .i64 0] 1 (Nat.le_refl _) (by decide) rfl
    · rcases HF.out with h | ⟨be, bl, h⟩
      · exact .inl (h.stays hs id)
      · exact .inr ⟨be, bl, h.alloc _⟩
  have HST := Lib.hid hst
  clear hst
  generalize w.alloc (.cells #[.int .i64 0] 3) = W0 at *
  generalize (Value.slice (some ⟨w.heap.size, 0, none⟩) 1 1) = ov0 at *
  go_loopw [6, 7, 8] (fun sv ov kv wr => ∃ j k : Nat, j ≤ t ∧ kv = .int .i64 (k : Int) ∧ Hid (k = 2 * j + 1) ∧ k ≤ 2 * t + 1 ∧ Hid (GenSt w wr b off sv ov j)) (fun _ _ kv _ => 2 * t + 1 - (intOf kv).toNat)
  case atStart => exact ⟨0, 1, by omega, rfl, Lib.hid rfl, by omega, HST⟩
  case round =>
    obtain ⟨j, k, hjt, rfl, HK, hk2, HG⟩ := hrel
    obtain ⟨wq, rfl⟩ : ∃ wq : World, wq = wr := ⟨_, rfl⟩
    clear HST
    by_cases hlt : j < t
    · have hk := HK.out
      have hkt : (k : Int) < 2 * (t : Int) := by omega
      have hk16 : k ≤ 16 := by omega
      obtain ⟨rs, LM, hrz, hon, hlm⟩ : ∃ rs LM, Rootz k rs ∧ ones (cfs rs 13) 14 = LM ∧ LM = terms (mkA j) := ⟨rootz k, _, by rw [hk]; exact mk_rootz (by omega), by rw [hk]; exact mk_ones (by omega), rfl⟩
      have HRZ := Lib.hid hrz
      have HON := Lib.hid hon
      have HLM := Lib.hid hlm
      clear hk hrz hon hlm
      go_wp2_with fail
      go_at_call 43
      refine (minimal_any b off k hk16 _ HRZ.out _ HON.out _ HG.out.fat).mono ?_
      rintro x w1 ⟨mv, rfl, hmo, hq⟩
      obtain ⟨be, bl, B, vs, hmid⟩ := HG.out.mid hq
      have hmp : PolyIn w1 w.heap.size mv (mkA j) := by rw [HLM.out] at hmo; exact own_mono hmo HG.out.on.st.size
      clear hmo hq
      obtain ⟨gm, cm, rfl, hgm1, hgm2, hmi⟩ := hmp.at (mk_ne (by omega))
      rw [← HLM.out] at hmi hmp
      rw [← HLM.out]
      obtain ⟨go, co, hov, hgo1, hgo2, hgoi⟩ := hmid.out.at (gen_ne (by omega))
      subst hov
      obtain ⟨LO, hLO⟩ : ∃ LO, LO = terms (genA j) := ⟨_, rfl⟩
      rw [← hLO] at hgoi hmid
      rw [← hLO]
      have hol : LO.length ≤ 105 := by
        have := terms_length (genA j)
        rw [gen_log (by omega), ← hLO] at this
        omega
      have HLO := Lib.hid hLO
      have hqb : ∀ q, u6.ownBlock = some q → q < w1.heap.size := fun q hq => (hmid.own.lt q hq).2
      have HQB := Lib.hid hqb
      clear hLO hgoi hqb
      have hml : LM.length ≤ 14 := by
        have := terms_length (mkA j)
        rw [mk_log (by omega), ← HLM.out] at this
        exact this
      have HMP := Lib.hid hmp
      have HMI := Lib.hid hmi
      have HMID := Lib.hid hmid
      have hlen := hmid.len
      have hB2 := hmid.hB2
      have hBB := hmid.hB
      clear hmp hmi hmid HG
      obtain ⟨w2, hw2⟩ : ∃ w2 : World, w2 = w1.alloc (.cells #[.slice (some ⟨gm, 0, none⟩) LM.length cm] 76) := ⟨_, rfl⟩
      have hp2 : w2.cell? ⟨w1.heap.size, 0, none⟩ = some (.slice (some ⟨gm, 0, none⟩) LM.length cm) := by rw [hw2]; exact (World.cell?_alloc_new _ _ _ _).trans rfl
      have hst2 : Stays (fun _ => False) w1 w2 := by rw [hw2]; exact (Stays.refl _ _).alloc _
      have HMID2 := Lib.hid (HMID.out.new hst2)
      have HMP2 := Lib.hid (HMP.out.new hst2)
      have HMI2 : Hid (IntsAt w2 gm LM) := Lib.hid (HMI.out.stays hst2 id)
      have hsn : SeenNo w2 LM vs := by rw [HLM.out]; exact HMID2.out.seen (by omega)
      have hoo := HMID2.out.own
      rw [← hlen] at hoo
      have HSE := Lib.hid (seen_no gm w1.heap.size cm LM B _ vs w2 hoo hsn HMI2.out (by omega) (by omega) hp2)
      have HW2 := Lib.hid hw2
      clear hsn hoo hst2 hw2
      go_wp2_with fail
      rw [← HW2.out]
      go_at_call 44
      refine HSE.out.mono ?_
      rintro x w3 ⟨rfl, hs3⟩
      have HMID3 := Lib.hid (HMID2.out.new hs3)
      have HMP3 := Lib.hid (HMP2.out.new hs3)
      have HMI3 : Hid (IntsAt w3 gm LM) := Lib.hid (HMI2.out.stays hs3 id)
      have hp3 : w3.cell? ⟨w1.heap.size, 0, none⟩ = some (.slice (some ⟨gm, 0, none⟩) LM.length cm) := hs3.cell hp2 id
      clear hs3 hp2 HMID2 HMP2 HMI2 HMID HMP HMI HSE
      go_wp2_with (at_builtin; refine wpList_append_own _ rfl _ _ 88 rfl B 76 i0 (.slice none 0 0) 1 24 (by kernel_rfl) hi hz0 hz1 hz2 rfl (by decide) _ _ _ rfl (HMID3.out.own.alloc _) ⟨w3.heap.size, 0, none⟩ 1 1 [.slice (some ⟨gm, 0, none⟩) LM.length cm] rfl rfl ?c1 ?c2 ?c3 ?c4 ?c5 ?_)
      case c1 =>
        intro i u hu
        cases i with
        | zero => simp at hu; subst hu; simp [Addr.add]
        | succ i => simp at hu
      case c2 => intro u hu; simp at hu; subst hu; rfl
      case c3 => unfold maxLen; omega
      case c4 => omega
      case c5 => have := HMID3.out.hB2; simp; omega
      intro sv' w4 hown' hgrow _
      have hsa : Stays (fun _ => False) w3 (w3.alloc (.cells #[.slice (some ⟨gm, 0, none⟩) LM.length cm] 76)) := (Stays.refl _ _).alloc _
      have HMID4 := Lib.hid ((HMID3.out.new hsa).push (HMP3.out.new hsa) hgrow hown')
      have hmp4 : PolyIn w4 w.heap.size (.slice (some ⟨gm, 0, none⟩) LM.length cm) (mkA j) := (HMP3.out.new hsa).grown hgrow (HMID3.out.own.alloc _)
      have hp4 : w4.cell? ⟨w1.heap.size, 0, none⟩ = some (.slice (some ⟨gm, 0, none⟩) LM.length cm) := (grown_stays hgrow).cell (hsa.cell hp3 id) (fun q => by have := HQB.out _ q; exact Nat.lt_irrefl _ this)
      have HMUL : Hid (Calls Try.prog 47 #[.slice (some ⟨go, 0, none⟩) LO.length co, .slice (some ⟨gm, 0, none⟩) LM.length cm] w4 fun x w' => ∃ v, x = .returned (.tuple #[v, .bool true]) ∧ PolyIn w' w4.heap.size v (genA (j + 1)) ∧ Below w4.heap.size w4 w') := Lib.hid (by
        obtain ⟨g1, c1, e1, e2, e3, e4⟩ := HMID4.out.out.at (gen_ne (by omega))
        obtain ⟨g2, c2, f1, f2, f3, f4⟩ := hmp4.at (mk_ne (by omega))
        injection e1 with e1 e1' e1''
        injection f1 with f1 f1' f1''
        injection e1 with e1
        injection f1 with f1
        injection e1 with e1
        injection f1 with f1
        subst e1 f1 e1'' f1''
        rw [HLO.out, HLM.out]
        have := polyMul_any go gm co cm (genA j) (mkA j) w4 (gen_ne (by omega)) (mk_ne (by omega)) e4 f4 (by rw [gen_log (by omega), mk_log (by omega)]; omega) e3 f3
        rw [gen_step (by omega)] at this
        exact this)
      clear hown' hgrow hsa hmp4 hp3 HMID3 HMP3 HMI3 HQB HLO HLM
      go_wp2_with fail
      go_at_call 47
      refine HMUL.out.mono ?_
      rintro x w5 ⟨ov', rfl, hov, hb5⟩
      have HST5 := Lib.hid (HMID4.out.next hb5 hov)
      clear hov hb5 HMUL HMID4 hp4
      have hk3 := HK.out
      go_wp2_with fail
      go_roundw
      case rel => exact ⟨j + 1, k + 2, by omega, by go_num, Lib.hid (by omega), by omega, HST5⟩
      case measure => simp [intOf]; omega
    · obtain rfl : j = t := by omega
      have hk := HK.out
      have hkt : ¬ (k : Int) < 2 * (j : Int) := by omega
      clear hk
      go_wp2_with fail
      go_ret2
      obtain ⟨h1, h2⟩ := HG.out.done (by omega)
      exact ⟨_, rfl, h1, h2⟩
end Go.Proofs.Ytldekkniammllaa
