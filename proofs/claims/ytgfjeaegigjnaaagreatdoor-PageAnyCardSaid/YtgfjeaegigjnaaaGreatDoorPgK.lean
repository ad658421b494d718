/- Minimal polynomials and the generator. -/
import Derived.Test.YtgfjeaegigjnaaaGreatDoorPgJ
import Derived.Test.YtgfjeaegigjnaaaGreatDoorPgI
namespace Go.Proofs.YtgfjeaegigjnaaaGreatDoor
open Go.RowKit
set_option linter.unusedVariables false
set_option linter.unusedSimpArgs false

theorem grown_stays {w w' : World} {row : Option Nat} (h : w.grownBy w' row) : Stays (fun k => row = some k) w w' :=
  ⟨h.os, h.tape, h.output, h.size, fun k hk hn => h.block k hk (fun e => hn e.symm)⟩
theorem own_stays {w w' : World} {B e size : Nat} {v : Value} {n : Nat} {xs : List Value} {S : Nat → Prop} (h : w.ownsRow B e size v n xs) (hs : Stays S w w') (hn : ∀ k, v.ownBlock = some k → ¬ S k) : w'.ownsRow B e size v n xs := by
  refine ⟨h.1, ?_⟩
  rcases h.2 with hn' | ⟨g, cap, cur, rfl, hb, hgg, rest⟩
  · exact .inl hn'
  · refine .inr ⟨g, cap, cur, rfl, hb, ?_, rest⟩
    rw [hs.block g (Array.getElem?_eq_some_iff.1 hgg).1 (hn g rfl)]
    exact hgg
theorem map_contains {l : List Nat} {x : Nat} : (l.map (fun n : Nat => (n : Int))).contains (x : Int) = l.contains x := by
  induction l with
  | nil => rfl
  | cons a l ih =>
    rw [List.map_cons, List.contains_cons, List.contains_cons, ih]
    congr 1
    rw [Bool.eq_iff_iff]
    simp only [beq_iff_eq]
    omega
theorem getD_cast {rs : List Nat} {j : Nat} : ((rs.map (fun n : Nat => (n : Int))).getD j 0) = ((rs.getD j 0 : Nat) : Int) := by
  rw [List.getD_eq_getElem?_getD, List.getD_eq_getElem?_getD, List.getElem?_map]
  cases rs[j]? <;> rfl
theorem contains_any {w : World} {B : Nat} {v : Value} {L : List Nat} {n : Nat} (h : w.ownsRow B 3 1 v n (L.map intV)) (hn : n = L.length) (hb : n ≤ 1000000) (x : Nat) :
    Calls Tryz.prog 109 #[v, .int .i64 (x : Int)] w fun e w' => e = .returned (.bool (L.contains x)) ∧ w' = w := by
  subst hn
  rcases h.2 with ⟨rfl, h1⟩ | ⟨g, cap, cur, rfl, hB, hb, _⟩
  · have : L = [] := List.length_eq_zero_iff.mp h1
    subst this
    exact Tryz.slices_Contains_int_empty none 0 (x : Int) w
  · refine (Tryz.slices_Contains_int g 0 L.length cap (L.map (fun n : Nat => (n : Int))) (x : Int) w (by simp) (by omega) (fun j hj => ?_)).mono fun e w' ⟨he, hw⟩ => ⟨?_, hw⟩
    · rw [getD_cast, Nat.zero_add, h.cellAt j (by simpa using hj), List.getElem?_map, List.getD_eq_getElem?_getD, List.getElem?_eq_getElem (by simpa using hj)]; rfl
    · rw [he, List.take_of_length_le (by simp), map_contains]
theorem own_cells {w : World} {B g n cap : Nat} {L : List Nat} (h : w.ownsRow B 3 1 (.slice (some ⟨g, 0, none⟩) n cap) n (L.map intV)) (hn : n = L.length) : ∀ j, j < n → w.cell? ⟨g, j, none⟩ = some (intV (L.getD j 0)) := by
  intro j hj
  rw [h.cellAt j (by omega), List.getElem?_map, List.getD_eq_getElem?_getD, List.getElem?_eq_getElem (by omega)]; rfl
/-- What stands while the factors are multiplied. -/
structure MinSt (w1 w : World) (b off be bl gr : Nat) (rs : List Nat) : Prop where
  fr : FieldReady w b off be bl
  on : Only b off (off + 6) w1 w
  ir : IntsAt w gr rs
  lb : b < w1.heap.size
  le : be < w1.heap.size
  ll : bl < w1.heap.size
  lr : gr < w.heap.size
  nr : gr ≠ b
section
variable {w1 w w' : World} {b off be bl gr : Nat} {rs : List Nat}
theorem MinSt.readied (h : MinSt w1 w b off be bl gr rs) (k : Readied b off w w') : MinSt w1 w' b off be bl gr rs := by
  obtain ⟨k1, k2⟩ := k.same h.fr
  have := k2.st.size
  have := h.lr
  exact ⟨k1, h.on.trans k2, h.ir.stays k2.st h.nr, h.lb, h.le, h.ll, by omega, h.nr⟩
theorem MinSt.new {S : Nat → Prop} (h : MinSt w1 w b off be bl gr rs) (k : Stays S w w') (hS : ∀ q, S q → w1.heap.size ≤ q ∧ q ≠ gr) : MinSt w1 w' b off be bl gr rs := by
  have := k.size
  have := h.lr
  have h1 := h.lb
  have h2 := h.le
  have h3 := h.ll
  refine ⟨h.fr.stays k (fun q => ?_) (fun q => ?_) (fun q => ?_), h.on.new k (fun q hq => (hS q hq).1) h.lb, h.ir.stays k (fun q => (hS _ q).2 rfl), h.lb, h.le, h.ll, by omega, h.nr⟩
  · have := (hS _ q).1; omega
  · have := (hS _ q).1; omega
  · have := (hS _ q).1; omega
theorem MinSt.fat (h : MinSt w1 w b off be bl gr rs) : FieldAt w b off := .inr ⟨be, bl, h.fr⟩
theorem MinSt.alloc (h : MinSt w1 w b off be bl gr rs) (o : Obj) : MinSt w1 (w.alloc o) b off be bl gr rs := h.new (S := fun _ => False) ((Stays.refl _ _).alloc o) (fun _ q => q.elim)
theorem MinSt.drew (h : MinSt w1 w b off be bl gr rs) : MinSt w1 w.drew b off be bl gr rs := h.new (S := fun _ => False) ((Stays.refl _ _).drew) (fun _ q => q.elim)
theorem MinSt.set (h : MinSt w1 w b off be bl gr rs) {g : Nat} (o : Nat) (v : Value) (h1 : w1.heap.size ≤ g) (h2 : g ≠ gr) : MinSt w1 (w.setCell ⟨g, o, none⟩ v) b off be bl gr rs :=
  h.new (S := (· = g)) Row.stay (fun q hq => by subst hq; exact ⟨h1, h2⟩)
end
/-- A row of numbers. -/
def NRow (w : World) (g n : Nat) (F : Nat → Nat) : Prop := Row w g n (fun j => intV (F j))
theorem NRow.set {w : World} {g n : Nat} {F : Nat → Nat} (h : NRow w g n F) (i v : Nat) : NRow (w.setCell ⟨g, i, none⟩ (.int .i64 ((v : Nat) : Int))) g n (upd F i v) := by
  refine (Row.set h i (intV v)).congr fun t ht => ?_
  unfold upd
  split <;> rfl
theorem NRow.congr {w : World} {g n : Nat} {F G : Nat → Nat} (h : NRow w g n F) (e : ∀ j, j < n → F j = G j) : NRow w g n G := Row.congr h fun j hj => by rw [e j hj]
theorem nxf_put {w : World} {g l j y0 y1 v m : Nat} {C : List Nat} {r : Nat} (h : NRow w g (l + 1) (upd (nxf C r j) (j + 1) (y1 ^^^ v))) (e1 : y1 = nxf C r j (j + 1)) (e0 : y0 = nxf C r j j) (ev : v = C.getD j 0) (em : m = mulP v r) :
    NRow (w.setCell ⟨g, j, none⟩ (.int .i64 ((y0 ^^^ m : Nat) : Int))) g (l + 1) (nxf C r (j + 1)) := by
  refine (NRow.set h _ _).congr fun t ht => ?_
  subst em ev e0 e1
  rw [nxf_step]
  by_cases e1 : t = j
  · subst e1; rw [upd_same, if_pos rfl]
  · rw [upd_other _ _ e1, if_neg e1]
    by_cases e2 : t = j + 1
    · subst e2; rw [upd_same, if_pos rfl]
    · rw [upd_other _ _ e2, if_neg e2]
set_option maxHeartbeats 3200000 in
set_option maxRecDepth 100000 in
theorem minimal_any (b off k : Nat) (hk16 : k ≤ 16) (rs : List Nat) (hrs : Rootz k rs) (L : List Nat) (hL : ones (cfs rs 13) 14 = L) (w : World) (h : FieldAt w b off) :
    Calls Tryz.prog 90 #[.pointer (some ⟨b, off, none⟩), .int .i64 (k : Int)] w fun x w' => ∃ v, x = .returned v ∧ w'.ownsRow w.heap.size 3 1 v L.length (L.map intV) ∧ Readied b off w w' := by
  obtain ⟨i0, hi, hz0, hz1, hz2⟩ := info_parts info_int
  have lb := h.lt
  have HF := Lib.hid h
  have HRS := Lib.hid hrs
  have HL := Lib.hid hL
  clear h hrs hL
  go_enter Tryz.func90, Tryz.ntmps90
  go_wp2_with fail
  go_at_call 83
  refine (Exp_any b off (k : Int) (k % 8191) (by omega) (by omega) (by omega) w HF.out).mono ?_
  rintro x w1 ⟨rfl, be, bl, hr1, ho1, hk1⟩
  obtain ⟨r0, hr0e⟩ : ∃ r0, r0 = rs.getD 0 0 := ⟨_, rfl⟩
  rw [HRS.out.first, ← hr0e]
  have HR0 := Lib.hid hr0e
  clear hr0e
  have HR1 := Lib.hid hr1
  have HO1 := Lib.hid ho1
  have HK1 := Lib.hid hk1
  have hbw := ho1.st.size
  clear hr1 ho1 hk1
  go_wp2_with fail
  go_loopg [5, 6] 13 (fun gk v r wr => ∃ i : Nat, i + gk = 13 ∧ r = .int .i64 ((rs.getD (i % 13) 0 : Nat) : Int) ∧ Hid (wr.ownsRow w1.heap.size 3 1 v i ((rs.take i).map intV)) ∧ Hid (FieldReady wr b off be bl) ∧ Hid (Only b off (off + 6) w1 wr))
  case atStart => exact ⟨0, rfl, by rw [HR0.out], Lib.hid (World.ownsRow_nil _ _ _ _), HR1, Lib.hid (Only.refl _ _ _ _)⟩
  case round =>
    obtain ⟨i, hi13, rfl, HO, HR, HON⟩ := hrel
    have hlen := HRS.out.len
    by_cases hlt : i < 13
    · have him : i % 13 = i := Nat.mod_eq_of_lt hlt
      rw [him]
      obtain ⟨r, hr⟩ : ∃ r, r = rs.getD i 0 := ⟨_, rfl⟩
      have hr0 := HRS.out.pos i hlt
      have hr8 := HRS.out.lt i
      have hnew := HRS.out.new i hlt
      have hnx := HRS.out.next i hlt
      rw [← hr] at hr0 hr8 hnew hnx
      rw [← hr]
      have hsq := sq_exp hr0 hr8
      rw [hnx] at hsq
      obtain ⟨s, hs⟩ : ∃ s, s = rs.getD ((i + 1) % 13) 0 := ⟨_, rfl⟩
      rw [← hs] at hsq
      have HSS := Lib.hid hs
      clear hs
      have HSQ := Lib.hid hsq
      have HNEW := Lib.hid hnew
      have HRR := Lib.hid hr
      clear hnew hnx hsq hr
      have HC := Lib.hid (contains_any HO.out (by rw [List.length_take]; omega) (by omega) r)
      clear him
      have hii : i + 1 ≤ 13 := by omega
      go_wp2_with (first | (go_at_call 109; refine HC.out.mono ?_; rw [HNEW.out]; rintro e w' ⟨rfl, hw'⟩; obtain rfl := hw'.symm) | (at_builtin; refine wpList_append_own _ rfl _ _ 55 rfl w1.heap.size 3 i0 (.int .i64 0) 1 8 (by kernel_rfl) hi hz0 hz1 hz2 rfl (by decide) _ _ _ rfl (HO.out.alloc _) ⟨wr.heap.size, 0, none⟩ 1 1 [.int .i64 (r : Int)] rfl rfl ?c1 ?c2 ?c3 ?c4 ?c5 ?_))
      case c1 =>
        intro i u hu
        cases i with
        | zero => simp at hu; subst hu; simp [Addr.add]
        | succ i => simp at hu
      case c2 => intro u hu; simp at hu; subst hu; rfl
      case c3 => unfold maxLen; omega
      case c4 => omega
      case c5 => have := HON.out.st.size; simp; omega
      intro v' w2 hown' hgrow _
      have hgs := grown_stays hgrow
      have hblk : ∀ q, u5.ownBlock = some q → w1.heap.size ≤ q := fun q hq => (HO.out.lt q hq).1
      have hre := HR1.out.lt
      have hre1 := HR1.out.lt1
      have hre2 := HR1.out.lt2
      have HR2 : Hid (FieldReady w2 b off be bl) := Lib.hid ((HR.out.alloc _).stays hgs (fun q => by have := hblk b q; omega) (fun q => by have := hblk be q; omega) (fun q => by have := hblk bl q; omega))
      have HON2 : Hid (Only b (off + 6) (off + 6) w1 w1 ∧ Only b off (off + 6) w1 w2) := Lib.hid ⟨Only.refl _ _ _ _, (HON.out.alloc hre _).new hgs (fun q hq => hblk q hq) hre⟩
      have HO2 : Hid (w2.ownsRow w1.heap.size 3 1 v' (i + 1) ((rs.take (i + 1)).map intV)) := Lib.hid (by
        have e : rs.take (i + 1) = rs.take i ++ [r] := by rw [HRR.out, List.take_add_one, List.getElem?_eq_getElem (by omega), List.getD_eq_getElem?_getD, List.getElem?_eq_getElem (by omega)]; rfl
        rw [e, List.map_append]
        have h := hown'
        rw [← List.map_take] at h
        exact h)
      clear hown' hgrow hgs hblk hre1 hre2
      go_wp2_with (go_at_call 110; refine (Pow_any b off r 2 2 s HSQ.out hr0 hr8 (by omega) (by omega) (by omega) (by omega) _ (.inr ⟨be, bl, HR2.out⟩)).mono ?_; rintro e w3 ⟨rfl, hq⟩)
      obtain ⟨hr3, ho3⟩ := hq.same HR2.out
      have HR3 := Lib.hid hr3
      have HON3 : Hid (Only b off (off + 6) w1 w3) := Lib.hid (HON2.out.2.trans ho3)
      have HO3 : Hid (w3.ownsRow w1.heap.size 3 1 v' (i + 1) ((rs.take (i + 1)).map intV)) := Lib.hid (own_stays HO2.out ho3.st (fun q hq e => by have := (HO2.out.lt q hq).1; omega))
      clear hq hr3 ho3
      go_wp2_with fail
      go_roundg (gk - 1)
      case rel => exact ⟨i + 1, by omega, by rw [HSS.out], HO3, HR3, HON3⟩
      case measure => omega
    · have hi2 : i = 13 := by omega
      subst hi2
      have hmod : 13 % 13 = 0 := rfl
      rw [hmod]
      obtain ⟨r, hr⟩ : ∃ r, r = rs.getD 0 0 := ⟨_, rfl⟩
      rw [← hr]
      have HRR := Lib.hid hr
      have hct : (rs.take 13).contains r = true := by
        rw [List.take_of_length_le (by omega), List.contains_iff_mem, hr, List.getD_eq_getElem?_getD, List.getElem?_eq_getElem (by omega)]
        exact List.getElem_mem _
      have HC := Lib.hid (contains_any HO.out (by rw [List.length_take]; omega) (by omega) r)
      have HCT := Lib.hid hct
      clear hct hr hmod
      have hown := HO.out
      rw [List.take_of_length_le (by omega)] at hown
      obtain ⟨gr, cr, hv, hgr, hgr2, hir, hfr⟩ := own_ints (L := rs) (by rw [hlen]; exact hown) (by intro h; rw [h] at hlen; cases hlen)
      subst hv
      rw [hlen] at HC ⊢
      have HIR := Lib.hid hir
      clear HO hown hir hfr
      have hre := HR1.out.lt
      have hre1 := HR1.out.lt1
      have hre2 := HR1.out.lt2
      have hn1 : gr ≠ b := by omega
      go_wp2_with (go_at_call 109; refine HC.out.mono ?_; rw [HCT.out]; rintro e w' ⟨rfl, hw'⟩; obtain rfl := hw'.symm)
      have HMS : Hid (MinSt w1 wr b off be bl gr rs) := Lib.hid ⟨HR.out, HON.out, HIR.out, hre, hre1, hre2, hgr2, hn1⟩
      have hwz := HON.out.st.size
      clear HC HCT HRR HR HON HIR
      obtain ⟨wo, rfl⟩ : ∃ wo : World, wo = wr := ⟨_, rfl⟩
      go_loopw [7, 34] (fun c ix wz => ∃ (i gc cc : Nat), i ≤ 13 ∧ ix = .int .i64 (i : Int) ∧ c = .slice (some ⟨gc, 0, none⟩) (i + 1) cc ∧ Hid (NRow wz gc (i + 1) (fun j => (cfs rs i).getD j 0)) ∧ w1.heap.size ≤ gc ∧ gc < wz.heap.size ∧ gc ≠ gr ∧ Hid (MinSt w1 wz b off be bl gr rs)) (fun _ ix _ => 13 - (intOf ix).toNat)
      case atStart =>
        refine ⟨0, wo.heap.size, 1, by omega, rfl, rfl, Lib.hid (Row.made _ _ _ _ _ fun j hj => ?_), hwz, by simp, by omega, Lib.hid (HMS.out.alloc _)⟩
        obtain rfl : j = 0 := by omega
        rfl
      case round =>
        obtain ⟨i, gc, cc, hi14, rfl, rfl, HC, hgc1, hgc2, hgc3, HM⟩ := hrel
        obtain ⟨wz, rfl⟩ : ∃ wz : World, wz = wr := ⟨_, rfl⟩
        by_cases hi13 : i < 13
        · have hdi : decide ((i : Int) < 13) = true := by simp; omega
          obtain ⟨x, hx⟩ : ∃ x, x = rs.getD i 0 := ⟨_, rfl⟩
          have hx8 := HRS.out.lt i
          have hcx := HM.out.ir i (by omega)
          rw [← hx] at hx8 hcx
          obtain ⟨l, hl⟩ : ∃ l, l = i + 1 := ⟨_, rfl⟩
          have hClen := cfs_length (rs := rs) (i := i) (by omega)
          have hC8 := cfs_lt HRS.out.lt (i := i) (by omega)
          have hCs := cfs_succ (rs := rs) (i := i) (by omega)
          obtain ⟨C, hC⟩ : ∃ C, C = cfs rs i := ⟨_, rfl⟩
          rw [← hC] at hClen hC8 HC hCs
          rw [← hl] at hClen HC ⊢
          rw [← hx] at hCs
          have hl14 : l ≤ 13 := by omega
          have hmk : ∀ W : World, (Instr.makeSlice 55 (.int .i64 ((l : Int) + 1)) (.int .i64 ((l : Int) + 1))).run Tryz.prog W = .ok (.slice (some ⟨W.heap.size, 0, none⟩) (l + 1) (l + 1)) (W.alloc (.cells (madeCells #[.int .i64 0] (l + 1)) 3)) := by
            intro W
            exact run_make_row' (P := Tryz.prog) 55 3 (.int .i64 0) 8 (by kernel_rfl) (by kernel_rfl) rfl .i64 .i64 (l + 1) (by omega) (by omega) W
          unfold intV at hcx
          have HX := Lib.hid hx
          have HLL := Lib.hid hl
          have HCC := Lib.hid hC
          have HCL := Lib.hid hClen
          have HC8 := Lib.hid hC8
          have HCS := Lib.hid hCs
          obtain ⟨gn, hgn⟩ : ∃ g, g = wz.heap.size := ⟨_, rfl⟩
          have hN0 : NRow (wz.alloc (.cells (madeCells #[.int .i64 0] (l + 1)) 3)) gn (l + 1) (nxf C x 0) := by
            rw [hgn]
            exact Row.made _ _ _ _ _ (fun j hj => by rw [madeCells_getN _ _ _ hj, nxf_zero]; rfl)
          have hC0 : NRow (wz.alloc (.cells (madeCells #[.int .i64 0] (l + 1)) 3)) gc l (fun j => C.getD j 0) := Row.alloc HC.out hgc2 _
          have hM0 := HM.out.alloc (.cells (madeCells #[.int .i64 0] (l + 1)) 3)
          have hgsz : gn < (wz.alloc (.cells (madeCells #[.int .i64 0] (l + 1)) 3)).heap.size := by rw [hgn]; simp
          have hwz1 := HM.out.on.st.size
          have hgn1 : gn ≠ gc := by omega
          have hgn2 : gn ≠ gr := by have := HM.out.lr; omega
          have hgn3 : w1.heap.size ≤ gn := by omega
          have HGN := Lib.hid hgn
          have HN0 := Lib.hid hN0
          have HC0 := Lib.hid hC0
          have HM0 := Lib.hid hM0
          clear hx hl hClen hC hC8 hCs hN0 hC0 hM0 hgn HC HM
          go_wp2_with fail
          rw [← HGN.out]
          generalize wz.alloc (.cells (madeCells #[.int .i64 0] (l + 1)) 3) = W0 at *
          go_loopw [44] (fun jx wy => ∃ j : Nat, j ≤ l ∧ jx = .int .i64 (j : Int) ∧ Hid (NRow wy gn (l + 1) (nxf C x j)) ∧ Hid (NRow wy gc l (fun j => C.getD j 0)) ∧ gn < wy.heap.size ∧ Hid (MinSt w1 wy b off be bl gr rs)) (fun jx _ => l - (intOf jx).toNat)
          case atStart => exact ⟨0, Nat.zero_le _, rfl, HN0, HC0, hgsz, HM0⟩
          case round =>
            clear HN0 HC0 HM0 hmk hcx
            obtain ⟨j, hjl, rfl, HN, HCR, hgny, HM⟩ := hrel
            obtain ⟨wy, rfl⟩ : ∃ wy : World, wy = wr := ⟨_, rfl⟩
            by_cases hj : j < l
            · have hcv : wy.cell? ⟨gc, j, none⟩ = some (intV (C.getD j 0)) := HCR.out.cell j hj
              have hcn1 : wy.cell? ⟨gn, j + 1, none⟩ = some (intV (nxf C x j (j + 1))) := HN.out.cell (j + 1) (by omega)
              have hcn0 : wy.cell? ⟨gn, j, none⟩ = some (intV (nxf C x j j)) := HN.out.cell j (by omega)
              have hfn := HN.out.free
              have hy1 := nxf_lt (HC8.out) hx8 j (j + 1)
              have hy0 := nxf_lt (HC8.out) hx8 j j
              have hv8 := HC8.out j
              obtain ⟨v, hv⟩ : ∃ v, v = C.getD j 0 := ⟨_, rfl⟩
              obtain ⟨y1, hy1e⟩ : ∃ y, y = nxf C x j (j + 1) := ⟨_, rfl⟩
              obtain ⟨y0, hy0e⟩ : ∃ y, y = nxf C x j j := ⟨_, rfl⟩
              rw [← hv] at hcv hv8
              rw [← hy1e] at hcn1 hy1
              rw [← hy0e] at hcn0 hy0
              obtain ⟨m, hm⟩ : ∃ m, m = mulP v x := ⟨_, rfl⟩
              have hm8 := mulP_lt v hx8
              rw [← hm] at hm8
              have hx1 := xor_i64 y1 v (by omega) (by omega)
              have hx0 := xor_i64 y0 m (by omega) (by omega)
              unfold intV at hcv hcn1 hcn0
              have hf0 := hfn j
              have hf1 := hfn (j + 1)
              have HV := Lib.hid hv
              have HY1 := Lib.hid hy1e
              have HY0 := Lib.hid hy0e
              have HMM := Lib.hid hm
              obtain ⟨wp, hwp⟩ : ∃ wp : World, wp = wy.setCell ⟨gn, j + 1, none⟩ (.int .i64 ((y1 ^^^ v : Nat) : Int)) := ⟨_, rfl⟩
              have HMP : Hid (MinSt w1 wp b off be bl gr rs) := Lib.hid (by rw [hwp]; exact HM.out.set _ _ hgn3 hgn2)
              have hpn0 : wp.cell? ⟨gn, j, none⟩ = some (.int .i64 (y0 : Int)) := by
                rw [hwp, World.cell?_setCell_other _ _ _ _ (addr_ne_off (by omega))]; exact hcn0
              have hpf0 : wp.frozen? ⟨gn, j, none⟩ = false := by rw [hwp, World.frozen?_setCell]; exact hf0
              have HPN : Hid (NRow wp gn (l + 1) (upd (nxf C x j) (j + 1) (y1 ^^^ v))) := Lib.hid (by rw [hwp]; exact NRow.set HN.out _ _)
              have HPC : Hid (NRow wp gc l (fun j => C.getD j 0)) := Lib.hid (by rw [hwp]; exact Row.other HCR.out _ _ hgn1)
              have hsz : wp.heap.size = wy.heap.size := by rw [hwp]; simp
              have HWP := Lib.hid hwp
              clear hv hy1e hy0e hm hfn hwp
              go_wp2_with fail
              rw [← HWP.out]
              clear hcv hcn1 hcn0 hf0 hf1 hx1
              have hgnb : gn ≠ b := by have := HM.out.lb; omega
              go_region_with (go_at_call 84; (with_reducible refine (Mul_any b off v x hv8 hx8 _ HMP.out.drew.fat).mono ?_); rintro e w3 ⟨rfl, hq⟩; have HM3 := Lib.hid (HMP.out.drew.readied hq); rw [← HMM.out]; have hc3 : w3.cell? ⟨gn, j, none⟩ = some (.int .i64 (y0 : Int)) := (hq.same HMP.out.drew.fr).2.st.cell (p := ⟨gn, j, none⟩) ((World.cell?_drew _ _).trans hpn0) hgnb; have hf3 : w3.frozen? ⟨gn, j, none⟩ = false := ((hq.same HMP.out.drew.fr).2.st.frozen (p := ⟨gn, j, none⟩) hgnb (by simp; omega)).trans ((World.frozen?_drew _ _).trans hpf0); have HQ := Lib.hid (hq.same HMP.out.drew.fr).2; clear hq)
              all_goals
                have hgcb : gc ≠ b := by have := HM.out.lb; omega
                have hz3 := HQ.out.st.size
                have hz3' : wp.heap.size ≤ w3.heap.size := by simpa using hz3
                have HN4 := Lib.hid (nxf_put (Row.only (Row.drew HPN.out) HQ.out (by simp; omega) hgnb) HY1.out HY0.out HV.out HMM.out)
                have HC4 : Hid (NRow (w3.setCell ⟨gn, j, none⟩ (.int .i64 ((y0 ^^^ m : Nat) : Int))) gc l (fun j => C.getD j 0)) := Lib.hid (Row.other (Row.only (Row.drew HPC.out) HQ.out (World.block_lt_of_cell? _ _ ((Row.drew HPC.out).cell 0 (by omega))) hgcb) _ _ hgn1)
                have HM4 := Lib.hid (HM3.out.set (g := gn) j (.int .i64 ((y0 ^^^ m : Nat) : Int)) hgn3 hgn2)
                clear hc3 hf3 hpn0 hpf0 hz3
                go_wp2_with fail
                go_roundw
                case rel => exact ⟨j + 1, by omega, by go_num, HN4, HC4, by simp; omega, HM4⟩
                case measure => simp [intOf]; omega
            · obtain rfl : j = l := by omega
              have HN4 : Hid (NRow wy gn (j + 1) (fun t => (cfs rs (i + 1)).getD t 0)) := Lib.hid (NRow.congr HN.out fun t ht => by rw [HCS.out, mulLin_get _ _ _ (by rw [HCL.out]; exact ht), HCL.out])
              have hj2 := HLL.out
              clear HN HCR
              go_wp2_with fail
              go_roundw
              case rel => exact ⟨i + 1, gn, j + 1, by omega, by go_num, by rw [hj2], Lib.hid (by have := HN4.out; rw [hj2] at this; exact this), hgn3, hgny, hgn2, HM⟩
              case measure => simp [intOf]; omega
        · obtain rfl : i = 13 := by omega
          rw [show (13 + 1 : Nat) = 14 from rfl, show ((13 : Nat) : Int) = 13 from rfl]
          rw [show (13 + 1 : Nat) = 14 from rfl] at HC
          obtain ⟨C, hC⟩ : ∃ C, C = cfs rs 13 := ⟨_, rfl⟩
          have hLl := ones_length (cfs rs 13) 14
          rw [HL.out] at hLl
          have HL2 := HL.out
          rw [← hC] at HL2 HC
          have HLL2 := Lib.hid HL2
          clear HL2 hC
          go_wp2_with fail
          go_loopw [13, 14] (fun v e wy => ∃ (j : Int) (T : List Nat), -1 ≤ j ∧ j ≤ 13 ∧ e = .int .i64 j ∧ Hid (L = T ++ ones C (j + 1).toNat) ∧ Hid (wy.ownsRow wz.heap.size 3 1 v T.length (T.map intV)) ∧ Hid (Below wz.heap.size wz wy)) (fun _ e _ => (intOf e + 1).toNat)
          case atStart => exact ⟨13, [], by omega, by omega, rfl, Lib.hid (by rw [← HLL2.out]; rfl), Lib.hid (World.ownsRow_nil _ _ _ _), Lib.hid (Below.refl _ _)⟩
          case round =>
            obtain ⟨j, T, hj0, hj1, rfl, HT, HO, HB⟩ := hrel
            obtain ⟨wy, rfl⟩ : ∃ wy : World, wy = wr := ⟨_, rfl⟩
            by_cases h0 : 0 ≤ j
            · obtain ⟨t, rfl⟩ := Int.eq_ofNat_of_zero_le h0
              have hct : wy.cell? ⟨gc, t, none⟩ = some (intV (C.getD t 0)) := (HB.out.cell (p := ⟨gc, t, none⟩) (by exact hgc2)).trans (HC.out.cell t (by omega))
              obtain ⟨v, hv⟩ : ∃ v, v = C.getD t 0 := ⟨_, rfl⟩
              rw [← hv] at hct
              unfold intV at hct
              have hT2 := HT.out
              rw [show ((t : Int) + 1).toNat = t + 1 by omega] at hT2
              unfold ones at hT2
              rw [← hv] at hT2
              have HV := Lib.hid hv
              clear hv
              by_cases h1 : v = 1
              · have hb1 : (((v : Nat) : Int) == 1) = true := by simp; omega
                rw [if_pos h1] at hT2
                have HT2 : Hid (L = (T ++ [t]) ++ ones C t) := Lib.hid (by rw [hT2]; simp)
                have hTl : T.length + 1 ≤ 14 := by
                  have := congrArg List.length HT2.out
                  simp at this
                  omega
                have H1 := Lib.hid h1
                clear hT2 h1
                go_wp2_with (at_builtin; refine wpList_append_own _ rfl _ _ 152 rfl wz.heap.size 3 i0 (.int .i64 0) 1 8 (by kernel_rfl) hi hz0 hz1 hz2 rfl (by decide) _ _ _ rfl (HO.out.alloc _) ⟨wy.heap.size, 0, none⟩ 1 1 [.int .i64 (t : Int)] rfl rfl ?d1 ?d2 ?d3 ?d4 ?d5 ?_)
                case d1 =>
                  intro i u hu
                  cases i with
                  | zero => simp at hu; subst hu; simp [Addr.add]
                  | succ i => simp at hu
                case d2 => intro u hu; simp at hu; subst hu; rfl
                case d3 => unfold maxLen; omega
                case d4 => omega
                case d5 => have := HB.out.size; simp; omega
                intro v' w2 hown' hgrow _
                have HB4 : Hid (Below wz.heap.size wz w2) := Lib.hid ((HB.out.alloc HB.out.size _).grown hgrow (by have := HB.out.size; simp; omega) (fun q hq => (HO.out.lt q hq).1))
                have HO4 : Hid (w2.ownsRow wz.heap.size 3 1 v' (T ++ [t]).length ((T ++ [t]).map intV)) := Lib.hid (by
                  rw [List.length_append, List.map_append]
                  exact hown')
                clear hown' hgrow
                go_wp2_with fail
                go_roundw
                case rel => exact ⟨(t : Int) - 1, T ++ [t], by omega, by omega, rfl, Lib.hid (by have := HT2.out; rw [show ((t : Int) - 1 + 1).toNat = t by omega]; exact this), HO4, HB4⟩
                case measure => simp [intOf]
              · have hb1 : (((v : Nat) : Int) == 1) = false := by simp; omega
                rw [if_neg h1] at hT2
                have HT2 := Lib.hid hT2
                have H1 := Lib.hid h1
                clear hT2 h1
                go_wp2_with fail
                go_roundw
                case rel => exact ⟨(t : Int) - 1, T, by omega, by omega, rfl, Lib.hid (by have := HT2.out; rw [show ((t : Int) - 1 + 1).toNat = t by omega]; exact this), HO, HB⟩
                case measure => simp [intOf]
            · have : j = -1 := by omega
              subst this
              have hT : L = T := by simpa [ones] using HT.out
              subst hT
              go_wp2_with fail
              go_ret
              have h1 := HM.out.on.st.size
              refine ⟨_, rfl, own_mono HO.out (by omega), be, bl, HM.out.fr.below HB.out, (HO1.out.trans HM.out.on).below HB.out lb, HK1.out⟩
end Go.Proofs.YtgfjeaegigjnaaaGreatDoor

namespace Go.Proofs.YtgfjeaegigjnaaaGreatDoor
open Go.RowKit
set_option linter.unusedVariables false
set_option linter.unusedSimpArgs false

set_option maxRecDepth 100000 in
set_option maxHeartbeats 3200000 in
theorem equal_no (a b ca cb : Nat) (L M : List Nat) (hne : L ≠ M) (w : World) (hL : IntsAt w a L) (hM : IntsAt w b M) (h1 : L.length ≤ 1000) (h2 : M.length ≤ 1000) :
    Calls Tryz.prog 93 #[.slice (some ⟨a, 0, none⟩) L.length ca, .slice (some ⟨b, 0, none⟩) M.length cb] w fun e w' => e = .returned (.bool false) ∧ Stays (fun _ => False) w w' := by
  obtain ⟨m, hm⟩ : ∃ m, m = L.length := ⟨_, rfl⟩
  obtain ⟨n, hn⟩ : ∃ n, n = M.length := ⟨_, rfl⟩
  have HL := Lib.hid hL
  have HM := Lib.hid hM
  have HNE := Lib.hid hne
  rw [← hm] at h1
  rw [← hn] at h2
  rw [← hm, ← hn]
  have Hm := Lib.hid hm
  have Hn := Lib.hid hn
  clear hL hM hm hn hne
  by_cases hmn : m = n
  · have hd : decide ((m : Int) = (n : Int)) = true := by simp; omega
    subst hmn
    go_enter Tryz.func93, Tryz.ntmps93
    go_wp2_with fail
    go_loopw [13] (fun i wr => ∃ k : Nat, k ≤ m ∧ i = .int .i64 (k : Int) ∧ Hid (L.take k = M.take k) ∧ Hid (Stays (fun _ => False) w wr)) (fun i _ => m - (intOf i).toNat)
    case atStart => exact ⟨0, Nat.zero_le _, rfl, Lib.hid rfl, Lib.hid (Stays.refl _ _)⟩
    case round =>
      obtain ⟨k, hk, rfl, HT, HS⟩ := hrel
      obtain ⟨wq, rfl⟩ : ∃ wq : World, wq = wr := ⟨_, rfl⟩
      by_cases hlt : k < m
      · have c1 : wq.cell? ⟨a, k, none⟩ = some (.int .i64 ((L.getD k 0 : Nat) : Int)) := HS.out.cell (HL.out k (by have := Hm.out; omega)) id
        have c2 : wq.cell? ⟨b, k, none⟩ = some (.int .i64 ((M.getD k 0 : Nat) : Int)) := HS.out.cell (HM.out k (by have := Hn.out; omega)) id
        obtain ⟨x, hx⟩ : ∃ x, x = L.getD k 0 := ⟨_, rfl⟩
        obtain ⟨y, hy⟩ : ∃ y, y = M.getD k 0 := ⟨_, rfl⟩
        rw [← hx] at c1
        rw [← hy] at c2
        have HX := Lib.hid hx
        have HY := Lib.hid hy
        clear hx hy
        by_cases hxy : x = y
        · have hb : (((x : Nat) : Int) != ((y : Nat) : Int)) = false := by simp; omega
          have hlt2 : (k : Int) < (m : Int) := by omega
          have HXY := Lib.hid hxy
          clear hxy
          go_wp2_with fail
          go_quiet (fail)
          go_wp2_with fail
          go_roundw
          case rel =>
            refine ⟨k + 1, by omega, by go_num, Lib.hid ?_, Lib.hid (HS.out.drewN _)⟩
            have e1 := Hm.out
            have e2 := Hn.out
            have e3 := HX.out
            have e4 := HY.out
            rw [List.getD_eq_getElem?_getD, List.getElem?_eq_getElem (by omega)] at e3 e4
            rw [List.take_add_one, List.take_add_one, HT.out, List.getElem?_eq_getElem (by omega), List.getElem?_eq_getElem (by omega)]
            simp only [Option.getD_some] at e3 e4
            rw [← e3, ← e4, HXY.out]
          case measure => simp [intOf]; omega
        · have hb : (((x : Nat) : Int) != ((y : Nat) : Int)) = true := by simp; omega
          have hlt2 : (k : Int) < (m : Int) := by omega
          have HXY := Lib.hid hxy
          clear hxy
          go_wp2_with fail
          go_quiet (fail)
          go_wp2_with fail
          go_ret
          exact ⟨rfl, HS.out.drewN _⟩
      · obtain rfl : k = m := by omega
        exfalso
        have e := HT.out
        rw [List.take_of_length_le (by have := Hm.out; omega), List.take_of_length_le (by have := Hn.out; omega)] at e
        exact HNE.out e
  · have hd : (((m : Nat) : Int) != ((n : Nat) : Int)) = true := by simp; omega
    go_enter Tryz.func93, Tryz.ntmps93
    go_wp2_with fail
    go_ret
    exact ⟨rfl, Stays.refl _ _⟩
set_option maxRecDepth 100000 in
theorem gen1_no (a b p ca cb : Nat) (L M : List Nat) (hne : L ≠ M) (w : World) (hL : IntsAt w a L) (hM : IntsAt w b M) (h1 : L.length ≤ 1000) (h2 : M.length ≤ 1000) (hp : w.cell? ⟨p, 0, none⟩ = some (.slice (some ⟨b, 0, none⟩) M.length cb)) :
    Calls Tryz.prog 92 #[.slice (some ⟨a, 0, none⟩) L.length ca, .pointer (some ⟨p, 0, none⟩)] w fun e w' => e = .returned (.bool false) ∧ Stays (fun _ => False) w w' := by
  have HC := Lib.hid (equal_no a b ca cb L M hne w hL hM h1 h2)
  go_enter Tryz.func92, Tryz.ntmps92
  go_wp2_with (go_at_call 93; refine HC.out.mono ?_; rintro e w' ⟨rfl, hs⟩)
  go_ret
  exact ⟨rfl, hs⟩
/-- What was seen: lists, each at the head of a block, none of them M. -/
def SeenNo (w : World) (M : List Nat) (vs : List Value) : Prop := ∀ i, i < vs.length → ∃ a c L, vs[i]? = some (.slice (some ⟨a, 0, none⟩) L.length c) ∧ IntsAt w a L ∧ L ≠ M ∧ L.length ≤ 1000
theorem SeenNo.stays {w w' : World} {M : List Nat} {vs : List Value} (h : SeenNo w M vs) (k : Stays (fun _ => False) w w') : SeenNo w' M vs := fun i hi => by
  obtain ⟨a, c, L, h1, h2, h3⟩ := h i hi
  exact ⟨a, c, L, h1, h2.stays k id, h3⟩
set_option maxRecDepth 100000 in
set_option maxHeartbeats 3200000 in
theorem index_no (b p cb : Nat) (M : List Nat) (B : Nat) (sv : Value) (vs : List Value) (w : World) (ho : w.ownsRow B 152 1 sv vs.length vs) (hs : SeenNo w M vs) (hM : IntsAt w b M) (h2 : M.length ≤ 1000) (hv : vs.length ≤ 1000)
    (hp : w.cell? ⟨p, 0, none⟩ = some (.slice (some ⟨b, 0, none⟩) M.length cb)) :
    Calls Tryz.prog 111 #[sv, .func (.func 92) #[] #[.pointer (some ⟨p, 0, none⟩)]] w fun e w' => e = .returned (.int .i64 (-1)) ∧ Stays (fun _ => False) w w' := by
  obtain ⟨ad, c, hsv⟩ : ∃ ad c, sv = .slice ad vs.length c := by
    rcases ho.2 with ⟨h, h0⟩ | ⟨g, cap, cur, h, _⟩
    · exact ⟨_, _, by rw [h, h0]⟩
    · exact ⟨_, cap, h⟩
  have hcells : ∀ i, i < vs.length → ∃ g, ad = some ⟨g, 0, none⟩ ∧ w.cell? ⟨g, i, none⟩ = vs[i]? := by
    intro i hi
    rcases ho.2 with ⟨h, h0⟩ | ⟨g, cap, cur, h, _⟩
    · omega
    · refine ⟨g, ?_, ?_⟩
      · rw [hsv] at h; injection h
      · have h' := ho
        rw [h] at h'
        exact h'.cellAt i (by omega)
  subst hsv
  obtain ⟨n, hn⟩ : ∃ n, n = vs.length := ⟨_, rfl⟩
  rw [← hn] at hv ⊢
  have HN := Lib.hid hn
  have HC := Lib.hid hcells
  have HSN := Lib.hid hs
  have HM := Lib.hid hM
  have HP := Lib.hid hp
  have Hh2 := Lib.hid h2
  clear hn hcells hs hM hp ho h2
  go_enter Tryz.func111, Tryz.ntmps111
  go_wp2_with fail
  go_loopw [8] (fun i wr => ∃ k : Nat, k ≤ n ∧ i = .int .i64 (k : Int) ∧ Hid (Stays (fun _ => False) w wr)) (fun i _ => n - (intOf i).toNat)
  case atStart => exact ⟨0, Nat.zero_le _, rfl, Lib.hid (Stays.refl _ _)⟩
  case round =>
    obtain ⟨k, hk, rfl, HS⟩ := hrel
    obtain ⟨wq, rfl⟩ : ∃ wq : World, wq = wr := ⟨_, rfl⟩
    by_cases hlt : k < n
    · obtain ⟨g, rfl, hc⟩ := HC.out k (by have := HN.out; omega)
      obtain ⟨a, c', L, e1, e2, e3, e4⟩ := HSN.out k (by have := HN.out; omega)
      rw [e1] at hc
      have hcq : wq.cell? ⟨g, k, none⟩ = some (.slice (some ⟨a, 0, none⟩) L.length c') := HS.out.cell hc id
      have HG := Lib.hid (gen1_no a b p c' cb L M e3 wq (e2.stays HS.out id) (HM.out.stays HS.out id) e4 Hh2.out (HS.out.cell HP.out id))
      have hlt2 : (k : Int) < (n : Int) := by omega
      clear e1 e2 e3 hc
      go_wp2_with (go_at_call 92; refine HG.out.mono ?_; rintro e w' ⟨rfl, hs⟩)
      have HS2 := Lib.hid (HS.out.trans hs)
      clear hs
      go_wp2_with fail
      go_roundw
      case rel => exact ⟨k + 1, by omega, by go_num, HS2⟩
      case measure => simp [intOf]; omega
    · obtain rfl : k = n := by omega
      go_wp2_with fail
      go_ret
      exact ⟨rfl, HS.out⟩
set_option maxRecDepth 100000 in
theorem seen_no (b p cb : Nat) (M : List Nat) (B : Nat) (sv : Value) (vs : List Value) (w : World) (ho : w.ownsRow B 152 1 sv vs.length vs) (hs : SeenNo w M vs) (hM : IntsAt w b M) (h2 : M.length ≤ 1000) (hv : vs.length ≤ 1000)
    (hp : w.cell? ⟨p, 0, none⟩ = some (.slice (some ⟨b, 0, none⟩) M.length cb)) :
    Calls Tryz.prog 91 #[sv, .func (.func 92) #[] #[.pointer (some ⟨p, 0, none⟩)]] w fun e w' => e = .returned (.bool false) ∧ Stays (fun _ => False) w w' := by
  have HC := Lib.hid (index_no b p cb M B sv vs w ho hs hM h2 hv hp)
  clear ho hs hM hp
  go_enter Tryz.func91, Tryz.ntmps91
  go_wp2_with (go_at_call 111; refine HC.out.mono ?_; rintro e w' ⟨rfl, hs⟩)
  go_ret
  exact ⟨rfl, hs⟩
end Go.Proofs.YtgfjeaegigjnaaaGreatDoor

namespace Go.Proofs.YtgfjeaegigjnaaaGreatDoor
open Go.RowKit
set_option linter.unusedVariables false
set_option linter.unusedSimpArgs false

theorem FieldReady.one {w : World} {b off be bl be' bl' : Nat} (h : FieldReady w b off be bl) (k : FieldReady w b off be' bl') : be' = be ∧ bl' = bl := by
  have h1 := k.tab.exp
  have h2 := k.tab.log
  rw [h.tab.exp] at h1
  rw [h.tab.log] at h2
  simp at h1 h2
  exact ⟨h1.symm, h2.symm⟩
theorem own_ne {w : World} {B1 B2 e1 e2 s1 s2 n1 n2 : Nat} {v1 v2 : Value} {x1 x2 : List Value} (h1 : w.ownsRow B1 e1 s1 v1 n1 x1) (h2 : w.ownsRow B2 e2 s2 v2 n2 x2) (he : e1 ≠ e2) : ∀ k, v1.ownBlock = some k → v2.ownBlock = some k → False := by
  intro k k1 k2
  rcases h1.2 with ⟨rfl, _⟩ | ⟨g, cap, cur, rfl, hb, hg, _⟩
  · simp [Value.ownBlock] at k1
  · rcases h2.2 with ⟨rfl, _⟩ | ⟨g', cap', cur', rfl, hb', hg', _⟩
    · simp [Value.ownBlock] at k2
    · simp [Value.ownBlock] at k1 k2
      subst k1 k2
      rw [hg] at hg'
      simp at hg'
      exact he hg'.2
/-- A polynomial in memory of the call's own. -/
def PolyIn (w : World) (B : Nat) (v : Value) (A : Nat) : Prop := w.ownsRow B 3 1 v (terms A).length ((terms A).map intV)
theorem PolyIn.stays {w w' : World} {B A : Nat} {v : Value} {S : Nat → Prop} (h : PolyIn w B v A) (k : Stays S w w') (hS : ∀ q, S q → q < B) : PolyIn w' B v A :=
  own_stays h k (fun q hq e => by have := (h.lt q hq).1; have := hS q e; omega)
theorem PolyIn.new {w w' : World} {B A : Nat} {v : Value} (h : PolyIn w B v A) (k : Stays (fun _ => False) w w') : PolyIn w' B v A := h.stays k (fun _ e => e.elim)
/-- The state at the head of round j. -/
structure GenSt (w0 w : World) (b off : Nat) (sv ov : Value) (j : Nat) : Prop where
  lb : b < w0.heap.size
  on : Only b off (off + 6) w0 w
  out : PolyIn w w0.heap.size ov (genA j)
  same : ∀ be bl, FieldReady w0 b off be bl → FieldReady w b off be bl
  fld : (j = 0 ∧ sv = .slice none 0 0 ∧ FieldAt w b off) ∨ ∃ B be bl vs, FieldReady w b off be bl ∧ be < B ∧ bl < B ∧ w0.heap.size ≤ B ∧ B ≤ w.heap.size ∧ vs.length = j ∧ w.ownsRow B 152 1 sv j vs ∧ ∀ i, i < j → ∃ v, vs[i]? = some v ∧ PolyIn w w0.heap.size v (mkA i)
/-- The state behind the call of Minimal: the field is ready; n lists seen, the product of j. -/
structure GenMid (w0 w : World) (b off be bl B : Nat) (sv ov : Value) (vs : List Value) (n j : Nat) : Prop where
  lb : b < w0.heap.size
  on : Only b off (off + 6) w0 w
  out : PolyIn w w0.heap.size ov (genA j)
  same : ∀ be bl, FieldReady w0 b off be bl → FieldReady w b off be bl
  fr : FieldReady w b off be bl
  le : be < B
  ll : bl < B
  hB : w0.heap.size ≤ B
  hB2 : B ≤ w.heap.size
  len : vs.length = n
  own : w.ownsRow B 152 1 sv n vs
  each : ∀ i, i < n → ∃ v, vs[i]? = some v ∧ PolyIn w w0.heap.size v (mkA i)
theorem GenSt.mid {w0 w w1 : World} {b off j : Nat} {sv ov : Value} (h : GenSt w0 w b off sv ov j) (hq : Readied b off w w1) : ∃ be bl B vs, GenMid w0 w1 b off be bl B sv ov vs j j := by
  have hsz := h.on.st.size
  have lb := h.lb
  have hS : ∀ q, q = b → q < w0.heap.size := fun q hq => by omega
  rcases h.fld with ⟨h1, h2, h3⟩ | ⟨B, be, bl, vs, h1, h2, h3, h4, h5, h6, h7, h8⟩
  · obtain ⟨be, bl, k1, k2, k3⟩ := hq
    have hsz1 := k2.st.size
    subst h1
    refine ⟨be, bl, w1.heap.size, [], h.lb, h.on.trans k2, h.out.stays k2.st hS, fun be' bl' hf => ?_, k1, k1.lt1, k1.lt2, by omega, Nat.le_refl _, rfl, by rw [h2]; exact World.ownsRow_nil _ _ _ _, fun i hi => by omega⟩
    obtain ⟨rfl, rfl⟩ := k3 be' bl' (h.same be' bl' hf)
    exact k1
  · obtain ⟨k1, k2⟩ := hq.same h1
    have hsz1 := k2.st.size
    refine ⟨be, bl, B, vs, h.lb, h.on.trans k2, h.out.stays k2.st hS, fun be' bl' hf => ?_, k1, h2, h3, h4, by omega, h6, own_stays h7 k2.st (fun q hq e => by have := (h7.lt q hq).1; omega), fun i hi => ?_⟩
    · obtain ⟨rfl, rfl⟩ := h1.one (h.same be' bl' hf)
      exact k1
    · obtain ⟨v, e1, e2⟩ := h8 i hi
      exact ⟨v, e1, e2.stays k2.st hS⟩
section
variable {w0 w w' : World} {b off be bl B j n : Nat} {sv ov mv : Value} {vs : List Value}
theorem GenMid.new (h : GenMid w0 w b off be bl B sv ov vs n j) (k : Stays (fun _ => False) w w') : GenMid w0 w' b off be bl B sv ov vs n j := by
  have := k.size
  have := h.hB2
  exact ⟨h.lb, h.on.new k (fun _ e => e.elim) h.lb, h.out.new k, fun be' bl' hf => (h.same be' bl' hf).stays k id id id, h.fr.stays k id id id, h.le, h.ll, h.hB, by omega, h.len, own_stays h.own k (fun _ _ e => e), fun i hi => by
    obtain ⟨v, e1, e2⟩ := h.each i hi
    exact ⟨v, e1, e2.new k⟩⟩
theorem PolyIn.at {B A : Nat} {v : Value} (h : PolyIn w B v A) (hA : A ≠ 0) : ∃ g cap, v = .slice (some ⟨g, 0, none⟩) (terms A).length cap ∧ B ≤ g ∧ g < w.heap.size ∧ IntsAt w g (terms A) := by
  obtain ⟨g, cap, h1, h2, h3, h4, h5⟩ := own_ints h (terms_ne hA)
  exact ⟨g, cap, h1, h2, h3, h4⟩
theorem GenMid.seen (h : GenMid w0 w b off be bl B sv ov vs j j) (hj : j < 8) : SeenNo w (terms (mkA j)) vs := by
  intro i hi
  rw [h.len] at hi
  obtain ⟨v, e1, e2⟩ := h.each i hi
  obtain ⟨g, cap, h1, h2, h3, h4⟩ := e2.at (mk_ne (by omega))
  subst h1
  refine ⟨g, cap, _, e1, h4, mk_apart hi hj, ?_⟩
  have := terms_length (mkA i)
  rw [mk_log (by omega)] at this
  omega
theorem PolyIn.grown {B B2 A n : Nat} {v : Value} {vs : List Value} (h : PolyIn w B v A) (k : w.grownBy w' sv.ownBlock) (hs : w.ownsRow B2 152 1 sv n vs) : PolyIn w' B v A :=
  own_stays h (grown_stays k) (fun q hq e => own_ne h hs (by decide) q hq e)
/-- What is appended to the list of those seen. -/
theorem GenMid.push {sv' : Value} (h : GenMid w0 w b off be bl B sv ov vs n j) (hm : PolyIn w w0.heap.size mv (mkA n)) (hg : w.grownBy w' sv.ownBlock) (hown : w'.ownsRow B 152 1 sv' (n + 1) (vs ++ [mv])) :
    GenMid w0 w' b off be bl B sv' ov (vs ++ [mv]) (n + 1) j := by
  have hs := grown_stays hg
  have h1 := h.le
  have h2 := h.ll
  have h3 := h.hB
  have h4 := h.lb
  have hS : ∀ q, sv.ownBlock = some q → B ≤ q := fun q hq => (h.own.lt q hq).1
  have hfr : ∀ be' bl', FieldReady w b off be' bl' → FieldReady w' b off be' bl' := fun be' bl' hf => by
    obtain ⟨rfl, rfl⟩ := h.fr.one hf
    exact hf.stays hs (fun q => by have := hS _ q; omega) (fun q => by have := hS _ q; omega) (fun q => by have := hS _ q; omega)
  refine ⟨h.lb, h.on.new hs (fun q hq => by have := hS q hq; omega) h.lb, h.out.grown hg h.own, fun be' bl' hf => hfr _ _ (h.same _ _ hf), hfr _ _ h.fr, h1, h2, h3, Nat.le_trans h.hB2 hs.size, by rw [List.length_append, h.len]; rfl, hown, fun i hi => ?_⟩
  rcases Nat.lt_or_ge i n with hi2 | hi2
  · obtain ⟨v, e1, e2⟩ := h.each i hi2
    exact ⟨v, by rw [List.getElem?_append_left (by rw [h.len]; exact hi2)]; exact e1, e2.grown hg h.own⟩
  · obtain rfl : i = n := by omega
    exact ⟨mv, by rw [List.getElem?_append_right (by rw [h.len]; exact Nat.le_refl _), h.len, Nat.sub_self]; rfl, hm.grown hg h.own⟩
theorem GenMid.next {ov' : Value} (h : GenMid w0 w b off be bl B sv ov vs (j + 1) j) (k : Below w.heap.size w w') (ho : PolyIn w' w.heap.size ov' (genA (j + 1))) : GenSt w0 w' b off sv ov' (j + 1) := by
  have h' := h.new (Stays.of_below k)
  have := h.on.st.size
  exact ⟨h'.lb, h'.on, own_mono ho this, h'.same, .inr ⟨B, be, bl, vs, h'.fr, h'.le, h'.ll, h'.hB, h'.hB2, h'.len, h'.own, h'.each⟩⟩
theorem GenMid.fat (h : GenMid w0 w b off be bl B sv ov vs n j) : FieldAt w b off := .inr ⟨be, bl, h.fr⟩
theorem GenSt.fat (h : GenSt w0 w b off sv ov j) : FieldAt w b off := by
  rcases h.fld with ⟨_, _, h3⟩ | ⟨B, be, bl, vs, h1, _⟩
  · exact h3
  · exact .inr ⟨be, bl, h1⟩
theorem GenSt.done (h : GenSt w0 w b off sv ov j) (hj : 0 < j) : PolyIn w w0.heap.size ov (genA j) ∧ Readied b off w0 w := by
  refine ⟨h.out, ?_⟩
  rcases h.fld with ⟨h1, _⟩ | ⟨B, be, bl, vs, h1, _⟩
  · omega
  · exact ⟨be, bl, h1, h.on, fun be' bl' hf => h1.one (h.same _ _ hf)⟩
end
theorem info_poly : (Tryz.prog.info? 152).map (fun i => (i.zero, i.size, i.bytes)) = some (some (.slice none 0 0), 1, 24) := by kernel_rfl
set_option maxHeartbeats 3200000 in
set_option maxRecDepth 100000 in
theorem generator_any (b off t : Nat) (ht1 : 1 ≤ t) (ht8 : t ≤ 8) (w : World) (h : FieldAt w b off) :
    Calls Tryz.prog 71 #[.pointer (some ⟨b, off, none⟩), .int .i64 (t : Int)] w fun x w' => ∃ v, x = .returned (.tuple #[v, .bool true]) ∧ PolyIn w' w.heap.size v (genA t) ∧ Readied b off w w' := by
  obtain ⟨i0, hi, hz0, hz1, hz2⟩ := info_parts info_poly
  have lb := h.lt
  have HF := Lib.hid h
  clear h
  go_enter Tryz.func71, Tryz.ntmps71
  go_wp2_with fail
  have hst : GenSt w (w.alloc (.cells #[.int .i64 0] 3)) b off (.slice none 0 0) (.slice (some ⟨w.heap.size, 0, none⟩) 1 1) 0 := by
    have hs : Stays (fun _ => False) w (w.alloc (.cells #[.int .i64 0] 3)) := (Stays.refl _ _).alloc _
    refine ⟨lb, (Only.refl _ _ _ _).alloc lb _, ?_, fun be bl hf => hf.alloc _, .inl ⟨rfl, rfl, ?_⟩⟩
    · unfold PolyIn
      rw [gen_zero]
      exact World.ownsRow_lit w #[.int .i64 0] 1 (Nat.le_refl _) (by decide) rfl
    · rcases HF.out with h | ⟨be, bl, h⟩
      · exact .inl (h.stays hs id)
      · exact .inr ⟨be, bl, h.alloc _⟩
  have HST := Lib.hid hst
  clear hst
  generalize w.alloc (.cells #[.int .i64 0] 3) = W0 at *
  generalize (Value.slice (some ⟨w.heap.size, 0, none⟩) 1 1) = ov0 at *
  go_loopw [6, 7, 8] (fun sv ov kv wr => ∃ j k : Nat, j ≤ t ∧ kv = .int .i64 (k : Int) ∧ Hid (k = 2 * j + 1) ∧ k ≤ 2 * t + 1 ∧ Hid (GenSt w wr b off sv ov j)) (fun _ _ kv _ => 2 * t + 1 - (intOf kv).toNat)
  case atStart => exact ⟨0, 1, by omega, rfl, Lib.hid rfl, by omega, HST⟩
  case round =>
    obtain ⟨j, k, hjt, rfl, HK, hk2, HG⟩ := hrel
    obtain ⟨wq, rfl⟩ : ∃ wq : World, wq = wr := ⟨_, rfl⟩
    clear HST
    by_cases hlt : j < t
    · have hk := HK.out
      have hkt : (k : Int) < 2 * (t : Int) := by omega
      have hk16 : k ≤ 16 := by omega
      obtain ⟨rs, LM, hrz, hon, hlm⟩ : ∃ rs LM, Rootz k rs ∧ ones (cfs rs 13) 14 = LM ∧ LM = terms (mkA j) := ⟨rootz k, _, by rw [hk]; exact mk_rootz (by omega), by rw [hk]; exact mk_ones (by omega), rfl⟩
      have HRZ := Lib.hid hrz
      have HON := Lib.hid hon
      have HLM := Lib.hid hlm
      clear hk hrz hon hlm
      go_wp2_with fail
      go_at_call 90
      refine (minimal_any b off k hk16 _ HRZ.out _ HON.out _ HG.out.fat).mono ?_
      rintro x w1 ⟨mv, rfl, hmo, hq⟩
      obtain ⟨be, bl, B, vs, hmid⟩ := HG.out.mid hq
      have hmp : PolyIn w1 w.heap.size mv (mkA j) := by rw [HLM.out] at hmo; exact own_mono hmo HG.out.on.st.size
      clear hmo hq
      obtain ⟨gm, cm, rfl, hgm1, hgm2, hmi⟩ := hmp.at (mk_ne (by omega))
      rw [← HLM.out] at hmi hmp
      rw [← HLM.out]
      obtain ⟨go, co, hov, hgo1, hgo2, hgoi⟩ := hmid.out.at (gen_ne (by omega))
      subst hov
      obtain ⟨LO, hLO⟩ : ∃ LO, LO = terms (genA j) := ⟨_, rfl⟩
      rw [← hLO] at hgoi hmid
      rw [← hLO]
      have hol : LO.length ≤ 105 := by
        have := terms_length (genA j)
        rw [gen_log (by omega), ← hLO] at this
        omega
      have HLO := Lib.hid hLO
      have hqb : ∀ q, u6.ownBlock = some q → q < w1.heap.size := fun q hq => (hmid.own.lt q hq).2
      have HQB := Lib.hid hqb
      clear hLO hgoi hqb
      have hml : LM.length ≤ 14 := by
        have := terms_length (mkA j)
        rw [mk_log (by omega), ← HLM.out] at this
        exact this
      have HMP := Lib.hid hmp
      have HMI := Lib.hid hmi
      have HMID := Lib.hid hmid
      have hlen := hmid.len
      have hB2 := hmid.hB2
      have hBB := hmid.hB
      clear hmp hmi hmid HG
      obtain ⟨w2, hw2⟩ : ∃ w2 : World, w2 = w1.alloc (.cells #[.slice (some ⟨gm, 0, none⟩) LM.length cm] 152) := ⟨_, rfl⟩
      have hp2 : w2.cell? ⟨w1.heap.size, 0, none⟩ = some (.slice (some ⟨gm, 0, none⟩) LM.length cm) := by rw [hw2]; exact (World.cell?_alloc_new _ _ _ _).trans rfl
      have hst2 : Stays (fun _ => False) w1 w2 := by rw [hw2]; exact (Stays.refl _ _).alloc _
      have HMID2 := Lib.hid (HMID.out.new hst2)
      have HMP2 := Lib.hid (HMP.out.new hst2)
      have HMI2 : Hid (IntsAt w2 gm LM) := Lib.hid (HMI.out.stays hst2 id)
      have hsn : SeenNo w2 LM vs := by rw [HLM.out]; exact HMID2.out.seen (by omega)
      have hoo := HMID2.out.own
      rw [← hlen] at hoo
      have HSE := Lib.hid (seen_no gm w1.heap.size cm LM B _ vs w2 hoo hsn HMI2.out (by omega) (by omega) hp2)
      have HW2 := Lib.hid hw2
      clear hsn hoo hst2 hw2
      go_wp2_with fail
      rw [← HW2.out]
      go_at_call 91
      refine HSE.out.mono ?_
      rintro x w3 ⟨rfl, hs3⟩
      have HMID3 := Lib.hid (HMID2.out.new hs3)
      have HMP3 := Lib.hid (HMP2.out.new hs3)
      have HMI3 : Hid (IntsAt w3 gm LM) := Lib.hid (HMI2.out.stays hs3 id)
      have hp3 : w3.cell? ⟨w1.heap.size, 0, none⟩ = some (.slice (some ⟨gm, 0, none⟩) LM.length cm) := hs3.cell hp2 id
      clear hs3 hp2 HMID2 HMP2 HMI2 HMID HMP HMI HSE
      go_wp2_with (at_builtin; refine wpList_append_own _ rfl _ _ 169 rfl B 152 i0 (.slice none 0 0) 1 24 (by kernel_rfl) hi hz0 hz1 hz2 rfl (by decide) _ _ _ rfl (HMID3.out.own.alloc _) ⟨w3.heap.size, 0, none⟩ 1 1 [.slice (some ⟨gm, 0, none⟩) LM.length cm] rfl rfl ?c1 ?c2 ?c3 ?c4 ?c5 ?_)
      case c1 =>
        intro i u hu
        cases i with
        | zero => simp at hu; subst hu; simp [Addr.add]
        | succ i => simp at hu
      case c2 => intro u hu; simp at hu; subst hu; rfl
      case c3 => unfold maxLen; omega
      case c4 => omega
      case c5 => have := HMID3.out.hB2; simp; omega
      intro sv' w4 hown' hgrow _
      have hsa : Stays (fun _ => False) w3 (w3.alloc (.cells #[.slice (some ⟨gm, 0, none⟩) LM.length cm] 152)) := (Stays.refl _ _).alloc _
      have HMID4 := Lib.hid ((HMID3.out.new hsa).push (HMP3.out.new hsa) hgrow hown')
      have hmp4 : PolyIn w4 w.heap.size (.slice (some ⟨gm, 0, none⟩) LM.length cm) (mkA j) := (HMP3.out.new hsa).grown hgrow (HMID3.out.own.alloc _)
      have hp4 : w4.cell? ⟨w1.heap.size, 0, none⟩ = some (.slice (some ⟨gm, 0, none⟩) LM.length cm) := (grown_stays hgrow).cell (hsa.cell hp3 id) (fun q => by have := HQB.out _ q; exact Nat.lt_irrefl _ this)
      have HMUL : Hid (Calls Tryz.prog 94 #[.slice (some ⟨go, 0, none⟩) LO.length co, .slice (some ⟨gm, 0, none⟩) LM.length cm] w4 fun x w' => ∃ v, x = .returned (.tuple #[v, .bool true]) ∧ PolyIn w' w4.heap.size v (genA (j + 1)) ∧ Below w4.heap.size w4 w') := Lib.hid (by
        obtain ⟨g1, c1, e1, e2, e3, e4⟩ := HMID4.out.out.at (gen_ne (by omega))
        obtain ⟨g2, c2, f1, f2, f3, f4⟩ := hmp4.at (mk_ne (by omega))
        injection e1 with e1 e1' e1''
        injection f1 with f1 f1' f1''
        injection e1 with e1
        injection f1 with f1
        injection e1 with e1
        injection f1 with f1
        subst e1 f1 e1'' f1''
        rw [HLO.out, HLM.out]
        have := polyMul_any go gm co cm (genA j) (mkA j) w4 (gen_ne (by omega)) (mk_ne (by omega)) e4 f4 (by rw [gen_log (by omega), mk_log (by omega)]; omega) e3 f3
        rw [gen_step (by omega)] at this
        exact this)
      clear hown' hgrow hsa hmp4 hp3 HMID3 HMP3 HMI3 HQB HLO HLM
      go_wp2_with fail
      go_at_call 94
      refine HMUL.out.mono ?_
      rintro x w5 ⟨ov', rfl, hov, hb5⟩
      have HST5 := Lib.hid (HMID4.out.next hb5 hov)
      clear hov hb5 HMUL HMID4 hp4
      have hk3 := HK.out
      go_wp2_with fail
      go_roundw
      case rel => exact ⟨j + 1, k + 2, by omega, by go_num, Lib.hid (by omega), by omega, HST5⟩
      case measure => simp [intOf]; omega
    · obtain rfl : j = t := by omega
      have hk := HK.out
      have hkt : ¬ (k : Int) < 2 * (j : Int) := by omega
      clear hk
      go_wp2_with fail
      go_ret2
      obtain ⟨h1, h2⟩ := HG.out.done (by omega)
      exact ⟨_, rfl, h1, h2⟩
end Go.Proofs.YtgfjeaegigjnaaaGreatDoor

namespace Go.Proofs.YtgfjeaegigjnaaaGreatDoor
open Go.RowKit
set_option linter.unusedVariables false
set_option linter.unusedSimpArgs false

theorem mulK_horn (c a t : Nat) : mulK c a (t + 1) = step (mulK (c >>> 1) a t) ^^^ (if c.testBit 0 then a else 0) := by
  induction t with
  | zero => simp [mulK, stepN, step_zero]
  | succ t ih =>
    rw [mulK, ih, mulK, step_xor, Nat.testBit_shiftRight, Nat.add_comm 1 t, Nat.xor_assoc, Nat.xor_assoc]
    congr 1
    rw [Nat.xor_comm]
    congr 1
    split
    · rfl
    · exact step_zero.symm
/-- The product so far: the t highest bits of b. -/
def horn (b a t : Nat) : Nat := mulK (b >>> (13 - t)) a t
theorem horn_step {b a t : Nat} (h : t < 13) : horn b a (t + 1) = step (horn b a t) ^^^ (if b.testBit (12 - t) then a else 0) := by
  unfold horn
  rw [mulK_horn, ← Nat.shiftRight_add, show 13 - (t + 1) + 1 = 13 - t by omega, Nat.testBit_shiftRight, show 13 - (t + 1) + 0 = 12 - t by omega]
theorem horn_lt (b : Nat) {a : Nat} (t : Nat) (h : a < 8192) : horn b a t < 8192 := mulK_lt _ _ h
set_option maxRecDepth 100000 in
theorem rlow_any (a : Nat) (ha : a < 8192) (w : World) : Calls Tryz.prog 117 #[.int .i64 (a : Int)] w fun e w' => e = .returned (.int .i64 (a : Int)) ∧ w' = w := by
  go_enter Tryz.func117, Tryz.ntmps117
  go_wp2
  go_ret
  refine ⟨congrArg (fun z => Ending.returned (.int .i64 z)) ?_, rfl⟩
  omega
theorem bit_int (b n : Nat) (hb : b < 4611686018427387904) : (bits BinOp.and .i64 ((b : Int) / 2 ^ n) 1 == 1) = b.testBit n := by
  rw [div_shr]
  have h1 : b >>> n ≤ b := by rw [Nat.shiftRight_eq_div_pow]; exact Nat.div_le_self _ _
  have := and_i64 (b >>> n) 1 (by omega) (by decide)
  rw [show ((1 : Nat) : Int) = 1 from rfl] at this
  rw [this, Nat.and_one_is_mod, Nat.testBit, Nat.one_and_eq_mod_two, Bool.eq_iff_iff]
  simp only [beq_iff_eq, bne_iff_ne]
  omega
set_option maxRecDepth 100000 in
set_option maxHeartbeats 1600000 in
theorem rmul_any (a b : Nat) (ha : a < 8192) (hb : b < 8192) (w : World) :
    Calls Tryz.prog 96 #[.int .i64 (a : Int), .int .i64 (b : Int)] w fun e w' => e = .returned (.int .i64 ((mulP b a : Nat) : Int)) ∧ w' = w := by
  have Hb := Lib.hid hb
  have Ha := Lib.hid ha
  go_enter Tryz.func96, Tryz.ntmps96
  go_wp2_with (first | (go_at_call 117; (with_reducible refine (rlow_any a ha _).mono ?_); rintro e w' ⟨rfl, rfl⟩) | (go_at_call 117; (with_reducible refine (rlow_any b hb _).mono ?_); rintro e w' ⟨rfl, rfl⟩))
  go_loop [5, 6] (fun o i => ∃ (t x : Nat), t ≤ 13 ∧ i = .int .i64 (12 - (t : Int)) ∧ o = .int .i64 ((x : Nat) : Int) ∧ Hid (x = horn b a t)) (fun _ i => (intOf i + 1).toNat)
  case atStart => exact ⟨0, 0, by omega, rfl, rfl, Lib.hid rfl⟩
  case round =>
    obtain ⟨t, x, ht, rfl, rfl, HX⟩ := hrel
    have hx := horn_lt b t ha
    rw [← HX.out] at hx
    by_cases hlt : t < 13
    · have hsx : step x < 8192 := step_lt hx
      obtain ⟨n, hn⟩ : ∃ n, n = 12 - t := ⟨_, rfl⟩
      have hni : (12 : Int) - (t : Int) = (n : Int) := by omega
      rw [hni]
      have hn12 : n ≤ 12 := by omega
      have hstep := horn_step (b := b) (a := a) hlt
      rw [← HX.out, ← hn] at hstep
      have hbit := bit_int b n (by omega)
      have HS := Lib.hid hstep
      have HN := Lib.hid hn
      have HNI := Lib.hid hni
      clear hn hstep hni
      by_cases h40 : x < 4096
      · have hd : decide (8192 ≤ (x : Int) * 2) = false := by simp; omega
        have e1 : step x = 2 * x := step_low h40
        have HE := Lib.hid e1
        clear e1
        cases hbt : b.testBit n
        · rw [hbt] at hbit
          have HB := Lib.hid hbt
          clear hbt
          go_wp2_with fail
          go_round
          case rel => exact ⟨t + 1, 2 * x, by omega, by rw [← HNI.out]; go_num, by go_num, Lib.hid (by rw [HS.out, HB.out, HE.out]; simp)⟩
          case measure => simp [intOf]
        · rw [hbt] at hbit
          have HB := Lib.hid hbt
          clear hbt
          have hxr := xor_i64 (2 * x) a (by omega) (by omega)
          have e2 : ((2 * x : Nat) : Int) = (x : Int) * 2 := by omega
          rw [e2] at hxr
          clear e2
          go_wp2_with fail
          go_round
          case rel => exact ⟨t + 1, 2 * x ^^^ a, by omega, by rw [← HNI.out]; go_num, by first | rfl | rw [hxr], Lib.hid (by rw [HS.out, HB.out, HE.out]; simp)⟩
          case measure => simp [intOf]
      · have hd : decide (8192 ≤ (x : Int) * 2) = true := by simp; omega
        have e1 : step x = 2 * x ^^^ 0x201B := step_high (by omega) hx
        have hxp := xor_i64 (2 * x) 0x201B (by omega) (by omega)
        have e2 : ((2 * x : Nat) : Int) = (x : Int) * 2 := by omega
        rw [e2] at hxp
        have e3 : ((0x201B : Nat) : Int) = 8219 := rfl
        rw [e3, ← e1] at hxp
        obtain ⟨y, hy⟩ : ∃ y, y = step x := ⟨_, rfl⟩
        rw [← hy] at hxp hsx
        have HY := Lib.hid hy
        clear e1 e2 e3 hy
        cases hbt : b.testBit n
        · rw [hbt] at hbit
          have HB := Lib.hid hbt
          clear hbt
          go_wp2_with fail
          go_round
          case rel => exact ⟨t + 1, y, by omega, by rw [← HNI.out]; go_num, by first | rfl | rw [hxp], Lib.hid (by rw [HS.out, HB.out, ← HY.out]; simp)⟩
          case measure => simp [intOf]
        · rw [hbt] at hbit
          have HB := Lib.hid hbt
          clear hbt
          have hxr := xor_i64 y a (by omega) (by omega)
          go_wp2_with fail
          go_round
          case rel => exact ⟨t + 1, y ^^^ a, by omega, by rw [← HNI.out]; go_num, by first | rfl | rw [hxr], Lib.hid (by rw [HS.out, HB.out, ← HY.out]; simp)⟩
          case measure => simp [intOf]
    · obtain rfl : t = 13 := by omega
      have he : x = mulP b a := HX.out
      have HE := Lib.hid he
      clear he
      go_wp2_with fail
      go_ret
      exact ⟨by rw [HE.out]; rfl, rfl⟩
/-- By squares. -/
def powR : Nat → Nat → Nat → Nat → Nat
  | 0, o, _, _ => o
  | f + 1, o, a, n => if n = 0 then o else powR f (if n % 2 = 1 then mulP a o else o) (mulP a a) (n / 2)
theorem powR_zero (f o a : Nat) : powR f o a 0 = o := by cases f <;> rfl
set_option maxRecDepth 100000 in
set_option maxHeartbeats 1600000 in
theorem rpow_any (x m R f : Nat) (hx : x < 8192) (hm : m < 1000) (hR : powR f 1 x m = R) (hf : m ≤ f) (w : World) :
    Calls Tryz.prog 116 #[.int .i64 (x : Int), .int .i64 (m : Int)] w fun e w' => e = .returned (.int .i64 ((R : Nat) : Int)) ∧ w' = w := by
  have HR := Lib.hid hR
  have HF := Lib.hid hf
  clear hR hf
  go_enter Tryz.func116, Tryz.ntmps116
  go_wp2_with (go_at_call 117; (with_reducible refine (rlow_any x hx _).mono ?_); rintro e w' ⟨rfl, rfl⟩)
  go_loop [0, 1, 5] (fun av nv ov => ∃ a n o g : Nat, a < 8192 ∧ o < 8192 ∧ n < 1000 ∧ av = .int .i64 (a : Int) ∧ nv = .int .i64 (n : Int) ∧ ov = .int .i64 (o : Int) ∧ Hid (powR g o a n = R ∧ n ≤ g)) (fun _ nv _ => (intOf nv).toNat)
  case atStart => exact ⟨x, m, 1, f, hx, by decide, hm, rfl, rfl, rfl, Lib.hid ⟨HR.out, HF.out⟩⟩
  case round =>
    obtain ⟨a, n, o, g, ha, ho, hn, rfl, rfl, rfl, HP⟩ := hrel
    by_cases h0 : 0 < n
    · have h2 : (n : Int) / 2 = ((n / 2 : Nat) : Int) := by omega
      have h3 : (n : Int) % 2 = ((n % 2 : Nat) : Int) := by omega
      obtain ⟨q, hq⟩ : ∃ q, q = n / 2 := ⟨_, rfl⟩
      obtain ⟨s, hs⟩ : ∃ s, s = n % 2 := ⟨_, rfl⟩
      have hqn : q < n := by omega
      have hs2 : s < 2 := by omega
      have HS : Hid (s = n % 2) := Lib.hid hs
      rw [← hq] at h2
      rw [← hs] at h3
      have hst : powR g o a n = R ∧ n ≤ g := HP.out
      obtain ⟨g', rfl⟩ : ∃ g', g = g' + 1 := ⟨g - 1, by omega⟩
      have hst1 := hst.1
      unfold powR at hst1
      rw [if_neg (by omega), ← hq, ← hs] at hst1
      have hg : q ≤ g' := by omega
      have hm1 := mulP_lt a ha
      have hm2 := mulP_lt a ho
      have HG := Lib.hid (And.intro hst1 hg)
      have HQ := Lib.hid hq
      clear hst hst1 hq hs
      by_cases hs1 : s = 1
      · have hb : (((s : Nat) : Int) == 1) = true := by simp; omega
        have HS1 := Lib.hid hs1
        clear hs1
        go_wp2_with (first | (go_at_call 96; (with_reducible refine (rmul_any o a ho ha _).mono ?_); rintro e w' ⟨rfl, rfl⟩) | (go_at_call 96; (with_reducible refine (rmul_any a a ha ha _).mono ?_); rintro e w' ⟨rfl, rfl⟩))
        go_round
        case rel => exact ⟨mulP a a, q, mulP a o, g', hm1, hm2, by omega, rfl, rfl, rfl, Lib.hid (by have := HG.out; rw [if_pos HS1.out] at this; exact this)⟩
        case measure => simp [intOf]; omega
      · have hb : (((s : Nat) : Int) == 1) = false := by simp; omega
        have HS1 := Lib.hid hs1
        clear hs1
        go_wp2_with (first | (go_at_call 96; (with_reducible refine (rmul_any a a ha ha _).mono ?_); rintro e w' ⟨rfl, rfl⟩))
        go_round
        case rel => exact ⟨mulP a a, q, o, g', hm1, ho, by omega, rfl, rfl, rfl, Lib.hid (by have := HG.out; rw [if_neg HS1.out] at this; exact this)⟩
        case measure => simp [intOf]; omega
    · obtain rfl : n = 0 := by omega
      have he : o = R := by have := HP.out.1; rw [powR_zero] at this; exact this
      have HE := Lib.hid he
      clear he
      go_wp2_with fail
      go_ret
      exact ⟨by rw [HE.out]; rfl, rfl⟩
set_option maxRecDepth 100000 in
theorem rexp_any (k R : Nat) (hk : k < 1000) (hR : powR 1000 1 2 k = R) (w : World) :
    Calls Tryz.prog 95 #[.int .i64 (k : Int)] w fun e w' => e = .returned (.int .i64 ((R : Nat) : Int)) ∧ w' = w := by
  have HP := Lib.hid (rpow_any 2 k R 1000 (by decide) hk hR (by omega))
  have hmod : (k : Int) % 8191 = (k : Int) := by omega
  clear hR
  go_enter Tryz.func95, Tryz.ntmps95
  go_wp2_with (go_at_call 116; refine (HP.out _).mono ?_; rintro e w' ⟨rfl, rfl⟩)
  go_ret
  exact ⟨rfl, rfl⟩
end Go.Proofs.YtgfjeaegigjnaaaGreatDoor

