/- The least polynomial of which a power of the generator is a root, as the program makes it. -/
import Derived.Test.YtldekkniammllaaPolB
import Derived.Test.YtldekkniammllaaPolP
import Derived.Test.YtldekkniammllaaBchV
namespace Go.Proofs.Ytldekkniammllaa
open Go.RowKit
set_option linter.unusedVariables false
set_option linter.unusedSimpArgs false

theorem grown_stays {w w' : World} {row : Option Nat} (h : w.grownBy w' row) : Stays (fun k => row = some k) w w' :=
  ⟨h.os, h.tape, h.output, h.size, fun k hk hn => h.block k hk (fun e => hn e.symm)⟩
theorem own_stays {w w' : World} {B e size : Nat} {v : Value} {n : Nat} {xs : List Value} {S : Nat → Prop} (h : w.ownsRow B e size v n xs) (hs : Stays S w w') (hn : ∀ k, v.ownBlock = some k → ¬ S k) : w'.ownsRow B e size v n xs := by
  refine ⟨h.1, ?_⟩
  rcases h.2 with hn' | ⟨g, cap, cur, rfl, hb, hgg, rest⟩
  · exact .inl hn'
  · refine .inr ⟨g, cap, cur, rfl, hb, ?_, rest⟩
    rw [hs.block g (Array.getElem?_eq_some_iff.1 hgg).1 (hn g rfl)]
    exact hgg
theorem map_contains {l : List Nat} {x : Nat} : (l.map (fun n : Nat => (n : Int))).contains (x : Int) = l.contains x := by
  induction l with
  | nil => rfl
  | cons a l ih =>
    rw [List.map_cons, List.contains_cons, List.contains_cons, ih]
    congr 1
    rw [Bool.eq_iff_iff]
    simp only [beq_iff_eq]
    omega
theorem getD_cast {rs : List Nat} {j : Nat} : ((rs.map (fun n : Nat => (n : Int))).getD j 0) = ((rs.getD j 0 : Nat) : Int) := by
  rw [List.getD_eq_getElem?_getD, List.getD_eq_getElem?_getD, List.getElem?_map]
  cases rs[j]? <;> rfl
theorem contains_any {w : World} {B : Nat} {v : Value} {L : List Nat} {n : Nat} (h : w.ownsRow B 3 1 v n (L.map intV)) (hn : n = L.length) (hb : n ≤ 1000000) (x : Nat) :
    Calls Try.prog 61 #[v, .int .i64 (x : Int)] w fun e w' => e = .returned (.bool (L.contains x)) ∧ w' = w := by
  subst hn
  rcases h.2 with ⟨rfl, h1⟩ | ⟨g, cap, cur, rfl, hB, hb, _⟩
  · have : L = [] := List.length_eq_zero_iff.mp h1
    subst this
    exact Try.slices_Contains_int_empty none 0 (x : Int) w
  · refine (Try.slices_Contains_int g 0 L.length cap (L.map (fun n : Nat => (n : Int))) (x : Int) w (by simp) (by omega) (fun j hj => ?_)).mono fun e w' ⟨he, hw⟩ => ⟨?_, hw⟩
    · rw [getD_cast, Nat.zero_add, h.cellAt j (by simpa using hj), List.getElem?_map, List.getD_eq_getElem?_getD, List.getElem?_eq_getElem (by simpa using hj)]; rfl
    · rw [he, List.take_of_length_le (by simp), map_contains]
theorem own_cells {w : World} {B g n cap : Nat} {L : List Nat} (h : w.ownsRow B 3 1 (.slice (some ⟨g, 0, none⟩) n cap) n (L.map intV)) (hn : n = L.length) : ∀ j, j < n → w.cell? ⟨g, j, none⟩ = some (intV (L.getD j 0)) := by
  intro j hj
  rw [h.cellAt j (by omega), List.getElem?_map, List.getD_eq_getElem?_getD, List.getElem?_eq_getElem (by omega)]; rfl

/-- What stands while the factors are multiplied. -/
structure MinSt (w1 w : World) (b off be bl gr : Nat) (rs : List Nat) : Prop where
  fr : FieldReady w b off be bl
  on : Only b off (off + 6) w1 w
  ir : IntsAt w gr rs
  lb : b < w1.heap.size
  le : be < w1.heap.size
  ll : bl < w1.heap.size
  lr : gr < w.heap.size
  nr : gr ≠ b
section
variable {w1 w w' : World} {b off be bl gr : Nat} {rs : List Nat}
theorem MinSt.readied (h : MinSt w1 w b off be bl gr rs) (k : Readied b off w w') : MinSt w1 w' b off be bl gr rs := by
  obtain ⟨k1, k2⟩ := k.same h.fr
  have := k2.st.size
  have := h.lr
  exact ⟨k1, h.on.trans k2, h.ir.stays k2.st h.nr, h.lb, h.le, h.ll, by omega, h.nr⟩
theorem MinSt.new {S : Nat → Prop} (h : MinSt w1 w b off be bl gr rs) (k : Stays S w w') (hS : ∀ q, S q → w1.heap.size ≤ q ∧ q ≠ gr) : MinSt w1 w' b off be bl gr rs := by
  have := k.size
  have := h.lr
  have h1 := h.lb
  have h2 := h.le
  have h3 := h.ll
  refine ⟨h.fr.stays k (fun q => ?_) (fun q => ?_) (fun q => ?_), h.on.new k (fun q hq => (hS q hq).1) h.lb, h.ir.stays k (fun q => (hS _ q).2 rfl), h.lb, h.le, h.ll, by omega, h.nr⟩
  · have := (hS _ q).1; omega
  · have := (hS _ q).1; omega
  · have := (hS _ q).1; omega
theorem MinSt.fat (h : MinSt w1 w b off be bl gr rs) : FieldAt w b off := .inr ⟨be, bl, h.fr⟩
theorem MinSt.alloc (h : MinSt w1 w b off be bl gr rs) (o : Obj) : MinSt w1 (w.alloc o) b off be bl gr rs := h.new (S := fun _ => False) ((Stays.refl _ _).alloc o) (fun _ q => q.elim)
theorem MinSt.drew (h : MinSt w1 w b off be bl gr rs) : MinSt w1 w.drew b off be bl gr rs := h.new (S := fun _ => False) ((Stays.refl _ _).drew) (fun _ q => q.elim)
theorem MinSt.set (h : MinSt w1 w b off be bl gr rs) {g : Nat} (o : Nat) (v : Value) (h1 : w1.heap.size ≤ g) (h2 : g ≠ gr) : MinSt w1 (w.setCell ⟨g, o, none⟩ v) b off be bl gr rs :=
  h.new (S := (· = g)) Row.stay (fun q hq => by subst hq; exact ⟨h1, h2⟩)
end
/-- A row of numbers. -/
def NRow (w : World) (g n : Nat) (F : Nat → Nat) : Prop := Row w g n (fun j => intV (F j))
theorem NRow.set {w : World} {g n : Nat} {F : Nat → Nat} (h : NRow w g n F) (i v : Nat) : NRow (w.setCell ⟨g, i, none⟩ (.int .i64 ((v : Nat) : Int))) g n (upd F i v) := by
  refine (Row.set h i (intV v)).congr fun t ht => ?_
  unfold upd
  split <;> rfl
theorem NRow.congr {w : World} {g n : Nat} {F G : Nat → Nat} (h : NRow w g n F) (e : ∀ j, j < n → F j = G j) : NRow w g n G := Row.congr h fun j hj => by rw [e j hj]
theorem nxf_put {w : World} {g l j y0 y1 v m : Nat} {C : List Nat} {r : Nat} (h : NRow w g (l + 1) (upd (nxf C r j) (j + 1) (y1 ^^^ v))) (e1 : y1 = nxf C r j (j + 1)) (e0 : y0 = nxf C r j j) (ev : v = C.getD j 0) (em : m = mulP v r) :
    NRow (w.setCell ⟨g, j, none⟩ (.int .i64 ((y0 ^^^ m : Nat) : Int))) g (l + 1) (nxf C r (j + 1)) := by
  refine (NRow.set h _ _).congr fun t ht => ?_
  subst em ev e0 e1
  rw [nxf_step]
  by_cases e1 : t = j
  · subst e1; rw [upd_same, if_pos rfl]
  · rw [upd_other _ _ e1, if_neg e1]
    by_cases e2 : t = j + 1
    · subst e2; rw [upd_same, if_pos rfl]
    · rw [upd_other _ _ e2, if_neg e2]

set_option maxHeartbeats 3200000 in
set_option maxRecDepth 100000 in
theorem minimal_any (b off k : Nat) (hk16 : k ≤ 16) (rs : List Nat) (hrs : Rootz k rs) (L : List Nat) (hL : ones (cfs rs 13) 14 = L) (w : World) (h : FieldAt w b off) :
    Calls Try.prog 43 #[.pointer (some ⟨b, off, none⟩), .int .i64 (k : Int)] w fun x w' => ∃ v, x = .returned v ∧ w'.ownsRow w.heap.size 3 1 v L.length (L.map intV) ∧ Readied b off w w' := by
  obtain ⟨i0, hi, hz0, hz1, hz2⟩ := info_parts info_int
  have lb := h.lt
  have HF := Lib.hid h
  have HRS := Lib.hid hrs
  have HL := Lib.hid hL
  clear h hrs hL
  go_enter Try.func43, Try.ntmps43
  go_wp2_with fail
  go_at_call 36
  refine (Exp_any b off (k : Int) (k % 8191) (by omega) (by omega) (by omega) w HF.out).mono ?_
  rintro x w1 ⟨rfl, be, bl, hr1, ho1, hk1⟩
  obtain ⟨r0, hr0e⟩ : ∃ r0, r0 = rs.getD 0 0 := ⟨_, rfl⟩
  rw [HRS.out.first, ← hr0e]
  have HR0 := Lib.hid hr0e
  clear hr0e
  have HR1 := Lib.hid hr1
  have HO1 := Lib.hid ho1
  have HK1 := Lib.hid hk1
  have hbw := ho1.st.size
  clear hr1 ho1 hk1
  go_wp2_with fail
  go_loopg [5, 6] 13 (fun gk v r wr => ∃ i : Nat, i + gk = 13 ∧ r = .int .i64 ((rs.getD (i % 13) 0 : Nat) : Int) ∧ Hid (wr.ownsRow w1.heap.size 3 1 v i ((rs.take i).map intV)) ∧ Hid (FieldReady wr b off be bl) ∧ Hid (Only b off (off + 6) w1 wr))
  case atStart => exact ⟨0, rfl, by rw [HR0.out], Lib.hid (World.ownsRow_nil _ _ _ _), HR1, Lib.hid (Only.refl _ _ _ _)⟩
  case round =>
    obtain ⟨i, hi13, rfl, HO, HR, HON⟩ := hrel
    have hlen := HRS.out.len
    by_cases hlt : i < 13
    · have him : i % 13 = i := Nat.mod_eq_of_lt hlt
      rw [him]
      obtain ⟨r, hr⟩ : ∃ r, r = rs.getD i 0 := ⟨_, rfl⟩
      have hr0 := HRS.out.pos i hlt
      have hr8 := HRS.out.lt i
      have hnew := HRS.out.new i hlt
      have hnx := HRS.out.next i hlt
      rw [← hr] at hr0 hr8 hnew hnx
      rw [← hr]
      have hsq := sq_exp hr0 hr8
      rw [hnx] at hsq
      obtain ⟨s, hs⟩ : ∃ s, s = rs.getD ((i + 1) % 13) 0 := ⟨_, rfl⟩
      rw [← hs] at hsq
      have HSS := Lib.hid hs
      clear hs
      have HSQ := Lib.hid hsq
      have HNEW := Lib.hid hnew
      have HRR := Lib.hid hr
      clear hnew hnx hsq hr
      have HC := Lib.hid (contains_any HO.out (by rw [List.length_take]; omega) (by omega) r)
      clear him
      have hii : i + 1 ≤ 13 := by omega
      go_wp2_with (first | (go_at_call 61; refine HC.out.mono ?_; rw [HNEW.out]; rintro e w' ⟨rfl, hw'⟩; obtain rfl := hw'.symm) | (at_builtin; refine wpList_append_own _ rfl _ _ 34 rfl w1.heap.size 3 i0 (.int .i64 0) 1 8 (by kernel_rfl) hi hz0 hz1 hz2 rfl (by decide) _ _ _ rfl (HO.out.alloc _) ⟨wr.heap.size, 0, none⟩ 1 1 [.int .i64 (r : Int)] rfl rfl ?c1 ?c2 ?c3 ?c4 ?c5 ?_))
      case c1 =>
        intro i u hu
        cases i with
        | zero => simp at hu; subst hu; simp [Addr.add]
        | succ i => simp at hu
      case c2 => intro u hu; simp at hu; subst hu; rfl
      case c3 => unfold maxLen; omega
      case c4 => omega
      case c5 => have := HON.out.st.size; simp; omega
      intro v' w2 hown' hgrow _
      have hgs := grown_stays hgrow
      have hblk : ∀ q, u5.ownBlock = some q → w1.heap.size ≤ q := fun q hq => (HO.out.lt q hq).1
      have hre := HR1.out.lt
      have hre1 := HR1.out.lt1
      have hre2 := HR1.out.lt2
      have HR2 : Hid (FieldReady w2 b off be bl) := Lib.hid ((HR.out.alloc _).stays hgs (fun q => by have := hblk b q; omega) (fun q => by have := hblk be q; omega) (fun q => by have := hblk bl q; omega))
      have HON2 : Hid (Only b (off + 6) (off + 6) w1 w1 ∧ Only b off (off + 6) w1 w2) := Lib.hid ⟨Only.refl _ _ _ _, (HON.out.alloc hre _).new hgs (fun q hq => hblk q hq) hre⟩
      have HO2 : Hid (w2.ownsRow w1.heap.size 3 1 v' (i + 1) ((rs.take (i + 1)).map intV)) := Lib.hid (by
        have e : rs.take (i + 1) = rs.take i ++ [r] := by rw [HRR.out, List.take_add_one, List.getElem?_eq_getElem (by omega), List.getD_eq_getElem?_getD, List.getElem?_eq_getElem (by omega)]; rfl
        rw [e, List.map_append]
        have h := hown'
        rw [← List.map_take] at h
        exact h)
      clear hown' hgrow hgs hblk hre1 hre2
      go_wp2_with (go_at_call 62; refine (Pow_any b off r 2 2 s HSQ.out hr0 hr8 (by omega) (by omega) (by omega) (by omega) _ (.inr ⟨be, bl, HR2.out⟩)).mono ?_; rintro e w3 ⟨rfl, hq⟩)
      obtain ⟨hr3, ho3⟩ := hq.same HR2.out
      have HR3 := Lib.hid hr3
      have HON3 : Hid (Only b off (off + 6) w1 w3) := Lib.hid (HON2.out.2.trans ho3)
      have HO3 : Hid (w3.ownsRow w1.heap.size 3 1 v' (i + 1) ((rs.take (i + 1)).map intV)) := Lib.hid (own_stays HO2.out ho3.st (fun q hq e => by have := (HO2.out.lt q hq).1; omega))
      clear hq hr3 ho3
      go_wp2_with fail
      go_roundg (gk - 1)
      case rel => exact ⟨i + 1, by omega, by rw [HSS.out], HO3, HR3, HON3⟩
      case measure => omega
    · have hi2 : i = 13 := by omega
      subst hi2
      have hmod : 13 % 13 = 0 := rfl
      rw [hmod]
      obtain ⟨r, hr⟩ : ∃ r, r = rs.getD 0 0 := ⟨_, rfl⟩
      rw [← hr]
      have HRR := Lib.hid hr
      have hct : (rs.take 13).contains r = true := by
        rw [List.take_of_length_le (by omega), List.contains_iff_mem, hr, List.getD_eq_getElem?_getD, List.getElem?_eq_getElem (by omega)]
        exact List.getElem_mem _
      have HC := Lib.hid (contains_any HO.out (by rw [List.length_take]; omega) (by omega) r)
      have HCT := Lib.hid hct
      clear hct hr hmod
      have hown := HO.out
      rw [List.take_of_length_le (by omega)] at hown
      obtain ⟨gr, cr, hv, hgr, hgr2, hir, hfr⟩ := own_ints (L := rs) (by rw [hlen]; exact hown) (by intro h; rw [h] at hlen; cases hlen)
      subst hv
      rw [hlen] at HC ⊢
      have HIR := Lib.hid hir
      clear HO hown hir hfr
      have hre := HR1.out.lt
      have hre1 := HR1.out.lt1
      have hre2 := HR1.out.lt2
      have hn1 : gr ≠ b := by omega
      go_wp2_with (go_at_call 61; refine HC.out.mono ?_; rw [HCT.out]; rintro e w' ⟨rfl, hw'⟩; obtain rfl := hw'.symm)
      have HMS : Hid (MinSt w1 wr b off be bl gr rs) := Lib.hid ⟨HR.out, HON.out, HIR.out, hre, hre1, hre2, hgr2, hn1⟩
      have hwz := HON.out.st.size
      clear HC HCT HRR HR HON HIR
      obtain ⟨wo, rfl⟩ : ∃ wo : World, wo = wr := ⟨_, rfl⟩
      go_loopw [7, 34] (fun c ix wz => ∃ (i gc cc : Nat), i ≤ 13 ∧ ix = .int .i64 (i : Int) ∧ c = .slice (some ⟨gc, 0, none⟩) (i + 1) cc ∧ Hid (NRow wz gc (i + 1) (fun j => (cfs rs i).getD j 0)) ∧ w1.heap.size ≤ gc ∧ gc < wz.heap.size ∧ gc ≠ gr ∧ Hid (MinSt w1 wz b off be bl gr rs)) (fun _ ix _ => 13 - (intOf ix).toNat)
      case atStart =>
        refine ⟨0, wo.heap.size, 1, by omega, rfl, rfl, Lib.hid (Row.made _ _ _ _ _ fun j hj => ?_), hwz, by simp, by omega, Lib.hid (HMS.out.alloc _)⟩
        obtain rfl : j = 0 := by omega
        rfl
      case round =>
        obtain ⟨i, gc, cc, hi14, rfl, rfl, HC, hgc1, hgc2, hgc3, HM⟩ := hrel
        obtain ⟨wz, rfl⟩ : ∃ wz : World, wz = wr := ⟨_, rfl⟩
        by_cases hi13 : i < 13
        · have hdi : decide ((i : Int) < 13) = true := by simp; omega
          obtain ⟨x, hx⟩ : ∃ x, x = rs.getD i 0 := ⟨_, rfl⟩
          have hx8 := HRS.out.lt i
          have hcx := HM.out.ir i (by omega)
          rw [← hx] at hx8 hcx
          obtain ⟨l, hl⟩ : ∃ l, l = i + 1 := ⟨_, rfl⟩
          have hClen := cfs_length (rs := rs) (i := i) (by omega)
          have hC8 := cfs_lt HRS.out.lt (i := i) (by omega)
          have hCs := cfs_succ (rs := rs) (i := i) (by omega)
          obtain ⟨C, hC⟩ : ∃ C, C = cfs rs i := ⟨_, rfl⟩
          rw [← hC] at hClen hC8 HC hCs
          rw [← hl] at hClen HC ⊢
          rw [← hx] at hCs
          have hl14 : l ≤ 13 := by omega
          have hmk : ∀ W : World, (Instr.makeSlice 34 (.int .i64 ((l : Int) + 1)) (.int .i64 ((l : Int) + 1))).run Try.prog W = .ok (.slice (some ⟨W.heap.size, 0, none⟩) (l + 1) (l + 1)) (W.alloc (.cells (madeCells #[.int .i64 0] (l + 1)) 3)) := by
            intro W
            exact run_make_row' (P := Try.prog) 34 3 (.int .i64 0) 8 (by kernel_rfl) (by kernel_rfl) rfl .i64 .i64 (l + 1) (by omega) (by omega) W
          unfold intV at hcx
          have HX := Lib.hid hx
          have HLL := Lib.hid hl
          have HCC := Lib.hid hC
          have HCL := Lib.hid hClen
          have HC8 := Lib.hid hC8
          have HCS := Lib.hid hCs
          obtain ⟨gn, hgn⟩ : ∃ g, g = wz.heap.size := ⟨_, rfl⟩
          have hN0 : NRow (wz.alloc (.cells (madeCells #[.int .i64 0] (l + 1)) 3)) gn (l + 1) (nxf C x 0) := by
            rw [hgn]
            exact Row.made _ _ _ _ _ (fun j hj => by rw [madeCells_get _ _ _ hj, nxf_zero]; rfl)
          have hC0 : NRow (wz.alloc (.cells (madeCells #[.int .i64 0] (l + 1)) 3)) gc l (fun j => C.getD j 0) := Row.alloc HC.out hgc2 _
          have hM0 := HM.out.alloc (.cells (madeCells #[.int .i64 0] (l + 1)) 3)
          have hgsz : gn < (wz.alloc (.cells (madeCells #[.int .i64 0] (l + 1)) 3)).heap.size := by rw [hgn]; simp
          have hwz1 := HM.out.on.st.size
          have hgn1 : gn ≠ gc := by omega
          have hgn2 : gn ≠ gr := by have := HM.out.lr; omega
          have hgn3 : w1.heap.size ≤ gn := by omega
          have HGN := Lib.hid hgn
          have HN0 := Lib.hid hN0
          have HC0 := Lib.hid hC0
          have HM0 := Lib.hid hM0
          clear hx hl hClen hC hC8 hCs hN0 hC0 hM0 hgn HC HM
          go_wp2_with fail
          rw [← HGN.out]
          generalize wz.alloc (.cells (madeCells #[.int .i64 0] (l + 1)) 3) = W0 at *
          go_loopw [44] (fun jx wy => ∃ j : Nat, j ≤ l ∧ jx = .int .i64 (j : Int) ∧ Hid (NRow wy gn (l + 1) (nxf C x j)) ∧ Hid (NRow wy gc l (fun j => C.getD j 0)) ∧ gn < wy.heap.size ∧ Hid (MinSt w1 wy b off be bl gr rs)) (fun jx _ => l - (intOf jx).toNat)
          case atStart => exact ⟨0, Nat.zero_le _, rfl, HN0, HC0, hgsz, HM0⟩
          case round =>
            clear HN0 HC0 HM0 hmk hcx
            obtain ⟨j, hjl, rfl, HN, HCR, hgny, HM⟩ := hrel
            obtain ⟨wy, rfl⟩ : ∃ wy : World, wy = wr := ⟨_, rfl⟩
            by_cases hj : j < l
            · have hcv : wy.cell? ⟨gc, j, none⟩ = some (intV (C.getD j 0)) := HCR.out.cell j hj
              have hcn1 : wy.cell? ⟨gn, j + 1, none⟩ = some (intV (nxf C x j (j + 1))) := HN.out.cell (j + 1) (by omega)
              have hcn0 : wy.cell? ⟨gn, j, none⟩ = some (intV (nxf C x j j)) := HN.out.cell j (by omega)
              have hfn := HN.out.free
              have hy1 := nxf_lt (HC8.out) hx8 j (j + 1)
              have hy0 := nxf_lt (HC8.out) hx8 j j
              have hv8 := HC8.out j
              obtain ⟨v, hv⟩ : ∃ v, v = C.getD j 0 := ⟨_, rfl⟩
              obtain ⟨y1, hy1e⟩ : ∃ y, y = nxf C x j (j + 1) := ⟨_, rfl⟩
              obtain ⟨y0, hy0e⟩ : ∃ y, y = nxf C x j j := ⟨_, rfl⟩
              rw [← hv] at hcv hv8
              rw [← hy1e] at hcn1 hy1
              rw [← hy0e] at hcn0 hy0
              obtain ⟨m, hm⟩ : ∃ m, m = mulP v x := ⟨_, rfl⟩
              have hm8 := mulP_lt v hx8
              rw [← hm] at hm8
              have hx1 := xor_i64 y1 v (by omega) (by omega)
              have hx0 := xor_i64 y0 m (by omega) (by omega)
              unfold intV at hcv hcn1 hcn0
              have hf0 := hfn j
              have hf1 := hfn (j + 1)
              have HV := Lib.hid hv
              have HY1 := Lib.hid hy1e
              have HY0 := Lib.hid hy0e
              have HMM := Lib.hid hm
              obtain ⟨wp, hwp⟩ : ∃ wp : World, wp = wy.setCell ⟨gn, j + 1, none⟩ (.int .i64 ((y1 ^^^ v : Nat) : Int)) := ⟨_, rfl⟩
              have HMP : Hid (MinSt w1 wp b off be bl gr rs) := Lib.hid (by rw [hwp]; exact HM.out.set _ _ hgn3 hgn2)
              have hpn0 : wp.cell? ⟨gn, j, none⟩ = some (.int .i64 (y0 : Int)) := by
                rw [hwp, World.cell?_setCell_other _ _ _ _ (addr_ne_off (by omega))]; exact hcn0
              have hpf0 : wp.frozen? ⟨gn, j, none⟩ = false := by rw [hwp, World.frozen?_setCell]; exact hf0
              have HPN : Hid (NRow wp gn (l + 1) (upd (nxf C x j) (j + 1) (y1 ^^^ v))) := Lib.hid (by rw [hwp]; exact NRow.set HN.out _ _)
              have HPC : Hid (NRow wp gc l (fun j => C.getD j 0)) := Lib.hid (by rw [hwp]; exact Row.other HCR.out _ _ hgn1)
              have hsz : wp.heap.size = wy.heap.size := by rw [hwp]; simp
              have HWP := Lib.hid hwp
              clear hv hy1e hy0e hm hfn hwp
              go_wp2_with fail
              rw [← HWP.out]
              clear hcv hcn1 hcn0 hf0 hf1 hx1
              have hgnb : gn ≠ b := by have := HM.out.lb; omega
              go_region_with (go_at_call 37; (with_reducible refine (Mul_any b off v x hv8 hx8 _ HMP.out.drew.fat).mono ?_); rintro e w3 ⟨rfl, hq⟩; have HM3 := Lib.hid (HMP.out.drew.readied hq); rw [← HMM.out]; have hc3 : w3.cell? ⟨gn, j, none⟩ = some (.int .i64 (y0 : Int)) := (hq.same HMP.out.drew.fr).2.st.cell (p := ⟨gn, j, none⟩) ((World.cell?_drew _ _).trans hpn0) hgnb; have hf3 : w3.frozen? ⟨gn, j, none⟩ = false := ((hq.same HMP.out.drew.fr).2.st.frozen (p := ⟨gn, j, none⟩) hgnb (by simp; omega)).trans ((World.frozen?_drew _ _).trans hpf0); have HQ := Lib.hid (hq.same HMP.out.drew.fr).2; clear hq)
              all_goals
                have hgcb : gc ≠ b := by have := HM.out.lb; omega
                have hz3 := HQ.out.st.size
                have hz3' : wp.heap.size ≤ w3.heap.size := by simpa using hz3
                have HN4 := Lib.hid (nxf_put (Row.only (Row.drew HPN.out) HQ.out (by simp; omega) hgnb) HY1.out HY0.out HV.out HMM.out)
                have HC4 : Hid (NRow (w3.setCell ⟨gn, j, none⟩ (.int .i64 ((y0 ^^^ m : Nat) : Int))) gc l (fun j => C.getD j 0)) := Lib.hid (Row.other (Row.only (Row.drew HPC.out) HQ.out (World.block_lt_of_cell? _ _ ((Row.drew HPC.out).cell 0 (by omega))) hgcb) _ _ hgn1)
                have HM4 := Lib.hid (HM3.out.set (g := gn) j (.int .i64 ((y0 ^^^ m : Nat) : Int)) hgn3 hgn2)
                clear hc3 hf3 hpn0 hpf0 hz3
                go_wp2_with fail
                go_roundw
                case rel => exact ⟨j + 1, by omega, by go_num, HN4, HC4, by simp; omega, HM4⟩
                case measure => simp [intOf]; omega
            · obtain rfl : j = l := by omega
              have HN4 : Hid (NRow wy gn (j + 1) (fun t => (cfs rs (i + 1)).getD t 0)) := Lib.hid (NRow.congr HN.out fun t ht => by rw [HCS.out, mulLin_get _ _ _ (by rw [HCL.out]; exact ht), HCL.out])
              have hj2 := HLL.out
              clear HN HCR
              go_wp2_with fail
              go_roundw
              case rel => exact ⟨i + 1, gn, j + 1, by omega, by go_num, by rw [hj2], Lib.hid (by have := HN4.out; rw [hj2] at this; exact this), hgn3, hgny, hgn2, HM⟩
              case measure => simp [intOf]; omega
        · obtain rfl : i = 13 := by omega
          rw [show (13 + 1 : Nat) = 14 from rfl, show ((13 : Nat) : Int) = 13 from rfl]
          rw [show (13 + 1 : Nat) = 14 from rfl] at HC
          obtain ⟨C, hC⟩ : ∃ C, C = cfs rs 13 := ⟨_, rfl⟩
          have hLl := ones_length (cfs rs 13) 14
          rw [HL.out] at hLl
          have HL2 := HL.out
          rw [← hC] at HL2 HC
          have HLL2 := Lib.hid HL2
          clear HL2 hC
          go_wp2_with fail
          go_loopw [13, 14] (fun v e wy => ∃ (j : Int) (T : List Nat), -1 ≤ j ∧ j ≤ 13 ∧ e = .int .i64 j ∧ Hid (L = T ++ ones C (j + 1).toNat) ∧ Hid (wy.ownsRow wz.heap.size 3 1 v T.length (T.map intV)) ∧ Hid (Below wz.heap.size wz wy)) (fun _ e _ => (intOf e + 1).toNat)
          case atStart => exact ⟨13, [], by omega, by omega, rfl, Lib.hid (by rw [← HLL2.out]; rfl), Lib.hid (World.ownsRow_nil _ _ _ _), Lib.hid (Below.refl _ _)⟩
          case round =>
            obtain ⟨j, T, hj0, hj1, rfl, HT, HO, HB⟩ := hrel
            obtain ⟨wy, rfl⟩ : ∃ wy : World, wy = wr := ⟨_, rfl⟩
            by_cases h0 : 0 ≤ j
            · obtain ⟨t, rfl⟩ := Int.eq_ofNat_of_zero_le h0
              have hct : wy.cell? ⟨gc, t, none⟩ = some (intV (C.getD t 0)) := (HB.out.cell (p := ⟨gc, t, none⟩) (by exact hgc2)).trans (HC.out.cell t (by omega))
              obtain ⟨v, hv⟩ : ∃ v, v = C.getD t 0 := ⟨_, rfl⟩
              rw [← hv] at hct
              unfold intV at hct
              have hT2 := HT.out
              rw [show ((t : Int) + 1).toNat = t + 1 by omega] at hT2
              unfold ones at hT2
              rw [← hv] at hT2
              have HV := Lib.hid hv
              clear hv
              by_cases h1 : v = 1
              · have hb1 : (((v : Nat) : Int) == 1) = true := by simp; omega
                rw [if_pos h1] at hT2
                have HT2 : Hid (L = (T ++ [t]) ++ ones C t) := Lib.hid (by rw [hT2]; simp)
                have hTl : T.length + 1 ≤ 14 := by
                  have := congrArg List.length HT2.out
                  simp at this
                  omega
                have H1 := Lib.hid h1
                clear hT2 h1
                go_wp2_with (at_builtin; refine wpList_append_own _ rfl _ _ 76 rfl wz.heap.size 3 i0 (.int .i64 0) 1 8 (by kernel_rfl) hi hz0 hz1 hz2 rfl (by decide) _ _ _ rfl (HO.out.alloc _) ⟨wy.heap.size, 0, none⟩ 1 1 [.int .i64 (t : Int)] rfl rfl ?d1 ?d2 ?d3 ?d4 ?d5 ?_)
                case d1 =>
                  intro i u hu
                  cases i with
                  | zero => simp at hu; subst hu; simp [Addr.add]
                  | succ i => simp at hu
                case d2 => intro u hu; simp at hu; subst hu; rfl
                case d3 => unfold maxLen; omega
                case d4 => omega
                case d5 => have := HB.out.size; simp; omega
                intro v' w2 hown' hgrow _
                have HB4 : Hid (Below wz.heap.size wz w2) := Lib.hid ((HB.out.alloc HB.out.size _).grown hgrow (by have := HB.out.size; simp; omega) (fun q hq => (HO.out.lt q hq).1))
                have HO4 : Hid (w2.ownsRow wz.heap.size 3 1 v' (T ++ [t]).length ((T ++ [t]).map intV)) := Lib.hid (by
                  rw [List.length_append, List.map_append]
                  exact hown')
                clear hown' hgrow
                go_wp2_with fail
                go_roundw
                case rel => exact ⟨(t : Int) - 1, T ++ [t], by omega, by omega, rfl, Lib.hid (by have := HT2.out; rw [show ((t : Int) - 1 + 1).toNat = t by omega]; exact this), HO4, HB4⟩
                case measure => simp [intOf]
              · have hb1 : (((v : Nat) : Int) == 1) = false := by simp; omega
                rw [if_neg h1] at hT2
                have HT2 := Lib.hid hT2
                have H1 := Lib.hid h1
                clear hT2 h1
                go_wp2_with fail
                go_roundw
                case rel => exact ⟨(t : Int) - 1, T, by omega, by omega, rfl, Lib.hid (by have := HT2.out; rw [show ((t : Int) - 1 + 1).toNat = t by omega]; exact this), HO, HB⟩
                case measure => simp [intOf]
            · have : j = -1 := by omega
              subst this
              have hT : L = T := by simpa [ones] using HT.out
              subst hT
              go_wp2_with fail
              go_ret
              have h1 := HM.out.on.st.size
              refine ⟨_, rfl, own_mono HO.out (by omega), be, bl, HM.out.fr.below HB.out, (HO1.out.trans HM.out.on).below HB.out lb, HK1.out⟩
end Go.Proofs.Ytldekkniammllaa
