/- OpsFile of chertlaw20. -/
import Derived.Test.YthpdmgefdaegmaaDoorLNothing
import Derived.Test.YthpdmgefdaegmaaDoorOpsQ
import Derived.Test.YthpdmgefdaegmaaDoorOpen
import Derived.Lib.OwnKind
namespace Go.Proofs.YthpdmgefdaegmaaDoor
open Go.RowKit
set_option linter.unusedVariables false
set_option linter.unusedSimpArgs false

theorem IntRow.open_ {k : IntKind} {w : World} {a : Option Addr} {len cap : Nat} {zs : List Int} (h : IntRow k w a len cap zs) (hl : 0 < len) :
    ∃ b o, a = some ⟨b, o, none⟩ ∧ b < w.heap.size ∧ len ≤ cap ∧ cap ≤ maxLen ∧ ∀ i, i < len → w.cell? ⟨b, o + i, none⟩ = some (.int k (zs.getD i 0)) ∧ (Lit.int k (zs.getD i 0)).wf = true := by
  rcases h with ⟨_, h, _⟩ | ⟨x, rfl, h1, h2, h3, h4, h5⟩
  · omega
  · obtain ⟨b, o, sp⟩ := x
    have h0 := h4 0 (by omega)
    have e : (⟨b, o, sp⟩ : Addr).add 0 = ⟨b, o, sp⟩ := by unfold Addr.add; simp
    rw [e] at h0
    have hsp : sp = none := by
      cases sp with
      | none => rfl
      | some q => unfold World.cell? at h0; split at h0 <;> simp at h0
    subst hsp
    refine ⟨b, o, rfl, World.block_lt_of_cell? _ _ h0, h1, h2, fun i hi => ?_⟩
    have h6 := h4 i (by omega)
    rw [add_none] at h6
    refine ⟨h6, h5 _ ?_⟩
    rw [List.getD_eq_getElem?_getD, List.getElem?_eq_getElem (by omega)]
    exact List.getElem_mem _

theorem own_mono {w : World} {b b2 : Nat} {e : TypeId} {k : Nat} {v : Value} {n : Nat} {xs : List Value} (h : w.ownsRow b e k v n xs) (hb : b2 ≤ b) : w.ownsRow b2 e k v n xs :=
  ⟨h.1, h.2.imp id fun ⟨g, cap, cur, h1, h2, h3⟩ => ⟨g, cap, cur, h1, Nat.le_trans hb h2, h3⟩⟩
/-- The file's bytes. -/
def FileAt (w : World) (B : Nat) (v : Value) (fl : List UInt8) : Prop := w.ownsRow B 5 1 v fl.length (fl.map byteV)
theorem FileAt.cut {w : World} {B g cap n m : Nat} {fl : List UInt8} (h : FileAt w B (.slice (some ⟨g, 0, none⟩) n cap) fl) (hm : m ≤ fl.length) : FileAt w B (.slice (some ⟨g, 0, none⟩) m cap) (fl.take m) := by
  unfold FileAt at *
  have hlen : (fl.take m).length = m := by rw [List.length_take]; omega
  obtain ⟨h1, h2⟩ := h
  rcases h2 with ⟨h2, _⟩ | ⟨g2, cap2, cur, hv, h3, h4, h5, h6, h7, h8⟩
  · cases h2
  · simp at hv
    obtain ⟨rfl, rfl, rfl⟩ := hv
    rw [hlen]
    refine ⟨by simp; omega, .inr ⟨g, cap, cur, rfl, h3, h4, by omega, h6, h7, ?_⟩⟩
    rw [Nat.mul_one] at h8 ⊢
    rw [List.map_take, ← h8, List.take_take, Nat.min_eq_left (by omega)]
theorem FileAt.notRow {w : World} {B G : Nat} {v : Value} {fl : List UInt8} {l : Array Value} (h : FileAt w B v fl) (hG : w.heap[G]? = some (.cells l 9 (0, 0))) : v.ownBlock ≠ some G := by
  intro e
  obtain ⟨c, fz, h1⟩ := Lib.ownsRow_kind h G e
  rw [hG] at h1
  simp at h1
theorem FileAt.below {w w' : World} {B : Nat} {v : Value} {fl : List UInt8} (h : FileAt w B v fl) (hb : Below w.heap.size w w') : FileAt w' B v fl := ownsRow_below h hb

def lenOf : Value → Nat
  | .slice _ n _ => n
  | _ => 0
/-- What stays while the file is written. -/
def Side (w wz : World) (G : Nat) (ps : List (List UInt8)) (v10 : Value) (cs : List (Nat × List UInt8)) : Prop :=
  wz.ownsRow w.heap.size 41 6 v10 cs.length (rowC 1 cs) ∧ OldAt wz w.heap.size G ps ∧ Below w.heap.size w wz
theorem own_apart {w : World} {B B2 : Nat} {v v2 : Value} {n n2 k k2 : Nat} {xs xs2 : List Value} {e e2 : TypeId} (h : w.ownsRow B e k v n xs) (h2 : w.ownsRow B2 e2 k2 v2 n2 xs2) (he : e ≠ e2) : v.ownBlock = none ∨ v.ownBlock ≠ v2.ownBlock := by
  cases hv : v.ownBlock with
  | none => exact .inl rfl
  | some g =>
    refine .inr fun e3 => ?_
    obtain ⟨c, fz, h3⟩ := Lib.ownsRow_kind h g hv
    obtain ⟨c2, fz2, h4⟩ := Lib.ownsRow_kind h2 g e3.symm
    rw [h3] at h4
    simp at h4
    exact he h4.2.1
theorem Side.grown {w wz w2 : World} {G : Nat} {ps : List (List UInt8)} {v10 v5 : Value} {cs : List (Nat × List UInt8)} {fl : List UInt8} (h : Side w wz G ps v10 cs) (hf : FileAt wz w.heap.size v5 fl) (o : Obj) (hg : (wz.alloc o).grownBy w2 v5.ownBlock) : Side w w2 G ps v10 cs := by
  obtain ⟨h1, h2, h3⟩ := h
  refine ⟨(h1.alloc o).kept hg (own_apart h1 hf (by decide)), ⟨h2.new, ?_⟩, (h3.alloc h3.size o).grown hg (by have := h3.size; simp; omega) (fun q hq => (hf.lt q hq).1)⟩
  have hlt := World.block_lt_of_row h2.row
  rw [hg.block G (by simp; omega) (fun e => hf.notRow h2.row e.symm), Lib.alloc_old _ _ _ hlt]
  exact h2.row
theorem Side.stored {w wz : World} {G g p n cap : Nat} {ps : List (List UInt8)} {v10 : Value} {cs : List (Nat × List UInt8)} {fl : List UInt8} (h : Side w wz G ps v10 cs) (hf : FileAt wz w.heap.size (.slice (some ⟨g, 0, none⟩) n cap) fl) (x : Value) : Side w (wz.setCell ⟨g, p, none⟩ x) G ps v10 cs := by
  obtain ⟨h1, h2, h3⟩ := h
  refine ⟨h1.kept (row := some g) ⟨rfl, rfl, rfl, by simp, fun k _ hk => heap_setCell_other wz ⟨g, p, none⟩ k _ (fun e => hk (by simp [e]))⟩ (own_apart h1 hf (by decide)), ⟨h2.new, ?_⟩, h3.setCell (p := ⟨g, p, none⟩) (hf.lt g rfl).1 x⟩
  have hne : G ≠ g := fun e => hf.notRow h2.row (by rw [e]; rfl)
  rw [heap_setCell_other wz ⟨g, p, none⟩ G _ hne]
  exact h2.row
theorem FileAt.len {w : World} {B n cap : Nat} {a : Option Addr} {fl : List UInt8} (h : FileAt w B (.slice a n cap) fl) : n = fl.length := by
  rcases h.2 with ⟨h1, h2⟩ | ⟨g, c, cur, h1, _⟩
  · simp at h1; omega
  · simp at h1; omega
theorem spanC_nat (o m : Nat) (ho : o ≤ 8192) (h1 : 1 ≤ m) (h2 : m ≤ 8192) : spanC (o : Int) (m : Int) = (((o / 64 : Nat) : Int), (((o + m - 1) / 64 + 1 : Nat) : Int)) := by
  unfold spanC
  rw [if_neg (by omega)]
  refine Prod.ext ?_ ?_ <;> simp <;> omega
/-- What Write says of a file. -/
theorem writeR_file {ps : List (List UInt8)} {fl d : List UInt8} {o F T : Nat} {cs : List (Nat × List UInt8)} {sz er : Int} (hk : Keeps ps fl) (hd : d ≠ []) (hl : d.length ≤ 256) (ho : o ≤ 2000) (hF : F = o / 64) (hT : T = (o + d.length - 1) / 64 + 1)
    (h : WriteR fl.length o d ((ps.drop F).take (T - F)) cs sz er) : er = 0 ∧ sz = ((putF fl o d d.length).length : Int) ∧ Chgs (fileP (putF fl o d d.length)) ps cs := by
  unfold WriteR at h
  rw [if_neg (by omega), if_neg (by omega), if_neg hd, Int.toNat_natCast] at h
  obtain ⟨h1, h2, h3⟩ := h
  subst hF hT
  exact ⟨h2, by rw [h1, putF_len (Nat.le_refl _)]; omega, write_file hk hd rfl (by omega) h3⟩

def FileInv (w wr : World) (G : Nat) (v5 v7 v8 : Value) (i : Nat) : Prop :=
  ∃ (fl : List UInt8) (ps : List (List UInt8)), i ≤ 100 ∧ v8 = .int .i64 (i : Int) ∧ v7 = .int .i64 (fl.length : Int) ∧ fl.length ≤ 2256 ∧ FileAt wr w.heap.size v5 fl ∧ OldAt wr w.heap.size G ps ∧ Keeps ps fl ∧ Below w.heap.size w wr

/-- What a step comes to, ahead of its changes' being laid. -/
def Stepped (w wz : World) (G : Nat) (ps : List (List UInt8)) (v5 v7 v10 : Value) : Prop :=
  ∃ (fl : List UInt8) (cs : List (Nat × List UInt8)), v7 = .int .i64 (fl.length : Int) ∧ fl.length ≤ 2256 ∧ FileAt wz w.heap.size v5 fl ∧ wz.ownsRow w.heap.size 41 6 v10 cs.length (rowC 1 cs) ∧ OldAt wz w.heap.size G ps ∧ Chgs (fileP fl) ps cs ∧ Below w.heap.size w wz

set_option maxHeartbeats 4000000 in
set_option maxRecDepth 100000 in
theorem OpsFile_walk (a1 : Option Addr) (len1 cap1 : Nat) (z1 : List Int) (a2 : Option Addr) (len2 cap2 : Nat) (w : World) (h1 : IntRow .i64 w a1 len1 cap1 z1) (h2 : CellRow w a2 len2 cap2 1 (FieldOk [.string])) :
    Calls Tryd.prog 6 #[.slice a1 len1 cap1, .slice a2 len2 cap2] w fun e w' => e = .returned (.bool true) ∧ Below w.heap.size w w' := by
  obtain ⟨N, hN⟩ : ∃ N : Nat, N = 200 := ⟨200, rfl⟩
  have hmk : ∀ W : World, (Instr.makeSlice 24 (.int .i64 200) (.int .i64 200)).run Tryd.prog W = .ok (.slice (some ⟨W.heap.size, 0, none⟩) N N) (W.alloc (.cells (madeCells #[.string ⟨#[]⟩] N) 9)) := by
    intro W
    have h := run_make_row' (P := Tryd.prog) 24 9 (.string ⟨#[]⟩) 16 (by kernel_rfl) (by kernel_rfl) rfl .i64 .i64 N (by omega) (by omega) W
    have hc : ((N : Nat) : Int) = 200 := by omega
    rw [hc] at h
    exact h
  have HN := Lib.hid hN
  have H1 := Lib.hid h1
  have H2 := Lib.hid h2
  have hl2 : len2 ≤ 9223372036854775807 := h2.len_le
  have hl1 : len1 ≤ 9223372036854775807 := by
    rcases h1 with ⟨_, h, _⟩ | ⟨x, _, h3, h4, _⟩
    · omega
    · unfold maxLen at h4; omega
  clear hN h1 h2
  go_enter Tryd.func6, Tryd.ntmps6
  go_wp2_with fail
  refine (speaks_ok w).mono ?_; rintro e w1 ⟨rfl, B1⟩
  have HB1 := Lib.hid B1
  clear B1
  go_wp2_with fail
  obtain ⟨G, hG⟩ : ∃ G, G = w1.heap.size := ⟨_, rfl⟩
  obtain ⟨w2, hw2⟩ : ∃ w2, w2 = w1.alloc (.cells (madeCells #[.string ⟨#[]⟩] N) 9) := ⟨_, rfl⟩
  rw [← hG, ← hw2]
  have HB2 : Hid (Below w.heap.size w w2) := Lib.hid (by rw [hw2]; exact HB1.out.alloc HB1.out.size _)
  have HR2 : Hid (OldAt w2 w.heap.size G (List.replicate 200 [])) := Lib.hid (by
    refine ⟨by rw [hG]; exact HB1.out.size, ?_⟩
    rw [hw2, hG, heap_alloc_new]
    refine congrArg (fun c => some (Obj.cells c 9 (0, 0))) (Array.toList_inj.1 ?_)
    rw [toList_madeCells_one, HN.out]
    simp [strV, strB])
  have HI : Hid (FileInv w w2 G (.slice none 0 0) (.int .i64 0) (.int .i64 0) 0) := Lib.hid ⟨[], _, by omega, rfl, rfl, by simp, by unfold FileAt; simpa using World.ownsRow_nil w2 w.heap.size 5 1, HR2.out, ⟨by simp, fun k hk => by
    have : atL (List.replicate 200 ([] : List UInt8)) k = [] := by unfold atL; rw [List.getD_eq_getElem?_getD, List.getElem?_replicate, if_pos hk]; rfl
    rw [this]
    exact list64 (pieceL_len _) (fileP_len _ _) fun q hq => by rw [fileP_get _ _ _ hq]; unfold pieceL; rw [List.getElem?_append_right (by simp), List.getElem?_replicate, if_pos (by simp; omega)]; simp⟩, HB2.out⟩
  clear hG hw2 hmk HB1 HR2 HB2
  go_loopw [5, 7, 8] (fun v5 v7 v8 wr => ∃ i : Nat, Hid (FileInv w wr G v5 v7 v8 i)) (fun _ _ v8 _ => 100 - (intOf v8).toNat)
  case atStart => exact ⟨0, HI⟩
  case round =>
    obtain ⟨i, hinv⟩ := hrel
    obtain ⟨fl, ps, hi, rfl, rfl, hfl, hF, hP, hK, hB⟩ := hinv.out
    obtain ⟨wy, rfl⟩ : ∃ wy : World, wy = wr := ⟨_, rfl⟩
    have HF := Lib.hid hF
    have HP := Lib.hid hP
    have HK := Lib.hid hK
    have HB := Lib.hid hB
    clear hinv hF hP hK hB
    by_cases c1 : i < len1
    · have g1 : (i : Int) < (len1 : Int) := by omega
      by_cases c2 : i < len2
      · have g2 : (i : Int) < (len2 : Int) := by omega
        by_cases c3 : i < 100
        · have g3 : (i : Int) < 100 := by omega
          obtain ⟨b1, o1, rfl, hb1, hc1, _, hz⟩ := H1.out.open_ (by omega)
          obtain ⟨hzi, hwf⟩ := hz i c1
          obtain ⟨b2, o2, rfl, hb2, hc2, _, hs⟩ := H2.out.open_ (by omega) (by decide)
          obtain ⟨vs, hsi, hok⟩ := hs i c2 0 (by decide)
          obtain ⟨s, rfl, hsz⟩ := hok.string rfl
          rw [Nat.mul_one, Nat.add_zero] at hsi
          have HZI := Lib.hid hzi
          have HSI := Lib.hid hsi
          have y1 := below_cell HB.out _ _ hzi
          obtain ⟨xo, hxo⟩ : ∃ xo, xo = z1.getD i 0 := ⟨_, rfl⟩
          rw [← hxo] at y1
          clear hz hs hzi hsi hwf hxo
          go_upto_region 10 with fail
          go_cut [51] (fun c wz => c = .bool (decide ¬ (0 ≤ xo ∧ xo ≤ 2000)) ∧ wz = wy)
          case first =>
            go_wp2_with fail
            all_goals
              go_meet
              case rel => exact ⟨congrArg Value.bool (by rw [Bool.eq_iff_iff]; simp only [Bool.or_eq_true, decide_eq_true_eq, iff_true, true_iff]; omega), rfl⟩
          case rest =>
            obtain ⟨hu, hwc⟩ := hcut
            obtain ⟨wq, rfl⟩ : ∃ wq : World, wq = wc := ⟨_, rfl⟩
            subst hu
            rw [hwc]
            clear hwc
            go_upto_if 51 with fail
            go_cut [9] (fun s9 wz => ∃ o : Nat, s9 = .int .i64 (o : Int) ∧ o ≤ 2000 ∧ wz = wy)
            case first =>
              by_cases hok : 0 ≤ xo ∧ xo ≤ 2000
              · have hd : decide (¬ (0 ≤ xo ∧ xo ≤ 2000)) = false := decide_eq_false (not_not_intro hok)
                rw [hd]
                go_wp2_with fail
                go_meet
                case rel => exact ⟨xo.toNat, by rw [Int.toNat_of_nonneg hok.1], by omega, rfl⟩
              · have hd : decide (¬ (0 ≤ xo ∧ xo ≤ 2000)) = true := decide_eq_true hok
                rw [hd]
                go_wp2_with fail
                go_meet
                case rel => exact ⟨100, rfl, by omega, rfl⟩
            case rest =>
              obtain ⟨o, rfl, ho, hwc⟩ := hcut
              rw [hwc]
              clear hwc y1
              obtain ⟨_, rfl⟩ : ∃ wq2 : World, wq2 = wc := ⟨_, rfl⟩
              have y2 := below_cell HB.out _ _ HSI.out
              go_upto_if 56 with fail
              go_cut [5, 7, 10] (fun v5 v7 v10 wz => Hid (Stepped w wz G ps v5 v7 v10))
              case first =>
                by_cases hs0 : s.data.toList = []
                · as_aux_lemma =>
                  have e1 : s.toList.isEmpty = true := by rw [Go.ByteArray.toList_eq, hs0]; rfl
                  rw [e1]
                  by_cases hos : o < fl.length
                  · have g4 : (o : Int) < (fl.length : Int) := by omega
                    obtain ⟨k, hk⟩ : ∃ k, k = o / 64 := ⟨_, rfl⟩
                    have hk1 : (o : Int) / 64 = (k : Int) := by omega
                    have hk2 : (k : Int) < (N : Int) := by have := HN.out; omega
                    obtain ⟨X, hX⟩ : ∃ X, X = strB (atL ps k) := ⟨_, rfl⟩
                    have y3 : wy.cell? ⟨G, k, none⟩ = some (.string X) := by
                      rw [cellsOf_heap HP.out.row, hX]
                      unfold atL
                      rw [List.getD_eq_getElem?_getD, List.getElem?_toArray, List.getElem?_map, List.getElem?_eq_getElem (by have := HK.out.len; omega)]
                      rfl
                    obtain ⟨g, cap, rfl⟩ := own_form HF.out (by omega)
                    have hcap : fl.length ≤ cap := by
                      obtain ⟨_, h⟩ := HF.out
                      rcases h with ⟨h, _⟩ | ⟨g2, c2, cur, h, _, _, h9, _⟩
                      · cases h
                      · simp at h
                        omega
                    have g5 : (o : Int) ≤ (cap : Int) := by omega
                    have hct := cut_any 1 fl.length o X wy hos (by omega)
                    unfold CutPost at hct
                    rw [hX, strB_list, hk] at hct
                    rw [← hk, ← hX] at hct
                    have HCT := Lib.hid hct
                    have HKK := Lib.hid hk
                    clear hct hX hk hcap hs0
                    go_wp2_with fail
                    refine HCT.out.mono ?_; rintro e w3 ⟨v, c, rfl, hca, hown, hb3⟩
                    have HS : Hid (Stepped w w3 G ps (.slice (some ⟨g, 0, none⟩) o cap) (.int .i64 (o : Int)) v) := Lib.hid (by
                      have hlo : (fl.take o).length = o := by rw [List.length_take]; omega
                      refine ⟨fl.take o, c ++ gones (cutK o) ((fl.length - 1) / 64 + 1 - cutK o), by rw [hlo], by omega, (HF.out.cut (by omega)).below hb3, own_mono hown HB.out.size, HP.out.below hb3, ?_, below_on HB.out hb3⟩
                      exact cut_file HK.out hos (by omega) (by rw [← HKK.out]; exact hca))
                    clear hca hown hb3 HCT
                    go_wp2_with fail
                    go_meet
                    case rel => exact HS
                  · have g4 : ¬ (o : Int) < (fl.length : Int) := by omega
                    have HS : Hid (Stepped w wy G ps u5 (.int .i64 (fl.length : Int)) (.slice none 0 0)) := Lib.hid ⟨fl, [], rfl, hfl, HF.out, by simpa [rowC] using World.ownsRow_nil wy w.heap.size 41 6, HP.out, ⟨fun x hx => (by cases hx), fun k hk _ => HK.out.all k hk⟩, HB.out⟩
                    clear hs0
                    go_wp2_with fail
                    go_meet
                    case rel => exact HS
                · as_aux_lemma =>
                  have e1 : s.toList.isEmpty = false := by rw [Go.ByteArray.toList_eq]; simpa using hs0
                  rw [e1]
                  obtain ⟨m, hm⟩ : ∃ m : Nat, min (s.size : Int) 256 = (m : Int) := ⟨min s.size 256, by omega⟩
                  have hpos : 0 < s.size := by
                    rcases Nat.eq_zero_or_pos s.size with h | h
                    · exact absurd (List.length_eq_zero_iff.1 ((Lib.size_eq s).symm.trans h)) hs0
                    · exact h
                  have hm1 : m ≤ s.size := by omega
                  have hm2 : (0 : Int) ≤ (m : Int) := by omega
                  have hm3 : m ≤ 256 := by omega
                  have hm4 : 1 ≤ m := by omega
                  go_upto_region 18 with fail
                  go_quiet (fail)
                  obtain ⟨S, hS⟩ : ∃ S, S = s.extract 0 m := ⟨_, rfl⟩
                  have hSs : S.size = m := by rw [hS, Lib.size_eq, Lib.extract_data, List.length_take, List.length_drop, ← Lib.size_eq]; omega
                  rw [← hS]
                  obtain ⟨wd, hwd⟩ : ∃ wd, wd = wy.drewN nq := ⟨_, rfl⟩
                  rw [← hwd]
                  have hbd : Below wy.heap.size wy wd := by rw [hwd]; exact below_drewN (Below.refl _ _) nq
                  have HFd := Lib.hid (HF.out.below hbd)
                  have HPd := Lib.hid (HP.out.below hbd)
                  have HBd := Lib.hid (below_on HB.out hbd)
                  have hdl : S.data.toList.length = m := by rw [← Lib.size_eq]; exact hSs
                  obtain ⟨F, hFF⟩ : ∃ F, F = o / 64 := ⟨_, rfl⟩
                  obtain ⟨T, hTT⟩ : ∃ T, T = (o + m - 1) / 64 + 1 := ⟨_, rfl⟩
                  have hsp : spanC (o : Int) (S.size : Int) = ((F : Int), (T : Int)) := by
                    rw [hSs, hFF, hTT]
                    exact spanC_nat o m (by omega) hm4 (by omega)
                  have hsa := span_any (o : Int) (S.size : Int) wd
                  rw [hsp] at hsa
                  have HSA := Lib.hid hsa
                  have HSS := Lib.hid hSs
                  have HDL := Lib.hid hdl
                  have HFF := Lib.hid hFF
                  have HTT := Lib.hid hTT
                  have q1 : (F : Int) ≤ (T : Int) := by omega
                  have q2 : (T : Int) ≤ (N : Int) := by have := HN.out; omega
                  have q3 : ¬ N = F := by have := HN.out; omega
                  have q4 : T ≤ 40 := by omega
                  have q5 : F ≤ T := by omega
                  clear hS hSs hwd hbd hdl hsp hsa hFF hTT hs0 e1 y2 hm hm1 hm2 hpos HF HP HB
                  go_wp2_with fail
                  refine HSA.out.mono ?_; rintro e w' ⟨rfl, rfl⟩
                  obtain ⟨i0, hi0, hz0, hz1, hz2⟩ := info_parts infoStr
                  obtain ⟨sl, hsl⟩ : ∃ sl, sl = (ps.drop F).take (T - F) := ⟨_, rfl⟩
                  have hpl : sl.length = T - F := by rw [hsl, List.length_take, List.length_drop, HK.out.len]; omega
                  have hcel : ∀ (W : World), Below wd.heap.size wd W → ∀ j u, (sl.map strV)[j]? = some u → W.cell? ((⟨G, F, none⟩ : Addr).add j) = some u := by
                    intro W hW j u hu
                    rw [add_none]
                    rw [cellsOf_heap ((hW.block G (World.block_lt_of_row HPd.out.row)).trans HPd.out.row)]
                    rw [hsl, List.getElem?_map] at hu
                    rw [List.getElem?_toArray, List.getElem?_map]
                    obtain ⟨y, hy, rfl⟩ := Option.map_eq_some_iff.1 hu
                    have hj : j < T - F := by
                      rcases Nat.lt_or_ge j (T - F) with h | h
                      · exact h
                      · rw [List.getElem?_eq_none (by rw [List.length_take]; omega)] at hy; cases hy
                    rw [List.getElem?_take_of_lt hj, List.getElem?_drop] at hy
                    rw [hy]; rfl
                  have HCEL := Lib.hid hcel
                  have HPL := Lib.hid hpl
                  have HSL := Lib.hid hsl
                  clear hcel hpl hsl
                  go_wp2_with (at_builtin; refine wpList_append_own _ rfl _ _ 24 rfl wd.heap.size 9 i0 (.string ⟨#[]⟩) 1 16 (by kernel_rfl) hi0 hz0 hz1 hz2 rfl (by decide) (.slice (some ⟨wd.heap.size, 0, none⟩) 0 0) 0 [] rfl (World.ownsRow_made wd #[] 0 (Nat.le_refl _) (by decide) rfl) ⟨G, F, none⟩ (T - F) (N - F) (sl.map strV) rfl (by simp [HPL.out]) (HCEL.out _ ((Below.refl _ _).alloc (Nat.le_refl _) _)) (by intro u hu; obtain ⟨y, _, rfl⟩ := List.mem_map.1 hu; rfl) (by unfold maxLen; omega) (by omega) (by simp) ?_)
                  intro v1 w3 hown hgrow _
                  have hb3 : Below wd.heap.size wd w3 := ((Below.refl _ _).alloc (Nat.le_refl _) _).grown hgrow (by simp) (fun k hk => by simp [Value.ownBlock] at hk; omega)
                  have hS3 : StrsAt w3 v1 sl := StrsAt.of_own (B := wd.heap.size) (by rw [HPL.out]; simpa using hown)
                  have hwr := write_any hS3 (by rw [HPL.out]; omega) 1 fl.length o S (by have := HSS.out; omega)
                  unfold WritePost at hwr
                  have HWR := Lib.hid hwr
                  have HB3 := Lib.hid (below_on HBd.out hb3)
                  have HF3 := Lib.hid (HFd.out.below hb3)
                  have HP3 := Lib.hid (HPd.out.below hb3)
                  clear hown hgrow hb3 hS3 hwr HCEL
                  go_wp2_with fail
                  refine HWR.out.mono ?_; rintro e w4 ⟨v10, cs, sz, er, rfl, hr, hown4, hb4⟩
                  rw [HSL.out] at hr
                  obtain ⟨rfl, rfl, hch⟩ := writeR_file HK.out (by intro e; have := HDL.out; rw [e] at this; simp at this; omega) (by rw [HDL.out]; exact hm3) ho HFF.out (by rw [HDL.out]; exact HTT.out) hr
                  rw [HDL.out] at hch
                  have HCH := Lib.hid hch
                  have HF4 := Lib.hid (HF3.out.below hb4)
                  have HS4 : Hid (Side w w4 G ps v10 cs) := Lib.hid ⟨own_mono hown4 HB3.out.size, HP3.out.below hb4, below_on HB3.out hb4⟩
                  obtain ⟨d, hd⟩ : ∃ d, d = S.data.toList := ⟨_, rfl⟩
                  have hdl : d.length = m := by rw [hd]; exact HDL.out
                  rw [← hd] at HCH
                  have hszn : (putF fl o S.data.toList S.data.toList.length).length = max fl.length (o + m) := by rw [putF_len (Nat.le_refl _), HDL.out]
                  rw [hszn]
                  have HD := Lib.hid hd
                  have hms : (S.size : Int) = (m : Int) := by have := HSS.out; omega
                  obtain ⟨a5, c5, rfl⟩ := own_form2 HF4.out
                  clear hr hown4 hb4 hch HWR HF3 HP3 hd HSA hszn
                  go_wp2_with fail
                  go_loopw [5] (fun v5 wz => ∃ q : Nat, q ≤ o + m - fl.length ∧ Hid (FileAt wz w.heap.size v5 (fl ++ List.replicate q 0)) ∧ Hid (Side w wz G ps v10 cs)) (fun v5 _ => o + m - lenOf v5)
                  case atStart => exact ⟨0, by omega, by simpa using HF4, HS4⟩
                  case round =>
                    obtain ⟨q, hq, HFq, HSq⟩ := hrel
                    obtain ⟨wz, rfl⟩ : ∃ wz : World, wz = wr := ⟨_, rfl⟩
                    obtain ⟨f2, hf2⟩ : ∃ f2, f2 = fl ++ List.replicate q 0 := ⟨_, rfl⟩
                    have hfl2 : f2.length = fl.length + q := by rw [hf2]; simp
                    rw [← hf2] at HFq
                    obtain ⟨a6, c6, rfl⟩ := own_form2 HFq.out
                    have HF2 := Lib.hid hf2
                    clear hf2
                    by_cases hlt : fl.length + q < o + m
                    · as_aux_lemma =>
                      have g5 : (f2.length : Int) < (o : Int) + (m : Int) := by omega
                      have hb5 : f2.length ≤ 2256 := by omega
                      have HL2 := Lib.hid hfl2
                      clear hfl2
                      obtain ⟨i1, hi1, hy0, hy1, hy2⟩ := info_parts infoByte
                      go_wp2_with (at_builtin; refine wpList_append_own _ rfl _ _ 25 rfl w.heap.size 5 i1 (.int .u8 0) 1 1 (by kernel_rfl) hi1 hy0 hy1 hy2 rfl (by decide) _ f2.length (f2.map byteV) rfl (HFq.out.alloc _) ⟨wz.heap.size, 0, none⟩ 1 1 [.int .u8 0] rfl rfl ?c1 ?c2 ?c3 ?c4 ?c5 ?_)
                      case c1 =>
                        intro i u hu
                        cases i with
                        | zero => simp at hu; subst hu; simp [Addr.add]
                        | succ i => simp at hu
                      case c2 => intro u hu; simp at hu; subst hu; rfl
                      case c3 => unfold maxLen; omega
                      case c4 => omega
                      case c5 => have := HSq.out.2.2.size; simp; omega
                      intro v' w5 hown' hgrow _
                      have HS5 := Lib.hid (HSq.out.grown HFq.out _ hgrow)
                      have HF5 : Hid (FileAt w5 w.heap.size v' (fl ++ List.replicate (q + 1) 0)) := Lib.hid (by
                        unfold FileAt
                        have e : fl ++ List.replicate (q + 1) (0 : UInt8) = f2 ++ [0] := by rw [List.replicate_succ', ← List.append_assoc, ← HF2.out]
                        rw [e, List.length_append, List.map_append]
                        exact hown')
                      obtain ⟨a7, c7, rfl⟩ := own_form2 hown'
                      clear hown' hgrow
                      go_wp2
                      go_roundw
                      case rel => exact ⟨q + 1, by omega, HF5, HS5⟩
                      case measure => have := HL2.out; simp [lenOf]; omega
                    · as_aux_lemma =>
                      have g5 : ¬ (f2.length : Int) < (o : Int) + (m : Int) := by omega
                      have hqq : f2 = putF fl o d 0 := by
                        rw [putF_zero, HF2.out, hdl]
                        unfold extL
                        congr 2
                        omega
                      have hfn : f2.length = max fl.length (o + m) := by omega
                      obtain ⟨g, cap, hva⟩ := own_form HFq.out (by omega)
                      obtain ⟨rfl, rfl⟩ : a6 = some ⟨g, 0, none⟩ ∧ c6 = cap := by simpa using hva
                      have HFN := Lib.hid hfn
                      have HFQ : Hid (FileAt wz w.heap.size (.slice (some ⟨g, 0, none⟩) f2.length c6) (putF fl o d 0)) := Lib.hid (by
                        have h := HFq.out
                        unfold FileAt at h ⊢
                        rw [← hqq]
                        exact h)
                      clear hva hfl2 hfn HF2 HF4 HS4 hqq HFq
                      go_wp2_with fail
                      go_loopw [16] (fun v16 wz => ∃ k : Nat, k ≤ m ∧ v16 = .int .i64 (k : Int) ∧ Hid (FileAt wz w.heap.size (.slice (some ⟨g, 0, none⟩) f2.length c6) (putF fl o d k)) ∧ Hid (Side w wz G ps v10 cs)) (fun v16 _ => m - (intOf v16).toNat)
                      case atStart => exact ⟨0, by omega, rfl, HFQ, HSq⟩
                      case round =>
                        obtain ⟨k, hk, rfl, HFk, HSk⟩ := hrel
                        obtain ⟨wx, rfl⟩ : ∃ wx : World, wx = wr := ⟨_, rfl⟩
                        by_cases hkm : k < m
                        · have g6 : (k : Int) < (m : Int) := by omega
                          have hkd : k < d.length := by omega
                          obtain ⟨hk2, hck⟩ := str_at (s := S) (j := k) (c := d[k]'hkd) (by rw [← HD.out]; exact List.getElem?_eq_getElem hkd)
                          obtain ⟨ch, hch⟩ : ∃ ch, ch = d[k]'hkd := ⟨_, rfl⟩
                          rw [← hch] at hck
                          have hpl : (putF fl o d k).length = max fl.length (o + m) := by rw [putF_len (by omega), hdl]
                          have g7 : (o : Int) + (k : Int) < (f2.length : Int) := by have := HFN.out; omega
                          have hce : ∃ v, wx.cell? ⟨g, o + k, none⟩ = some v := by
                            have h9 := HFk.out
                            unfold FileAt at h9
                            rw [hpl, ← HFN.out] at h9
                            rw [h9.cellAt _ (by have := HFN.out; omega), List.getElem?_map, List.getElem?_eq_getElem (by rw [hpl]; omega)]; exact ⟨_, rfl⟩
                          obtain ⟨vold, hce⟩ := hce
                          have hfe : wx.frozen? ⟨g, o + k, none⟩ = false := by
                            have h9 := HFk.out
                            unfold FileAt at h9
                            rw [hpl, ← HFN.out] at h9
                            exact h9.frozenAt _
                          have HF6 : Hid (FileAt (wx.setCell ⟨g, o + k, none⟩ (.int .u8 (ch.toNat : Int))) w.heap.size (.slice (some ⟨g, 0, none⟩) f2.length c6) (putF fl o d (k + 1))) := Lib.hid (by
                            have h9 := HFk.out
                            unfold FileAt at h9 ⊢
                            have hpl2 : (putF fl o d (k + 1)).length = max fl.length (o + m) := by rw [putF_len (by omega), hdl]
                            rw [hpl2, ← HFN.out]
                            rw [hpl, ← HFN.out] at h9
                            have h8 := (h9.stored (o + k) (byteV ch)).1
                            rw [← putF_succ hkd, List.map_set, ← hch]
                            exact h8)
                          have HS6 : Hid (Side w (wx.setCell ⟨g, o + k, none⟩ (.int .u8 (ch.toNat : Int))) G ps v10 cs) := Lib.hid (HSk.out.stored (cap := c6) (n := f2.length) (fl := putF fl o d k) HFk.out _)
                          have t1 : (0 : Int) ≤ (o : Int) + (k : Int) := by omega
                          have t2 : ((o : Int) + (k : Int)).toNat = o + k := by omega
                          clear hch hpl HFk HSk
                          go_wp2_with fail
                          exact ⟨⟨k + 1, by omega, by go_num, HF6, HS6⟩, by simp [intOf]; omega⟩
                        · have g6 : ¬ (k : Int) < (m : Int) := by omega
                          obtain rfl : k = d.length := by omega
                          have HST : Hid (Stepped w wx G ps (.slice (some ⟨g, 0, none⟩) f2.length c6) (.int .i64 ((max fl.length (o + m) : Nat) : Int)) v10) := Lib.hid (by
                            have hpl : (putF fl o d d.length).length = max fl.length (o + m) := by rw [putF_len (Nat.le_refl _), hdl]
                            have hch := HCH.out
                            rw [← hdl] at hch
                            exact ⟨putF fl o d d.length, cs, by rw [hpl], by rw [hpl]; omega, HFk.out, HSk.out.1, HSk.out.2.1, hch, HSk.out.2.2⟩)
                          go_wp2_with fail
                          go_meet
                          case rel => exact HST
              case rest =>
                as_aux_lemma =>
                obtain ⟨fl2, cs, rfl, hl2', hF, hO, hP, hC, hB⟩ := hcut.out
                have HF5 := Lib.hid hF
                have HO5 := Lib.hid hO
                have HP5 := Lib.hid hP
                have HC5 := Lib.hid hC
                have HB5 := Lib.hid hB
                obtain ⟨al, cl, rfl⟩ : ∃ al cl, u10 = .slice al cs.length cl := by
                  rcases hO.2 with ⟨h, h0⟩ | ⟨g, cap, cur, hv, _⟩
                  · exact ⟨_, _, by rw [h, h0]⟩
                  · exact ⟨_, cap, hv⟩
                obtain ⟨a5, c5, rfl⟩ := own_form2 hF
                obtain ⟨w5, rfl⟩ : ∃ w5 : World, w5 = wc := ⟨_, rfl⟩
                clear hF hO hP hC hB hcut HF HP HB HI H1 H2 HZI HSI y2
                go_wp2_with fail
                go_loopw [17] (fun v17 wz => ∃ j : Nat, j ≤ cs.length ∧ v17 = .int .i64 (j : Int) ∧ Hid (FileAt wz w.heap.size (.slice a5 fl2.length c5) fl2) ∧ Hid (Side w wz G (applyC (fileP fl2) ps (cs.take j)) (.slice al cs.length cl) cs)) (fun v17 _ => cs.length - (intOf v17).toNat)
                case atStart => exact ⟨0, by omega, rfl, HF5, Lib.hid ⟨HO5.out, HP5.out, HB5.out⟩⟩
                case round =>
                  obtain ⟨j, hj, rfl, HFj, HSj⟩ := hrel
                  obtain ⟨wz, rfl⟩ : ∃ wz : World, wz = wr := ⟨_, rfl⟩
                  by_cases hlt : j < cs.length
                  · as_aux_lemma =>
                    have g4 : (j : Int) < (cs.length : Int) := by omega
                    obtain ⟨g, cap', hva, hg, hc1', hc2', hcell⟩ := own_cell HSj.out.1 (by omega)
                    obtain ⟨rfl, rfl⟩ : al = some ⟨g, 0, none⟩ ∧ cl = cap' := by simpa using hva
                    have hjb : (j : Int) ≤ 9223372036854775806 := by unfold maxLen at hc2'; omega
                    obtain ⟨hk2, hct⟩ := HC5.out.mem cs[j] (List.getElem_mem hlt)
                    obtain ⟨k, hk⟩ : ∃ k, k = (cs[j]).1 := ⟨_, rfl⟩
                    obtain ⟨t, ht⟩ : ∃ t, t = (cs[j]).2 := ⟨_, rfl⟩
                    rw [← ht, ← hk] at hct
                    rw [← hk] at hk2
                    obtain ⟨z, hz⟩ : ∃ z, z = Lib.trimRightB (fileP fl2 k) 0 := ⟨_, rfl⟩
                    rw [← hz] at hct
                    have hzl : z.length ≤ 64 := by rw [hz]; exact Nat.le_trans (trim_len _) (by rw [fileP_len]; exact Nat.le_refl _)
                    have x0 : wz.cell? ⟨g, j * 6, none⟩ = some (.int .i64 1) := by have := hcell (j * 6 + 0) (by omega); rw [rowC_get _ _ _ _ hlt (by omega)] at this; exact this
                    have x3 : wz.cell? ⟨g, j * 6 + 3, none⟩ = some (.int .i64 (k : Int)) := by rw [hcell _ (by omega), rowC_get _ _ _ _ hlt (by omega), hk]; rfl
                    have x4 : wz.cell? ⟨g, j * 6 + 4, none⟩ = some (.string (strB t)) := by rw [hcell _ (by omega), rowC_get _ _ _ _ hlt (by omega), ht]; rfl
                    have x5 : wz.cell? ⟨g, j * 6 + 5, none⟩ = some (.bool t.isEmpty) := by rw [hcell _ (by omega), rowC_get _ _ _ _ hlt (by omega), ht]; rfl
                    have HPL := Lib.hid (fun W => plain_any t z W hct hzl)
                    have hlen : (applyC (fileP fl2) ps (cs.take j)).length = 200 := by rw [applyC_len, HK.out.len]
                    have HT : Hid (applyC (fileP fl2) ps (cs.take (j + 1)) = (applyC (fileP fl2) ps (cs.take j)).set k z) := Lib.hid (by rw [List.take_succ_eq_append_getElem hlt, applyC_snoc, ← hk, ← hz])
                    have hnext : ∀ W, Side w W G (applyC (fileP fl2) ps (cs.take j)) (.slice (some ⟨g, 0, none⟩) cs.length cl) cs → FileAt W w.heap.size (.slice a5 fl2.length c5) fl2 →
                        Hid (FileAt (W.setCell ⟨G, k, none⟩ (.string (strB z))) w.heap.size (.slice a5 fl2.length c5) fl2) ∧ Hid (Side w (W.setCell ⟨G, k, none⟩ (.string (strB z))) G (applyC (fileP fl2) ps (cs.take (j + 1))) (.slice (some ⟨g, 0, none⟩) cs.length cl) cs) ∧ (∃ v, W.cell? ⟨G, k, none⟩ = some v) ∧ W.frozen? ⟨G, k, none⟩ = false := by
                      intro W hS hFW
                      obtain ⟨hs1, hs2, hs3⟩ := hS
                      have hgr : W.grownBy (W.setCell ⟨G, k, none⟩ (.string (strB z))) (some G) := ⟨rfl, rfl, rfl, by simp, fun q _ hq => heap_setCell_other W ⟨G, k, none⟩ q _ (fun e => hq (by simp [e]))⟩
                      refine ⟨Lib.hid (World.ownsRow.kept hFW hgr (.inr (hFW.notRow hs2.row))), Lib.hid ⟨World.ownsRow.kept hs1 hgr (.inr ?_), by rw [HT.out]; exact hs2.put z, hs3.setCell (p := ⟨G, k, none⟩) hs2.new _⟩, ?_, ?_⟩
                      · intro e
                        obtain ⟨c, fz, h1⟩ := Lib.ownsRow_kind hs1 G e
                        rw [hs2.row] at h1
                        simp at h1
                      · rw [cellsOf_heap hs2.row, List.getElem?_toArray, List.getElem?_map, List.getElem?_eq_getElem (by omega)]; exact ⟨_, rfl⟩
                      · simp [World.frozen?, hs2.row]
                    have HNX := Lib.hid hnext
                    obtain ⟨X, hX⟩ : ∃ X, X = strB t := ⟨_, rfl⟩
                    rw [← hX] at HPL x4
                    have q1 : (k : Int) < 200 := by omega
                    have q2 : (k : Int) < (N : Int) := by have := HN.out; omega
                    by_cases hz0 : z = []
                    · have ht0 : t.isEmpty = true := by
                        rcases hct with ⟨_, h⟩ | ⟨h, _⟩
                        · rw [h]; rfl
                        · exact absurd hz0 h
                      rw [ht0] at x5
                      obtain ⟨hn1, hn2, ⟨vold, hn3⟩, hn4⟩ := HNX.out wz HSj.out HFj.out
                      rw [hz0, show strB [] = (⟨#[]⟩ : ByteArray) from rfl] at hn1 hn2
                      clear hva hcell hct ht hz hX ht0 hk hlen hnext HNX HPL HSj HFj
                      go_wp2_with fail
                      exact ⟨⟨j + 1, by omega, by go_num, hn1, hn2⟩, by simp [intOf]; omega⟩
                    · have ht0 : t.isEmpty = false := by
                        have := hct.some hz0
                        simpa using this
                      rw [ht0] at x5
                      have hd : decide (z ≠ []) = true := by simpa using hz0
                      rw [hd] at HPL
                      obtain ⟨Z, hZ⟩ : ∃ Z, Z = strB z := ⟨_, rfl⟩
                      rw [← hZ] at HPL HNX
                      clear hva hcell hct ht hz hX hd ht0 hk hZ hlen hnext
                      go_wp2_with fail
                      refine (HPL.out _).mono ?_; rintro e w6 ⟨rfl, hb6⟩
                      have y0 := below_cell hb6 _ _ x0
                      have y3 := below_cell hb6 _ _ x3
                      have y5 := below_cell hb6 _ _ x5
                      obtain ⟨hn1, hn2, ⟨vold, hn3⟩, hn4⟩ := HNX.out w6 ⟨ownsRow_below HSj.out.1 hb6, HSj.out.2.1.below hb6, below_on HSj.out.2.2 hb6⟩ (HFj.out.below hb6)
                      clear hb6 HNX HPL HSj HFj
                      go_wp2_with fail
                      exact ⟨⟨j + 1, by omega, by go_num, hn1, hn2⟩, by simp [intOf]; omega⟩
                  · as_aux_lemma =>
                    have g4 : ¬ (j : Int) < (cs.length : Int) := by omega
                    obtain rfl : j = cs.length := by omega
                    rw [List.take_length] at HSj
                    have HK6 := Lib.hid (HC5.out.done HK.out.len)
                    obtain ⟨ps2, hps2⟩ : ∃ ps2, ps2 = applyC (fileP fl2) ps cs := ⟨_, rfl⟩
                    rw [← hps2] at HK6 HSj
                    have hsa := span_any (o : Int) 90 wz
                    rw [show (90 : Int) = ((90 : Nat) : Int) from rfl, spanC_nat o 90 (by omega) (by omega) (by omega)] at hsa
                    obtain ⟨F, hFF⟩ : ∃ F, F = o / 64 := ⟨_, rfl⟩
                    obtain ⟨T, hTT⟩ : ∃ T, T = (o + 90 - 1) / 64 + 1 := ⟨_, rfl⟩
                    rw [← hFF, ← hTT] at hsa
                    have HSA := Lib.hid hsa
                    have q1 : (F : Int) ≤ (T : Int) := by omega
                    have q2 : (T : Int) ≤ (N : Int) := by have := HN.out; omega
                    have q3 : ¬ N = F := by have := HN.out; omega
                    have q4 : T ≤ 40 := by omega
                    have q5 : F ≤ T := by omega
                    have HRD := Lib.hid (read_file (o := o) HK6.out ho (by omega))
                    rw [show (o + 89) / 64 + 1 = T by omega, ← hFF] at HRD
                    clear hps2 hsa hFF hTT HC5 HF5 HO5 HP5 HB5
                    go_wp2_with fail
                    refine HSA.out.mono ?_; rintro e w' ⟨rfl, rfl⟩
                    obtain ⟨rd, hrd⟩ : ∃ rd, rd = (fl2.drop o).take 90 := ⟨_, rfl⟩
                    rw [← hrd] at HRD
                    have HRR := Lib.hid hrd
                    clear hrd
                    go_upto_if 192 with fail
                    obtain ⟨X, hX⟩ : ∃ X, X = strB rd := ⟨_, rfl⟩
                    have HXX := Lib.hid hX
                    clear hX
                    go_cut [22] (fun s wq => s = .string X ∧ wq = wz)
                    case first =>
                      by_cases hof : o < fl2.length
                      · have g5 : (o : Int) < (fl2.length : Int) := by omega
                        obtain ⟨e9, he9⟩ : ∃ e9 : Nat, min (fl2.length : Int) ((o : Int) + 90) = (e9 : Int) := ⟨min fl2.length (o + 90), by omega⟩
                        obtain ⟨g, cap, hva⟩ := own_form HFj.out (by omega)
                        obtain ⟨rfl, rfl⟩ : a5 = some ⟨g, 0, none⟩ ∧ c5 = cap := by simpa using hva
                        have hcap : fl2.length ≤ c5 := by
                          obtain ⟨_, h⟩ := HFj.out
                          rcases h with ⟨h, _⟩ | ⟨g2, c2, cur, h, _, _, h9, _⟩
                          · cases h
                          · simp at h; omega
                        have hrl : rd.length = e9 - o := by rw [HRR.out, List.length_take, List.length_drop]; omega
                        have hcv : (convert 25 9 (.slice (some ⟨g, o, none⟩) (e9 - o) (c5 - o))).run Tryd.prog wz = .ok (.string (strB rd)) wz := by
                          have := run_convert_bytes_back (P := Tryd.prog) wz 25 9 5 ⟨g, o, none⟩ (c5 - o) rd (by kernel_rfl) (by kernel_rfl) (by kernel_rfl) (by
                            intro q hq
                            rw [add_none]
                            rw [hrl] at hq
                            have h9 := HFj.out
                            unfold FileAt at h9
                            rw [h9.cellAt _ (by omega), List.getElem?_map, List.getElem?_eq_getElem (by omega)]
                            have hr2 : rd[q]? = fl2[o + q]? := by rw [HRR.out, List.getElem?_take_of_lt (by omega), List.getElem?_drop]
                            rw [List.getElem?_eq_getElem (by omega), List.getElem?_eq_getElem (by omega)] at hr2
                            rw [Option.some.inj hr2]
                            rfl)
                          rw [hrl] at this
                          exact this
                        have t1 : (o : Int) ≤ (e9 : Int) := by omega
                        have t2 : (e9 : Int) ≤ (c5 : Int) := by omega
                        have t3 : ¬ c5 = o := by omega
                        have t4 : (0 : Int) ≤ (e9 : Int) := by omega
                        rw [← HXX.out] at hcv
                        clear hva hcap hrl
                        go_wp2_with fail
                        go_meet
                        case rel => exact ⟨rfl, rfl⟩
                      · have g5 : ¬ (o : Int) < (fl2.length : Int) := by omega
                        have hr0 : rd = [] := by rw [HRR.out, List.drop_of_length_le (by omega)]; rfl
                        have hX0 : X = ⟨#[]⟩ := by rw [HXX.out, hr0]; rfl
                        clear hr0
                        go_wp2_with fail
                        go_meet
                        case rel => exact ⟨by rw [hX0], rfl⟩
                    case rest =>
                      as_aux_lemma =>
                      obtain ⟨rfl, hwc⟩ := hcut
                      rw [hwc]
                      clear hwc
                      obtain ⟨i0, hi0, hz0, hz1, hz2⟩ := info_parts infoStr
                      obtain ⟨sl, hsl⟩ : ∃ sl, sl = (ps2.drop F).take (T - F) := ⟨_, rfl⟩
                      rw [← hsl] at HRD
                      have hpl : sl.length = T - F := by rw [hsl, List.length_take, List.length_drop, HK6.out.len]; omega
                      have hcel : ∀ (W : World), Below wz.heap.size wz W → ∀ j u, (sl.map strV)[j]? = some u → W.cell? ((⟨G, F, none⟩ : Addr).add j) = some u := by
                        intro W hW j u hu
                        rw [add_none]
                        rw [cellsOf_heap ((hW.block G (World.block_lt_of_row HSj.out.2.1.row)).trans HSj.out.2.1.row)]
                        rw [hsl, List.getElem?_map] at hu
                        rw [List.getElem?_toArray, List.getElem?_map]
                        obtain ⟨y, hy, rfl⟩ := Option.map_eq_some_iff.1 hu
                        have hj : j < T - F := by
                          rcases Nat.lt_or_ge j (T - F) with h | h
                          · exact h
                          · rw [List.getElem?_eq_none (by rw [List.length_take]; omega)] at hy; cases hy
                        rw [List.getElem?_take_of_lt hj, List.getElem?_drop] at hy
                        rw [hy]; rfl
                      have HCEL := Lib.hid hcel
                      have HPL := Lib.hid hpl
                      clear hcel hpl hsl
                      go_wp2_with (at_builtin; refine wpList_append_own _ rfl _ _ 24 rfl wz.heap.size 9 i0 (.string ⟨#[]⟩) 1 16 (by kernel_rfl) hi0 hz0 hz1 hz2 rfl (by decide) (.slice (some ⟨wz.heap.size, 0, none⟩) 0 0) 0 [] rfl (World.ownsRow_made wz #[] 0 (Nat.le_refl _) (by decide) rfl) ⟨G, F, none⟩ (T - F) (N - F) (sl.map strV) rfl (by simp [HPL.out]) (HCEL.out _ ((Below.refl _ _).alloc (Nat.le_refl _) _)) (by intro u hu; obtain ⟨y, _, rfl⟩ := List.mem_map.1 hu; rfl) (by unfold maxLen; omega) (by omega) (by simp) ?_)
                      intro v1 w7 hown hgrow _
                      have hb7 : Below wz.heap.size wz w7 := ((Below.refl _ _).alloc (Nat.le_refl _) _).grown hgrow (by simp) (fun k hk => by simp [Value.ownBlock] at hk; omega)
                      have hS7 : StrsAt w7 v1 sl := StrsAt.of_own (B := wz.heap.size) (by rw [HPL.out]; simpa using hown)
                      have hrd7 := read_any hS7 (by rw [HPL.out]; omega) fl2.length o 90 (by omega)
                      rw [HRD.out] at hrd7
                      rw [← HXX.out] at hrd7
                      have HRD7 := Lib.hid hrd7
                      have HB7 := Lib.hid hb7
                      have s1 : (X.toList == X.toList) = true := by simp
                      have s2 : (X.toList != X.toList) = false := by simp
                      clear hown hgrow hb7 hS7 hrd7 HCEL
                      go_wp2_with fail
                      refine HRD7.out.mono ?_; rintro e w8 ⟨rfl, hb8⟩
                      have hb9 : Below wz.heap.size wz w8 := below_on HB7.out hb8
                      have HIN : Hid (FileInv w w8 G (.slice a5 fl2.length c5) (.int .i64 (fl2.length : Int)) (.int .i64 ((i + 1 : Nat) : Int)) (i + 1)) := Lib.hid ⟨fl2, ps2, by omega, rfl, rfl, hl2', HFj.out.below hb9, HSj.out.2.1.below hb9, HK6.out, below_on HSj.out.2.2 hb9⟩
                      clear hb8 hb9
                      go_wp2_with fail
                      exact ⟨⟨i + 1, HIN⟩, by simp [intOf]; omega⟩
        · have g3 : ¬ (i : Int) < 100 := by omega
          go_wp2_with fail
          go_ret
          exact ⟨rfl, HB.out⟩
      · have g2 : ¬ (i : Int) < (len2 : Int) := by omega
        go_wp2_with fail
        go_ret
        exact ⟨rfl, HB.out⟩
    · have g1 : ¬ (i : Int) < (len1 : Int) := by omega
      go_wp2_with fail
      go_ret
      exact ⟨rfl, HB.out⟩

end Go.Proofs.YthpdmgefdaegmaaDoor
