/- Read of the document's chip. -/
import Derived.Test.YthoadcibknaelaaROpD
import Derived.Test.YthoadcibknaelaaReadm
import Derived.Deep.OwnRows
namespace Go.Proofs.Ythoadcibknaelaa
open Go.RowKit
set_option linter.unusedVariables false
set_option linter.unusedSimpArgs false
variable {R : RLay} {c : Chp} {w : World}

theorem bytes_made (w : World) (n : Nat) (t : TypeId) : BytesAt (w.alloc (.cells (madeCells #[.int .u8 0] n) t)) w.heap.size (List.replicate n 0) := by
  have h := World.rowIs_made w (.int .u8 0) n t
  refine ⟨fun j hj => ?_, fun j hj => ?_⟩
  · rw [h.cell (i := j) (by simpa using hj)]
    have hj' : j < n := by simpa using hj
    simp [hj']
  · exact h.frozen j
theorem BytesAt.store {w : World} {g : Nat} {l : List UInt8} (h : BytesAt w g l) (i : Nat) (hi : i < l.length) (x : UInt8) (v : Value) (hv : v = .int .u8 (x.toNat : Int)) : BytesAt (w.setCell ⟨g, i, none⟩ v) g (l.set i x) := by
  refine ⟨?_, fun j hj => by rw [World.frozen?_setCell]; exact h.free j (by simpa using hj)⟩
  intro j hj
  have hj' : j < l.length := by simpa using hj
  by_cases e : j = i
  · subst e
    rw [setA_same _ _ _ _ _ (h.cell j hj'), hv]
    simp [hj']
  · rw [setA_other _ _ _ _ _ (Ne.symm e), h.cell j hj']
    simp [List.getElem?_set, Ne.symm e]

theorem at_byte2 (b : ByteArray) (i : Nat) (h : i < b.size) : b[i] = b.data.toList.getD i 0 := by
  have h2 : i < b.data.toList.length := by simpa using h
  rw [List.getD_eq_getElem?_getD, List.getElem?_eq_getElem h2]
  simp
  rfl
theorem set_get (l : List UInt8) (k : Nat) (x : UInt8) (j : Nat) (h : k < l.length) : (l.set k x).getD j 0 = if j = k then x else l.getD j 0 := by
  rw [List.getD_eq_getElem?_getD, List.getElem?_set]
  by_cases e : k = j
  · subst e; simp [h]
  · rw [if_neg e, if_neg (Ne.symm e), List.getD_eq_getElem?_getD]
theorem fill_step {l d : List UInt8} {k : Nat} (hk : k < l.length) (h1 : ∀ j, j < k → l.getD j 0 = d.getD j 0) (h2 : ∀ j, k ≤ j → l.getD j 0 = 0) {x : UInt8} (hx : x = d.getD k 0) :
    (∀ j, j < k + 1 → (l.set k x).getD j 0 = d.getD j 0) ∧ ∀ j, k + 1 ≤ j → (l.set k x).getD j 0 = 0 := by
  refine ⟨fun j hj => ?_, fun j hj => ?_⟩
  · rw [set_get _ _ _ _ hk]
    by_cases e : j = k
    · rw [if_pos e, hx, e]
    · rw [if_neg e]; exact h1 j (by omega)
  · rw [set_get _ _ _ _ hk, if_neg (by omega)]; exact h2 j (by omega)
theorem fill_skip {l d : List UInt8} {k : Nat} (h1 : ∀ j, j < k → l.getD j 0 = d.getD j 0) (h2 : ∀ j, k ≤ j → l.getD j 0 = 0) (hx : d.getD k 0 = 0) :
    (∀ j, j < k + 1 → l.getD j 0 = d.getD j 0) ∧ ∀ j, k + 1 ≤ j → l.getD j 0 = 0 := by
  refine ⟨fun j hj => ?_, fun j hj => h2 j (by omega)⟩
  by_cases e : j = k
  · rw [e, hx]; exact h2 k (Nat.le_refl _)
  · exact h1 j (by omega)
theorem repeatL_eq (b : UInt8) : ∀ n, Lib.repeatL [b] n = List.replicate n b
  | 0 => rfl
  | n + 1 => by
    rw [Lib.repeatL, repeatL_eq b n]
    first
      | exact (List.replicate_succ' ..).symm
      | rfl
theorem fill_get (n : Int) (b : UInt8) (k : Nat) (h : (k : Int) < n) : (fill n b).data.toList.getD k 0 = b := by
  have hk : k < n.toNat := by omega
  show ((Lib.repeatL [b] n.toNat).toArray.toList).getD k 0 = b
  rw [repeatL_eq]
  simp [hk]

theorem ext_getD {l d : List UInt8} (h : l.length = d.length) (e : ∀ j, j < l.length → l.getD j 0 = d.getD j 0) : l = d := by
  apply List.ext_getElem h
  intro i h1 h2
  have := e i h1
  rw [List.getD_eq_getElem?_getD, List.getD_eq_getElem?_getD, List.getElem?_eq_getElem h1, List.getElem?_eq_getElem h2] at this
  simpa using this
theorem nTo_min {most : Int} {piece : Nat} {h : Int} {l : List UInt8} {k : Nat} (h1 : (nTo most piece h l k).1 < l.length) :
    nTo most piece h l (k + 1) = ((nTo most piece h l k).1 + min piece (l.length - (nTo most piece h l k).1), turnL most (nTo most piece h l k).1 (min piece (l.length - (nTo most piece h l k).1)) (pieceH h k) (nTo most piece h l k).2) := by
  by_cases h2 : piece < l.length - (nTo most piece h l k).1
  · rw [nTo_a h1 h2, Nat.min_eq_left (by omega)]
  · rw [nTo_b h1 h2, Nat.min_eq_right (by omega)]
    congr 1; omega
theorem back_conv (w : World) (g cap : Nat) (l : List UInt8) (h : BytesAt w g l) : (convert 31 9 (.slice (some ⟨g, 0, none⟩) l.length cap)).run Try.prog w = .ok (.string ⟨l.toArray⟩) w :=
  run_convert_bytes_back (P := Try.prog) w 31 9 5 ⟨g, 0, none⟩ cap l (by kernel_rfl) (by kernel_rfl) (by kernel_rfl) (by
    intro j hj
    have := h.cell j hj
    rw [show (⟨g, 0, none⟩ : Addr).add j = ⟨g, j, none⟩ by unfold Addr.add; split <;> simp_all]
    rw [this]; simp [hj])
theorem back_str (s : ByteArray) : (⟨s.data.toList.toArray⟩ : ByteArray) = s := by cases s; simp

set_option maxHeartbeats 4000000 in
set_option maxRecDepth 100000 in
theorem rread_go (h : RefAt w R c) (b p : Nat) (hb : b < c.nb) (hp : p < c.np) (hoff : c.off = false) (hg : GoodPg c.bytes (c.pg b p)) :
    Calls Try.prog 27 #[.pointer (some ⟨R.a, 0, none⟩), .int .i64 b, .int .i64 p] w fun e w' =>
    e = .returned (.tuple #[.string (readS c b p), .int .i64 0]) ∧ RefAt w' R { c with rd := upd c.rd b (wrap64 (c.rd b + 1)) } ∧ Stays (RFoot R) w w' := by
  have hhas : hasPB c b p = true := by simp [hasPB, hasB]; omega
  have hnb := h.nbn
  have hnp := h.npn
  have y0 := h.y0
  have y1 := h.y1
  have k12 : w.cell? ⟨R.a, 12, none⟩ = some (.bool c.off) := h.ca 12 (by decide)
  have k5 : w.cell? ⟨R.a, 5, none⟩ = some (.slice (some ⟨R.rr, 0, none⟩) c.nb c.nb) := h.ca 5 (by decide)
  have kr : w.cell? ⟨R.rr, b, none⟩ = some (.int .i64 (c.rd b)) := h.cr b hb
  have hfr := h.fz R.rr (rfoot_r R)
  rw [hoff] at k12
  have H1 := Lib.hid (h.sRd hb (wrap64 (c.rd b + 1)))
  have HG := Lib.hid hg
  clear hg hoff
  go_enter Try.func27, Try.ntmps27
  go_wp2_with fail
  refine (rpage_any h _ _).mono ?_; rintro e w' ⟨rfl, rfl⟩
  have nar := h.n3
  have npr := h.n6
  have hwl := Lib.hid h.lt
  clear h
  go_wp2_with fail
  obtain ⟨wa, hwa⟩ : ∃ wa, wa = w.setCell ⟨R.rr, b, none⟩ (.int .i64 (wrap64 (c.rd b + 1))) := ⟨_, rfl⟩
  rw [← hwa]
  rw [← hwa] at H1
  have S1 : Stays (RFoot R) w wa := by rw [hwa]; exact (Stays.refl _ _).setCell (p := ⟨R.rr, b, none⟩) (rfoot_r R) _
  have hwl2 : ∀ x, RFoot R x → x < wa.heap.size := fun x hx => Nat.lt_of_lt_of_le (hwl.out x hx) S1.size
  have hwl := Lib.hid hwl2
  clear k12 k5 kr hfr hwl2 hwa
  have HWA := Lib.hid S1.size
  have HS1 := Lib.hid S1
  clear S1
  obtain ⟨c2, hc2⟩ : ∃ c2 : Chp, c2 = { c with rd := upd c.rd b (wrap64 (c.rd b + 1)) } := ⟨_, rfl⟩
  have k3 : wa.cell? ⟨R.a, 3, none⟩ = some (.slice (some ⟨R.pp, 0, none⟩) (c.nb * c.np) (c.nb * c.np)) := H1.out.ca 3 (by decide)
  have k1 : wa.cell? ⟨R.a, 1, none⟩ = some (.int .i64 c.np) := H1.out.ca 1 (by decide)
  have k2 : wa.cell? ⟨R.a, 2, none⟩ = some (.int .i64 c.bytes) := H1.out.ca 2 (by decide)
  have kp0 : wa.cell? ⟨R.pp, (b * c.np + p) * 3, none⟩ = some (.int .i64 (c.pg b p).st) := H1.out.page (f := 0) hb hp (by omega)
  have kp1 : wa.cell? ⟨R.pp, (b * c.np + p) * 3 + 1, none⟩ = some (.string (c.pg b p).data) := H1.out.page (f := 1) hb hp (by omega)
  have kp2 : wa.cell? ⟨R.pp, (b * c.np + p) * 3 + 2, none⟩ = some (.bool (c.pg b p).touched) := H1.out.page (f := 2) hb hp (by omega)
  have la : R.a < wa.heap.size := H1.out.lt _ (rfoot_a R)
  have lp : R.pp < wa.heap.size := H1.out.lt _ (rfoot_p R)
  obtain ⟨q1, q2, q3⟩ := flat_small H1.out (i := b) (j := p) hb hp
  dsimp only at q1 q2 q3
  obtain ⟨fl, hfl⟩ : ∃ fl, fl = b * c.np := ⟨_, rfl⟩
  have hs0 : (b : Int) * (c.np : Int) = (fl : Int) := by rw [hfl]; simp
  rw [← hfl] at kp0 kp1 kp2 q1 q2
  clear hfl
  generalize c.nb * c.np = T at k3 q2 q3
  obtain ⟨v1, v2, v3, v4, v5⟩ := flat_facts fl p T (by omega) q2
  go_upto_region 6 with fail
  go_region
  obtain ⟨n, hn⟩ : ∃ n : Nat, c.bytes = n := ⟨c.bytes.toNat, by omega⟩
  rw [hn] at k2 y0 y1
  have HN := Lib.hid hn
  clear hn v1 v2 v3 v4 v5
  have hmk : ∀ W : World, (Instr.makeSlice 31 (.int .i64 (n : Int)) (.int .i64 (n : Int))).run Try.prog W = .ok (.slice (some ⟨W.heap.size, 0, none⟩) n n) (W.alloc (.cells (madeCells #[.int .u8 0] n) 5)) :=
    fun W => run_make_row' 31 5 (.int .u8 0) 1 (by kernel_rfl) (by kernel_rfl) rfl .i64 .i64 n (by omega) (by omega) W
  go_wp2_with fail
  have HB0 := (bytes_made (wa.alloc (Obj.cells #[Value.int IntKind.i64 (c.pg b p).st, Value.string (c.pg b p).data, Value.bool (c.pg b p).touched] 86)) n 5).drew
  have HR0 := ((H1.out.alloc (Obj.cells #[Value.int IntKind.i64 (c.pg b p).st, Value.string (c.pg b p).data, Value.bool (c.pg b p).touched] 86)).alloc (.cells (madeCells #[.int .u8 0] n) 5)).drewN 1
  have HS0 := ((HS1.out.alloc (Obj.cells #[Value.int IntKind.i64 (c.pg b p).st, Value.string (c.pg b p).data, Value.bool (c.pg b p).touched] 86)).alloc (.cells (madeCells #[.int .u8 0] n) 5)).drewN 1
  obtain ⟨wb, hwb⟩ : ∃ wb, wb = ((wa.alloc (Obj.cells #[Value.int IntKind.i64 (c.pg b p).st, Value.string (c.pg b p).data, Value.bool (c.pg b p).touched] 86)).alloc (.cells (madeCells #[.int .u8 0] n) 5)).drew := ⟨_, rfl⟩
  have x0 : wb.cell? ⟨wa.heap.size, 0, none⟩ = some (.int .i64 (c.pg b p).st) := by rw [hwb]; simp
  have x1 : wb.cell? ⟨wa.heap.size, 1, none⟩ = some (.string (c.pg b p).data) := by rw [hwb]; simp
  have hsz : wb.heap.size = wa.heap.size + 2 := by rw [hwb]; simp
  rw [← hwb]
  change BytesAt (((wa.alloc _).alloc _).drew) _ _ at HB0
  change RefAt (((wa.alloc _).alloc _).drew) _ _ at HR0
  change Stays _ _ (((wa.alloc _).alloc _).drew) at HS0
  rw [← hwb] at HB0 HR0 HS0
  rw [show (wa.alloc (Obj.cells #[Value.int IntKind.i64 (c.pg b p).st, Value.string (c.pg b p).data, Value.bool (c.pg b p).touched] 86)).heap.size = wa.heap.size + 1 by simp] at HB0
  have HB0' := Lib.hid HB0
  have HR0' := Lib.hid HR0
  have HS0' := Lib.hid HS0
  clear HB0 HR0 HS0 H1 HS1 hwb k1 k2 k3 kp0 kp1 kp2
  have hds : (dataC c.bytes (c.pg b p)).size = n := by have h1 := HN.out; have := dataC_size HG.out (by omega); omega
  have HDS := Lib.hid hds
  clear hds
  go_loopw [10] (fun vi wr => ∃ (k : Nat) (l : List UInt8), k ≤ n ∧ vi = .int .i64 k ∧ l.length = n ∧ Hid ((∀ j, j < k → l.getD j 0 = (dataC c.bytes (c.pg b p)).data.toList.getD j 0) ∧ (∀ j, k ≤ j → l.getD j 0 = 0)) ∧ Hid (BytesAt wr (wa.heap.size + 1) l) ∧ Hid (Stays (· = wa.heap.size + 1) wb wr)) (fun vi _ => n - (intOf vi).toNat)
  case atStart => exact ⟨0, List.replicate n 0, by omega, rfl, by simp, Lib.hid ⟨fun j hj => by omega, fun j _ => by simp [List.getElem?_replicate]; split <;> rfl⟩, HB0', Lib.hid (Stays.refl _ _)⟩
  case round =>
    obtain ⟨k, l, hk, rfl, hl, HL, HB, HS⟩ := hrel
    have HR := HR0'.out.stays HS.out (by
      intro x hx e
      have := hwl.out x hx
      omega)
    have kk2 : wr.cell? ⟨R.a, 2, none⟩ = some (.int .i64 n) := by rw [← HN.out]; exact HR.ca 2 (by decide)
    have y0' : wr.cell? ⟨wa.heap.size, 0, none⟩ = some (.int .i64 (c.pg b p).st) := HS.out.cell x0 (fun e : wa.heap.size = wa.heap.size + 1 => by omega)
    have y1' : wr.cell? ⟨wa.heap.size, 1, none⟩ = some (.string (c.pg b p).data) := HS.out.cell x1 (fun e : wa.heap.size = wa.heap.size + 1 => by omega)
    by_cases hlt : k < n
    · have hcell := HB.out.cell k (by omega)
      have hfree := HB.out.free k (by omega)
      rcases HG.out with hs | hs | ⟨hs, hsz1⟩
      · have e0 : ((c.pg b p).st == 0) = true := by simpa using hs
        have e2 : ((c.pg b p).st == 1) = false := by simp [hs]
        have HST := Lib.hid hs
        clear hs
        go_wp2_with fail
        go_roundw
        case rel =>
          have hd : (255 : UInt8) = (dataC c.bytes (c.pg b p)).data.toList.getD k 0 := by
            rw [dataC, if_pos HST.out, fill_get _ _ _ (by rw [HN.out]; omega)]
          exact ⟨k + 1, l.set k 255, by omega, rfl, by simp [hl], Lib.hid (fill_step (by omega) HL.out.1 HL.out.2 hd), Lib.hid (HB.out.store k (by omega) 255 _ rfl), Lib.hid (HS.out.inA _)⟩
        case measure => simp [intOf]; omega
      · have e0 : ((c.pg b p).st == 0) = false := by simp [hs]
        have e2 : ((c.pg b p).st == 1) = false := by simp [hs]
        have HST := Lib.hid hs
        clear hs
        go_wp2_with fail
        go_roundw
        case rel =>
          have hd : (dataC c.bytes (c.pg b p)).data.toList.getD k 0 = 0 := by
            rw [dataC, if_neg (by have := HST.out; omega), if_pos HST.out, fill_get _ _ _ (by rw [HN.out]; omega)]
          exact ⟨k + 1, l, by omega, rfl, hl, Lib.hid (fill_skip HL.out.1 HL.out.2 hd), HB, HS⟩
        case measure => simp [intOf]; omega
      · have e0 : ((c.pg b p).st == 0) = false := by simp [hs]
        have e2 : ((c.pg b p).st == 1) = true := by simp [hs]
        have HST := Lib.hid hs
        have hds : k < (c.pg b p).data.size := by have h1 := HN.out; omega
        clear hs
        go_wp2_with fail
        go_roundw
        case rel =>
          have hd : (c.pg b p).data[k] = (dataC c.bytes (c.pg b p)).data.toList.getD k 0 := by
            rw [dataC, if_neg (by have := HST.out; omega), if_neg (by have := HST.out; omega)]
            exact at_byte2 _ _ hds
          exact ⟨k + 1, l.set k (c.pg b p).data[k], by omega, rfl, by simp [hl], Lib.hid (fill_step (by omega) HL.out.1 HL.out.2 hd), Lib.hid (HB.out.store k (by omega) _ _ rfl), Lib.hid (HS.out.inA _)⟩
        case measure => simp [intOf]; omega
    · obtain rfl : k = n := by omega
      have kk8 : wr.cell? ⟨R.a, 8, none⟩ = some (.int .i64 c.most) := HR.ca 8 (by decide)
      have kk9 : wr.cell? ⟨R.a, 9, none⟩ = some (.int .i64 c.piece) := HR.ca 9 (by decide)
      have hd : l = (dataC c.bytes (c.pg b p)).data.toList := ext_getD (by rw [hl]; exact HDS.out.symm) (fun j hj => HL.out.1 j (by omega))
      have S9 : Stays (RFoot R) w wr := HS0'.out.fresh HS.out (by have := HWA.out; omega)
      have HV : Hid (readS c b p = if c.most < 1 ∨ c.piece < 1 then dataC c.bytes (c.pg b p) else ⟨(noiseL c.most c.piece.toNat (hashC c.seed (wrap64 (c.rd b + 1)) b p) (dataC c.bytes (c.pg b p)).data.toList).toArray⟩) := Lib.hid rfl
      generalize hs : dataC c.bytes (c.pg b p) = s at *
      clear hs HL HG y0' y1' hlt
      subst hd
      have HR9 := Lib.hid HR
      have HS9 := Lib.hid S9
      have HHL := Lib.hid hl
      have HHDS := HDS
      clear HR S9 HR0' HS0' HB0' x0 x1 hl HDS HS
      by_cases hn : c.most < 1 ∨ c.piece < 1
      · have hv := HV.out
        rw [if_pos hn] at hv
        have HV2 := Lib.hid hv
        have hconv := back_conv wr (wa.heap.size + 1) k s.data.toList HB.out
        rw [HHL.out, back_str] at hconv
        clear hv HV
        by_cases hn1 : c.most < 1
        · clear hn
          go_wp2_with fail
          go_ret2
          exact ⟨by rw [HV2.out]; rfl, HR9.out, HS9.out⟩
        · have hn2 : c.piece < 1 := by omega
          clear hn
          go_wp2_with fail
          go_ret2
          exact ⟨by rw [HV2.out]; rfl, HR9.out, HS9.out⟩
      · have hv := HV.out
        rw [if_neg hn] at hv
        have HV2 := Lib.hid hv
        clear hv HV
        have hn1 : ¬ c.most < 1 := by omega
        have hn2 : ¬ c.piece < 1 := by omega
        clear hn
        go_upto_if 99 with fail
        go_cut [11] (fun s11 wz => s11 = .int .i64 (min c.most 64) ∧ wz = wr)
        case first =>
          by_cases h64 : 64 < c.most
          · have hmin : min c.most 64 = 64 := by omega
            have HM := Lib.hid hmin
            clear hmin
            go_wp2_with fail
            go_meet
            case rel => exact ⟨by rw [HM.out], rfl⟩
          · have hmin : min c.most 64 = c.most := by omega
            have HM := Lib.hid hmin
            clear hmin
            go_wp2_with fail
            go_meet
            case rel => exact ⟨by rw [HM.out], rfl⟩
        case rest =>
          obtain ⟨rfl, rfl⟩ := hcut
          go_wp2_with fail
          have HAPART : Hid (∀ x, RFoot R x → ¬ x = wa.heap.size + 1) := Lib.hid (fun x hx e => by have := hwl.out x hx; omega)
          have HW8 : Hid (w.heap.size ≤ wa.heap.size + 1) := Lib.hid (by have := HWA.out; omega)
          obtain ⟨mo, hmo, hm1, hm2⟩ : ∃ mo : Int, mo = min c.most 64 ∧ 1 ≤ mo ∧ mo ≤ 64 := ⟨_, rfl, by omega, by omega⟩
          rw [← hmo]
          have HMO := Lib.hid hmo
          obtain ⟨pn, hpn⟩ : ∃ pn : Nat, c.piece = pn := ⟨c.piece.toNat, by omega⟩
          rw [hpn, Int.toNat_natCast] at HV2
          have HPN := Lib.hid hpn
          have hpn1 : 1 ≤ pn := by omega
          clear hmo hpn hn2 kk8 kk9 kk2
          obtain ⟨h0, HH0⟩ : ∃ h0, Hid (h0 = hashC c.seed (wrap64 (c.rd b + 1)) b p) := ⟨_, Lib.hid rfl⟩
          rw [← HH0.out] at HV2
          have hk1 : k ≤ 2048 := by omega
          have hk0 : 1 ≤ k := by omega
          obtain ⟨wm, rfl⟩ : ∃ wm : World, wm = wc := ⟨_, rfl⟩
          obtain ⟨g, hg⟩ : ∃ g, g = wa.heap.size + 1 := ⟨_, rfl⟩
          rw [← hg] at HB HAPART HW8 ⊢
          have HG := Lib.hid hg
          clear hg
          have H8 : Hid (∀ wq, Stays (· = g) wm wq → RefAt wq R { c with rd := upd c.rd b (wrap64 (c.rd b + 1)) } ∧ Stays (RFoot R) w wq) :=
            Lib.hid (fun wq hq => ⟨HR9.out.stays hq HAPART.out, HS9.out.fresh hq HW8.out⟩)
          clear HR9 HS9 HAPART HW8
          go_loopw [12, 13] (fun va vk wq => ∃ j : Nat, vk = .int .i64 j ∧ va = .int .i64 (nTo c.most pn h0 s.data.toList j).1 ∧ j ≤ 2048 ∧ Hid (BytesAt wq g (nTo c.most pn h0 s.data.toList j).2) ∧ Hid (Stays (· = g) wm wq)) (fun va _ _ => 2048 - (intOf va).toNat)
          case atStart => exact ⟨0, rfl, rfl, by omega, HB, Lib.hid (Stays.refl _ _)⟩
          case round =>
            obtain ⟨wq, rfl⟩ : ∃ wq : World, wq = wr := ⟨_, rfl⟩
            obtain ⟨j, rfl, rfl, hj, hB, hS⟩ := hrel
            have h9 := (H8.out _ hS.out).1
            have q9 : wq.cell? ⟨R.a, 9, none⟩ = some (.int .i64 (pn : Int)) := by rw [← HPN.out]; exact h9.ca 9 (by decide)
            have q7 : wq.cell? ⟨R.a, 7, none⟩ = some (.int .i64 c.seed) := h9.ca 7 (by decide)
            have q5 : wq.cell? ⟨R.a, 5, none⟩ = some (.slice (some ⟨R.rr, 0, none⟩) c.nb c.nb) := h9.ca 5 (by decide)
            have qr : wq.cell? ⟨R.rr, b, none⟩ = some (.int .i64 (upd c.rd b (wrap64 (c.rd b + 1)) b)) := h9.cr b hb
            rw [upd_same] at qr
            clear h9
            have hlen := nTo_len (most := c.most) (piece := pn) (h := h0) (l := s.data.toList) j
            have hle := nTo_le (most := c.most) (piece := pn) (h := h0) (l := s.data.toList) j
            have hmore := nTo_more (most := c.most) (piece := pn) (h := h0) (l := s.data.toList) (by omega) j
            rw [HHL.out] at hlen hle hmore
            have HMIN := Lib.hid (nTo_min (most := c.most) (piece := pn) (h := h0) (l := s.data.toList) (k := j))
            have HFIN := Lib.hid (fun hk => noiseL_at (most := c.most) (piece := pn) (h := h0) (l := s.data.toList) (k := j) (by omega) hk)
            generalize hnk : nTo c.most pn h0 s.data.toList j = nk at *
            obtain ⟨pos, l⟩ := nk
            dsimp only at hlen hle hmore hB
            clear hnk
            by_cases hlt : pos < k
            · have HLEN := Lib.hid hlen
              have hle2 : ((k : Int) - (pos : Int)) = ((k - pos : Nat) : Int) := by omega
              have hj2 : j < 2048 := by omega
              clear hlen hmore
              go_upto_if 115 with fail
              go_cut [14] (fun s14 wz => s14 = .int .i64 (min pn (k - pos) : Nat) ∧ wz = wq)
              case first =>
                by_cases hpl : (pn : Int) < (k : Int) - (pos : Int)
                · have HM : Hid (min pn (k - pos) = pn) := Lib.hid (by omega)
                  go_wp2_with fail
                  go_meet
                  case rel => exact ⟨by rw [HM.out], rfl⟩
                · have HM : Hid (min pn (k - pos) = k - pos) := Lib.hid (by omega)
                  go_wp2_with fail
                  go_meet
                  case rel => exact ⟨by rw [HM.out], rfl⟩
              case rest =>
                obtain ⟨rfl, rfl⟩ := hcut
                obtain ⟨wq, rfl⟩ : ∃ wq : World, wq = wc := ⟨_, rfl⟩
                obtain ⟨m, hm⟩ : ∃ m, m = min pn (k - pos) := ⟨_, rfl⟩
                have hmb1 : 1 ≤ m := by omega
                have hmb2 : pos + m ≤ k := by omega
                rw [← hm]
                have HM := Lib.hid hm
                have hku : IntKind.u64.wrap (j : Int) = (j : Int) := wrap_u64_nat j hj
                clear hm hle2
                go_wp2_with fail
                go_quiet (fail)
                clear hku q5 qr q7 q9
                have hhd : bits BinOp.xor IntKind.u64 (bits BinOp.xor IntKind.u64 (bits BinOp.xor IntKind.u64 (bits BinOp.xor IntKind.u64 (IntKind.u64.wrap c.seed) (IntKind.u64.wrap (IntKind.u64.wrap (wrap64 (c.rd b + 1)) * 11400714819323198485))) (IntKind.u64.wrap ((b : Int) * 14029467366897019727))) (IntKind.u64.wrap ((p : Int) * 1609587929392839161))) (IntKind.u64.wrap ((j : Int) * 2870177450012600261)) = pieceH (hashC c.seed (wrap64 (c.rd b + 1)) b p) j := rfl
                rw [hhd, ← HH0.out]
                clear hhd
                obtain ⟨H, hH0, hH1, HH⟩ : ∃ H : Int, 0 ≤ H / 8589934592 ∧ H / 8589934592 ≤ 2147483647 ∧ Hid (H = pieceH h0 j) :=
                  ⟨_, (by have := (xor64_bd h0 (IntKind.u64.wrap ((j : Int) * 2870177450012600261))).1; omega), (xor64_bd _ _).2, Lib.hid rfl⟩
                rw [← HH.out]
                have hr0 : 0 ≤ H / 8589934592 % mo := Int.emod_nonneg _ (by omega)
                have hr1 : H / 8589934592 % mo < 64 := by have := Int.emod_lt_of_pos (H / 8589934592) (show 0 < mo by omega); omega
                have htm : (timesOf mo H : Int) = H / 8589934592 % mo + 1 := by rw [timesOf]; omega
                have HTM := Lib.hid htm
                have hT : timesOf mo H ≤ 64 := by omega
                clear htm
                go_wp2_with fail
                rw [← HTM.out]
                have hgm : g < wq.heap.size := World.block_lt_of_cell? _ _ (hB.out.cell 0 (by have := HLEN.out; omega))
                have HBd : Hid (BytesAt (wq.drewN nq) g l) := Lib.hid (hB.out.stays (S := fun _ => False) hgm (Stays.drewN (Stays.refl _ _) _) id)
                have HSd : Hid (Stays (· = g) wm (wq.drewN nq)) := Lib.hid (hS.out.drewN _)
                generalize hTT : timesOf mo H = T at *
                have HT3 := Lib.hid hTT
                clear hTT hr0 hr1
                go_loopw [15, 17] (fun vh vi wt => ∃ q : Nat, q ≤ T ∧ vh = .int .u64 (turnTo pos m H l q).1 ∧ vi = .int .i64 q ∧ Hid (BytesAt wt g (turnTo pos m H l q).2) ∧ Hid (Stays (· = g) wm wt)) (fun _ i _ => T - (intOf i).toNat)
                case atStart => exact ⟨0, Nat.zero_le _, rfl, rfl, HBd, HSd⟩
                case round =>
                  obtain ⟨q, hq, rfl, rfl, hBq, hSq⟩ := hrel
                  obtain ⟨H1, hA0, hA1, eH, hv⟩ : ∃ H1 : Int, 0 ≤ H1 / 8589934592 ∧ H1 / 8589934592 ≤ 2147483647 ∧ IntKind.u64.wrap (IntKind.u64.wrap ((turnTo pos m H l q).1 * 6364136223846793005) + 1442695040888963407) = H1 ∧ Hid (H1 = lcg (turnTo pos m H l q).1) :=
                    ⟨_, by have := lcg_bd (turnTo pos m H l q).1; omega, (lcg_bd _).2, lcg_eq _, Lib.hid rfl⟩
                  obtain ⟨bit, hbit, eB⟩ : ∃ bit : Nat, bit < 8 * m ∧ H1 / 8589934592 % (8 * (m : Int)) = (bit : Int) := by
                    have h1 := Int.emod_nonneg (H1 / 8589934592) (show (8 * (m : Int)) ≠ 0 by omega)
                    have h2 := Int.emod_lt_of_pos (H1 / 8589934592) (show 0 < 8 * (m : Int) by omega)
                    exact ⟨(H1 / 8589934592 % (8 * (m : Int))).toNat, by omega, by omega⟩
                  have hbv : Hid (bitOf m (lcg (turnTo pos m H l q).1) = bit) := by
                    rw [bitOf, ← hv.out, eB]; exact Int.toNat_natCast bit
                  have hlt8 : bit / 8 < m := by omega
                  have hlenq : pos + bit / 8 < (turnTo pos m H l q).2.length := by rw [turnTo_len]; have := HLEN.out; omega
                  have hcell : wr.cell? ⟨g, pos + bit / 8, none⟩ = _ := hBq.out.cell (pos + bit / 8) hlenq
                  have hfree := hBq.out.free (pos + bit / 8) hlenq
                  by_cases hlq : q < T
                  · have HLQ := Lib.hid hlq
                    go_upto_region 33 with fail
                    go_region
                    go_wp2
                    go_roundw
                    case rel =>
                      refine ⟨q + 1, by have := HLQ.out; omega, ?_, by go_num, ?_, Lib.hid (hSq.out.setCell (p := ⟨g, pos + bit / 8, none⟩) rfl _).drew⟩
                      · rw [hv.out]; rfl
                      · rw [turnTo, hbv.out]
                        refine Lib.hid (BytesAt.drew (BytesAt.flip hBq.out _ _ hlenq _ ?_))
                        rw [xor_u8 _ _ (by omega)]; simp [hlenq]
                    case measure =>
                      have hlq := HLQ.out
                      simp [intOf]; omega
                  · obtain rfl : q = T := by omega
                    clear eH eB hcell hfree
                    go_wp2_with fail
                    go_roundw
                    case rel =>
                      have e1 := HMIN.out (by show pos < _; rw [HHL.out]; exact hlt)
                      have e2 : nTo c.most pn h0 s.data.toList (j + 1) = (pos + m, (turnTo pos m H l q).2) := by
                        rw [e1]
                        show (pos + min pn (s.data.toList.length - pos), turnL c.most pos (min pn (s.data.toList.length - pos)) (pieceH h0 j) l) = _
                        rw [HHL.out, ← HM.out, ← HH.out]
                        unfold turnL
                        rw [← HMO.out, HT3.out]
                      exact ⟨j + 1, by go_num, by rw [e2]; go_num, by omega, by rw [e2]; exact hBq, hSq⟩
                    case measure => simp [intOf]; omega
            · have hpe : pos = k := by omega
              have hconv := back_conv wq g k l hB.out
              rw [hlen] at hconv
              have HF := Lib.hid (HFIN.out (by show pos = _; rw [HHL.out]; exact hpe))
              have HE := Lib.hid hpe
              clear hpe hlen hmore
              go_wp2_with fail
              go_ret2
              exact ⟨by rw [HV2.out, HF.out]; rfl, (H8.out _ hS.out).1, (H8.out _ hS.out).2⟩

end Go.Proofs.Ythoadcibknaelaa
