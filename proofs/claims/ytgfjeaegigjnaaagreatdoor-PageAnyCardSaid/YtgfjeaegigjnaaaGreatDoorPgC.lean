/- Reading a chip; its noise; what stays true of it. -/
import Derived.Test.YtgfjeaegigjnaaaGreatDoorPgB
import Derived.Test.YtgfjeaegigjnaaaGreatDoorShelf
import Derived.Outline
import Derived.Deep.DeepCutAuto
import Derived.Deep.CutBlock
import Derived.Deep.QuietTactic
import Derived.BigQuiet
import Derived.StillTailTactics
import Derived.Lib.ConvBytes
namespace Go.Proofs.YtgfjeaegigjnaaaGreatDoor
open Go.RowKit
set_option linter.unusedVariables false
set_option linter.unusedSimpArgs false
variable {L : Lay} {c : Chp} {w : World}

def GoodPg (bytes : Int) (p : Pg) : Prop := p.st = 0 ∨ p.st = 2 ∨ (p.st = 1 ∧ (p.data.size : Int) = bytes)
def fill (n : Int) (b : UInt8) : ByteArray := ⟨(Lib.repeatL [b] n.toNat).toArray⟩
def dataC (bytes : Int) (p : Pg) : ByteArray := if p.st = 0 then fill bytes 255 else if p.st = 2 then fill bytes 0 else p.data
theorem repeatL_len (b : UInt8) : ∀ n, (Lib.repeatL [b] n).length = n
  | 0 => rfl
  | n + 1 => by rw [Lib.repeatL, List.length_append, repeatL_len]; simp; omega
theorem fill_size (n : Int) (b : UInt8) (h : 0 ≤ n) : ((fill n b).size : Int) = n := by
  have : (fill n b).size = n.toNat := by
    show (Lib.repeatL [b] n.toNat).toArray.size = _
    rw [List.size_toArray, repeatL_len]
  omega
theorem dataC_size {bytes : Int} {p : Pg} (h : GoodPg bytes p) (h0 : 0 ≤ bytes) : ((dataC bytes p).size : Int) = bytes := by
  unfold dataC
  rcases h with h | h | h
  · rw [if_pos h, fill_size _ _ h0]
  · rw [if_neg (by omega), if_pos h, fill_size _ _ h0]
  · rw [if_neg (by omega), if_neg (by omega)]; exact h.2
theorem conv_str (s : ByteArray) (W : World) : (convert 9 47 (.string s)).run Tryz.prog W = .ok (.slice (some ⟨W.heap.size, 0, none⟩) s.size (grownCap W s.size 0 5)) (Lib.bytesWorld W 5 s) :=
  Lib.run_convert_string_bytes W 9 47 5 s (u := .string) (by kernel_rfl) (by kernel_rfl) (by kernel_rfl)
theorem bytesWorld_stays (w : World) (s : ByteArray) (S : Nat → Prop) : Stays S w (Lib.bytesWorld w 5 s) := by
  refine ⟨?_, ?_, ?_, by rw [Lib.bytesWorld_size]; omega, fun k hk _ => Lib.bytesWorld_at_old _ _ _ _ hk⟩ <;>
    (unfold Lib.bytesWorld World.freeze; rw [if_neg (by omega)]; rfl)
theorem bytesWorld_bytes (w : World) (s : ByteArray) : BytesAt (Lib.bytesWorld w 5 s) w.heap.size s.data.toList := by
  refine ⟨fun j hj => Lib.bytesWorld_cell _ _ _ _ (by simpa using hj), fun j hj => ?_⟩
  have hj' : j < s.size := by simpa using hj
  have hsz : s.size ≤ (Lib.bytesCells w 5 s).size := by unfold Lib.bytesCells; simp
  simp only [World.frozen?, Lib.bytesWorld_at_new]
  simp; omega
def wx64 (x y : Int) : Int := bits BinOp.xor IntKind.u64 x y
def hashC (seed reads : Int) (b p : Int) : Int :=
  bits BinOp.xor IntKind.u64 (bits BinOp.xor IntKind.u64 (bits BinOp.xor IntKind.u64 (IntKind.u64.wrap seed) (IntKind.u64.wrap (IntKind.u64.wrap reads * 11400714819323198485))) (IntKind.u64.wrap (b * 14029467366897019727))) (IntKind.u64.wrap (p * 1609587929392839161))
theorem wrap_u64_nat (k : Nat) (hk : k ≤ 2048) : IntKind.u64.wrap (k : Int) = (k : Int) := by
  unfold IntKind.wrap
  simp [IntKind.bits, IntKind.signed]
  omega
theorem xor64_bd (x y : Int) : 0 ≤ bits BinOp.xor IntKind.u64 x y ∧ bits BinOp.xor IntKind.u64 x y / 8589934592 ≤ 2147483647 := by
  have h : ∀ n : Int, IntKind.u64.wrap n = n % 18446744073709551616 := fun n => by unfold IntKind.wrap; simp [IntKind.bits, IntKind.signed]
  have : ∃ n : Int, bits BinOp.xor IntKind.u64 x y = IntKind.u64.wrap n := ⟨_, rfl⟩
  obtain ⟨n, hn⟩ := this
  rw [hn, h]
  omega
def pieceH (h : Int) (k : Nat) : Int := bits BinOp.xor IntKind.u64 h (IntKind.u64.wrap ((k : Int) * 2870177450012600261))
/-- Where the noise stands behind k pieces, and the bytes. -/
def nTo (most : Int) (piece : Nat) (h : Int) (l : List UInt8) : Nat → Nat × List UInt8
  | 0 => (0, l)
  | k + 1 =>
    if (nTo most piece h l k).1 < l.length then
      if piece < l.length - (nTo most piece h l k).1 then
        ((nTo most piece h l k).1 + piece, turnL most (nTo most piece h l k).1 piece (pieceH h k) (nTo most piece h l k).2)
      else (l.length, turnL most (nTo most piece h l k).1 (l.length - (nTo most piece h l k).1) (pieceH h k) (nTo most piece h l k).2)
    else nTo most piece h l k
section
variable {most : Int} {piece : Nat} {h : Int} {l : List UInt8}
theorem nTo_a {k : Nat} (h1 : (nTo most piece h l k).1 < l.length) (h2 : piece < l.length - (nTo most piece h l k).1) : nTo most piece h l (k + 1) = ((nTo most piece h l k).1 + piece, turnL most (nTo most piece h l k).1 piece (pieceH h k) (nTo most piece h l k).2) := by
  rw [nTo, if_pos h1, if_pos h2]
theorem nTo_b {k : Nat} (h1 : (nTo most piece h l k).1 < l.length) (h2 : ¬ piece < l.length - (nTo most piece h l k).1) : nTo most piece h l (k + 1) = (l.length, turnL most (nTo most piece h l k).1 (l.length - (nTo most piece h l k).1) (pieceH h k) (nTo most piece h l k).2) := by
  rw [nTo, if_pos h1, if_neg h2]
theorem nTo_len : ∀ k, (nTo most piece h l k).2.length = l.length
  | 0 => rfl
  | k + 1 => by
    unfold nTo
    split
    · split
      · dsimp only; rw [turnL_len, nTo_len k]
      · dsimp only; rw [turnL_len, nTo_len k]
    · exact nTo_len k
theorem nTo_le : ∀ k, (nTo most piece h l k).1 ≤ l.length
  | 0 => Nat.zero_le _
  | k + 1 => by
    unfold nTo
    split
    · split
      · dsimp only; omega
      · exact Nat.le_refl _
    · exact nTo_le k
theorem nTo_more (hp : 1 ≤ piece) : ∀ k, (nTo most piece h l k).1 = l.length ∨ k ≤ (nTo most piece h l k).1
  | 0 => .inr (Nat.zero_le _)
  | k + 1 => by
    have ih := nTo_more hp k
    unfold nTo
    split
    · split
      · dsimp only; right; omega
      · left; rfl
    · left; have := nTo_le (most := most) (piece := piece) (h := h) (l := l) k; omega
theorem nTo_stop {k : Nat} (hk : (nTo most piece h l k).1 = l.length) : ∀ j, nTo most piece h l (k + j) = nTo most piece h l k
  | 0 => rfl
  | j + 1 => by
    rw [← Nat.add_assoc, nTo, if_neg (by rw [nTo_stop hk j]; omega), nTo_stop hk j]
end
/-- The bytes with noise. -/
def noiseL (most : Int) (piece : Nat) (h : Int) (l : List UInt8) : List UInt8 := (nTo most piece h l l.length).2
theorem noiseL_at {most : Int} {piece : Nat} {h : Int} {l : List UInt8} {k : Nat} (hp : 1 ≤ piece) (hk : (nTo most piece h l k).1 = l.length) : noiseL most piece h l = (nTo most piece h l k).2 := by
  unfold noiseL
  have hn : (nTo most piece h l l.length).1 = l.length := by
    rcases nTo_more (most := most) (h := h) (l := l) hp l.length with h1 | h1
    · exact h1
    · have := nTo_le (most := most) (piece := piece) (h := h) (l := l) l.length; omega
  rcases Nat.le_total k l.length with h1 | h1
  · obtain ⟨j, hj⟩ := Nat.le.dest h1
    rw [← hj, nTo_stop hk]
  · obtain ⟨j, hj⟩ := Nat.le.dest h1
    rw [← hj, nTo_stop hn]
/-- What a read gives. -/
def readS (c : Chp) (b p : Nat) : ByteArray :=
  if c.most < 1 ∨ c.piece < 1 then dataC c.bytes (c.pg b p)
  else ⟨(noiseL c.most c.piece.toNat (hashC c.seed (wrap64 (c.rd b + 1)) b p) (dataC c.bytes (c.pg b p)).data.toList).toArray⟩
set_option maxHeartbeats 4000000 in
set_option maxRecDepth 100000 in
theorem read_go (h : ChipAt w L c) (b p : Nat) (hb : b < c.nb) (hp : p < c.np) (hoff : c.off = false) (hg : GoodPg c.bytes (c.pg b p)) :
    Calls Tryz.prog 16 #[.pointer (some ⟨L.a, 0, none⟩), .int .i64 b, .int .i64 p] w fun e w' =>
    e = .returned (.tuple #[.string (readS c b p), .int .i64 0]) ∧ ChipAt w' L { c with rd := upd c.rd b (wrap64 (c.rd b + 1)) } ∧ Stays (Foot L c.nb) w w' := by
  have hhas : hasPB c b p = true := by simp [hasPB, hasB]; omega
  have hnb := h.nbn
  have hnp := h.npn
  have y0 := h.y0
  have y1 := h.y1
  have k0 := h.c0
  have k1 := h.c1
  have k2 := h.c2
  have k3 := h.c3
  have k4 := h.c4
  have k7 := h.c7
  rw [hoff] at k7
  have kb0 := h.b0 b hb
  have kb2 := h.b2 b hb
  have hfb := h.fb
  have kp0 := h.p0 b hb p hp
  have kp1 := h.p1 b hb p hp
  have hab := h.ab
  have hbp := h.bp b hb
  have hap := h.ap b hb
  have H1 := Lib.hid (h.sRd b hb (wrap64 (c.rd b + 1)))
  have HG := Lib.hid hg
  clear hg hoff
  go_enter Tryz.func16, Tryz.ntmps16
  go_wp2_with fail
  refine (hasPage_any h _ _).mono ?_; rintro e w' ⟨rfl, rfl⟩
  clear h
  go_upto_block 1 with fail
  go_cut [9] (fun s9 wx => s9 = .string (dataC c.bytes (c.pg b p)) ∧ Below (w.heap.size) (w.setCell ⟨L.arr, b * 4 + 2, none⟩ (.int .i64 (wrap64 (c.rd b + 1)))) wx)
  case first =>
    rcases HG.out with hs | hs | ⟨hs, hsz⟩
    · have e0 : ((c.pg b p).st == 0) = true := by simpa using hs
      have HS := Lib.hid hs
      clear hs
      go_wp2_with fail
      obtain ⟨n, hn⟩ : ∃ n : Nat, c.bytes = n := ⟨c.bytes.toNat, by omega⟩
      rw [hn]
      refine (Tryz.strings_Repeat _ n _ (by omega) (by show 1 * n ≤ _; omega)).mono ?_; rintro e w' ⟨rfl, hb'⟩
      go_wp2_with fail
      go_meet
      case rel =>
        rw [dataC, if_pos HS.out]
        exact ⟨by simp [fill, hn], by simpa using hb'⟩
    · have e0 : ((c.pg b p).st == 0) = false := by simp [hs]
      have e2 : ((c.pg b p).st == 2) = true := by simpa using hs
      have HS := Lib.hid hs
      clear hs
      go_wp2_with fail
      obtain ⟨n, hn⟩ : ∃ n : Nat, c.bytes = n := ⟨c.bytes.toNat, by omega⟩
      rw [hn]
      refine (Tryz.strings_Repeat _ n _ (by omega) (by show 1 * n ≤ _; omega)).mono ?_; rintro e w' ⟨rfl, hb'⟩
      go_wp2_with fail
      go_meet
      case rel =>
        rw [dataC, if_neg (by have := HS.out; omega), if_pos HS.out]
        exact ⟨by simp [fill, hn], by simpa using hb'⟩
    · have e0 : ((c.pg b p).st == 0) = false := by simp [hs]
      have e2 : ((c.pg b p).st == 2) = false := by simp [hs]
      have HS := Lib.hid hs
      clear hs
      go_wp2_with fail
      go_meet
      case rel =>
        rw [dataC, if_neg (by have := HS.out; omega), if_neg (by have := HS.out; omega)]
        exact ⟨rfl, Below.refl _ _⟩
  case rest =>
    obtain ⟨rfl, HB⟩ := hcut
    obtain ⟨wa, rfl⟩ : ∃ wa : World, wa = wc := ⟨_, rfl⟩
    have S1 : Stays (Foot L c.nb) w wa := ((Stays.refl _ _).setCell (p := ⟨L.arr, b * 4 + 2, none⟩) (foot_b _ _) _).below (by simpa using HB)
    have H2 : ChipAt wa L { c with rd := upd c.rd b (wrap64 (c.rd b + 1)) } := H1.out.stays (S := fun _ => False) (Stays.of_below (by simpa using HB)) (fun _ _ => id)
    clear k0 k1 k2 k3 k4 k7 kb0 kb2 hfb kp0 kp1 HB
    have k2 : wa.cell? ⟨L.a, 2, none⟩ = some (.int .i64 c.seed) := H2.c2
    have k3 : wa.cell? ⟨L.a, 3, none⟩ = some (.int .i64 c.most) := H2.c3
    have k4 : wa.cell? ⟨L.a, 4, none⟩ = some (.int .i64 c.piece) := H2.c4
    have kb2 : wa.cell? ⟨L.arr, b * 4 + 2, none⟩ = some (.int .i64 (upd c.rd b (wrap64 (c.rd b + 1)) b)) := H2.b2 b hb
    rw [upd_same] at kb2
    by_cases hn : c.most < 1 ∨ c.piece < 1
    · have hv : readS c b p = dataC c.bytes (c.pg b p) := if_pos hn
      have HV := Lib.hid hv
      clear hv
      by_cases hn1 : c.most < 1
      · clear hn
        go_wp2_with fail
        go_ret2
        exact ⟨by rw [HV.out]; rfl, H2.alloc _, S1.alloc _⟩
      · have hn2 : c.piece < 1 := by omega
        clear hn
        go_wp2_with fail
        go_ret2
        exact ⟨by rw [HV.out]; rfl, H2.alloc _, S1.alloc _⟩
    · have hn1 : ¬ c.most < 1 := by omega
      have hn2 : ¬ c.piece < 1 := by omega
      have hconv := conv_str (dataC c.bytes (c.pg b p))
      have HSZ := Lib.hid (dataC_size HG.out (by omega))
      generalize hs : dataC c.bytes (c.pg b p) = s at *
      have hS := Lib.hid hs
      clear hs
      go_upto_region 16 with fail
      go_cut [11] (fun s11 wz => ∃ g cap, s11 = .slice (some ⟨g, 0, none⟩) s.size cap ∧ s.size ≤ cap ∧ BytesAt wz g s.data.toList ∧ g = wa.heap.size + 1 ∧
        Stays (fun _ => False) wa wz ∧ wz.cell? ⟨wa.heap.size, 0, none⟩ = some (.int .i64 c.seed) ∧ wz.cell? ⟨wa.heap.size, 1, none⟩ = some (.int .i64 c.most) ∧ wz.cell? ⟨wa.heap.size, 2, none⟩ = some (.int .i64 c.piece))
      case first =>
        go_wp2_with fail
        go_meet
        case rel =>
          refine ⟨_, _, rfl, ?_, by have := bytesWorld_bytes (wa.alloc (Obj.cells #[.int .i64 c.seed, .int .i64 c.most, .int .i64 c.piece] 74)) s; simpa using this, by simp, ((Stays.refl _ _).alloc _).trans (bytesWorld_stays _ s _), ?_, ?_, ?_⟩
          · exact grownCap_ge _ _ _ _
          · rw [Lib.bytesWorld_old _ _ _ _ (by simp)]; simp
          · rw [Lib.bytesWorld_old _ _ _ _ (by simp)]; simp
          · rw [Lib.bytesWorld_old _ _ _ _ (by simp)]; simp
      case rest =>
        obtain ⟨g, cap, rfl, hcap, HBy, rfl, S3, m0, m1, m2⟩ := hcut
        have H4 : ChipAt wc L { c with rd := upd c.rd b (wrap64 (c.rd b + 1)) } := H2.stays S3 (fun _ _ => id)
        have S4 : Stays (Foot L c.nb) w wc := S1.trans (S3.mono (fun _ => False.elim))
        have kz : wc.cell? ⟨L.arr, b * 4 + 2, none⟩ = some (.int .i64 (wrap64 (c.rd b + 1))) := S3.cell kb2 id
        have la : L.a < wa.heap.size := World.block_lt_of_cell? _ _ k2
        have lb : L.arr < wa.heap.size := World.block_lt_of_cell? _ _ kb2
        have hfoot : ∀ x, Foot L c.nb x → x < wa.heap.size := by
          rintro x (h | h | ⟨i, hi, h⟩)
          · omega
          · omega
          · rw [h]; exact World.block_lt_of_cell? _ _ (H2.p0 i hi 0 H2.np0)
        have HFOOT := Lib.hid hfoot
        have HWA := Lib.hid S1.size
        clear k2 k3 k4 kb2 H1 H2 S1 S3 hfoot
        go_upto_region 17 with fail
        go_quiet (fail)
        go_wp2_with fail
        have hhd : bits BinOp.xor IntKind.u64 (bits BinOp.xor IntKind.u64 (bits BinOp.xor IntKind.u64 (IntKind.u64.wrap c.seed) (IntKind.u64.wrap (IntKind.u64.wrap (wrap64 (c.rd b + 1)) * 11400714819323198485))) (IntKind.u64.wrap ((b : Int) * 14029467366897019727))) (IntKind.u64.wrap ((p : Int) * 1609587929392839161)) = hashC c.seed (wrap64 (c.rd b + 1)) b p := rfl
        rw [hhd]
        clear hhd
        have hv : readS c b p = ⟨(noiseL c.most c.piece.toNat (hashC c.seed (wrap64 (c.rd b + 1)) b p) s.data.toList).toArray⟩ := by
          unfold readS; rw [if_neg hn, hS.out]
        have HV := Lib.hid hv
        clear hv hS
        generalize hashC c.seed (wrap64 (c.rd b + 1)) b p = h0 at *
        obtain ⟨pn, hpn⟩ : ∃ pn : Nat, c.piece = pn := ⟨c.piece.toNat, by omega⟩
        rw [hpn, Int.toNat_natCast] at HV
        rw [hpn] at m2
        have hpn1 : 1 ≤ pn := by omega
        clear hpn hn2 hn
        have hs1 : (s.size : Int) = c.bytes := HSZ.out
        have hg : wa.heap.size + 1 < wc.heap.size := World.block_lt_of_cell? _ _ (HBy.cell 0 (by simp; omega))
        clear hs1
        go_loopw [13, 14] (fun vk va wr => ∃ k : Nat, vk = .int .i64 k ∧ va = .int .i64 (nTo c.most pn h0 s.data.toList k).1 ∧ k ≤ 2048 ∧ Hid (BytesAt wr (wa.heap.size + 1) (nTo c.most pn h0 s.data.toList k).2) ∧ Hid (Stays (· = wa.heap.size + 1) wc wr)) (fun _ va _ => 2048 - (intOf va).toNat)
        case atStart => exact ⟨0, rfl, rfl, by omega, ⟨HBy.cell, HBy.free⟩, Stays.drewN (Stays.refl _ _) _⟩
        case round =>
          obtain ⟨k, rfl, rfl, hk, hB, hS⟩ := hrel
          have n0 := hS.out.cell m0 (fun e : wa.heap.size = wa.heap.size + 1 => by omega)
          have n1 := hS.out.cell m1 (fun e : wa.heap.size = wa.heap.size + 1 => by omega)
          have n2 := hS.out.cell m2 (fun e : wa.heap.size = wa.heap.size + 1 => by omega)
          have hlen := nTo_len (most := c.most) (piece := pn) (h := h0) (l := s.data.toList) k
          have hle := nTo_le (most := c.most) (piece := pn) (h := h0) (l := s.data.toList) k
          have hmore := nTo_more (most := c.most) (piece := pn) (h := h0) (l := s.data.toList) (by omega) k
          have hsl : s.data.toList.length = s.size := by simp
          rw [hsl] at hlen hle hmore
          have hs1 : (s.size : Int) = c.bytes := HSZ.out
          have hs2 : s.size ≤ 2048 := by omega
          have hs3 : 1 ≤ s.size := by omega
          have hsa := Lib.hid (nTo_a (most := c.most) (piece := pn) (h := h0) (l := s.data.toList) (k := k))
          have hsb := Lib.hid (nTo_b (most := c.most) (piece := pn) (h := h0) (l := s.data.toList) (k := k))
          have hfin := Lib.hid (fun hk => noiseL_at (most := c.most) (piece := pn) (h := h0) (l := s.data.toList) (k := k) (by omega) hk)
          generalize hnk : nTo c.most pn h0 s.data.toList k = nk at *
          obtain ⟨pos, l⟩ := nk
          dsimp only at hlen hle hmore hB
          have HSL := Lib.hid hsl
          have hku : IntKind.u64.wrap (k : Int) = (k : Int) := wrap_u64_nat k hk
          clear m0 m1 m2 hs1 hsl hnk
          by_cases hlt : pos < s.size
          · by_cases hpl : pn < s.size - pos
            · have hpl' : (pn : Int) < (s.size : Int) - (pos : Int) := by omega
              go_upto_region 24 with fail
              have q1 : (0 : Int) ≤ (pos : Int) + (pn : Int) := by omega
              have q2 : ((pos : Int) + (pn : Int)).toNat = pos + pn := by omega
              have q3 : (pos : Int) + (pn : Int) ≤ (cap : Int) := by omega
              have q4 : (pos : Int) ≤ (pos : Int) + (pn : Int) := by omega
              go_still_tail 10, (by kernel_rfl)
              change wpList _ _ _ _ _ wr.drew
              go_wp2_with fail
              clear q1 q2 q3 q4
              refine (turn_go (wa.heap.size + 1) pos pn _ l c.seed c.most (min c.most 64) pn _ _ (by omega) (by omega) (by omega) hn1 rfl (xor64_bd _ _).1 (xor64_bd _ _).2 hB.out.drew).mono ?_; rintro e w2 ⟨rfl, HB2, HS2⟩
              all_goals
                have HB2' := Lib.hid HB2
                have HS2' := Lib.hid HS2
                have HLT := Lib.hid hlt
                have HPL := Lib.hid hpl
                clear HB2 HS2
                go_wp2
                go_roundw
                case rel =>
                  have hlt := HLT.out
                  have e1 := hsa.out (by rw [HSL.out]; exact hlt) (by rw [HSL.out]; exact HPL.out)
                  exact ⟨k + 1, by go_num, by rw [e1]; rfl, by omega, by rw [e1]; exact HB2'.out, hS.out.drew.trans HS2'.out⟩
                case measure =>
                  have hlt := HLT.out
                  have hpl := HPL.out
                  simp [intOf]; omega
            · have hpl' : ¬ ((pn : Int) < (s.size : Int) - (pos : Int)) := by omega
              go_upto_region 24 with fail
              go_still_tail 10, (by kernel_rfl)
              change wpList _ _ _ _ _ wr.drew
              go_wp2_with fail
              refine (turn_go _ _ _ _ l _ _ (min c.most 64) _ _ _ (by omega) (by omega) (by omega) hn1 rfl (xor64_bd _ _).1 (xor64_bd _ _).2 hB.out.drew).mono ?_; rintro e w2 ⟨rfl, HB2, HS2⟩
              all_goals
                have HB2' := Lib.hid HB2
                have HS2' := Lib.hid HS2
                have HLT := Lib.hid hlt
                have HPL := Lib.hid hpl
                clear HB2 HS2
                go_wp2
                go_roundw
                case rel =>
                  have hlt := HLT.out
                  have e1 := hsb.out (by rw [HSL.out]; exact hlt) (by rw [HSL.out]; exact HPL.out)
                  rw [HSL.out] at e1
                  exact ⟨k + 1, by go_num, by rw [e1], by omega, by rw [e1]; exact HB2'.out, hS.out.drew.trans HS2'.out⟩
                case measure =>
                  have hlt := HLT.out
                  simp [intOf]; omega
          · have hpe : pos = s.size := by omega
            have hconv := run_convert_bytes_back (P := Tryz.prog) wr 47 9 5 ⟨wa.heap.size + 1, 0, none⟩ cap l (by kernel_rfl) (by kernel_rfl) (by kernel_rfl) (by
              intro j hj
              have := hB.out.cell j hj
              rw [show (⟨wa.heap.size + 1, 0, none⟩ : Addr).add j = ⟨wa.heap.size + 1, j, none⟩ by unfold Addr.add; split <;> simp_all]
              rw [this]; simp [hj])
            rw [hlen] at hconv
            have HF := Lib.hid (hfin.out (by rw [HSL.out]; exact hpe))
            clear hpe
            go_wp2_with fail
            go_ret2
            refine ⟨by rw [HV.out, HF.out]; rfl, H4.stays hS.out (fun x hx h2 => ?_), S4.fresh hS.out (by have := HWA.out; omega)⟩
            have := HFOOT.out x hx
            omega
/-- What a read comes to: the bytes, the error, the chip behind it. -/
def readC (c : Chp) (b p : Int) : ByteArray × Int × Chp :=
  if hasPB c b p = true then
    if c.off = true then (⟨#[]⟩, 20, c) else (readS c b.toNat p.toNat, 0, { c with rd := upd c.rd b.toNat (wrap64 (c.rd b.toNat + 1)) })
  else (⟨#[]⟩, 1, c)
set_option maxRecDepth 100000 in
set_option maxHeartbeats 800000 in
theorem read_any (h : ChipAt w L c) (b p : Int) (hg : ∀ i j, i < c.nb → j < c.np → GoodPg c.bytes (c.pg i j)) : Calls Tryz.prog 16 #[.pointer (some ⟨L.a, 0, none⟩), .int .i64 b, .int .i64 p] w fun e w' =>
    e = .returned (.tuple #[.string (readC c b p).1, .int .i64 (readC c b p).2.1]) ∧ ChipAt w' L (readC c b p).2.2 ∧ Stays (Foot L c.nb) w w' := by
  by_cases hb : hasPB c b p = true
  · obtain ⟨n, m, rfl, rfl, hn, hm⟩ := hasPB_nat hb
    cases ho : c.off with
    | false =>
      have hv : readC c (n : Int) (m : Int) = (readS c n m, 0, { c with rd := upd c.rd n (wrap64 (c.rd n + 1)) }) := by
        unfold readC; rw [if_pos hb, ho]; rfl
      rw [hv]
      exact read_go h n m hn hm ho (hg n m hn hm)
    | true =>
      have hv : readC c (n : Int) (m : Int) = (⟨#[]⟩, 20, c) := by
        unfold readC; rw [if_pos hb, ho]; rfl
      have HV := Lib.hid hv
      have k7 := h.c7
      rw [ho] at k7
      clear hv hg ho
      go_enter Tryz.func16, Tryz.ntmps16
      go_wp2_with fail
      refine (hasPage_any h _ _).mono ?_; rintro e w' ⟨rfl, rfl⟩
      go_wp2_with fail
      go_ret2
      rw [HV.out]
      exact ⟨rfl, h, Stays.refl _ _⟩
  · have hb' : hasPB c b p = false := by simpa using hb
    have hv : readC c b p = (⟨#[]⟩, 1, c) := if_neg hb
    have HV := Lib.hid hv
    clear hv hb hg
    go_enter Tryz.func16, Tryz.ntmps16
    go_wp2_with fail
    refine (hasPage_any h _ _).mono ?_; rintro e w' ⟨rfl, rfl⟩
    go_wp2_with fail
    go_ret2
    rw [HV.out]
    exact ⟨rfl, h, Stays.refl _ _⟩
set_option maxRecDepth 100000 in
set_option maxHeartbeats 400000 in
theorem read_nil (b p : Int) (w : World) : Calls Tryz.prog 16 #[.pointer none, .int .i64 b, .int .i64 p] w fun e w' => e = .returned (.tuple #[.string ⟨#[]⟩, .int .i64 1]) ∧ w = w' := by
  go_enter Tryz.func16, Tryz.ntmps16
  go_wp2_with fail
  refine (hasPage_nil _ _ _).mono ?_; rintro e w' ⟨rfl, rfl⟩
  go_wp2_with fail
  go_ret2
  exact ⟨rfl, rfl⟩
end Go.Proofs.YtgfjeaegigjnaaaGreatDoor

namespace Go.Proofs.YtgfjeaegigjnaaaGreatDoor
open Go.RowKit
set_option linter.unusedVariables false
set_option linter.unusedSimpArgs false

/-- How many bits of a number are set, of its first so many. -/
def popF : Nat → Nat → Nat
  | 0, _ => 0
  | f + 1, x => if x = 0 then 0 else x % 2 + popF f (x / 2)
def pop (x : UInt8) : Nat := popF 8 x.toNat
theorem pop_all : ((List.range 256).all fun z => (List.range 8).all fun k => decide (popF 8 (z ^^^ 2 ^ k) ≤ popF 8 z + 1)) = true := by decide +kernel
theorem pop_flip (z : UInt8) (k : Nat) (hk : k < 8) : pop (z ^^^ UInt8.ofNat (2 ^ k)) ≤ pop z + 1 := by
  have h := pop_all
  rw [List.all_eq_true] at h
  have h1 := h z.toNat (by have := z.toNat_lt; simp; omega)
  rw [List.all_eq_true] at h1
  have h2 := h1 k (by simp; omega)
  have hk2 : 2 ^ k < 256 := by
    have hks : k = 0 ∨ k = 1 ∨ k = 2 ∨ k = 3 ∨ k = 4 ∨ k = 5 ∨ k = 6 ∨ k = 7 := by omega
    rcases hks with rfl | rfl | rfl | rfl | rfl | rfl | rfl | rfl <;> decide
  unfold pop
  rw [UInt8.toNat_xor, UInt8.toNat_ofNat', Nat.mod_eq_of_lt hk2]
  simpa using h2
/-- A sum over m places from a on. -/
def D (f : Nat → Nat) (a : Nat) : Nat → Nat
  | 0 => 0
  | m + 1 => D f a m + f (a + m)
theorem D_congr {f g : Nat → Nat} {a : Nat} : ∀ m, (∀ t, a ≤ t → t < a + m → f t = g t) → D f a m = D g a m
  | 0, _ => rfl
  | m + 1, h => by rw [D, D, D_congr m (fun t h1 h2 => h t h1 (by omega)), h (a + m) (by omega) (by omega)]
theorem D_one {f g : Nat → Nat} {a i : Nat} (hi : f i ≤ g i + 1) (ho : ∀ t, t ≠ i → f t = g t) : ∀ m, D f a m ≤ D g a m + 1
  | 0 => by simp [D]
  | m + 1 => by
    rw [D, D]
    by_cases h : a + m = i
    · rw [D_congr m (fun t h1 h2 => ho t (by omega)), h]; omega
    · rw [ho _ h]; have := D_one (a := a) hi ho m; omega
theorem D_mono {f : Nat → Nat} {a : Nat} {m m' : Nat} (h : m ≤ m') : D f a m ≤ D f a m' := by
  induction m' with
  | zero => rw [show m = 0 by omega]; exact Nat.le_refl _
  | succ n ih =>
    by_cases e : m = n + 1
    · rw [e]; exact Nat.le_refl _
    · have := ih (by omega); rw [D]; omega
/-- How many bits differ at each place. -/
def dif (w l : List UInt8) (t : Nat) : Nat := pop (l.getD t 0 ^^^ w.getD t 0)
theorem flipB_get (l : List UInt8) (i k t : Nat) : (flipB l i k).getD t 0 = if t = i ∧ t < l.length then l.getD t 0 ^^^ UInt8.ofNat (2 ^ k) else l.getD t 0 := by
  unfold flipB
  rw [List.getD_eq_getElem?_getD, List.getElem?_set]
  by_cases h : i = t
  · subst h
    by_cases h2 : i < l.length
    · simp [h2]
    · simp [h2]
  · rw [if_neg h, if_neg (fun e => h e.1.symm), List.getD_eq_getElem?_getD]
theorem dif_flip_at (w l : List UInt8) (i k : Nat) (hk : k < 8) : dif w (flipB l i k) i ≤ dif w l i + 1 := by
  unfold dif
  rw [flipB_get]
  split
  · have := pop_flip (l.getD i 0 ^^^ w.getD i 0) k hk
    rw [UInt8.xor_assoc, UInt8.xor_comm (w.getD i 0), ← UInt8.xor_assoc] at this
    exact this
  · omega
theorem dif_flip_off (w l : List UInt8) (i k t : Nat) (h : t ≠ i) : dif w (flipB l i k) t = dif w l t := by
  unfold dif
  rw [flipB_get, if_neg (fun e => h e.1)]
theorem bitOf_lt (m : Nat) (h : Int) (hm : 1 ≤ m) : bitOf m h / 8 < m := by
  unfold bitOf
  have h1 := Int.emod_nonneg (h / 8589934592) (show (8 * (m : Int)) ≠ 0 by omega)
  have h2 := Int.emod_lt_of_pos (h / 8589934592) (show 0 < 8 * (m : Int) by omega)
  omega
theorem turnTo_off (w : List UInt8) (o m : Nat) (hm : 1 ≤ m) (h : Int) (l : List UInt8) (t : Nat) (ht : t < o ∨ o + m ≤ t) : ∀ k, dif w (turnTo o m h l k).2 t = dif w l t
  | 0 => rfl
  | k + 1 => by
    rw [turnTo]
    dsimp only
    rw [dif_flip_off, turnTo_off w o m hm h l t ht k]
    have := bitOf_lt m (lcg (turnTo o m h l k).1) hm
    omega
theorem turnTo_D (w : List UInt8) (o m : Nat) (h : Int) (l : List UInt8) : ∀ k, D (dif w (turnTo o m h l k).2) o m ≤ D (dif w l) o m + k
  | 0 => Nat.le_refl _
  | k + 1 => by
    rw [turnTo]
    dsimp only
    have h1 := D_one (a := o) (dif_flip_at w (turnTo o m h l k).2 (o + bitOf m (lcg (turnTo o m h l k).1) / 8) (bitOf m (lcg (turnTo o m h l k).1) % 8) (by omega)) (fun t ht => dif_flip_off w _ _ _ t ht) m
    have h2 := turnTo_D w o m h l k
    omega
theorem turnL_off (w : List UInt8) (most : Int) (o m : Nat) (hm : 1 ≤ m) (h : Int) (l : List UInt8) (t : Nat) (ht : t < o ∨ o + m ≤ t) : dif w (turnL most o m h l) t = dif w l t := turnTo_off w o m hm h l t ht _
theorem turnL_D (w : List UInt8) (most : Int) (h1 : 1 ≤ most) (h2 : most ≤ 64) (o m : Nat) (h : Int) (l : List UInt8) : (D (dif w (turnL most o m h l)) o m : Int) ≤ D (dif w l) o m + most := by
  have h3 := turnTo_D w o m h l (timesOf (min most 64) h)
  have h4 : ((timesOf (min most 64) h : Nat) : Int) ≤ most := by
    unfold timesOf
    rw [show min most 64 = most by omega]
    have a1 := Int.emod_nonneg (h / 8589934592) (show most ≠ 0 by omega)
    have a2 := Int.emod_lt_of_pos (h / 8589934592) (show 0 < most by omega)
    omega
  unfold turnL
  omega
theorem D_zero {f : Nat → Nat} {a : Nat} : ∀ m, (∀ t, a ≤ t → t < a + m → f t = 0) → D f a m = 0
  | 0, _ => rfl
  | m + 1, h => by rw [D, D_zero m (fun t h1 h2 => h t h1 (by omega)), h (a + m) (by omega) (by omega)]
theorem pop_self (x : UInt8) : pop (x ^^^ x) = 0 := by rw [UInt8.xor_self]; rfl
/-- The noise, piece by piece: where it stands lies on a piece's begin or at the end; what lies behind is as it was; each piece before has no more than `most` turned bits. -/
theorem nTo_inv (most : Int) (h1 : 1 ≤ most) (h2 : most ≤ 64) (piece : Nat) (hp : 1 ≤ piece) (h : Int) (l : List UInt8) : ∀ k,
    ((nTo most piece h l k).1 = l.length ∨ (nTo most piece h l k).1 = k * piece) ∧ (∀ t, (nTo most piece h l k).1 ≤ t → dif l (nTo most piece h l k).2 t = 0) ∧
    ∀ j, j * piece < (nTo most piece h l k).1 → (D (dif l (nTo most piece h l k).2) (j * piece) (min piece (l.length - j * piece)) : Int) ≤ most
  | 0 => ⟨.inr (by simp [nTo]), fun t _ => pop_self _, fun j hj => by simp [nTo] at hj⟩
  | k + 1 => by
    obtain ⟨a, b, c⟩ := nTo_inv most h1 h2 piece hp h l k
    have hle := nTo_le (most := most) (piece := piece) (h := h) (l := l) k
    by_cases hlt : (nTo most piece h l k).1 < l.length
    · have ha : (nTo most piece h l k).1 = k * piece := by omega
      have key : ∀ m, 1 ≤ m → (nTo most piece h l k).1 + m ≤ l.length → m = min piece (l.length - k * piece) →
          (∀ t, (nTo most piece h l k).1 + m ≤ t → dif l (turnL most (nTo most piece h l k).1 m (pieceH h k) (nTo most piece h l k).2) t = 0) ∧
          ∀ j, j * piece < (nTo most piece h l k).1 + m → (D (dif l (turnL most (nTo most piece h l k).1 m (pieceH h k) (nTo most piece h l k).2)) (j * piece) (min piece (l.length - j * piece)) : Int) ≤ most := by
        intro m hm1 hm2 hm3
        refine ⟨fun t ht => ?_, fun j hj => ?_⟩
        · rw [turnL_off l most _ m hm1 _ _ t (.inr ht)]
          exact b t (by omega)
        · rcases Nat.lt_trichotomy j k with hjk | hjk | hjk
          · have hjp : j * piece + piece ≤ k * piece := by
              have := Nat.mul_le_mul_right piece hjk
              rw [Nat.succ_mul] at this; exact this
            rw [D_congr _ (fun t ht1 ht2 => turnL_off l most _ m hm1 _ _ t (.inl (by omega)))]
            exact c j (by omega)
          · subst hjk
            rw [← hm3, ← ha]
            have := turnL_D l most h1 h2 (nTo most piece h l j).1 m (pieceH h j) (nTo most piece h l j).2
            rw [D_zero m (fun t ht1 _ => b t ht1)] at this
            simpa using this
          · have hjp : k * piece + piece ≤ j * piece := by
              have := Nat.mul_le_mul_right piece hjk
              rw [Nat.succ_mul] at this; exact this
            omega
      by_cases hpl : piece < l.length - (nTo most piece h l k).1
      · rw [nTo_a hlt hpl]
        obtain ⟨k1, k2⟩ := key piece hp (by omega) (by omega)
        exact ⟨.inr (by dsimp only; rw [ha, Nat.succ_mul]), k1, k2⟩
      · rw [nTo_b hlt hpl]
        obtain ⟨k1, k2⟩ := key (l.length - (nTo most piece h l k).1) (by omega) (by omega) (by omega)
        rw [show (nTo most piece h l k).1 + (l.length - (nTo most piece h l k).1) = l.length by omega] at k1 k2
        exact ⟨.inl rfl, k1, k2⟩
    · have : nTo most piece h l (k + 1) = nTo most piece h l k := by rw [nTo, if_neg hlt]
      rw [this]
      exact ⟨.inl (by omega), b, c⟩
theorem noiseL_D (most : Int) (h1 : 1 ≤ most) (h2 : most ≤ 64) (piece : Nat) (hp : 1 ≤ piece) (h : Int) (l : List UInt8) (j : Nat) (hj : j * piece < l.length) :
    (D (dif l (noiseL most piece h l)) (j * piece) (min piece (l.length - j * piece)) : Int) ≤ most := by
  have hn : (nTo most piece h l l.length).1 = l.length := by
    rcases nTo_more (most := most) (h := h) (l := l) hp l.length with h3 | h3
    · exact h3
    · have := nTo_le (most := most) (piece := piece) (h := h) (l := l) l.length; omega
  exact (nTo_inv most h1 h2 piece hp h l l.length).2.2 j (by omega)
end Go.Proofs.YtgfjeaegigjnaaaGreatDoor

namespace Go.Proofs.YtgfjeaegigjnaaaGreatDoor
open Go.RowKit
set_option linter.unusedVariables false
set_option linter.unusedSimpArgs false
variable {c : Chp}

def Good (c : Chp) : Prop := ∀ i j, i < c.nb → j < c.np → GoodPg c.bytes (c.pg i j)
/-- The same blocks, pages, bytes. -/
def Like (c d : Chp) : Prop := d.nb = c.nb ∧ d.np = c.np ∧ d.bytes = c.bytes
theorem Like.refl (c : Chp) : Like c c := ⟨rfl, rfl, rfl⟩
theorem Like.trans {a b c : Chp} (h : Like a b) (k : Like b c) : Like a c := ⟨k.1.trans h.1, k.2.1.trans h.2.1, k.2.2.trans h.2.2⟩
theorem tornC_like (c : Chp) : Like c (tornC c).2 := ⟨tornC_nb c, tornC_np c, tornC_bytes c⟩
theorem good_fresh (nb np : Nat) (bytes : Int) : Good (freshC nb np bytes) := fun _ _ _ _ => .inl rfl
theorem good_of {c d : Chp} (hl : Like c d) (hp : d.pg = c.pg) (h : Good c) : Good d := by
  intro i j hi hj
  rw [hl.1] at hi
  rw [hl.2.1] at hj
  rw [hl.2.2, hp]
  exact h i j hi hj
theorem good_torn (h : Good c) : Good (tornC c).2 := good_of (tornC_like c) (tornC_pg c) h
theorem good_upd2 {x : Nat → Nat → Pg} {nb np : Nat} {bytes : Int} (h : ∀ i j, i < nb → j < np → GoodPg bytes (x i j)) (i j : Nat) {p : Pg} (hp : i < nb → j < np → GoodPg bytes p) : ∀ i' j', i' < nb → j' < np → GoodPg bytes (upd2 x i j p i' j') := by
  intro i' j' hi hj
  unfold upd2
  split
  · rename_i e; exact hp (by omega) (by omega)
  · exact h i' j' hi hj
theorem good_progPg {bytes m : Int} {data : ByteArray} {p : Pg} (h : GoodPg bytes p) (hs : (data.size : Int) = bytes) : GoodPg bytes (progPg m data p) := by
  unfold progPg GoodPg
  by_cases h1 : m % 3 = 1
  · rw [if_pos h1]; exact .inr (.inl rfl)
  · by_cases h2 : m % 3 = 2
    · rw [if_neg h1, if_pos h2, if_pos h2]; exact .inr (.inr ⟨rfl, hs⟩)
    · rw [if_neg h1, if_neg h2, if_neg h2]; exact h
theorem good_progTorn {m : Int} {b p : Nat} {data : ByteArray} (h : Good c) (hs : (data.size : Int) = c.bytes) : Good (progTorn c m b p data) := by
  have h1 : ∀ i j, i < c.nb → j < c.np → GoodPg c.bytes (upd2 c.pg b p (progPg m data (c.pg b p)) i j) := good_upd2 h b p (fun hi hj => good_progPg (h b p hi hj) hs)
  by_cases hc : 2 ≤ p % 4 ∧ 4 ≤ m ∧ (c.pg b (p - 2)).st = 1
  · rw [progTorn_yes hc]
    exact good_upd2 h1 b (p - 2) (fun _ _ => .inr (.inl rfl))
  · rw [progTorn_no hc]
    exact h1
theorem like_progTorn (c : Chp) (m : Int) (b p : Nat) (data : ByteArray) : Like c (progTorn c m b p data) := by
  by_cases hc : 2 ≤ p % 4 ∧ 4 ≤ m ∧ (c.pg b (p - 2)).st = 1
  · rw [progTorn_yes hc]; exact ⟨rfl, rfl, rfl⟩
  · rw [progTorn_no hc]; exact ⟨rfl, rfl, rfl⟩
theorem good_progFine {b p : Nat} {data : ByteArray} (h : Good c) (hs : (data.size : Int) = c.bytes) : Good (progFine c b p data) :=
  good_upd2 h b p (fun _ _ => .inr (.inr ⟨rfl, hs⟩))
theorem like_programC (c : Chp) (b p : Int) (data : ByteArray) : Like c (programC c b p data).2 := by
  unfold programC
  by_cases h1 : hasPB c b p = true ∧ (data.size : Int) = c.bytes
  · rw [if_pos h1]
    by_cases h2 : mayC c b.toNat = 0
    · rw [if_pos h2]
      by_cases h3 : cleanB c b.toNat p.toNat = true
      · rw [if_pos h3]
        by_cases h4 : (tornC c).1.2 = true
        · rw [if_pos h4]; exact (tornC_like c).trans (like_progTorn _ _ _ _ _)
        · rw [if_neg h4]; exact (tornC_like c).trans ⟨rfl, rfl, rfl⟩
      · rw [if_neg h3]; exact Like.refl c
    · rw [if_neg h2]; exact Like.refl c
  · rw [if_neg h1]; exact Like.refl c
theorem good_programC (h : Good c) (b p : Int) (data : ByteArray) : Good (programC c b p data).2 := by
  unfold programC
  by_cases h1 : hasPB c b p = true ∧ (data.size : Int) = c.bytes
  · rw [if_pos h1]
    by_cases h2 : mayC c b.toNat = 0
    · rw [if_pos h2]
      by_cases h3 : cleanB c b.toNat p.toNat = true
      · rw [if_pos h3]
        by_cases h4 : (tornC c).1.2 = true
        · rw [if_pos h4]; exact good_progTorn (good_torn h) (by rw [tornC_bytes]; exact h1.2)
        · rw [if_neg h4]; exact good_progFine (good_torn h) (by rw [tornC_bytes]; exact h1.2)
      · rw [if_neg h3]; exact h
    · rw [if_neg h2]; exact h
  · rw [if_neg h1]; exact h
theorem good_erasePg {bytes mo : Int} {tn : Bool} {p : Pg} (h : GoodPg bytes p) : GoodPg bytes (erasePg mo tn p) := by
  unfold erasePg
  by_cases h1 : tn = false ∨ 6 ≤ mo
  · rw [if_pos h1]; exact .inl rfl
  · rw [if_neg h1]
    by_cases h2 : 3 ≤ mo ∧ p.st ≠ 0
    · rw [if_pos h2]; exact .inr (.inl rfl)
    · rw [if_neg h2]; exact h
theorem like_eraseC (c : Chp) (b : Int) : Like c (eraseC c b).2 := by
  unfold eraseC
  by_cases h1 : hasB c b = true
  · rw [if_pos h1]
    by_cases h2 : mayC c b.toNat = 0
    · rw [if_pos h2]; exact (tornC_like c).trans ⟨rfl, rfl, rfl⟩
    · rw [if_neg h2]; exact Like.refl c
  · rw [if_neg h1]; exact Like.refl c
theorem good_eraseC (h : Good c) (b : Int) : Good (eraseC c b).2 := by
  unfold eraseC
  by_cases h1 : hasB c b = true
  · rw [if_pos h1]
    by_cases h2 : mayC c b.toNat = 0
    · rw [if_pos h2]
      intro i j hi hj
      have hg := good_torn h i j hi hj
      show GoodPg (tornC c).2.bytes (pgTo _ (tornC c).2.pg b.toNat c.np i j)
      unfold pgTo
      split
      · exact good_erasePg hg
      · exact hg
    · rw [if_neg h2]; exact h
  · rw [if_neg h1]; exact h
theorem like_readC (c : Chp) (b p : Int) : Like c (readC c b p).2.2 := by
  unfold readC
  by_cases h1 : hasPB c b p = true
  · rw [if_pos h1]
    by_cases h2 : c.off = true
    · rw [if_pos h2]; exact Like.refl c
    · rw [if_neg h2]; exact ⟨rfl, rfl, rfl⟩
  · rw [if_neg h1]; exact Like.refl c
theorem good_readC (h : Good c) (b p : Int) : Good (readC c b p).2.2 := by
  unfold readC
  by_cases h1 : hasPB c b p = true
  · rw [if_pos h1]
    by_cases h2 : c.off = true
    · rw [if_pos h2]; exact h
    · rw [if_neg h2]; exact h
  · rw [if_neg h1]; exact h
theorem like_spoilC (c : Chp) (b p : Int) : Like c (spoilC c b p).2 := by
  unfold spoilC
  by_cases h1 : hasPB c b p = true
  · rw [if_pos h1]
    by_cases h2 : (c.pg b.toNat p.toNat).st = 1
    · rw [if_pos h2]; exact ⟨rfl, rfl, rfl⟩
    · rw [if_neg h2]; exact Like.refl c
  · rw [if_neg h1]; exact Like.refl c
theorem good_spoilC (h : Good c) (b p : Int) : Good (spoilC c b p).2 := by
  unfold spoilC
  by_cases h1 : hasPB c b p = true
  · rw [if_pos h1]
    by_cases h2 : (c.pg b.toNat p.toNat).st = 1
    · rw [if_pos h2]; exact good_upd2 h _ _ (fun _ _ => .inr (.inl rfl))
    · rw [if_neg h2]; exact h
  · rw [if_neg h1]; exact h
theorem like_wearC (c : Chp) (b : Int) : Like c (wearC c b).2 := by
  unfold wearC
  by_cases h1 : hasB c b = true
  · rw [if_pos h1]; exact ⟨rfl, rfl, rfl⟩
  · rw [if_neg h1]; exact Like.refl c
theorem good_wearC (h : Good c) (b : Int) : Good (wearC c b).2 := by
  unfold wearC
  by_cases h1 : hasB c b = true
  · rw [if_pos h1]; exact h
  · rw [if_neg h1]; exact h
/-! ### The calls, with one relation on the world: a chip that was made behind w -/
/-- In world W, behind w: this chip stands, made since w, and nothing older has changed. -/
structure Holds (w W : World) (L : Lay) (c : Chp) : Prop where
  at_ : ChipAt W L c
  good : Good c
  below : Below w.heap.size w W
  new : ∀ k, Foot L c.nb k → w.heap.size ≤ k
theorem Holds.step {w W W' : World} {L : Lay} {c d : Chp} (h : Holds w W L c) (hat : ChipAt W' L d) (hg : Good d) (hl : Like c d) (hs : Stays (Foot L c.nb) W W') : Holds w W' L d :=
  ⟨hat, hg, Below.stays h.below hs h.new h.below.size, fun k hk => h.new k (by rw [hl.1] at hk; exact hk)⟩
theorem Holds.own {w W W' : World} {L : Lay} {c d : Chp} (h : Holds w W L c) (hat : ChipAt W' L d) (hg : Good d) (hl : Like c d) (hs : Stays (· = L.a) W W') : Holds w W' L d :=
  h.step hat hg hl (hs.mono (fun _ hk => hk ▸ foot_a L c.nb))
theorem Holds.drewN {w W : World} {L : Lay} {c : Chp} (h : Holds w W L c) (n : Nat) : Holds w (W.drewN n) L c := h.step (h.at_.drewN n) h.good (Like.refl c) (Stays.drewN (Stays.refl _ _) n)
theorem Holds.alloc {w W : World} {L : Lay} {c : Chp} (h : Holds w W L c) (o : Obj) : Holds w (W.alloc o) L c := h.step (h.at_.alloc o) h.good (Like.refl c) (Stays.alloc (Stays.refl _ _) o)
/-- A store beside the chip, into a block that is new since w. -/
theorem Holds.beside {w W : World} {L : Lay} {c : Chp} (h : Holds w W L c) {g o : Nat} {v : Value} (hg : w.heap.size ≤ g) (hn : ¬ Foot L c.nb g) : Holds w (W.setCell ⟨g, o, none⟩ v) L c :=
  ⟨h.at_.stays (S := fun x => x = g) (Stays.inA (Stays.refl _ _) v) (fun x hx e => hn (e ▸ hx)), h.good, h.below.setCell (p := ⟨g, o, none⟩) hg v, h.new⟩
theorem new_at (x y z : Int) (w W : World) (hW : Below w.heap.size w W) (h : newOk x y z) : Calls Tryz.prog 19 #[.int .i64 x, .int .i64 y, .int .i64 z] W fun e W' =>
    ∃ L, e = .returned (.tuple #[.pointer (some ⟨L.a, 0, none⟩), .int .i64 0]) ∧ Holds w W' L (freshC x.toNat y.toNat z) := by
  obtain ⟨h1, h2, h3, h4, h5, h6, h7⟩ := h
  obtain ⟨n, rfl⟩ : ∃ n : Nat, x = n := ⟨x.toNat, by omega⟩
  obtain ⟨m, rfl⟩ : ∃ m : Nat, y = m := ⟨y.toNat, by omega⟩
  refine (new_good n m z W (by omega) (by omega) (by omega) (by omega) (by omega) h6 h7).mono ?_
  rintro e W' ⟨L, he, hC, hB, hF⟩
  exact ⟨L, he, hC, good_fresh _ _ _, hW.trans (hB.mono hW.size), fun k hk => Nat.le_trans hW.size (hF k hk)⟩
section
variable {w W : World} {L : Lay}
theorem program_h (h : Holds w W L c) (b p : Int) (data : ByteArray) : Calls Tryz.prog 20 #[.pointer (some ⟨L.a, 0, none⟩), .int .i64 b, .int .i64 p, .string data] W fun e W' =>
    e = .returned (.int .i64 (programC c b p data).1) ∧ Holds w W' L (programC c b p data).2 :=
  (program_any h.at_ b p data).mono fun _ _ ⟨he, hc, hs⟩ => ⟨he, h.step hc (good_programC h.good b p data) (like_programC c b p data) hs⟩
theorem read_h (h : Holds w W L c) (b p : Int) : Calls Tryz.prog 16 #[.pointer (some ⟨L.a, 0, none⟩), .int .i64 b, .int .i64 p] W fun e W' =>
    e = .returned (.tuple #[.string (readC c b p).1, .int .i64 (readC c b p).2.1]) ∧ Holds w W' L (readC c b p).2.2 :=
  (read_any h.at_ b p h.good).mono fun _ _ ⟨he, hc, hs⟩ => ⟨he, h.step hc (good_readC h.good b p) (like_readC c b p) hs⟩
theorem cut_h (h : Holds w W L c) (n m : Int) (n0 : n ≤ 9223372036854775807) (m0 : -9223372036854775808 ≤ m) (m1 : m ≤ 9223372036854775807) : Calls Tryz.prog 24 #[.pointer (some ⟨L.a, 0, none⟩), .int .i64 n, .int .i64 m] W fun e W' =>
    e = .returned (.tuple #[]) ∧ Holds w W' L { c with left := max n 1, mode := m } :=
  (cut_any h.at_ n m n0 m0 m1).mono fun _ _ ⟨he, hc, hs⟩ => ⟨he, h.own hc h.good ⟨rfl, rfl, rfl⟩ hs⟩
theorem noise_h (h : Holds w W L c) (s m p : Int) : Calls Tryz.prog 25 #[.pointer (some ⟨L.a, 0, none⟩), .int .i64 s, .int .i64 m, .int .i64 p] W fun e W' =>
    e = .returned (.tuple #[]) ∧ Holds w W' L { c with seed := s, most := m, piece := p } :=
  (noise_any h.at_ s m p).mono fun _ _ ⟨he, hc, hs⟩ => ⟨he, h.own hc h.good ⟨rfl, rfl, rfl⟩ hs⟩
theorem spoil_h (h : Holds w W L c) (b p : Int) : Calls Tryz.prog 26 #[.pointer (some ⟨L.a, 0, none⟩), .int .i64 b, .int .i64 p] W fun e W' =>
    e = .returned (.int .i64 (spoilC c b p).1) ∧ Holds w W' L (spoilC c b p).2 :=
  (spoil_any h.at_ b p).mono fun _ _ ⟨he, hc, hs⟩ => ⟨he, h.step hc (good_spoilC h.good b p) (like_spoilC c b p) hs⟩
end

end Go.Proofs.YtgfjeaegigjnaaaGreatDoor

