/- A chip with one page written, read with noise. -/
import Derived.Test.YtgfjeaegigjnaaaGreatDoorPagT
import Derived.Test.YtgfjeaegigjnaaaGreatDoorLApart
namespace Go.Proofs.YtgfjeaegigjnaaaGreatDoor
open Go.RowKit
set_option linter.unusedVariables false
set_option linter.unusedSimpArgs false

def Geo.sz (g : Geo) : Nat := g.K.toNat + parN g.T.toNat
structure ChN (g : Geo) (c : Chp) (p : ByteArray) (ms : Int) : Prop where
  nb : c.nb = g.B.toNat
  np : c.np = g.P.toNat
  by_ : c.bytes = g.raw
  off : c.off = false
  most : c.most = ms
  piece : c.piece = (g.sz : Int)
  st1 : (c.pg 0 1).st = 1
  d1 : dataC g.raw (c.pg 0 1) = bytS (g.pageL p.data.toList)
  st2 : (c.pg 0 2).st = 0
theorem ChN.rd {g : Geo} {c : Chp} {p : ByteArray} {ms : Int} (h : ChN g c p ms) (r : Nat → Int) : ChN g { c with rd := r } p ms := ⟨h.nb, h.np, h.by_, h.off, h.most, h.piece, h.st1, h.d1, h.st2⟩
theorem chn_of {g : Geo} (p : ByteArray) (s ms : Int) : ChN g { (gC1 g 0 1 p) with seed := s, most := ms, piece := (g.sz : Int) } p ms := by
  refine ⟨rfl, rfl, rfl, rfl, rfl, rfl, ?_, data_new (g := g) (b := 0) (n := 1), ?_⟩
  · show ((gC1 g 0 1 p).pg 0 1).st = 1
    rw [show (gC1 g 0 1 p).pg 0 1 = _ from fine_at _ 0 1 _]
  · rfl
/-- What is read with noise lies near what was written. -/
theorem noisy_read {g : Geo} (hg : g.ok) {c : Chp} {n : Nat} {l : List UInt8} {ms : Int} (hnb : c.nb = g.B.toNat) (hnp : n < c.np) (hby : c.bytes = g.raw) (hoff : c.off = false) (hmost : c.most = ms) (hpc : c.piece = (g.sz : Int)) (h1 : 1 ≤ ms) (h2 : ms ≤ g.T)
    (hd : dataC g.raw (c.pg 0 n) = bytS l) (hl : l.length = g.C.toNat * g.sz) :
    ∃ l', readC c 0 n = (bytS l', 0, { c with rd := upd c.rd 0 (wrap64 (c.rd 0 + 1)) }) ∧ l'.length = g.C.toNat * g.sz ∧ ∀ j, j < g.C.toNat → D (dif l l') (j * g.sz) g.sz ≤ ms.toNat := by
  have hok := hg
  obtain ⟨b1, b2, b3, b4, b5, b6, b7, b8, b9, b10, b11⟩ := hok
  have hsz : 1 ≤ g.sz := by unfold Geo.sz; omega
  have e := read_fine (c := c) (b := 0) (n := n) (by rw [hnb]; omega) hnp hoff
  have hrs : readS c 0 n = bytS (noiseL ms g.sz (hashC c.seed (wrap64 (c.rd 0 + 1)) 0 n) l) := by
    unfold readS
    rw [if_neg (by rw [hmost, hpc]; omega), hmost, hpc, Int.toNat_natCast, hby, hd, bytS_list]; rfl
  rw [hrs] at e
  refine ⟨_, e, by unfold noiseL; rw [nTo_len, hl], fun j hj => ?_⟩
  have hle := Nat.mul_le_mul_right g.sz (show j + 1 ≤ g.C.toNat from hj)
  rw [Nat.succ_mul] at hle
  have h3 := noiseL_D ms h1 (by omega) g.sz hsz (hashC c.seed (wrap64 (c.rd 0 + 1)) 0 n) l j (by omega)
  rw [hl, Nat.min_eq_left (by omega)] at h3
  omega
theorem data_erased {g : Geo} (hg : g.ok) {p : Pg} (h : p.st = 0) : dataC g.raw p = bytS (List.replicate (g.C.toNat * g.sz) 255) := by
  unfold dataC
  rw [if_pos h]
  unfold fill
  rw [repeat_replicate, raw_nat hg]; rfl
theorem data_spoilt {g : Geo} (hg : g.ok) {p : Pg} (h : p.st = 2) : dataC g.raw p = bytS (List.replicate (g.C.toNat * g.sz) 0) := by
  unfold dataC
  rw [if_neg (by rw [h]; decide), if_pos h]
  unfold fill
  rw [repeat_replicate, raw_nat hg]; rfl
theorem ChN.read1 {g : Geo} (hg : g.ok) {c : Chp} {p : ByteArray} {ms : Int} (h : ChN g c p ms) (h1 : 1 ≤ ms) (h2 : ms ≤ g.T) (hp : (p.size : Int) ≤ g.room) :
    ∃ (s : ByteArray) (d : Chp) (k : Nat), readC c 0 1 = (s, 0, d) ∧ ChN g d p ms ∧ (k : Int) ≤ g.C * ms ∧ g.readV s 0 = .agg #[.int .i64 1, .string (bytS (padL g.room.toNat p.data.toList)), .int .i64 (k : Int)] := by
  have hpl : (p.data.toList.length : Int) ≤ g.room := by rw [← Lib.size_eq]; exact hp
  have hok := hg
  obtain ⟨b1, b2, b3, b4, b5, b6, b7, b8, b9, b10, b11⟩ := hok
  obtain ⟨l', e, hl, hd⟩ := noisy_read hg (n := 1) h.nb (by rw [h.np]; omega) h.by_ h.off h.most h.piece h1 h2 h.d1 (pageL_length hg hpl)
  obtain ⟨k, hk, hr⟩ := readL_near hg hpl hl (show ms.toNat ≤ g.T.toNat by omega) hd
  refine ⟨_, _, k, e, h.rd _, ?_, ?_⟩
  · have : ((g.C.toNat * ms.toNat : Nat) : Int) = g.C * ms := by rw [Int.natCast_mul, Int.toNat_of_nonneg (by omega), Int.toNat_of_nonneg (by omega)]
    omega
  · unfold Geo.readV
    rw [if_neg (by decide), bytS_list, hr]; rfl
theorem ChN.read2 {g : Geo} (hg : g.ok) {c : Chp} {p : ByteArray} {ms : Int} (h : ChN g c p ms) (h1 : 1 ≤ ms) (h2 : ms ≤ g.T) :
    ∃ (s : ByteArray) (d : Chp), readC c 0 2 = (s, 0, d) ∧ ChN g d p ms ∧ g.readV s 0 = .agg #[.int .i64 0, .string ⟨#[]⟩, .int .i64 0] := by
  have hok := hg
  obtain ⟨b1, b2, b3, b4, b5, b6, b7, b8, b9, b10, b11⟩ := hok
  obtain ⟨l', e, hl, hd⟩ := noisy_read hg (n := 2) h.nb (by rw [h.np]; omega) h.by_ h.off h.most h.piece h1 h2 (data_erased hg h.st2) List.length_replicate
  have hr := readL_ones hl (show ((ms.toNat : Nat) : Int) ≤ g.T by omega) hd
  refine ⟨_, _, e, h.rd _, ?_⟩
  unfold Geo.readV
  rw [if_neg (by decide), bytS_list, hr]; rfl
theorem ChN.spoil {g : Geo} (hg : g.ok) {c : Chp} {p : ByteArray} {ms : Int} (h : ChN g c p ms) (h1 : 1 ≤ ms) (h2 : ms ≤ g.T) :
    ∃ (d d2 : Chp) (s : ByteArray), spoilC c 0 1 = (0, d) ∧ d.bytes = g.raw ∧ readC d 0 1 = (s, 0, d2) ∧ g.readV s 0 = .agg #[.int .i64 2, .string ⟨#[]⟩, .int .i64 0] := by
  have hok := hg
  obtain ⟨b1, b2, b3, b4, b5, b6, b7, b8, b9, b10, b11⟩ := hok
  obtain ⟨d, hd⟩ : ∃ d : Chp, d = { c with pg := upd2 c.pg 0 1 { c.pg 0 1 with st := 2 } } := ⟨_, rfl⟩
  have hs : spoilC c 0 1 = (0, d) := by
    unfold spoilC
    rw [if_pos (show hasPB c 0 1 = true from hasPB_yes (b := 0) (n := 1) (by rw [h.nb]; omega) (by rw [h.np]; omega)), if_pos (show (c.pg (Int.toNat 0) (Int.toNat 1)).st = 1 from h.st1), hd]; rfl
  have hst : (d.pg 0 1).st = 2 := by
    rw [hd]
    exact congrArg Pg.st (upd2_val c.pg 0 1 _)
  obtain ⟨l', e, hl, hdd⟩ := noisy_read hg (c := d) (n := 1) (by rw [hd]; exact h.nb) (by rw [hd]; show 1 < c.np; rw [h.np]; omega) (by rw [hd]; exact h.by_) (by rw [hd]; exact h.off) (by rw [hd]; exact h.most) (by rw [hd]; exact h.piece) h1 h2 (data_spoilt hg hst) List.length_replicate
  have hr := readL_zero hg hl (show ms.toNat ≤ g.T.toNat by omega) hdd
  refine ⟨d, _, _, hs, by rw [hd]; exact h.by_, e, ?_⟩
  unfold Geo.readV
  rw [if_neg (by decide), bytS_list, hr]; rfl
section
variable {w w' : World} {B : Nat} {v : Value} {l : List UInt8}
theorem OwnT.stays {S : Nat → Prop} (h : OwnT w B v l) (k : Stays S w w') (hS : ∀ x, B ≤ x → x < w.heap.size → ¬ S x) : OwnT w' B v l := by
  obtain ⟨g, cap, cur, fz, h1, h2, h3, h4⟩ := h
  have hlt := (Array.getElem?_eq_some_iff.1 h3).1
  exact ⟨g, cap, cur, fz, h1, h2, by rw [k.block g hlt (hS g h2 hlt)]; exact h3, h4⟩
end
end Go.Proofs.YtgfjeaegigjnaaaGreatDoor
