/- The noise of a chip: the bits of a piece that are turned. -/
import Derived.Test.YthoadcibknaelaaNewm
import Derived.Outline
import Derived.Laws.BitsLemmas
namespace Go.Proofs.Ythoadcibknaelaa
open Go.RowKit
set_option linter.unusedVariables false
set_option linter.unusedSimpArgs false

/-- The bytes l lie at the head of block g, and may be written. -/
structure BytesAt (w : World) (g : Nat) (l : List UInt8) : Prop where
  cell : ∀ j, j < l.length → w.cell? ⟨g, j, none⟩ = some (.int .u8 (l.getD j 0).toNat)
  free : ∀ j, j < l.length → w.frozen? ⟨g, j, none⟩ = false

theorem bits_xor (k : IntKind) (j : Nat) (hj : j ≤ k.bits) (hk : ∀ n : Int, 0 ≤ n → n < 2 ^ j → k.wrap n = n) (a b : Nat) (ha : a < 2 ^ j) (hb : b < 2 ^ j) : bits .xor k a b = ((a ^^^ b : Nat) : Int) := by
  have hp : 2 ^ j ≤ 2 ^ k.bits := Nat.pow_le_pow_right (by decide) hj
  have ha' : a % 2 ^ k.bits = a := Nat.mod_eq_of_lt (Nat.lt_of_lt_of_le ha hp)
  have hb' : b % 2 ^ k.bits = b := Nat.mod_eq_of_lt (Nat.lt_of_lt_of_le hb hp)
  simp only [bits, BitVec.ofInt_natCast, BitVec.toNat_xor, BitVec.toNat_ofNat, ha', hb']
  exact hk _ (Int.natCast_nonneg _) (by exact_mod_cast Nat.xor_lt_two_pow ha hb)
theorem xor_u8 (x : UInt8) (k : Nat) (hk : k < 8) : bits BinOp.xor IntKind.u8 (x.toNat : Int) (2 ^ k % 256) = ((x ^^^ UInt8.ofNat (2 ^ k)).toNat : Int) := by
  have hks : k = 0 ∨ k = 1 ∨ k = 2 ∨ k = 3 ∨ k = 4 ∨ k = 5 ∨ k = 6 ∨ k = 7 := by omega
  have h2 : (2 : Nat) ^ k < 256 := by
    rcases hks with rfl | rfl | rfl | rfl | rfl | rfl | rfl | rfl <;> decide
  have e : ((2 : Int) ^ k % 256) = ((2 ^ k : Nat) : Int) := by
    rcases hks with rfl | rfl | rfl | rfl | rfl | rfl | rfl | rfl <;> decide
  rw [e]
  have hx : x.toNat < 256 := x.toNat_lt
  rw [bits_xor .u8 8 (by decide) wraps_u8 _ _ (by omega) (by omega)]
  simp [Nat.mod_eq_of_lt h2]

/-- Bit k of byte i is turned. -/
def flipB (l : List UInt8) (i k : Nat) : List UInt8 := l.set i (l.getD i 0 ^^^ UInt8.ofNat (2 ^ k))
theorem flipB_len (l : List UInt8) (i k : Nat) : (flipB l i k).length = l.length := by simp [flipB]
def lcg (h : Int) : Int := (h * 6364136223846793005 + 1442695040888963407) % 18446744073709551616
theorem lcg_bd (h : Int) : 0 ≤ lcg h ∧ lcg h / 8589934592 ≤ 2147483647 := by unfold lcg; omega
theorem lcg_eq (h : Int) : IntKind.u64.wrap (IntKind.u64.wrap (h * 6364136223846793005) + 1442695040888963407) = lcg h := by
  unfold lcg IntKind.wrap
  simp [IntKind.bits, IntKind.signed]
def bitOf (m : Nat) (h : Int) : Nat := (h / 8589934592 % (8 * (m : Int))).toNat
/-- So many bits of the piece of m bytes at o are turned: the number behind it, the bytes. -/
def turnTo (o m : Nat) (h : Int) (l : List UInt8) : Nat → Int × List UInt8
  | 0 => (h, l)
  | k + 1 => (lcg (turnTo o m h l k).1, flipB (turnTo o m h l k).2 (o + bitOf m (lcg (turnTo o m h l k).1) / 8) (bitOf m (lcg (turnTo o m h l k).1) % 8))
def timesOf (most h : Int) : Nat := (h / 8589934592 % most + 1).toNat
def turnL (most : Int) (o m : Nat) (h : Int) (l : List UInt8) : List UInt8 := (turnTo o m h l (timesOf (min most 64) h)).2
theorem turnTo_len (o m : Nat) (h : Int) (l : List UInt8) : ∀ k, (turnTo o m h l k).2.length = l.length
  | 0 => rfl
  | k + 1 => by rw [turnTo, flipB_len]; exact turnTo_len o m h l k
theorem turnL_len (most : Int) (o m : Nat) (h : Int) (l : List UInt8) : (turnL most o m h l).length = l.length := turnTo_len ..

theorem BytesAt.flip {w : World} {g : Nat} {l : List UInt8} (h : BytesAt w g l) (i k : Nat) (hi : i < l.length) (v : Value) (hv : v = .int .u8 ((l.getD i 0 ^^^ UInt8.ofNat (2 ^ k)).toNat : Int)) : BytesAt (w.setCell ⟨g, i, none⟩ v) g (flipB l i k) := by
  refine ⟨?_, fun j hj => by rw [World.frozen?_setCell]; exact h.free j (by rwa [flipB_len] at hj)⟩
  intro j hj
  rw [flipB_len] at hj
  by_cases e : j = i
  · subst e
    rw [setA_same _ _ _ _ _ (h.cell j hj), hv]
    simp [flipB, hj]
  · rw [setA_other _ _ _ _ _ (Ne.symm e), h.cell j hj]
    simp [flipB, List.getElem?_set, Ne.symm e]
theorem BytesAt.stays {w w' : World} {g : Nat} {l : List UInt8} {S : Nat → Prop} (h : BytesAt w g l) (hg : g < w.heap.size) (hk : Stays S w w') (hS : ¬ S g) : BytesAt w' g l :=
  ⟨fun j hj => hk.cell (h.cell j hj) hS, fun j hj => (hk.frozen (p := ⟨g, j, none⟩) hS hg).trans (h.free j hj)⟩
theorem BytesAt.drew {w : World} {g : Nat} {l : List UInt8} (h : BytesAt w g l) : BytesAt w.drew g l := ⟨h.cell, h.free⟩

set_option maxHeartbeats 800000 in
theorem turn_go (g o m cap : Nat) (l : List UInt8) (sd mst mo pc h : Int) (w : World) (hm : 1 ≤ m) (hml : o + m ≤ l.length) (hl : l.length ≤ 2048) (hmost : 1 ≤ mst) (hmo : mo = min mst 64) (hh0 : 0 ≤ h) (hh1 : h / 8589934592 ≤ 2147483647) (hb : BytesAt w g l) :
    Calls Try.prog 36 #[.agg #[.int .i64 sd, .int .i64 mst, .int .i64 pc], .slice (some ⟨g, o, none⟩) m cap, .int .u64 h] w fun e w' => e = .returned (.tuple #[]) ∧ BytesAt w' g (turnL mst o m h l) ∧ Stays (· = g) w w' := by
  have hq0 : 0 ≤ h / 8589934592 := by omega
  have hg : g < w.heap.size := World.block_lt_of_cell? _ _ (hb.cell 0 (by omega))
  have hgo : ∀ most : Int, 1 ≤ most → most ≤ 64 → True := fun _ _ _ => trivial
  have hm1 : 1 ≤ mo := by omega
  have hm2 : mo ≤ 64 := by omega
  have ht0 : 0 ≤ h / 8589934592 % mo := Int.emod_nonneg _ (by omega)
  have ht1 : h / 8589934592 % mo < 64 := by have := Int.emod_lt_of_pos (h / 8589934592) (show 0 < mo by omega); omega
  have htm : (timesOf (min mst 64) h : Int) = h / 8589934592 % mo + 1 := by rw [timesOf, ← hmo]; omega
  have HB := Lib.hid hb
  have HTM := Lib.hid htm
  clear hb hgo htm
  have hms : (mst ≤ 64 ∧ mst = mo) ∨ (64 < mst ∧ mo = 64) := by omega
  clear hmo
  rcases hms with ⟨h64, rfl⟩ | ⟨h64, rfl⟩
  all_goals
    go_enter Try.func36, Try.ntmps36
    go_wp2_with fail
    go_loopw [2, 17] (fun vh vi wr => ∃ k : Nat, k ≤ timesOf (min mst 64) h ∧ vh = .int .u64 (turnTo o m h l k).1 ∧ vi = .int .i64 k ∧ Hid (BytesAt wr g (turnTo o m h l k).2) ∧ Hid (Stays (· = g) w wr)) (fun _ i _ => timesOf (min mst 64) h - (intOf i).toNat)
    case atStart => exact ⟨0, Nat.zero_le _, rfl, rfl, HB.out.stays (S := fun _ => False) hg ((Stays.refl _ _).alloc _) id, (Stays.refl _ _).alloc _⟩
    case round =>
      obtain ⟨k, hk, rfl, rfl, hB, hS⟩ := hrel
      obtain ⟨H, hH0, hH1, eH, hv⟩ : ∃ H : Int, 0 ≤ H / 8589934592 ∧ H / 8589934592 ≤ 2147483647 ∧ IntKind.u64.wrap (IntKind.u64.wrap ((turnTo o m h l k).1 * 6364136223846793005) + 1442695040888963407) = H ∧ Hid (H = lcg (turnTo o m h l k).1) :=
        ⟨_, by have := lcg_bd (turnTo o m h l k).1; omega, (lcg_bd _).2, lcg_eq _, Lib.hid rfl⟩
      obtain ⟨bit, hbit, eB⟩ : ∃ bit : Nat, bit < 8 * m ∧ H / 8589934592 % (8 * (m : Int)) = (bit : Int) := by
        have h1 := Int.emod_nonneg (H / 8589934592) (show (8 * (m : Int)) ≠ 0 by omega)
        have h2 := Int.emod_lt_of_pos (H / 8589934592) (show 0 < 8 * (m : Int) by omega)
        exact ⟨(H / 8589934592 % (8 * (m : Int))).toNat, by omega, by omega⟩
      have hbv : Hid (bitOf m (lcg (turnTo o m h l k).1) = bit) := by
        rw [bitOf, ← hv.out, eB]; exact Int.toNat_natCast bit
      have hlt8 : bit / 8 < m := by omega
      have hlen : o + bit / 8 < (turnTo o m h l k).2.length := by rw [turnTo_len]; omega
      have hcell : wr.cell? ⟨g, o + bit / 8, none⟩ = _ := hB.out.cell (o + bit / 8) hlen
      have hfree := hB.out.free (o + bit / 8) hlen
      have htm := HTM.out
      by_cases hlt : k < timesOf (min mst 64) h
      · have hlt' : (k : Int) < (timesOf (min mst 64) h : Int) := by omega
        rw [htm] at hlt'
        have HLT := Lib.hid hlt
        clear htm HTM hlt HB
        go_upto_region 6 with fail
        go_region
        go_wp2
        go_roundw
        case rel =>
          have hlt := HLT.out
          refine ⟨k + 1, by omega, ?_, by go_num, ?_, (hS.out.setCell (p := ⟨g, o + bit / 8, none⟩) rfl _).drew⟩
          · rw [hv.out]; rfl
          · rw [turnTo, hbv.out]
            refine BytesAt.drew (BytesAt.flip hB.out _ _ hlen _ ?_)
            rw [xor_u8 _ _ (by omega)]; simp [hlen]
        case measure =>
          have hlt := HLT.out
          simp [intOf]; omega
      · have hlt' : ¬ ((k : Int) < (timesOf (min mst 64) h : Int)) := by omega
        obtain rfl : k = timesOf (min mst 64) h := by omega
        rw [htm] at hlt'
        clear HB
        go_wp2_with fail
        go_end0
        exact ⟨rfl, hB.out, hS.out⟩

end Go.Proofs.Ythoadcibknaelaa
