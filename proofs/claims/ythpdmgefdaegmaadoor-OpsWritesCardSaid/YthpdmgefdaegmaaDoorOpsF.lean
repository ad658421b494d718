/- Package lz: the tokens; literals, same. -/
import Derived.Test.YthpdmgefdaegmaaDoorOpsE
import Derived.StillTailTactics
namespace Go.Proofs.YthpdmgefdaegmaaDoor
open Go.RowKit
set_option linter.unusedVariables false
set_option linter.unusedSimpArgs false

def copyL (d : List UInt8) (back : Nat) : Nat → List UInt8
  | 0 => []
  | n + 1 => d.getD (d.length - 1 - back) 0 :: copyL (d ++ [d.getD (d.length - 1 - back) 0]) back n
/-- These tokens tell these bytes. -/
inductive Toks : List UInt8 → List UInt8 → Prop
  | nil : Toks [] []
  | lit {o d : List UInt8} (x : List UInt8) : Toks o d → 1 ≤ x.length → x.length ≤ 128 → Toks (o ++ [UInt8.ofNat (x.length - 1)] ++ x) (d ++ x)
  | copy {o d : List UInt8} (n back : Nat) : Toks o d → 3 ≤ n → n ≤ 130 → back < d.length → back < 65536 → Toks (o ++ [UInt8.ofNat (n + 125), UInt8.ofNat (back % 256), UInt8.ofNat (back / 256)]) (d ++ copyL d back n)

theorem take_drop_add (l : List UInt8) (k n : Nat) : l.take k ++ (l.drop k).take n = l.take (k + n) := by
  rw [List.take_add]

variable {w : World} {B b : Nat} {txt : ByteArray} {adr : Value} {out : List UInt8} {pl : Int} {mp : Value}
theorem PkAt.drew (h : PkAt w B b txt adr out pl mp) : PkAt w.drew B b txt adr out pl mp := ⟨h.old, h.cells⟩
theorem PkAt.setPlain (h : PkAt w B b txt adr out pl mp) (x : Int) : PkAt (w.setCell ⟨b, 3, none⟩ (.int .i64 x)) B b txt adr out x mp := by
  obtain ⟨v, h1, h2, h3⟩ := h.cells
  refine ⟨h.old, v, ?_, ?_, h3⟩
  · rw [heap_setCell_same w b 3 _ _ _ h1]; rfl
  · exact h2.kept (row := some b) ⟨rfl, rfl, rfl, by simp, fun k _ hk => heap_setCell_other w ⟨b, 3, none⟩ k _ (fun e => hk (by simp [e]))⟩ (.inr h3)
/-- The packer that has told the first k bytes. -/
structure PkT (w : World) (B b : Nat) (txt : ByteArray) (k : Nat) (mp : Value) (m : Nat) : Prop where
  lies : ∃ adr out, PkAt w B b txt adr out (k : Int) mp ∧ AdrOk b adr ∧ Toks out (txt.data.toList.take k) ∧ out.length ≤ m

def plainOf (w : World) (b : Nat) : Nat := match w.cell? ⟨b, 3, none⟩ with
  | some (.int _ n) => n.toNat
  | _ => 0
theorem PkAt.plain {k : Nat} (h : PkAt w B b txt adr out (k : Int) mp) : plainOf w b = k := by
  obtain ⟨v, h1, _⟩ := h.cells
  unfold plainOf
  rw [cellsOf_heap h1]
  simp

set_option maxHeartbeats 2000000 in
set_option maxRecDepth 100000 in
theorem literals_any {k m : Nat} (h : PkT w B b txt k mp m) (tt : Nat) (hk : k ≤ tt) (hto : tt ≤ txt.size) (hsz : txt.size ≤ 1099511627776) (hm : m ≤ 1099511627776) :
    Calls Tryd.prog 33 #[.pointer (some ⟨b, 0, none⟩), .int .i64 tt] w fun e w' => e = .returned (.tuple #[]) ∧ PkT w' B b txt tt mp (m + 2 * (tt - k)) ∧ Below B w w' ∧ Lib.OthersKept 5 (some b) w w' := by
  have HT := Lib.hid h
  clear h
  have hsz2 : (tt : Int) ≤ (txt.size : Int) := by omega
  go_enter Tryd.func33, Tryd.ntmps33
  go_wp2_with fail
  go_loopw [] (fun wr => ∃ j : Nat, k ≤ j ∧ j ≤ tt ∧ Hid (PkT wr B b txt j mp (m + 2 * (j - k))) ∧ Hid (Below B w wr) ∧ Hid (Lib.OthersKept 5 (some b) w wr)) (fun wr => tt - plainOf wr b)
  case atStart => exact ⟨k, Nat.le_refl _, hk, by simpa using HT, Lib.hid (Below.refl _ _), Lib.hid (Lib.OthersKept.refl _ _ _)⟩
  case round =>
    obtain ⟨j, hkj, hj, HP, HB, HK⟩ := hrel
    obtain ⟨adr, out, P, A, T, L⟩ := HP.out.lies
    obtain ⟨v, hbk, _, _⟩ := P.cells
    have c0 : wr.cell? ⟨b, 0, none⟩ = some (.string txt) := by rw [cellsOf_heap hbk]; rfl
    have c3 : wr.cell? ⟨b, 3, none⟩ = some (.int .i64 (j : Int)) := by rw [cellsOf_heap hbk]; rfl
    have f3 : wr.frozen? ⟨b, 3, none⟩ = false := by simp [World.frozen?, hbk]
    have HPP := Lib.hid P
    have HA := Lib.hid A
    have HTO := Lib.hid T
    have HL := Lib.hid L
    clear P A T L hbk
    by_cases hlt : j < tt
    · have g1 : (j : Int) < (tt : Int) := by omega
      obtain ⟨n, hn⟩ : ∃ n : Nat, min ((tt : Int) - (j : Int)) 128 = (n : Int) := ⟨min (tt - j) 128, by omega⟩
      have n1 : 1 ≤ n := by omega
      have n2 : n ≤ 128 := by omega
      have n3 : j + n ≤ tt := by omega
      go_wp2_with fail
      have hb : Value.int IntKind.u8 ((n : Int) - 1) = byteV (UInt8.ofNat (n - 1)) := by
        unfold byteV
        congr 1
        simp [UInt8.toNat_ofNat]
        omega
      rw [hb]
      refine (writeByte_any HPP.out HA.out _ (by have := HL.out; omega)).mono ?_; rintro e w2 ⟨rfl, P2, B2, K2⟩
      obtain ⟨v2, hbk2, _, _⟩ := P2.cells
      have c0' : w2.drew.cell? ⟨b, 0, none⟩ = some (.string txt) := by rw [cellsOf_heap (w := w2.drew) hbk2]; rfl
      have c3' : w2.drew.cell? ⟨b, 3, none⟩ = some (.int .i64 (j : Int)) := by rw [cellsOf_heap (w := w2.drew) hbk2]; rfl
      have HPP2 := Lib.hid P2
      have HB2 := Lib.hid (HB.out.trans B2)
      have HK2 := Lib.hid (HK.out.trans K2)
      clear P2 B2 K2 hbk2 c0 c3 f3 hb HP HB HK
      go_upto_region 3 with fail
      have q1 : (0 : Int) ≤ (j : Int) + (n : Int) := by omega
      have q2 : ((j : Int) + (n : Int)).toNat = j + n := by omega
      have q3 : (j : Int) + (n : Int) ≤ (txt.size : Int) := by omega
      have q4 : (j : Int) ≤ (j : Int) + (n : Int) := by omega
      have q5 : (j : Int) + (n : Int) ≤ 9223372036854775807 := by omega
      have q6 : (-9223372036854775808 : Int) ≤ (j : Int) + (n : Int) := by omega
      have q7 : IntKind.i64.wrap ((j : Int) + (n : Int)) = (j : Int) + (n : Int) := (IntWalk.i64_left _).trans (IntWalk.wrap64_in _ (by omega))
      go_still_tail 18, (by kernel_rfl)
      change wpList _ _ _ _ _ w2.drew
      clear q7
      go_wp2_with fail
      have hxd : (txt.extract j (j + n)).data.toList = (txt.data.toList.drop j).take n := by
        rw [Lib.extract_data]
        congr 1
        omega
      have hxl : ((txt.data.toList.drop j).take n).length = n := by
        have : txt.data.toList.length = txt.size := by simp
        rw [List.length_take, List.length_drop]; omega
      have hxs : (txt.extract j (j + n)).size = n := by rw [Lib.size_eq, hxd, hxl]
      refine (writeString_any HPP2.out.drew (.inr rfl) _ (by have := HL.out; rw [hxs]; simp; omega)).mono ?_; rintro e w3 ⟨rfl, P3, B3, K3⟩
      rw [hxd] at P3
      obtain ⟨v3, hbk3, _, _⟩ := P3.cells
      have c3 : w3.cell? ⟨b, 3, none⟩ = some (.int .i64 (j : Int)) := by rw [cellsOf_heap hbk3]; rfl
      have f3 : w3.frozen? ⟨b, 3, none⟩ = false := by simp [World.frozen?, hbk3]
      have HPT : Hid (PkT (w3.setCell ⟨b, 3, none⟩ (.int .i64 ((j + n : Nat) : Int))) B b txt (j + n) mp (m + 2 * (j + n - k))) := Lib.hid (by
        refine ⟨_, _, P3.setPlain _, .inr rfl, ?_, ?_⟩
        · have := Toks.lit ((txt.data.toList.drop j).take n) HTO.out (by rw [hxl]; omega) (by rw [hxl]; omega)
          rw [hxl, take_drop_add] at this
          exact this
        · have := HL.out
          simp only [List.length_append, hxl, List.length_cons, List.length_nil]
          omega)
      have hpl : plainOf (w3.setCell ⟨b, 3, none⟩ (.int .i64 ((j + n : Nat) : Int))) b = j + n := (P3.setPlain _).plain
      have HPL := Lib.hid hpl
      have HB3 := Lib.hid (((HB2.out.drew).trans B3).setCell (p := ⟨b, 3, none⟩) P3.old (.int .i64 ((j + n : Nat) : Int)))
      have HK3 := Lib.hid ((HK2.out.drew.trans K3).setCell ⟨b, 3, none⟩ rfl (.int .i64 ((j + n : Nat) : Int)))
      have HPJ := Lib.hid HPP.out.plain
      clear hpl P3 B3 K3 hbk3 hxd hxl hxs c0' c3'
      go_wp2_with fail
      rw [show (j : Int) + (n : Int) = ((j + n : Nat) : Int) by omega]
      exact ⟨⟨j + n, by omega, by omega, HPT, HB3, HK3⟩, by rw [HPL.out, HPJ.out]; omega⟩
    · have g1 : ¬ ((j : Int) < (tt : Int)) := by omega
      obtain rfl : j = tt := by omega
      go_wp2_with fail
      go_end0
      exact ⟨rfl, HP.out, HB.out, HK.out⟩

end Go.Proofs.YthpdmgefdaegmaaDoor
