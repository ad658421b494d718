/- Package lz: same. -/
import Derived.Test.YthpdmgefdaegmaaDoorOpsF
import Derived.Deep.QuietTactic
import Derived.BigQuiet
namespace Go.Proofs.YthpdmgefdaegmaaDoor
open Go.RowKit
set_option linter.unusedVariables false
set_option linter.unusedSimpArgs false
variable {w : World} {B b : Nat} {txt : ByteArray} {adr : Value} {out : List UInt8} {pl : Int} {mp : Value}

def SamePost (w : World) (txt : ByteArray) (x y : Nat) (e : Ending) (w' : World) : Prop :=
  ∃ n q : Nat, e = .returned (.int .i64 n) ∧ w' = w.drewN q ∧ n ≤ 130 ∧ y + n ≤ txt.size ∧ ∀ i, i < n → txt.data.toList[x + i]? = txt.data.toList[y + i]?

set_option maxHeartbeats 2000000 in
set_option maxRecDepth 100000 in
theorem same_any (h : w.cell? ⟨b, 0, none⟩ = some (.string txt)) (x y : Nat) (hxy : x < y) (hy : y ≤ txt.size) (hsz : txt.size ≤ 1099511627776) :
    Calls Tryd.prog 32 #[.pointer (some ⟨b, 0, none⟩), .int .i64 x, .int .i64 y] w fun e w' => SamePost w txt x y e w' := by
  go_enter Tryd.func32, Tryd.ntmps32
  go_wp2_with fail
  go_loopw [7] (fun sn wr => ∃ k q : Nat, sn = .int .i64 (k : Int) ∧ Hid (wr = w.drewN q) ∧ k ≤ 130 ∧ y + k ≤ txt.size ∧ Hid (∀ i, i < k → txt.data.toList[x + i]? = txt.data.toList[y + i]?)) (fun sn _ => 130 - (intOf sn).toNat)
  case atStart => exact ⟨0, 0, rfl, rfl, by omega, by omega, Lib.hid (fun i hi => by omega)⟩
  case round =>
    obtain ⟨k, q, rfl, HQ, hk1, hk2, HE⟩ := hrel
    have hc : wr.cell? ⟨b, 0, none⟩ = some (.string txt) := by rw [HQ.out]; exact h
    have HH := Lib.hid h
    clear h
    have out : ∀ wz q2, wz = wr.drewN q2 → SamePost w txt x y (.returned (.int .i64 (k : Int))) wz := by
      intro wz q2 hz
      refine ⟨k, q + q2, rfl, ?_, hk1, hk2, HE.out⟩
      rw [hz, HQ.out, World.drewN_drewN]
    have OUT := Lib.hid out
    clear out
    by_cases h1 : k < 130
    · have h1' : (k : Int) < 130 := by omega
      by_cases h2 : y + k < txt.size
      · have h2' : (y : Int) + (k : Int) < (txt.size : Int) := by omega
        have h3' : (x : Int) + (k : Int) < (txt.size : Int) := by omega
        have e1 : IntKind.i64.wrap ((y : Int) + (k : Int)) = (y : Int) + (k : Int) := (IntWalk.i64_left _).trans (IntWalk.wrap64_in _ (by omega))
        have e2 : IntKind.i64.wrap ((x : Int) + (k : Int)) = (x : Int) + (k : Int) := (IntWalk.i64_left _).trans (IntWalk.wrap64_in _ (by omega))
        have e3 : ((y : Int) + (k : Int)).toNat = y + k := by omega
        have e4 : ((x : Int) + (k : Int)).toNat = x + k := by omega
        have e5 : (0 : Int) ≤ (x : Int) + (k : Int) := by omega
        have e6 : (0 : Int) ≤ (y : Int) + (k : Int) := by omega
        go_upto_region 2 with fail
        go_quiet (fail)
        have hWQ : wr.drewN nq = w.drewN (q + nq) := by rw [HQ.out, World.drewN_drewN]
        have HWQ := Lib.hid hWQ
        clear hWQ
        have l1 : x + k < txt.size := by omega
        cases hE : (((txt[x + k]'l1).toNat : Int) == ((txt[y + k]'h2).toNat : Int)) with
        | true =>
          have hE2 : txt.data.toList[x + k]? = txt.data.toList[y + k]? := by
            have e : (txt[x + k]'l1) = (txt[y + k]'h2) := by
              have := eq_of_beq hE
              exact UInt8.toNat_inj.1 (by omega)
            rw [Array.getElem?_toList, Array.getElem?_toList]
            rw [Array.getElem?_eq_getElem (show x + k < txt.data.size from l1), Array.getElem?_eq_getElem (show y + k < txt.data.size from h2)]
            exact congrArg some e
          have HE2 := Lib.hid hE2
          clear hE2
          go_wp2_with fail
          go_roundw
          case rel => exact ⟨k + 1, q + nq, by go_num, HWQ, by omega, by omega, Lib.hid (fun i hi => by
            rcases Nat.lt_or_ge i k with h | h
            · exact HE.out i h
            · obtain rfl : i = k := by omega
              exact HE2.out)⟩
          case measure => simp [intOf]; omega
        | false =>
          go_wp2_with fail
          go_ret
          exact OUT.out _ _ rfl
      · have h2' : ¬ (y : Int) + (k : Int) < (txt.size : Int) := by omega
        have e1 : IntKind.i64.wrap ((y : Int) + (k : Int)) = (y : Int) + (k : Int) := (IntWalk.i64_left _).trans (IntWalk.wrap64_in _ (by omega))
        go_upto_region 2 with fail
        go_quiet (fail)
        go_wp2_with fail
        go_ret
        exact OUT.out _ _ rfl
    · have h1' : ¬ (k : Int) < 130 := by omega
      go_upto_region 2 with fail
      go_quiet (fail)
      go_wp2_with fail
      go_ret
      exact OUT.out _ _ rfl

end Go.Proofs.YthpdmgefdaegmaaDoor
