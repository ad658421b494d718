/- A slice of texts that came in: how it reads, and what the bound on the whole gives. -/
import Derived.Test.YtgpknilmfkcneaaDoorRows
import Derived.Test.YtgpknilmfkcneaaDoorOpen
import Derived.Test.YtgpknilmfkcneaaDoorPathOps
import Derived.SliceStrings
namespace Go.Proofs.YtgpknilmfkcneaaDoor
open Go.ChangeShapes Go.WideShapes Go.Deep Go.RowKit
set_option linter.unusedVariables false
set_option linter.unusedSimpArgs false

theorem inter_len : ∀ ps : List (List UInt8), ([47].intercalate ps).length ≤ (ps.map (fun p => p.length + 1)).sum
  | [] => by simp [List.intercalate, List.intersperse]
  | [a] => by rw [inter_one]; simp
  | a :: b :: ps => by
    have := inter_len (b :: ps)
    rw [inter_cons]
    simp only [List.length_append, List.length_cons, List.map_cons, List.sum_cons] at this ⊢
    omega
theorem bulk_strs {H : Type} (ss : List ByteArray) : Rows.uptoBulkAll (strs (H := H) ss) = ((ss.map (·.data.toList)).map (fun p => p.length + 1)).sum := by
  induction ss with
  | nil => rfl
  | cons s r ih =>
    have : strs (H := H) (s :: r) = .lit (.string s.data.toList) :: strs r := rfl
    rw [this, Rows.uptoBulkAll, ih]
    simp [Rows.uptoBulk]
theorem sum_len (ps : List (List UInt8)) : ps.length ≤ (ps.map (fun p => p.length + 1)).sum := by
  induction ps with
  | nil => simp
  | cons a l ih => simp only [List.length_cons, List.map_cons, List.sum_cons]; omega

theorem strs_open {H : Type} {enc : TypeId × Value → H} {W : World} {t e : TypeId} {fuel : Nat} {a : Option Addr} {len cap : Nat} {x : DataW H × List MemPlace}
    (ht : Tryd.prog.underlying t = some (.slice e)) (he : Tryd.prog.underlying e = some .string) (hc : Tryd.prog.cellsOf e = 1)
    (hf : DataW.trod enc Tryd.prog W 0 (fun _ => true) true fuel t (Value.slice a len cap).cells.toList = some x) (hb : Rows.uptoBulk x.1 ≤ 1048576) :
    ∃ ps, StrsAt W (.slice a len cap) ps ∧ (∀ n c, Value.slice a len cap = .slice none n c → c = 0) ∧ ps.length ≤ 1048576 ∧ (pathOf ps).length ≤ 140737488351232 := by
  rcases open_strings ht he hc hf with ⟨hcs, hx⟩ | ⟨x0, l, c, ss, hcs, _, hl, hm, hss, hx, hcell, _⟩
  · simp [Value.cells] at hcs
    obtain ⟨rfl, rfl, rfl⟩ := hcs
    exact ⟨[], ⟨none, 0, rfl, Nat.le_refl _, .inl rfl⟩, (fun n c h => by cases h; rfl), by simp, by simp [pathOf, List.intercalate, List.intersperse]⟩
  · simp [Value.cells] at hcs
    obtain ⟨rfl, rfl, rfl⟩ := hcs
    simp at hss
    subst hx
    have hb2 : Rows.uptoBulkAll (strs (H := H) (ss.take len)) ≤ 1048576 := by
      have : Rows.uptoBulk (DataW.slice (strs (H := H) (ss.take len)) (strs (ss.drop len))) ≤ 1048576 := hb
      simp only [Rows.uptoBulk] at this
      omega
    rw [bulk_strs] at hb2
    have hl2 : ((ss.take len).map (·.data.toList)).length = len := by simp; omega
    generalize hps : (ss.take len).map (·.data.toList) = ps at *
    have h1 := sum_len ps
    have h2 := inter_len ps
    refine ⟨ps, ⟨some x0, cap, by rw [hl2], by omega, ?_⟩, (fun n c h => by cases h), by omega, by unfold pathOf; simp; omega⟩
    by_cases h0 : len = 0
    · left; exact List.length_eq_zero_iff.1 (by omega)
    · right
      obtain ⟨b, o, sp⟩ := x0
      have hv := hcell 0 (by omega)
      have e0 : (⟨b, o, sp⟩ : Addr).add 0 = ⟨b, o, sp⟩ := by unfold Addr.add; simp
      rw [e0] at hv
      have hsp : sp = none := by
        cases sp with
        | none => rfl
        | some q => unfold World.cell? at hv; split at hv <;> simp at hv
      subst hsp
      refine ⟨b, o, rfl, fun j hj => ?_⟩
      have hv := hcell j (by omega)
      rw [add_none] at hv
      rw [hv]
      have hj2 : j < ss.length := by omega
      have : ps[j] = ss[j].data.toList := by
        subst hps
        simp
      rw [this, strV_back, List.getD_eq_getElem?_getD, List.getElem?_eq_getElem hj2]; rfl

end Go.Proofs.YtgpknilmfkcneaaDoor
