/- Five integers, handed over as an array. -/
import Derived.Test.YtgfjeaegigjnaaaGreatDoorOpen
namespace Go.Proofs.YtgfjeaegigjnaaaGreatDoor
open Go.RowKit
set_option linter.unusedVariables false
set_option linter.unusedSimpArgs false
theorem trod_five {H : Type} {enc : TypeId × Value → H} {P : Program} {w : World} {base : Nat} {spare : Nat → Bool} {held : Bool} {t e : TypeId} {fuel : Nat} {c0 c1 c2 c3 c4 : Value} {x : DataW H × List MemPlace} (ht : P.underlying t = some (.array 5 e)) (hce : P.cellsOf e = 1)
    (h : DataW.trod enc P w base spare held fuel t [c0, c1, c2, c3, c4] = some x) :
    ∃ y0 y1 y2 y3 y4 n, DataW.trod enc P w base spare held n e [c0] = some y0 ∧ DataW.trod enc P w base spare held n e [c1] = some y1 ∧ DataW.trod enc P w base spare held n e [c2] = some y2 ∧ DataW.trod enc P w base spare held n e [c3] = some y3 ∧ DataW.trod enc P w base spare held n e [c4] = some y4 := by
  cases fuel with
  | zero => simp [DataW.trod] at h
  | succ n =>
    unfold DataW.trod at h
    rw [ht] at h
    have r5 : List.range 5 = [0, 1, 2, 3, 4] := rfl
    simp [r5, hce] at h
    obtain ⟨_, h⟩ := h
    cases h0 : DataW.trod enc P w base spare held n e [c0] with
    | none => simp [h0] at h
    | some y0 =>
      cases h1 : DataW.trod enc P w base spare held n e [c1] with
      | none => simp [h0, h1] at h
      | some y1 =>
        cases h2 : DataW.trod enc P w base spare held n e [c2] with
        | none => simp [h0, h1, h2] at h
        | some y2 =>
          cases h3 : DataW.trod enc P w base spare held n e [c3] with
          | none => simp [h0, h1, h2, h3] at h
          | some y3 =>
            cases h4 : DataW.trod enc P w base spare held n e [c4] with
            | none => simp [h0, h1, h2, h3, h4] at h
            | some y4 => exact ⟨y0, y1, y2, y3, y4, n, h0, h1, h2, h3, h4⟩
theorem okWide_arr5 {P : Program} {W : World} {t e : TypeId} {r : Reach} {b0 : Nat} {v : Value} (hu : P.underlying t = some (.array 5 e)) (hc : P.cellsOf t = 5) (h : Value.okWide P W r b0 t v) : ∃ x y z s u, v = .agg #[x, y, z, s, u] := by
  simp only [Value.okWide, hu] at h
  obtain ⟨cs, h1, h2, _⟩ := h
  rw [hc] at h2
  obtain ⟨l⟩ := cs
  match l, h2 with
  | [x, y, z, s, u], _ => exact ⟨x, y, z, s, u, h1⟩
theorem open_arr5 {H : Type} {enc : TypeId × Value → H} {P : Program} {W : World} {base : Nat} {sp : Nat → Bool} {held : Bool} {t e : TypeId} {k : IntKind} {x y z s u : Value} {d : DataW H} {p : List MemPlace} (hu : P.underlying t = some (.array 5 e)) (he : P.underlying e = some (.int k)) (hce : P.cellsOf e = 1)
    (h : DataW.Trod enc P W base sp held t (.agg #[x, y, z, s, u]) d p) : ∃ a b c f g, x = .int k a ∧ y = .int k b ∧ z = .int k c ∧ s = .int k f ∧ u = .int k g ∧ (Lit.int k a).wf = true ∧ (Lit.int k b).wf = true ∧ (Lit.int k c).wf = true ∧ (Lit.int k f).wf = true ∧ (Lit.int k g).wf = true := by
  obtain ⟨fuel, hf⟩ := h
  have hf2 : DataW.trod enc P W base sp held fuel t [x, y, z, s, u] = some (d, p) := hf
  obtain ⟨y0, y1, y2, y3, y4, n, h0, h1, h2, h3, h4⟩ := trod_five hu hce hf2
  obtain ⟨a, ha, _, wa⟩ := DataW.trod_int he h0
  obtain ⟨b, hb, _, wb⟩ := DataW.trod_int he h1
  obtain ⟨c, hc, _, wc⟩ := DataW.trod_int he h2
  obtain ⟨f, hf, _, wf⟩ := DataW.trod_int he h3
  obtain ⟨g, hg, _, wg⟩ := DataW.trod_int he h4
  exact ⟨a, b, c, f, g, by simpa using ha, by simpa using hb, by simpa using hc, by simpa using hf, by simpa using hg, wa, wb, wc, wf, wg⟩
end Go.Proofs.YtgfjeaegigjnaaaGreatDoor
