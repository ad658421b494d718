/- How arguments that are slices lie in memory: rows of integers, of structs of one-cell fields, of texts. -/
import Derived.Test.YtgfjeaegigjnaaaGreatDoorProg
import Derived.WalkKit
import Derived.ProofKit
import Derived.Deep.Slices
import Derived.Deep.Fields
import Derived.ChangeSame
import Derived.ChangeSlices
import Derived.Laws.IdiomArrays
import Derived.OpenShut
namespace Go.Proofs.YtgfjeaegigjnaaaGreatDoor
open Go.ChangeShapes Go.WideShapes Go.Deep Go.RowKit
set_option linter.unusedVariables false

/-- A slice of integers: nil, or its cells known up to the capacity. -/
def IntRow (k : IntKind) (w : World) (a : Option Addr) (len cap : Nat) (zs : List Int) : Prop :=
  (a = none ∧ len = 0 ∧ cap = 0 ∧ zs = []) ∨
  ∃ x, a = some x ∧ len ≤ cap ∧ cap ≤ maxLen ∧ zs.length = cap ∧ (∀ i, i < zs.length → w.cell? (x.add i) = some (.int k (zs.getD i 0))) ∧ ∀ n ∈ zs, (Lit.int k n).wf = true

section
variable {H : Type} {enc : TypeId × Value → H} {P : Program} {w : World}
theorem open_row {t e : TypeId} {k : IntKind} {a : Option Addr} {len cap : Nat} {d : DataW H} {p : List MemPlace} (ht : P.underlying t = some (.slice e)) (he : P.underlying e = some (.int k)) (hc : P.cellsOf e = 1)
    (h : DataW.Trod enc P w 0 (fun _ => true) true t (.slice a len cap) d p) : ∃ zs, IntRow k w a len cap zs := by
  obtain ⟨fuel, hf⟩ := h
  rcases open_ints ht he hc hf with ⟨hcs, _⟩ | ⟨x, l, c, zs, hcs, _, hl, hm, hz, _, hcell, hwz⟩
  · simp [Value.cells] at hcs
    obtain ⟨rfl, rfl, rfl⟩ := hcs
    exact ⟨[], .inl ⟨rfl, rfl, rfl, rfl⟩⟩
  · simp [Value.cells] at hcs
    obtain ⟨rfl, rfl, rfl⟩ := hcs
    exact ⟨zs, .inr ⟨_, rfl, hl, hm, by simpa using hz, hcell, hwz⟩⟩

inductive FieldKind where
  | int (k : IntKind)
  | bool
  | string

/-- What the value of such a field is. -/
def FieldIs : FieldKind → Value → Prop
  | .int k, v => ∃ n, v = .int k n ∧ (Lit.int k n).wf = true
  | .bool, v => ∃ b, v = .bool b
  | .string, v => ∃ s : ByteArray, v = .string s ∧ s.size ≤ maxLen
def FieldOk (ks : List FieldKind) (j : Nat) (v : Value) : Prop := ∃ k, ks[j]? = some k ∧ FieldIs k v

/-- A slice of elements of so many cells: nil, or each cell of each element is known to be of its field's kind. -/
def CellRow (w : World) (a : Option Addr) (len cap size : Nat) (ok : Nat → Value → Prop) : Prop :=
  (a = none ∧ len = 0 ∧ cap = 0) ∨
  ∃ x, a = some x ∧ len ≤ cap ∧ cap ≤ maxLen ∧ ∀ i, i < len → ∀ j, j < size → ∃ v, w.cell? (x.add (i * size + j)) = some v ∧ ok j v

theorem field_int {base : Nat} {spare : Nat → Bool} {held : Bool} {n : Nat} {t : TypeId} {k : IntKind} {v : Value} {y : DataW H × List MemPlace} (ht : P.underlying t = some (.int k)) (h : DataW.trod enc P w base spare held n t [v] = some y) : FieldIs (.int k) v := by
  obtain ⟨m, hm, _, hwf⟩ := DataW.trod_int ht h
  exact ⟨m, by simpa using hm, hwf⟩
theorem field_bool {base : Nat} {spare : Nat → Bool} {held : Bool} {n : Nat} {t : TypeId} {v : Value} {y : DataW H × List MemPlace} (ht : P.underlying t = some .bool) (h : DataW.trod enc P w base spare held n t [v] = some y) : FieldIs .bool v := by
  obtain ⟨m, hm, _⟩ := DataW.trod_bool ht h
  exact ⟨m, by simpa using hm⟩
theorem field_string {base : Nat} {spare : Nat → Bool} {held : Bool} {n : Nat} {t : TypeId} {v : Value} {y : DataW H × List MemPlace} (ht : P.underlying t = some .string) (h : DataW.trod enc P w base spare held n t [v] = some y) : FieldIs .string v := by
  obtain ⟨m, hm, _, hsz⟩ := DataW.trod_string ht h
  exact ⟨m, by simpa using hm, hsz⟩

/-- A slice of structs whose fields take one cell each. -/
theorem open_cells {t e : TypeId} {fs : Array Field} {fuel : Nat} {a : Option Addr} {len cap : Nat} {x : DataW H × List MemPlace} {ok : Nat → Value → Prop} (ht : P.underlying t = some (.slice e)) (he : P.underlying e = some (.struct fs))
    (hone : oneCellFields P fs = true) (hC : P.cellsOf e = fs.size) (hf : DataW.trod enc P w 0 (fun _ => true) true fuel t (Value.slice a len cap).cells.toList = some x)
    (hk : ∀ j f, fs[j]? = some f → ∀ n v y, DataW.trod enc P w 0 (fun _ => true) true n f.type [v] = some (y : DataW H × List MemPlace) → ok j v) : CellRow w a len cap fs.size ok := by
  rcases open_slice ht hf with ⟨h0, _⟩ | ⟨b, l, c, m, n, D, Pl, hcs, _, hl, hm, hmm, _, hi⟩
  · left
    simpa [Value.cells] using h0
  · right
    have h1 : a = some b ∧ len = l ∧ cap = c := by simpa [Value.cells] using hcs
    obtain ⟨rfl, rfl, rfl⟩ := h1
    refine ⟨b, rfl, hl, hm, fun i hil j hj => ?_⟩
    have him : i < m := by simp at hmm; omega
    obtain ⟨cs, hc, ht2⟩ := hi i him
    rw [hC] at hc
    obtain ⟨_, hlen, hat⟩ := World.cells?_some hc
    obtain ⟨ys, q, _, _, _, hyl, hfs⟩ := DataW.trod_struct he ht2
    have hfj : fs[j]? = some fs[j] := Array.getElem?_eq_getElem hj
    obtain ⟨ho, hone'⟩ := hone_of hone j _ hfj
    have hread := hfs j _ hfj
    have hjl : j < cs.length := by omega
    have htk : (cs.drop fs[j].offset).take (P.cellsOf fs[j].type) = [cs[j]] := by
      rw [ho, hone', List.drop_eq_getElem_cons hjl]
      rfl
    rw [htk, List.getElem?_eq_getElem (by omega)] at hread
    refine ⟨cs[j], ?_, hk j _ hfj _ _ _ hread⟩
    rw [← Go.Deep.add_add]
    exact (hat j hj).trans (List.getElem?_eq_getElem hjl)
end

theorem add_none (b o n : Nat) : (⟨b, o, none⟩ : Addr).add n = ⟨b, o + n, none⟩ := by
  unfold Addr.add
  by_cases h : n = 0
  · simp [h]
  · simp [h]
/-- The cells of a row that isn't empty, at their addresses. -/
theorem CellRow.open_ {w : World} {a : Option Addr} {len cap size : Nat} {ok : Nat → Value → Prop} (h : CellRow w a len cap size ok) (hl : 0 < len) (hs : 0 < size) :
    ∃ b o, a = some ⟨b, o, none⟩ ∧ b < w.heap.size ∧ len ≤ cap ∧ cap ≤ maxLen ∧ ∀ i, i < len → ∀ j, j < size → ∃ v, w.cell? ⟨b, o + i * size + j, none⟩ = some v ∧ ok j v := by
  rcases h with ⟨_, h, _⟩ | ⟨x, rfl, h1, h2, h3⟩
  · omega
  · obtain ⟨b, o, sp⟩ := x
    have h0 := h3 0 hl 0 hs
    obtain ⟨v, hv, _⟩ := h0
    have e : (⟨b, o, sp⟩ : Addr).add (0 * size + 0) = ⟨b, o, sp⟩ := by unfold Addr.add; simp
    rw [e] at hv
    have hsp : sp = none := by
      cases sp with
      | none => rfl
      | some q => unfold World.cell? at hv; split at hv <;> simp at hv
    subst hsp
    refine ⟨b, o, rfl, World.block_lt_of_cell? _ _ hv, h1, h2, fun i hi j hj => ?_⟩
    obtain ⟨v, hv, hk⟩ := h3 i hi j hj
    rw [add_none] at hv
    exact ⟨v, by rw [Nat.add_assoc]; exact hv, hk⟩
theorem FieldOk.int {ks : List FieldKind} {j : Nat} {v : Value} {k : IntKind} (h : FieldOk ks j v) (hk : ks[j]? = some (.int k)) : ∃ n, v = .int k n ∧ (Lit.int k n).wf = true := by
  obtain ⟨q, hq, hv⟩ := h
  rw [hk] at hq
  obtain rfl := Option.some.inj hq
  exact hv
theorem FieldOk.string {ks : List FieldKind} {j : Nat} {v : Value} (h : FieldOk ks j v) (hk : ks[j]? = some .string) : ∃ s : ByteArray, v = .string s ∧ s.size ≤ maxLen := by
  obtain ⟨q, hq, hv⟩ := h
  rw [hk] at hq
  obtain rfl := Option.some.inj hq
  exact hv
theorem FieldOk.bool {ks : List FieldKind} {j : Nat} {v : Value} (h : FieldOk ks j v) (hk : ks[j]? = some .bool) : ∃ b : Bool, v = .bool b := by
  obtain ⟨q, hq, hv⟩ := h
  rw [hk] at hq
  obtain rfl := Option.some.inj hq
  exact hv
theorem wf_i64 {n : Int} (h : (Lit.int .i64 n).wf = true) : -9223372036854775808 ≤ n ∧ n ≤ 9223372036854775807 := by
  simp [Lit.wf, IntKind.min, IntKind.max, IntKind.signed, IntKind.bits] at h; omega
theorem wf_u8 {n : Int} (h : (Lit.int .u8 n).wf = true) : 0 ≤ n ∧ n ≤ 255 := by
  simp [Lit.wf, IntKind.min, IntKind.max, IntKind.signed, IntKind.bits] at h; omega
theorem CellRow.len_le {w : World} {a : Option Addr} {len cap size : Nat} {ok : Nat → Value → Prop} (h : CellRow w a len cap size ok) : len ≤ 9223372036854775807 := by
  rcases h with ⟨_, h, _⟩ | ⟨x, rfl, h1, h2, h3⟩
  · omega
  · unfold maxLen at h2; omega
/-- Three integers, handed over as an array. -/
theorem okWide_arr3 {P : Program} {W : World} {t e : TypeId} {r : Reach} {b0 : Nat} {v : Value} (hu : P.underlying t = some (.array 3 e)) (hc : P.cellsOf t = 3) (h : Value.okWide P W r b0 t v) : ∃ x y z, v = .agg #[x, y, z] := by
  simp only [Value.okWide, hu] at h
  obtain ⟨cs, h1, h2, _⟩ := h
  rw [hc] at h2
  obtain ⟨l⟩ := cs
  match l, h2 with
  | [x, y, z], _ => exact ⟨x, y, z, h1⟩
theorem open_arr3 {H : Type} {enc : TypeId × Value → H} {P : Program} {W : World} {base : Nat} {sp : Nat → Bool} {held : Bool} {t e : TypeId} {k : IntKind} {x y z : Value} {d : DataW H} {p : List MemPlace} (hu : P.underlying t = some (.array 3 e)) (he : P.underlying e = some (.int k)) (hce : P.cellsOf e = 1)
    (h : DataW.Trod enc P W base sp held t (.agg #[x, y, z]) d p) : ∃ a b c, x = .int k a ∧ y = .int k b ∧ z = .int k c ∧ (Lit.int k a).wf = true ∧ (Lit.int k b).wf = true ∧ (Lit.int k c).wf = true := by
  obtain ⟨fuel, hf⟩ := h
  have hf2 : DataW.trod enc P W base sp held fuel t [x, y, z] = some (d, p) := hf
  obtain ⟨y0, y1, y2, n, _, h0, h1, h2⟩ := ChangeShapes.trod_array3 hu hce hf2
  obtain ⟨a, ha, _, wa⟩ := DataW.trod_int he h0
  obtain ⟨b, hb, _, wb⟩ := DataW.trod_int he h1
  obtain ⟨c, hc, _, wc⟩ := DataW.trod_int he h2
  exact ⟨a, b, c, by simpa using ha, by simpa using hb, by simpa using hc, wa, wb, wc⟩
theorem trod_two {H : Type} {enc : TypeId × Value → H} {P : Program} {w : World} {base : Nat} {spare : Nat → Bool} {held : Bool} {t e : TypeId} {fuel : Nat} {c0 c1 : Value} {x : DataW H × List MemPlace} (ht : P.underlying t = some (.array 2 e)) (hce : P.cellsOf e = 1)
    (h : DataW.trod enc P w base spare held fuel t [c0, c1] = some x) :
    ∃ y0 y1 n, DataW.trod enc P w base spare held n e [c0] = some y0 ∧ DataW.trod enc P w base spare held n e [c1] = some y1 := by
  cases fuel with
  | zero => simp [DataW.trod] at h
  | succ n =>
    unfold DataW.trod at h
    rw [ht] at h
    have r2 : List.range 2 = [0, 1] := rfl
    simp [r2, hce] at h
    obtain ⟨_, h⟩ := h
    cases h0 : DataW.trod enc P w base spare held n e [c0] with
    | none => simp [h0] at h
    | some y0 =>
      cases h1 : DataW.trod enc P w base spare held n e [c1] with
      | none => simp [h0, h1] at h
      | some y1 => exact ⟨y0, y1, n, h0, h1⟩
/-- Two integers, handed over as an array. -/
theorem okWide_arr2 {P : Program} {W : World} {t e : TypeId} {r : Reach} {b0 : Nat} {v : Value} (hu : P.underlying t = some (.array 2 e)) (hc : P.cellsOf t = 2) (h : Value.okWide P W r b0 t v) : ∃ x y, v = .agg #[x, y] := by
  simp only [Value.okWide, hu] at h
  obtain ⟨cs, h1, h2, _⟩ := h
  rw [hc] at h2
  obtain ⟨l⟩ := cs
  match l, h2 with
  | [x, y], _ => exact ⟨x, y, h1⟩
theorem open_arr2 {H : Type} {enc : TypeId × Value → H} {P : Program} {W : World} {base : Nat} {sp : Nat → Bool} {held : Bool} {t e : TypeId} {k : IntKind} {x y : Value} {d : DataW H} {p : List MemPlace} (hu : P.underlying t = some (.array 2 e)) (he : P.underlying e = some (.int k)) (hce : P.cellsOf e = 1)
    (h : DataW.Trod enc P W base sp held t (.agg #[x, y]) d p) : ∃ a b, x = .int k a ∧ y = .int k b ∧ (Lit.int k a).wf = true ∧ (Lit.int k b).wf = true := by
  obtain ⟨fuel, hf⟩ := h
  have hf2 : DataW.trod enc P W base sp held fuel t [x, y] = some (d, p) := hf
  obtain ⟨y0, y1, n, h0, h1⟩ := trod_two hu hce hf2
  obtain ⟨a, ha, _, wa⟩ := DataW.trod_int he h0
  obtain ⟨b, hb, _, wb⟩ := DataW.trod_int he h1
  exact ⟨a, b, by simpa using ha, by simpa using hb, wa, wb⟩
/-- Two texts, handed over as an array. -/
theorem open_arr2s {H : Type} {enc : TypeId × Value → H} {P : Program} {W : World} {base : Nat} {sp : Nat → Bool} {held : Bool} {t e : TypeId} {x y : Value} {d : DataW H} {p : List MemPlace} (hu : P.underlying t = some (.array 2 e)) (he : P.underlying e = some .string) (hce : P.cellsOf e = 1)
    (h : DataW.Trod enc P W base sp held t (.agg #[x, y]) d p) : ∃ a b : ByteArray, x = .string a ∧ y = .string b := by
  obtain ⟨fuel, hf⟩ := h
  have hf2 : DataW.trod enc P W base sp held fuel t [x, y] = some (d, p) := hf
  obtain ⟨y0, y1, n, h0, h1⟩ := trod_two hu hce hf2
  obtain ⟨a, ha, _⟩ := field_string he h0
  obtain ⟨b, hb, _⟩ := field_string he h1
  exact ⟨a, b, ha, hb⟩
/-- A slice of texts. -/
theorem open_texts {H : Type} {enc : TypeId × Value → H} {P : Program} {w : World} {t e : TypeId} {fuel : Nat} {a : Option Addr} {len cap : Nat} {x : DataW H × List MemPlace} (ht : P.underlying t = some (.slice e)) (he : P.underlying e = some .string) (hc : P.cellsOf e = 1)
    (hf : DataW.trod enc P w 0 (fun _ => true) true fuel t (Value.slice a len cap).cells.toList = some x) : CellRow w a len cap 1 (FieldOk [.string]) := by
  rcases open_strings ht he hc hf with ⟨hcs, _⟩ | ⟨x, l, c, ss, hcs, _, hl, hm, hz, _, hcell, hsz⟩
  · simp [Value.cells] at hcs
    exact .inl hcs
  · simp [Value.cells] at hcs
    obtain ⟨rfl, rfl, rfl⟩ := hcs
    refine .inr ⟨x, rfl, hl, hm, fun i hi j hj => ?_⟩
    obtain rfl : j = 0 := by omega
    have hil : i < ss.length := by simp at hz; omega
    rw [Nat.mul_one, Nat.add_zero]
    refine ⟨_, hcell i hil, _, rfl, _, rfl, ?_⟩
    rw [List.getD_eq_getElem?_getD, List.getElem?_eq_getElem hil]
    exact hsz _ (List.getElem_mem _)
end Go.Proofs.YtgfjeaegigjnaaaGreatDoor
