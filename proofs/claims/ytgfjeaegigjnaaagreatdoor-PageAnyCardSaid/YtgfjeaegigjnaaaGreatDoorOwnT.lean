/- A row of bytes that a call owns, with the mark of a conversion behind its cells: appending to '[]byte(s)'. -/
import Derived.Test.YtgfjeaegigjnaaaGreatDoorPgG
import Derived.Lib.FrozenHead
import Derived.Lib.ConvBytes
import Derived.Lib.Strings
namespace Go.Proofs.YtgfjeaegigjnaaaGreatDoor
open Go.RowKit
set_option linter.unusedVariables false
set_option linter.unusedSimpArgs false

def byteW (b : UInt8) : Value := .int .u8 (b.toNat : Int)
/-- The slice v owns the bytes l; what is frozen of its row, if anything, lies behind its cells. -/
def OwnT (w : World) (B : Nat) (v : Value) (l : List UInt8) : Prop :=
  ∃ g cap cur fz, v = .slice (some ⟨g, 0, none⟩) l.length cap ∧ B ≤ g ∧ w.heap[g]? = some (.cells cur 5 fz) ∧ (fz.2 ≤ fz.1 ∨ cur.size ≤ fz.1) ∧ l.length ≤ cap ∧ cap ≤ maxLen ∧ cur.size = cap ∧ cur.toList.take l.length = l.map byteW
theorem OwnT.of_conv (w : World) (s : ByteArray) (hs : s.size ≤ maxLen) : OwnT (Lib.bytesWorld w 5 s) w.heap.size (.slice (some ⟨w.heap.size, 0, none⟩) s.size (grownCap w s.size 0 5)) s.data.toList := by
  have hl : s.data.toList.length = s.size := by simp
  have hge := grownCap_ge w s.size 0 5
  refine ⟨w.heap.size, _, _, _, by rw [hl], Nat.le_refl _, Lib.bytesWorld_at_new w 5 s, .inr (Nat.le_refl _), by rw [hl]; exact hge, grownCap_le_maxLen w s.size 0 5 hs, ?_, ?_⟩
  · unfold Lib.bytesCells
    simp; omega
  · unfold Lib.bytesCells
    have e : (s.data.map fun b => Value.int .u8 b.toNat).toList = s.data.toList.map byteW := by simp [byteW]
    rw [Array.toList_append, e, List.take_left']
    simp
theorem OwnT.of_own {w : World} {B : Nat} {v : Value} {l : List UInt8} (h : w.ownsRow B 5 1 v l.length (l.map byteW)) (hl : l ≠ []) : OwnT w B v l := by
  rcases h.2 with ⟨_, h0⟩ | ⟨g, cap, cur, h1, h2, h3, h4, h5, h6, h7⟩
  · exact absurd (List.length_eq_zero_iff.1 h0) hl
  · exact ⟨g, cap, cur, (0, 0), h1, h2, h3, .inl (Nat.le_refl _), h4, h5, by simpa using h6, by simpa using h7⟩
section
variable {w w' : World} {B : Nat} {v : Value} {l : List UInt8}
theorem OwnT.mono {B' : Nat} (h : OwnT w B v l) (hB : B' ≤ B) : OwnT w B' v l := by
  obtain ⟨g, cap, cur, fz, h1, h2, h3⟩ := h
  exact ⟨g, cap, cur, fz, h1, Nat.le_trans hB h2, h3⟩
theorem OwnT.lt (h : OwnT w B v l) : ∀ k, v.ownBlock = some k → B ≤ k ∧ k < w.heap.size := by
  obtain ⟨g, cap, cur, fz, rfl, h2, h3, _⟩ := h
  intro k hk
  simp [Value.ownBlock] at hk
  subst hk
  exact ⟨h2, (Array.getElem?_eq_some_iff.1 h3).1⟩
theorem OwnT.below (h : OwnT w B v l) (k : Below w.heap.size w w') : OwnT w' B v l := by
  obtain ⟨g, cap, cur, fz, h1, h2, h3, h4⟩ := h
  exact ⟨g, cap, cur, fz, h1, h2, by rw [k.block g (Array.getElem?_eq_some_iff.1 h3).1]; exact h3, h4⟩
theorem OwnT.alloc (h : OwnT w B v l) (o : Obj) : OwnT (w.alloc o) B v l := h.below ((Below.refl _ _).alloc (Nat.le_refl _) _)
theorem OwnT.row (h : OwnT w B v l) : ∃ g cap, v = .slice (some ⟨g, 0, none⟩) l.length cap ∧ B ≤ g ∧ g < w.heap.size ∧ (∀ j, j < l.length → w.cell? ⟨g, j, none⟩ = some (byteW (l.getD j 0))) ∧ (∀ j, j < l.length → w.frozen? ⟨g, j, none⟩ = false) := by
  obtain ⟨g, cap, cur, fz, h1, h2, h3, h4, h5, h6, h7, h8⟩ := h
  refine ⟨g, cap, h1, h2, (Array.getElem?_eq_some_iff.1 h3).1, fun j hj => ?_, fun j hj => ?_⟩
  · rw [Lib.cell_of_heap h3]
    have e : cur.toList[j]? = some (byteW (l.getD j 0)) := by
      have e1 : (cur.toList.take l.length)[j]? = (l.map byteW)[j]? := by rw [h8]
      rw [List.getElem?_take_of_lt hj, List.getElem?_map, List.getElem?_eq_getElem hj] at e1
      rw [e1, List.getD_eq_getElem?_getD, List.getElem?_eq_getElem hj]; rfl
    simpa using e
  · obtain ⟨lo, hi⟩ := fz
    simp only [World.frozen?, h3]
    have h4 : hi ≤ lo ∨ cur.size ≤ lo := h4
    rw [Bool.and_eq_false_iff, decide_eq_false_iff_not, decide_eq_false_iff_not]
    omega
theorem OwnT.string {cap : Nat} (g : Nat) (h : OwnT w B (.slice (some ⟨g, 0, none⟩) l.length cap) l) : (convert 47 9 (.slice (some ⟨g, 0, none⟩) l.length cap)).run Tryz.prog w = .ok (.string ⟨l.toArray⟩) w := by
  obtain ⟨g', cap', e, _, _, hc, _⟩ := h.row
  simp only [Value.slice.injEq, Option.some.injEq, Addr.mk.injEq, true_and, and_true] at e
  obtain ⟨rfl, _⟩ := e
  exact run_convert_bytes_back (P := Tryz.prog) w 47 9 5 ⟨g, 0, none⟩ cap l (by kernel_rfl) (by kernel_rfl) (by kernel_rfl) (by
    intro j hj
    have e : (⟨g, 0, none⟩ : Addr).add j = ⟨g, j, none⟩ := by
      cases j with
      | zero => rfl
      | succ j => simp [Addr.add]
    rw [e, hc j hj, List.getD_eq_getElem?_getD, List.getElem?_eq_getElem hj]; rfl)
end
theorem run_storeCells_atT (P : Program) (g o : Nat) (t : TypeId) (fz : Nat × Nat) : ∀ (vs : List Value) (i : Nat) (cur : Array Value) (w : World), w.heap[g]? = some (.cells cur t fz) → (fz.2 ≤ fz.1 ∨ cur.size ≤ fz.1) → o + i + vs.length ≤ cur.size → (∀ v ∈ vs, v.oneCell' = true) →
    (storeCells ⟨g, o, none⟩ vs i).run P w = .ok () (w.setRow g (cur.toList.take (o + i) ++ vs ++ cur.toList.drop (o + i + vs.length)).toArray)
  | [], i, cur, w, hg, _, _, _ => by
    simp only [storeCells, List.append_nil, List.length_nil, Nat.add_zero, List.take_append_drop, Array.toArray_toList]
    rw [setRow_self w g cur t fz hg]
    rfl
  | v :: rest, i, cur, w, hg, hfz, hl, h1 => by
    have hi : o + i < cur.size := by simp at hl; omega
    have hadd : (⟨g, o, none⟩ : Addr).add i = ⟨g, o + i, none⟩ := by unfold Addr.add; split <;> simp_all
    have hcell : w.cell? ⟨g, o + i, none⟩ = some cur[o + i] := by simp [World.cell?, hg, hi]
    have hfro : w.frozen? ⟨g, o + i, none⟩ = false := by
      obtain ⟨lo, hi'⟩ := fz
      simp only [World.frozen?, hg, Bool.and_eq_false_iff, decide_eq_false_iff_not]
      simp only at hfz
      omega
    have hst : (store ((⟨g, o, none⟩ : Addr).add i) v).run P w = .ok () (w.setRow g (cur.setIfInBounds (o + i) v)) := by
      rw [hadd, run_store P w _ v _ (h1 v (by simp)), hcell]
      simp [hfro, setCell_eq_setRow w g (o + i) cur t fz v hg]
    have ih := run_storeCells_atT P g o t fz rest (i + 1) (cur.setIfInBounds (o + i) v) (w.setRow g (cur.setIfInBounds (o + i) v)) (setRow_heap w g cur _ t _ hg) (by simpa using hfz) (by simp at hl ⊢; omega) (fun x hx => h1 x (by simp [hx]))
    simp only [storeCells, Sem.run_bind, hst, Result.andThen_ok, ih, setRow_setRow]
    congr 3
    have e := list_seg_step cur.toList (o + i) v rest (by simp at hl ⊢; omega)
    simpa [Array.toList_setIfInBounds, Nat.add_assoc] using e
/-- 'append(v, news...)' of bytes to a row that is owned so. -/
theorem run_appendT (w : World) (ty : TypeId) (B : Nat) (v : Value) (l : List UInt8) (h : OwnT w B v l) (a : Addr) (c : Nat) (news : List UInt8) (hnews : ∀ j, j < news.length → w.cell? (a.add j) = some (byteW (news.getD j 0))) (hb : l.length + news.length ≤ 140737488355328) (hB : B ≤ w.heap.size) :
    ∃ v' w', (Builtin.append_ #[47, 47] ty #[v, .slice (some a) news.length c]).run Tryz.prog w = .ok v' w' ∧ OwnT w' B v' (l ++ news) ∧ w.grownBy w' v.ownBlock := by
  obtain ⟨i, hi, hz0, hz1, hz2⟩ := info_parts (show (Tryz.prog.info? 5).map (fun i => (i.zero, i.size, i.bytes)) = some (some (.int .u8 0), 1, 1) by kernel_rfl)
  obtain ⟨g, cap, cur, fz, rfl, h2, h3, h4, h5, h6, h7, h8⟩ := h
  have hn : ∀ j u, (news.map byteW)[j]? = some u → w.cell? (a.add j) = some u := fun j u hu => by
    rw [List.getElem?_map] at hu
    cases hj : news[j]? with
    | none => rw [hj] at hu; cases hu
    | some b =>
      have hjl : j < news.length := by
        rcases Nat.lt_or_ge j news.length with h | h
        · exact h
        · rw [List.getElem?_eq_none h] at hj; cases hj
      rw [hj] at hu
      rw [hnews j hjl, List.getD_eq_getElem?_getD, hj]
      exact hu
  have hone : ∀ u ∈ news.map byteW, u.oneCell' = true := fun u hu => by
    obtain ⟨b, _, rfl⟩ := List.mem_map.1 hu
    rfl
  have hlen : (l ++ news).length = l.length + news.length := List.length_append
  by_cases hroom : l.length + news.length ≤ cap
  · have hf := run_firstCells_some (P := Tryz.prog) w 1 news.length a news.length c (news.map byteW) (by rw [List.length_map, Nat.mul_one]) hn
    have hst := run_storeCells_atT Tryz.prog g l.length 5 fz (news.map byteW) 0 cur w h3 h4 (by rw [List.length_map]; omega) hone
    simp only [Nat.add_zero, List.length_map] at hst
    have hr : (Builtin.append_ #[47, 47] ty #[.slice (some ⟨g, 0, none⟩) l.length cap, .slice (some a) news.length c]).run Tryz.prog w = .ok (.slice (some ⟨g, 0, none⟩) (l.length + news.length) cap) (w.setRow g (cur.toList.take l.length ++ news.map byteW ++ cur.toList.drop (l.length + news.length)).toArray) := by
      simp [Builtin.append_, run_underlying (show Tryz.prog.underlying 47 = some (.slice 5) by kernel_rfl), sizeOf, typeInfo, hi, hz1, Builtin.lenOf, hroom, hf, Addr.add_lit, hst]
    refine ⟨_, _, hr, ⟨g, cap, _, fz, by rw [hlen], h2, setRow_heap w g cur _ 5 _ h3, ?_, by omega, h6, ?_, ?_⟩, ⟨rfl, rfl, rfl, by simp, fun k _ hk => setRow_other w g k _ (fun e => hk (by simp [Value.ownBlock, e]))⟩⟩
    · rcases h4 with h4 | h4
      · exact .inl h4
      · right
        simp only [List.size_toArray, List.length_append, List.length_take, List.length_drop, Array.length_toList, List.length_map]
        omega
    · simp only [List.size_toArray, List.length_append, List.length_take, List.length_drop, Array.length_toList, List.length_map]
      omega
    · rw [h8, List.map_append, hlen]
      have e : l.length + news.length = (l.map byteW ++ news.map byteW).length := by simp
      rw [e]
      exact List.take_left
  · have holds : ∀ j u, (l.map byteW)[j]? = some u → w.cell? ((⟨g, 0, none⟩ : Addr).add j) = some u := fun j u hu => by
      have hadd : (⟨g, 0, none⟩ : Addr).add j = ⟨g, j, none⟩ := by unfold Addr.add; split <;> simp_all
      rw [hadd, Lib.cell_of_heap h3]
      rw [← h8, List.getElem?_take] at hu
      split at hu
      · simpa using hu
      · cases hu
    have hr := run_append_grow (P := Tryz.prog) w 47 ty 5 i (.int .u8 0) (by kernel_rfl) hi hz0 ⟨g, 0, none⟩ l.length cap (l.map byteW) (by rw [List.length_map, hz1, Nat.mul_one]) holds a news.length c (news.map byteW) (by rw [List.length_map, hz1, Nat.mul_one]) hn (by omega) (by omega) (by rw [hz2]; exact growslice_fits (by omega) (by omega))
    have hge := grownCap_ge w (l.length + news.length) cap 5
    have hcm2 : grownCap w (l.length + news.length) cap 5 ≤ maxLen := grownCap_le_maxLen w (l.length + news.length) cap 5 (by unfold maxLen; omega)
    refine ⟨_, _, hr, ⟨w.heap.size, _, _, (0, 0), by rw [hlen], hB, heap_alloc_new w.drew _, .inl (Nat.le_refl _), by omega, hcm2, ?_, ?_⟩, ⟨rfl, rfl, rfl, by simp, fun k hk _ => heap_alloc_old w.drew _ hk⟩⟩
    · have hzc : (Value.int IntKind.u8 0).cells.size = 1 := rfl
      simp only [Array.size_append, List.size_toArray, size_zeroCells, hzc, List.length_map]
      omega
    · simp only [Array.toList_append, List.append_assoc]
      rw [← List.append_assoc, List.map_append, hlen]
      have e : l.length + news.length = (l.map byteW ++ news.map byteW).length := by simp
      rw [e]
      exact List.take_left
/-- For the walk. -/
theorem wpList_appendT {w : World} {ops : Array Oper} {rest : List Oper} {o : Oper} {a : Act} {Q : Exit → Act → World → Prop} (hgd : o.guard = none) (s x : Operand)
    (ho : o.op = .call { callee := .builtin .append, args := #[s, x], argTypes := #[47, 47] }) (B : Nat) (v : Value) (l : List UInt8) (hs : a.eval s = v) (h : OwnT w B v l) (ad : Addr) (c : Nat) (news : List UInt8) (m : Nat) (hm : m = news.length) (hx : a.eval x = .slice (some ad) m c)
    (hnews : ∀ j, j < news.length → w.cell? (ad.add j) = some (byteW (news.getD j 0))) (hb : l.length + news.length ≤ 140737488355328) (hB : B ≤ w.heap.size)
    (hK : ∀ v' w', OwnT w' B v' (l ++ news) → w.grownBy w' v.ownBlock → wpList Tryz.prog ops Q rest (a.put o.dst v') w') : wpList Tryz.prog ops Q (o :: rest) a w := by
  subst hm
  refine wpList_plain hgd fun _ hKK => ?_
  obtain ⟨v', w', hr, h2, h3⟩ := run_appendT w o.type B v l h ad c news hnews hb hB
  unfold Oper.wp execOp
  simp only [ho, resolve, invoke, builtin, Sem.run_bind, Sem.run_pure, Result.andThen_ok, List.map_toArray, List.map_cons, List.map_nil, hs, hx, hr]
  exact hKK _ _ (hK v' w' h2 h3)
end Go.Proofs.YtgfjeaegigjnaaaGreatDoor
