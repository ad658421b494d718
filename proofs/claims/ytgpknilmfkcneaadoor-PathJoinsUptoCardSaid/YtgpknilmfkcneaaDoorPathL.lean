/- Plain laws of paths, no program in sight: cut at strokes, joined again. -/
import Derived.Lib.Split
import Derived.Lib.Join
import Derived.Lib.SplitLaws
namespace Go.Proofs.YtgpknilmfkcneaaDoor
set_option linter.unusedVariables false
set_option linter.unusedSimpArgs false

def cutL : List UInt8 → List (List UInt8)
  | [] => [[]]
  | c :: cs => if c = 47 then [] :: cutL cs else (c :: (cutL cs).headD []) :: (cutL cs).tail
theorem cutL_stroke (cs : List UInt8) : cutL (47 :: cs) = [] :: cutL cs := if_pos rfl
theorem cutL_other {c : UInt8} (cs : List UInt8) (h : c ≠ 47) : cutL (c :: cs) = (c :: (cutL cs).headD []) :: (cutL cs).tail := if_neg h
theorem cutL_ne (l : List UInt8) : cutL l ≠ [] := by
  cases l with
  | nil => exact List.cons_ne_nil _ _
  | cons c cs =>
    by_cases h : c = 47
    · rw [h, cutL_stroke]; exact List.cons_ne_nil _ _
    · rw [cutL_other _ h]; exact List.cons_ne_nil _ _
theorem cutL_len (l : List UInt8) : (cutL l).length = l.count 47 + 1 := by
  induction l with
  | nil => rfl
  | cons c cs ih =>
    by_cases h : c = 47
    · rw [h, cutL_stroke, List.length_cons, ih]; simp
    · rw [cutL_other _ h]
      have h1 : cutL cs ≠ [] := cutL_ne cs
      have h2 : 0 < (cutL cs).length := List.length_pos_iff.2 h1
      rw [List.length_cons, List.length_tail, ih, List.count_cons_of_ne (fun e => h (by simpa using e))]
      omega
theorem cutL_split (l : List UInt8) : ∃ x d, cutL l = x :: d := by
  cases h : cutL l with
  | nil => exact absurd h (cutL_ne l)
  | cons x d => exact ⟨x, d, rfl⟩
theorem cutL_snoc_stroke (l : List UInt8) : cutL (l ++ [47]) = cutL l ++ [[]] := by
  induction l with
  | nil => rfl
  | cons c cs ih =>
    by_cases h : c = 47
    · subst h; rw [List.cons_append, cutL_stroke, cutL_stroke, ih]; rfl
    · rw [List.cons_append, cutL_other _ h, cutL_other _ h, ih]
      obtain ⟨x, d, hx⟩ := cutL_split cs
      rw [hx]; rfl
theorem cutL_snoc {c : UInt8} (h : c ≠ 47) : ∀ (l : List UInt8) (d : List (List UInt8)) (x : List UInt8), cutL l = d ++ [x] → cutL (l ++ [c]) = d ++ [x ++ [c]]
  | [], d, x, hl => by
    have h1 : d = [] ∧ x = [] := by
      cases d with
      | nil => simpa [cutL] using hl.symm
      | cons a d => simp [cutL] at hl
    obtain ⟨rfl, rfl⟩ := h1
    rw [List.nil_append, cutL_other _ h]; rfl
  | b :: cs, d, x, hl => by
    by_cases hb : b = 47
    · subst hb
      rw [cutL_stroke] at hl
      rw [List.cons_append, cutL_stroke]
      cases d with
      | nil => simp at hl; exact absurd hl.2 (cutL_ne cs)
      | cons a d =>
        simp only [List.cons_append, List.cons.injEq] at hl
        rw [cutL_snoc h cs d x hl.2, ← hl.1]; rfl
    · rw [cutL_other _ hb] at hl
      rw [List.cons_append, cutL_other _ hb]
      obtain ⟨y, e, hy⟩ := cutL_split cs
      rw [hy] at hl
      cases d with
      | nil =>
        simp only [List.headD_cons, List.tail_cons, List.nil_append, List.cons.injEq] at hl
        have h2 := cutL_snoc h cs [] y (by rw [hy, hl.2]; rfl)
        rw [h2]
        simp [← hl.1]
      | cons a d =>
        simp only [List.headD_cons, List.tail_cons, List.cons_append, List.cons.injEq] at hl
        have h2 := cutL_snoc h cs (y :: d) x (by rw [hy, hl.2]; rfl)
        rw [h2]
        simp [← hl.1]

/-- No stroke in it: one part. -/
theorem cutL_none {l : List UInt8} (h : 47 ∉ l) : cutL l = [l] := by
  induction l with
  | nil => rfl
  | cons c cs ih =>
    rw [cutL_other _ (fun e => h (by simp [e])), ih (fun e => h (by simp [e]))]; rfl
theorem cutL_at {a : List UInt8} (b : List UInt8) (h : 47 ∉ a) : cutL (a ++ 47 :: b) = a :: cutL b := by
  induction a with
  | nil => exact cutL_stroke b
  | cons c cs ih =>
    rw [List.cons_append, cutL_other _ (fun e => h (by simp [e])), ih (fun e => h (by simp [e]))]; rfl
theorem cutL_free (l : List UInt8) : ∀ x ∈ cutL l, 47 ∉ x := by
  induction l with
  | nil => intro x hx; simp [cutL] at hx; subst hx; simp
  | cons c cs ih =>
    intro x hx
    by_cases h : c = 47
    · rw [h, cutL_stroke] at hx
      rcases List.mem_cons.1 hx with rfl | hx
      · simp
      · exact ih x hx
    · rw [cutL_other _ h] at hx
      obtain ⟨y, d, hy⟩ := cutL_split cs
      rw [hy] at hx ih
      rcases List.mem_cons.1 hx with rfl | hx
      · have := ih y (by simp)
        simp; exact ⟨fun e => h e.symm, this⟩
      · exact ih x (List.mem_cons_of_mem _ hx)
theorem inter_cons (a b : List UInt8) (ps : List (List UInt8)) : [47].intercalate (a :: b :: ps) = a ++ 47 :: [47].intercalate (b :: ps) := by
  simp [List.intercalate, List.intersperse]
theorem inter_one (a : List UInt8) : [47].intercalate [a] = a := by simp [List.intercalate, List.intersperse]
theorem cutL_inter : ∀ (ps : List (List UInt8)), ps ≠ [] → (∀ x ∈ ps, 47 ∉ x) → cutL ([47].intercalate ps) = ps
  | [], h, _ => absurd rfl h
  | [a], _, hf => by rw [inter_one]; exact cutL_none (hf a (by simp))
  | a :: b :: ps, _, hf => by
    rw [inter_cons, cutL_at _ (hf a (by simp)), cutL_inter (b :: ps) (by simp) (fun x hx => hf x (List.mem_cons_of_mem _ hx))]
theorem inter_cutL (l : List UInt8) : [47].intercalate (cutL l) = l := by
  induction l with
  | nil => rfl
  | cons c cs ih =>
    obtain ⟨y, d, hy⟩ := cutL_split cs
    by_cases h : c = 47
    · rw [h, cutL_stroke, hy, inter_cons, ← hy, ih]; rfl
    · rw [cutL_other _ h, hy]
      rw [hy] at ih
      cases d with
      | nil => rw [inter_one] at ih; simp [inter_one, ih]
      | cons b d => rw [inter_cons] at ih; simp only [List.headD_cons, List.tail_cons]; rw [inter_cons, List.cons_append, ih]

/-! ### The parts of a path -/
def badS (s : List UInt8) : Bool := decide (s = []) || decide (s = [46]) || decide (s = [46, 46]) || s.contains 0
def longS (s : List UInt8) : Bool := decide (32 < s.length)
def splitP (l : List UInt8) : List (List UInt8) × Int :=
  if l.head? ≠ some 47 ∨ 256 < l.length then ([], 107)
  else if l.length = 1 then ([], 0)
  else if (cutL l.tail).any badS = true ∨ 16 < (cutL l.tail).length then ([], 107)
  else if (cutL l.tail).any longS = true then ([], 105)
  else (cutL l.tail, 0)
def pathOf (ps : List (List UInt8)) : List UInt8 := 47 :: [47].intercalate ps
structure OkParts (ps : List (List UInt8)) : Prop where
  good : ∀ x ∈ ps, badS x = false
  short : ∀ x ∈ ps, longS x = false
  free : ∀ x ∈ ps, 47 ∉ x
  few : ps.length ≤ 16
  size : (pathOf ps).length ≤ 256
theorem splitP_path {ps : List (List UInt8)} (h : OkParts ps) : splitP (pathOf ps) = (ps, 0) := by
  unfold splitP
  rw [if_neg (by rintro (e | e); exact e rfl; have := h.size; omega)]
  by_cases hn : ps = []
  · subst hn; rfl
  · have hi := cutL_inter ps hn h.free
    have h1 : (pathOf ps).length ≠ 1 := by
      intro e
      have e2 : [47].intercalate ps = [] := by
        unfold pathOf at e
        simpa using e
      rw [e2] at hi
      have h3 := h.good [] (by rw [← hi]; simp [cutL])
      simp [badS] at h3
    have ht : cutL (pathOf ps).tail = ps := hi
    rw [if_neg h1, if_neg, if_neg, ht]
    · rw [ht]
      intro e
      obtain ⟨x, hx, e2⟩ := List.any_eq_true.1 e
      rw [h.short x hx] at e2; cases e2
    · rw [ht]
      rintro (e | e)
      · obtain ⟨x, hx, e2⟩ := List.any_eq_true.1 e
        rw [h.good x hx] at e2; cases e2
      · have := h.few; omega
theorem splitP_ok {l : List UInt8} {ps : List (List UInt8)} (h : splitP l = (ps, 0)) : l = pathOf ps ∧ OkParts ps := by
  unfold splitP at h
  split at h
  · cases h
  · rename_i h1
    have hd : l.head? = some 47 := Classical.byContradiction fun e => h1 (.inl e)
    have hs : l.length ≤ 256 := by
      have : ¬ 256 < l.length := fun e => h1 (.inr e)
      omega
    obtain ⟨t, rfl⟩ : ∃ t, l = 47 :: t := by
      cases l with
      | nil => cases hd
      | cons a t => simp at hd; exact ⟨t, by rw [hd]⟩
    split at h
    · rename_i h2
      have : t = [] := by simpa using h2
      subst this
      cases h
      exact ⟨rfl, ⟨by simp, by simp, by simp, by simp, by simp [pathOf]⟩⟩
    · rename_i h2
      split at h
      · cases h
      · rename_i h3
        split at h
        · cases h
        · rename_i h4
          simp only [List.tail_cons, Prod.mk.injEq, and_true] at h h3 h4
          subst h
          refine ⟨by unfold pathOf; rw [inter_cutL], ⟨fun x hx => ?_, fun x hx => ?_, cutL_free t, ?_, by unfold pathOf; rw [inter_cutL]; exact hs⟩⟩
          · cases hb : badS x with
            | false => rfl
            | true => exact absurd (.inl (List.any_eq_true.2 ⟨x, hx, hb⟩)) h3
          · cases hb : longS x with
            | false => rfl
            | true => exact absurd (List.any_eq_true.2 ⟨x, hx, hb⟩) h4
          · have : ¬ 16 < (cutL t).length := fun e => h3 (.inr e)
            omega
theorem splitP_fail {l : List UInt8} (h : (splitP l).2 ≠ 0) : (splitP l).1 = [] := by
  unfold splitP at h ⊢
  split
  · rfl
  · split
    · rfl
    · split
      · rfl
      · split
        · rfl
        · rename_i h1 h2 h3 h4
          rw [if_neg h1, if_neg h2, if_neg h3, if_neg h4] at h
          exact absurd rfl h
theorem inter_snoc_le (ps : List (List UInt8)) (x : List UInt8) : ([47].intercalate ps).length ≤ ([47].intercalate (ps ++ [x])).length := by
  induction ps with
  | nil => simp [List.intercalate, List.intersperse]
  | cons a l ih =>
    cases l with
    | nil => rw [inter_one]; simp [inter_cons]
    | cons b l =>
      rw [inter_cons, List.cons_append, List.cons_append, inter_cons]
      rw [List.cons_append] at ih
      simp only [List.length_append, List.length_cons]
      omega
theorem OkParts.up {ps : List (List UInt8)} {x : List UInt8} (h : OkParts (ps ++ [x])) : OkParts ps :=
  ⟨fun y hy => h.good y (by simp [hy]), fun y hy => h.short y (by simp [hy]), fun y hy => h.free y (by simp [hy]), by have := h.few; simp at this; omega,
    by have h1 := h.size; have h2 := inter_snoc_le ps x; unfold pathOf at h1 ⊢; simp only [List.length_cons] at h1 ⊢; omega⟩

/-! ### What strings.Split gives -/
theorem first_stroke (l : List UInt8) : 47 ∉ l ∨ ∃ a b, l = a ++ 47 :: b ∧ 47 ∉ a := by
  induction l with
  | nil => left; simp
  | cons c cs ih =>
    by_cases h : c = 47
    · right; exact ⟨[], cs, by rw [h]; rfl, by simp⟩
    · rcases ih with ih | ⟨a, b, rfl, ha⟩
      · left; simp; exact ⟨fun e => h e.symm, ih⟩
      · right; exact ⟨c :: a, b, rfl, by simp; exact ⟨fun e => h e.symm, ha⟩⟩
theorem index_none {l : List UInt8} (h : 47 ∉ l) : Lib.index l [47] = -1 := by
  induction l with
  | nil => rfl
  | cons c cs ih =>
    have hc : ¬ c = 47 := fun e => h (by simp [e])
    have := ih (fun e => h (by simp [e]))
    unfold Lib.index
    simp [this, Ne.symm hc]
theorem index_at {a : List UInt8} (b : List UInt8) (h : 47 ∉ a) : Lib.index (a ++ 47 :: b) [47] = a.length := by
  induction a with
  | nil => simp [Lib.index]
  | cons c cs ih =>
    have hc : ¬ c = 47 := fun e => h (by simp [e])
    have := ih (fun e => h (by simp [e]))
    rw [List.cons_append]
    unfold Lib.index
    rw [this]
    simp [Ne.symm hc]
theorem splitK_cut : ∀ (k : Nat) (l : List UInt8), l.count 47 ≤ k → Lib.splitK [47] 0 k l = cutL l
  | 0, l, h => by
    have : 47 ∉ l := fun e => by have := List.count_pos_iff.2 e; omega
    rw [cutL_none this]; rfl
  | k + 1, l, h => by
    rcases first_stroke l with h1 | ⟨a, b, rfl, ha⟩
    · rw [cutL_none h1, Lib.splitK, index_none h1]; rfl
    · rw [cutL_at b ha, Lib.splitK, index_at b ha, if_neg (by simp)]
      have e1 : (a ++ 47 :: b).take ((a.length : Int).toNat + 0) = a := by simp
      have e2 : (a ++ 47 :: b).drop ((a.length : Int).toNat + [47].length) = b := by simp
      have hc : b.count 47 ≤ k := by simp at h; omega
      exact (congr (congrArg List.cons e1) ((congrArg (Lib.splitK [47] 0 k) e2).trans (splitK_cut k b hc)))

theorem split_slash (s : ByteArray) : (Lib.splitB ⟨#[47]⟩ 0 (Lib.countB s ⟨#[47]⟩) s).map (·.data.toList) = cutL s.data.toList := by
  rw [Lib.splitB_data]
  refine splitK_cut _ _ ?_
  show _ ≤ Lib.count s.data.toList [47]
  rw [Lib.count_one]
  exact Nat.le_refl _

end Go.Proofs.YtgpknilmfkcneaaDoor
