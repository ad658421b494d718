/- The laws of ops: what a write twice over comes to, in plain Lean. -/
import Derived.Test.YthpdmgefdaegmaaDoorOpsN
namespace Go.Proofs.YthpdmgefdaegmaaDoor
open Go.RowKit
set_option linter.unusedVariables false
set_option linter.unusedSimpArgs false

theorem trim_split (l : List UInt8) : l = Lib.trimRightB l 0 ++ List.replicate (l.length - (Lib.trimRightB l 0).length) 0 := by
  unfold Lib.trimRightB
  have h1 := List.takeWhile_append_dropWhile (p := fun x : UInt8 => x == 0) (l := l.reverse)
  have h2 : l.reverse.takeWhile (fun x : UInt8 => x == 0) = List.replicate (l.reverse.takeWhile (fun x : UInt8 => x == 0)).length 0 := by
    apply List.eq_replicate_iff.2
    refine ⟨rfl, fun b hb => ?_⟩
    have := List.all_takeWhile (l := l.reverse) (p := fun x : UInt8 => x == 0)
    rw [List.all_eq_true] at this
    simpa using this b hb
  have h3 := congrArg List.reverse h1
  rw [List.reverse_append, List.reverse_reverse] at h3
  rw [h2, List.reverse_replicate] at h3
  have h4 := congrArg List.length h1
  rw [List.length_append, List.length_reverse] at h4
  rw [List.length_reverse]
  rw [show l.length - (l.reverse.dropWhile fun x => x == 0).length = (l.reverse.takeWhile fun x => x == 0).length by omega]
  exact h3.symm
theorem pieceL_trim {z : List UInt8} (hz : z.length = 64) : pieceL (Lib.trimRightB z 0) = z := by
  have h := trim_split z
  have hl := trim_len z
  unfold pieceL
  rw [List.take_of_length_le (by omega), ← hz]
  exact h.symm
theorem putL_idem {a b : Nat} {d l : List UInt8} (hl : l.length = 64) (ha : a ≤ 64) : putL a b d (putL a b d l) = putL a b d l := by
  have h1 : (l.take a).length = a := by rw [List.length_take]; omega
  have h2 : ((d.drop b).take (64 - a)).length = min (64 - a) (d.length - b) := by rw [List.length_take, List.length_drop]
  have e1 : (putL a b d l).take a = l.take a := by
    unfold putL
    rw [List.append_assoc, List.take_append_of_le_length (by omega), List.take_of_length_le (by omega)]
  have e2 : (putL a b d l).drop (a + min (64 - a) (d.length - b)) = l.drop (a + min (64 - a) (d.length - b)) := by
    unfold putL
    rw [List.drop_append_of_le_length (by rw [List.length_append, h1, h2]; omega), List.drop_of_length_le (by rw [List.length_append, h1, h2]; omega), List.nil_append]
  show (putL a b d l).take a ++ (d.drop b).take (64 - a) ++ (putL a b d l).drop (a + min (64 - a) (d.length - b)) = _
  rw [e1, e2]; rfl
theorem wrL_len (off : Nat) (d : List UInt8) (k : Nat) (l : List UInt8) (h : off < (k + 1) * 64) : (wrL off d k l).length = 64 := putL_len (pieceL_len _) (by omega)
theorem wrL_again {off : Nat} {d : List UInt8} {k : Nat} {l x : List UInt8} (h : off < (k + 1) * 64) (hx : pieceL x = wrL off d k l) : wrL off d k x = pieceL x := by
  unfold wrL
  rw [hx]
  exact putL_idem (pieceL_len _) (by omega)

variable {off : Nat} {d : List UInt8} {ps : List (List UInt8)} {F n : Nat} {cs : List (Nat × List UInt8)}
/-- What a piece holds behind a write, its trailing zeros cut off. -/
def nowL (off : Nat) (d : List UInt8) (ps : List (List UInt8)) (F j : Nat) : List UInt8 := Lib.trimRightB (wrL off d (F + j) (atL ps j)) 0
theorem WrTo.mem (h : WrTo off d ps F n cs) : ∀ x ∈ cs, ∃ j, j < n ∧ x.1 = F + j ∧ ChgOf x.2 (nowL off d ps F j) := by
  induction h with
  | zero => intro x hx; cases hx
  | same _ _ ih => intro x hx; obtain ⟨j, h1, h2⟩ := ih x hx; exact ⟨j, by omega, h2⟩
  | put _ _ hc ih =>
    intro x hx
    rcases List.mem_append.1 hx with hx | hx
    · obtain ⟨j, h1, h2⟩ := ih x hx; exact ⟨j, by omega, h2⟩
    · rw [List.mem_singleton] at hx; subst hx; exact ⟨_, by omega, rfl, hc⟩
theorem WrTo.out (h : WrTo off d ps F n cs) : ∀ j, j < n → F + j ∉ cs.map Prod.fst → wrL off d (F + j) (atL ps j) = pieceL (atL ps j) := by
  induction h with
  | zero => intro j hj; omega
  | @same m cs _ he ih =>
    intro j hj hn
    rcases (by omega : j < m ∨ j = m) with h | rfl
    · exact ih j h hn
    · exact he
  | @put m cs t _ _ _ ih =>
    intro j hj hn
    rw [List.map_append, List.mem_append, not_or] at hn
    rcases (by omega : j < m ∨ j = m) with h | rfl
    · exact ih j h hn.1
    · exact absurd (by simp) hn.2
theorem WrTo.nothing (h : WrTo off d ps F n cs) (hs : ∀ j, j < n → wrL off d (F + j) (atL ps j) = pieceL (atL ps j)) : cs = [] := by
  induction h with
  | zero => rfl
  | same _ _ ih => exact ih (fun j hj => hs j (by omega))
  | put _ hne _ _ => exact absurd (hs _ (by omega)) hne

/-- The pieces behind the first i changes. -/
def oldL (off : Nat) (d : List UInt8) (F N : Nat) (ks : List Nat) : List (List UInt8) := (List.range N).map fun j => if F + j ∈ ks then nowL off d [] F j else []
theorem oldL_len (N : Nat) (ks : List Nat) : (oldL off d F N ks).length = N := by unfold oldL; simp
theorem oldL_at {N j : Nat} {ks : List Nat} (hj : j < N) : atL (oldL off d F N ks) j = if F + j ∈ ks then nowL off d [] F j else [] := by
  unfold atL oldL
  rw [List.getD_eq_getElem?_getD, List.getElem?_map, List.getElem?_range hj]; rfl
theorem again_pure {N : Nat} (h : WrTo off d [] F N cs) (hF : F = off / 64) {cs' : List (Nat × List UInt8)} (h2 : WrTo off d (oldL off d F N (cs.map Prod.fst)) F N cs') : cs' = [] := by
  refine h2.nothing fun j hj => ?_
  rw [oldL_at hj]
  have e0 : atL ([] : List (List UInt8)) j = [] := by unfold atL; simp
  by_cases hm : F + j ∈ cs.map Prod.fst
  · rw [if_pos hm]
    refine wrL_again (l := atL [] j) (by omega) ?_
    unfold nowL
    exact pieceL_trim (wrL_len _ _ _ _ (by omega))
  · rw [if_neg hm]
    have := h.out j hj hm
    rwa [e0] at this

theorem rowC_len (number : Int) (cs : List (Nat × List UInt8)) : (rowC number cs).length = cs.length * 6 := by
  unfold rowC
  induction cs with
  | nil => rfl
  | cons x cs ih => rw [List.flatMap_cons, List.length_append, ih]; simp [chgL]; omega
theorem rowC_get (number : Int) (cs : List (Nat × List UInt8)) (i q : Nat) (hi : i < cs.length) (hq : q < 6) : (rowC number cs)[i * 6 + q]? = (chgL number (cs[i]'hi).1 (cs[i]'hi).2)[q]? := by
  unfold rowC
  induction cs generalizing i with
  | nil => simp at hi
  | cons x cs ih =>
    rw [List.flatMap_cons]
    cases i with
    | zero => rw [List.getElem?_append_left (by simp [chgL]; omega), Nat.zero_mul, Nat.zero_add]; rfl
    | succ i =>
      rw [List.getElem?_append_right (by simp [chgL]; omega)]
      have := ih i (by simpa using hi)
      rw [show (i + 1) * 6 + q - (chgL number (x.1 : Int) x.2).length = i * 6 + q by simp [chgL]; omega, this]
      rfl
/-- The first write, and what the second then says. -/
theorem nothing_pure {off : Nat} {d : List UInt8} {cs : List (Nat × List UInt8)} {sz er : Int} (h : WriteR 0 off d [] cs sz er) (ho : off ≤ 2000) (hd : d.length ≤ 256) :
    ∃ F N : Nat, spanC off d.length = ((F : Int), ((F + N : Nat) : Int)) ∧ F + N ≤ 100 ∧ er = 0 ∧ (d = [] → sz = 0) ∧ (d ≠ [] → sz = off + d.length) ∧ 0 ≤ sz ∧ sz ≤ 3000 ∧ WrTo off d [] F N cs ∧
      ∀ cs' sz' er', WriteR sz off d (oldL off d F N (cs.map Prod.fst)) cs' sz' er' → cs' = [] ∧ sz' = sz ∧ er' = 0 := by
  unfold WriteR at h
  rw [if_neg (by omega), if_neg (by omega)] at h
  by_cases h0 : d = []
  · rw [if_pos h0] at h
    obtain ⟨rfl, rfl, rfl⟩ := h
    subst h0
    refine ⟨0, 0, ?_, by omega, rfl, fun _ => rfl, fun h => absurd rfl h, by omega, by omega, .zero, ?_⟩
    · unfold spanC; rw [if_pos (by simp)]; rfl
    · intro cs' sz' er' h
      unfold WriteR at h
      rw [if_neg (by simp), if_neg (by simp; omega), if_pos rfl] at h
      exact h
  · rw [if_neg h0] at h
    obtain ⟨h1, h2, h3⟩ := h
    have hl : 0 < d.length := List.length_pos_iff.2 h0
    rw [Int.toNat_natCast] at h3
    refine ⟨off / 64, (off + d.length - 1) / 64 + 1 - off / 64, ?_, by omega, h2, fun h => absurd h h0, fun _ => by omega, by omega, by omega, h3, ?_⟩
    · unfold spanC
      rw [if_neg (by omega)]
      refine Prod.ext ?_ ?_ <;> simp <;> omega
    · intro cs' sz' er' h
      unfold WriteR at h
      rw [if_neg (by omega), if_neg (by omega), if_neg h0, Int.toNat_natCast] at h
      obtain ⟨h4, h5, h6⟩ := h
      exact ⟨again_pure h3 rfl h6, by omega, h5⟩

end Go.Proofs.YthpdmgefdaegmaaDoor
