/- Split of package path: the parts of a path, and the error's number. -/
import Derived.Test.YtgpknilmfkcneaaDoorProg
import Derived.Test.YtgpknilmfkcneaaDoorPathL
import Derived.Test.YtgpknilmfkcneaaDoorShelf
import Derived.WalkKit
import Derived.Below
import Derived.Lib.Hide
import Derived.Outline
import Derived.Laws.OwnMore
namespace Go.Proofs.YtgpknilmfkcneaaDoor
open Go.RowKit
set_option linter.unusedVariables false
set_option linter.unusedSimpArgs false

def strV (p : List UInt8) : Value := .string ⟨p.toArray⟩
/-- The slice v is made since B, and holds these parts. -/
def Parts (w : World) (B : Nat) (v : Value) (ps : List (List UInt8)) : Prop := w.ownsRow B 9 1 v ps.length (ps.map strV)
def SplitPost (w : World) (s : ByteArray) (T : Value → Int → Value) (e : Ending) (w' : World) : Prop :=
  ∃ v, e = .returned (T v (splitP s.data.toList).2) ∧ Parts w' w.heap.size v (splitP s.data.toList).1 ∧ Below w.heap.size w w'
def tup2 (v : Value) (n : Int) : Value := .tuple #[v, .int .i64 n]
theorem splitPost_nil {w w' : World} {s : ByteArray} {n : Int} (h : splitP s.data.toList = ([], n)) (hb : Below w.heap.size w w') : SplitPost w s tup2 (.returned (.tuple #[.slice none 0 0, .int .i64 n])) w' := by
  refine ⟨.slice none 0 0, by rw [h]; rfl, ?_, hb⟩
  rw [h]
  exact World.ownsRow_nil _ _ _ _

theorem hasPrefix_head (l : List UInt8) : Lib.hasPrefix l [47] = decide (l.head? = some 47) := by
  cases l with
  | nil => rfl
  | cons a t =>
    by_cases h : a = 47
    · subst h; rfl
    · have h2 : ((47 : UInt8) == a) = false := by simp; exact fun e => h e.symm
      simp [Lib.hasPrefix, List.isPrefixOf, h, h2]
theorem index_zero (l : List UInt8) : decide (0 ≤ Lib.indexByte l 0) = l.contains 0 := by
  induction l with
  | nil => rfl
  | cons a t ih =>
    unfold Lib.indexByte
    by_cases h : a = 0
    · subst h; simp
    · have h2 : (a == 0) = false := by simpa using h
      have h3 : ((0 : UInt8) == a) = false := by simp; exact fun e => h e.symm
      have hg := Lib.indexByte_ge t 0
      rw [if_neg (by simp [h2]), List.contains_cons, h3, Bool.false_or, ← ih]
      by_cases e : Lib.indexByte t 0 = -1
      · simp [e]
      · rw [if_neg (by simpa using e)]
        have : (0 ≤ Lib.indexByte t 0 + 1) = (0 ≤ Lib.indexByte t 0) := propext ⟨fun _ => by omega, fun _ => by omega⟩
        simp only [this]
/-- The error so far: a part that is too long. -/
def codeTo (xs : List ByteArray) (k : Nat) : Int := if (xs.take k).any (fun x => longS x.data.toList) = true then 105 else 0
theorem codeTo_zero (xs : List ByteArray) : codeTo xs 0 = 0 := rfl
theorem codeTo_long {xs : List ByteArray} {k : Nat} (hk : k < xs.length) (h : 32 < xs[k].size) : codeTo xs (k + 1) = 105 := by
  unfold codeTo
  rw [List.take_succ_eq_append_getElem hk, List.any_append, if_pos]
  simp [longS]; exact .inr h
theorem codeTo_short {xs : List ByteArray} {k : Nat} (hk : k < xs.length) (h : ¬ 32 < xs[k].size) : codeTo xs (k + 1) = codeTo xs k := by
  unfold codeTo
  rw [List.take_succ_eq_append_getElem hk, List.any_append]
  have : longS xs[k].data.toList = false := by simp [longS]; omega
  simp [this]
theorem bad_of {x : ByteArray} (h : x.toList = [] ∨ x.toList = [46] ∨ x.toList = [46, 46] ∨ x.data.toList.contains 0 = true) : badS x.data.toList = true := by
  rw [ByteArray.toList_eq] at h
  unfold badS
  rcases h with h | h | h | h
  · simp [h]
  · simp [h]
  · simp [h]
  · rw [h]; simp
theorem good_of {x : ByteArray} (h1 : ¬ x.toList = []) (h2 : ¬ x.toList = [46]) (h3 : ¬ x.toList = [46, 46]) (h4 : x.data.toList.contains 0 = false) : badS x.data.toList = false := by
  rw [ByteArray.toList_eq] at h1 h2 h3
  unfold badS
  rw [decide_eq_false h1, decide_eq_false h2, decide_eq_false h3, h4]; rfl
theorem any_map {xs : List ByteArray} {f : List UInt8 → Bool} : (xs.map (·.data.toList)).any f = xs.any (fun x => f x.data.toList) := by
  rw [List.any_map]; rfl
/-- A part of the text is bad. -/
theorem splitP_bad {l t : List UInt8} {xs : List ByteArray} (hl : l = 47 :: t) (hs : l.length ≤ 256) (ht : t ≠ []) (hx : xs.map (·.data.toList) = cutL t) {k : Nat} (hk : k < xs.length) (h : badS xs[k].data.toList = true) : splitP l = ([], 107) := by
  subst hl
  unfold splitP
  rw [if_neg (by rintro (e | e); exact e rfl; omega), if_neg (by simpa using ht), if_pos]
  left
  show (cutL t).any badS = true
  rw [← hx, any_map, List.any_eq_true]
  exact ⟨xs[k], List.getElem_mem hk, h⟩
theorem splitP_many {l t : List UInt8} {xs : List ByteArray} (hl : l = 47 :: t) (hs : l.length ≤ 256) (ht : t ≠ []) (hx : xs.map (·.data.toList) = cutL t) (h : 16 < xs.length) : splitP l = ([], 107) := by
  subst hl
  unfold splitP
  rw [if_neg (by rintro (e | e); exact e rfl; omega), if_neg (by simpa using ht), if_pos]
  right
  show 16 < (cutL t).length
  rw [← hx, List.length_map]; exact h
theorem splitP_done {l t : List UInt8} {xs : List ByteArray} (hl : l = 47 :: t) (hs : l.length ≤ 256) (ht : t ≠ []) (hx : xs.map (·.data.toList) = cutL t) (h : ¬ 16 < xs.length)
    (hb : ∀ j (hj : j < xs.length), j < xs.length → badS xs[j].data.toList = false) : splitP l = if codeTo xs xs.length = 105 then ([], 105) else (xs.map (·.data.toList), 0) := by
  subst hl
  unfold splitP
  have hn : ¬ ((cutL t).any badS = true ∨ 16 < (cutL t).length) := by
    rw [← hx, any_map, List.length_map]
    rintro (e | e)
    · obtain ⟨x, hx, e⟩ := List.any_eq_true.1 e
      obtain ⟨j, hj, rfl⟩ := List.getElem_of_mem hx
      rw [hb j hj hj] at e; cases e
    · exact h e
  rw [if_neg (by rintro (e | e); exact e rfl; omega), if_neg (by simpa using ht)]
  show (if (cutL t).any badS = true ∨ 16 < (cutL t).length then _ else if (cutL t).any longS = true then _ else (cutL t, _)) = _
  rw [if_neg hn]
  unfold codeTo
  rw [← hx, any_map, List.take_length]
  split <;> rfl
theorem strV_map (xs : List ByteArray) : (xs.map (·.data.toList)).map strV = xs.map Value.string := by
  rw [List.map_map]
  refine List.map_congr_left (fun x _ => ?_)
  cases x; simp [strV]
theorem sep_list : (⟨#[47]⟩ : ByteArray).data.toList = [47] := rfl

set_option maxHeartbeats 1000000 in
theorem psplit_any (s : ByteArray) (m : Int) (w : World) (hm : w.cell? ⟨0, 0, none⟩ = some (.int .i64 m)) (hs : s.size ≤ 140737488351232) :
    Calls Tryd.prog 11 #[.string s] w (SplitPost w s tup2) := by
  have hsl : s.data.toList.length = s.size := by simp
  have hcp := Tryd.strings_CutPrefix s ⟨#[47]⟩ w
  rw [sep_list, hasPrefix_head] at hcp
  by_cases h1 : s.data.toList.head? = some 47
  · obtain ⟨t, ht⟩ : ∃ t, s.data.toList = 47 :: t := by
      cases h : s.data.toList with
      | nil => rw [h] at h1; cases h1
      | cons a t => rw [h] at h1; simp at h1; exact ⟨t, by rw [h1]⟩
    have htr : Lib.trimPrefix s.data.toList [47] = t := by rw [ht]; rfl
    rw [htr, decide_eq_true h1] at hcp
    have HCP := Lib.hid hcp
    have htl : t.length + 1 = s.size := by rw [← hsl, ht]; rfl
    clear htr hcp
    by_cases h2 : (256 : Int) < (s.size : Int)
    · have hv : splitP s.data.toList = ([], 107) := by unfold splitP; rw [if_pos (.inr (by omega))]
      have HV := Lib.hid hv
      clear hv hsl ht h1 htl
      go_enter Tryd.func11, Tryd.ntmps11
      go_wp2_with fail
      refine HCP.out.mono ?_; rintro e w' ⟨rfl, hw⟩; obtain rfl := hw.symm
      go_wp2_with fail
      go_ret2
      exact splitPost_nil HV.out (Below.refl _ _)
    · by_cases h3 : t = []
      · have hv : splitP s.data.toList = ([], 0) := by rw [ht, h3]; rfl
        have HV := Lib.hid hv
        rw [h3] at HCP
        clear hv hsl ht h1 htl h3
        go_enter Tryd.func11, Tryd.ntmps11
        go_wp2_with fail
        refine HCP.out.mono ?_; rintro e w' ⟨rfl, hw⟩; obtain rfl := hw.symm
        go_wp2_with fail
        go_ret2
        exact splitPost_nil HV.out (Below.refl _ _)
      · have hxl : (Lib.splitB ⟨#[47]⟩ 0 (Lib.countB ⟨t.toArray⟩ ⟨#[47]⟩) ⟨t.toArray⟩).map (·.data.toList) = cutL t := split_slash ⟨t.toArray⟩
        have hsp := fun W hW => Tryd.strings_Split ⟨t.toArray⟩ ⟨#[47]⟩ m W (by show t.toArray.size < _; simp; omega) hW (by decide)
        have hlen : (Lib.splitB ⟨#[47]⟩ 0 (Lib.countB ⟨t.toArray⟩ ⟨#[47]⟩) ⟨t.toArray⟩).length = Lib.countB ⟨t.toArray⟩ ⟨#[47]⟩ + 1 := by
          have h1 := congrArg List.length hxl
          rw [List.length_map] at h1
          rw [h1, cutL_len]
          show _ = Lib.count t [47] + 1
          rw [Lib.count_one]
        rw [← hlen] at hsp
        generalize Lib.splitB ⟨#[47]⟩ 0 (Lib.countB ⟨t.toArray⟩ ⟨#[47]⟩) ⟨t.toArray⟩ = xs at *
        have HSP := Lib.hid (hsp w hm)
        have HT := Lib.hid ht
        have hte : t.isEmpty = false := by cases t; exact absurd rfl h3; rfl
        clear hsp ht hsl h1 hlen
        go_enter Tryd.func11, Tryd.ntmps11
        go_wp2_with fail
        refine HCP.out.mono ?_; rintro e w' ⟨rfl, hw⟩; obtain rfl := hw.symm
        go_wp2_with fail
        refine HSP.out.mono ?_; rintro e w' ⟨rfl, rfl⟩
        have hcell : ∀ k (hk : k < xs.length), (w.alloc (.cells (xs.map Value.string).toArray 9)).cell? ⟨w.heap.size, k, none⟩ = some (.string xs[k]) := by
          intro k hk; simp [hk]
        have hbel : Below w.heap.size w (w.alloc (.cells (xs.map Value.string).toArray 9)) := (Below.refl _ _).alloc (Nat.le_refl _) _
        have hown : (w.alloc (.cells (xs.map Value.string).toArray 9)).ownsRow w.heap.size 9 1 (.slice (some ⟨w.heap.size, 0, none⟩) xs.length xs.length) xs.length (xs.map Value.string) := by
          have hle : xs.length ≤ t.length + 1 := by
            have h1 := congrArg List.length hxl
            rw [List.length_map, cutL_len] at h1
            have := List.count_le_length (a := (47 : UInt8)) (l := t)
            omega
          have h1 := World.ownsRow_lit (base := w.heap.size) (e := 9) (size := 1) w (xs.map Value.string).toArray xs.length (Nat.le_refl _) (by unfold maxLen; omega) (by simp)
          simpa using h1
        generalize w.alloc (.cells (xs.map Value.string).toArray 9) = wa at *
        have HB := Lib.hid hbel
        have HO := Lib.hid hown
        have HC := Lib.hid hcell
        clear hbel hown hcell
        have hpost : ∀ ps, splitP s.data.toList = (ps, 0) → ps = xs.map (·.data.toList) → SplitPost w s tup2 (.returned (.tuple #[.slice (some ⟨w.heap.size, 0, none⟩) xs.length xs.length, .int .i64 0])) wa := by
          intro ps h1 h2
          refine ⟨_, by rw [h1]; rfl, ?_, HB.out⟩
          rw [h1, h2]
          show World.ownsRow _ _ _ _ _ _ _
          rw [strV_map, List.length_map]
          exact HO.out
        have HP := Lib.hid hpost
        have HX := Lib.hid hxl
        have H3 := Lib.hid h3
        clear hpost hxl h3
        by_cases h16 : (16 : Int) < (xs.length : Int)
        · have HV := Lib.hid (splitP_many HT.out (by rw [HT.out]; simp; omega) H3.out HX.out (by omega))
          go_wp2_with fail
          go_ret2
          exact splitPost_nil HV.out HB.out
        · go_wp2_with fail
          go_loop [7, 31] (fun e i => ∃ k : Nat, k ≤ xs.length ∧ i = .int .i64 k ∧ e = .int .i64 (codeTo xs k) ∧ Hid (∀ j (hj : j < xs.length), j < k → badS xs[j].data.toList = false)) (fun _ i => xs.length - (intOf i).toNat)
          case atStart => exact ⟨0, Nat.zero_le _, rfl, rfl, Lib.hid (fun j _ hj => absurd hj (Nat.not_lt_zero _))⟩
          case round =>
            obtain ⟨k, hk, rfl, rfl, HBD⟩ := hrel
            by_cases hlt : k < xs.length
            · have hcell := HC.out k hlt
              have HBV := Lib.hid (fun h => splitP_bad (k := k) HT.out (by rw [HT.out]; simp; omega) H3.out HX.out hlt h)
              have HCL := Lib.hid (fun h => codeTo_long hlt h)
              have HCS := Lib.hid (fun h => codeTo_short hlt h)
              have HNX : Hid (badS xs[k].data.toList = false → ∀ j (hj : j < xs.length), j < k + 1 → badS xs[j].data.toList = false) := Lib.hid (fun h j hj hjk => by
                by_cases e : j = k
                · subst e; exact h
                · exact HBD.out j hj (by omega))
              generalize xs[k] = x at *
              have hib := fun W => Tryd.strings_IndexByte x 0 W
              simp only [show (Int.toNat 0).toUInt8 = (0 : UInt8) from rfl] at hib
              have HIB := Lib.hid hib
              clear hib
              by_cases e1 : x.toList = []
              · have HV := Lib.hid (HBV.out (bad_of (.inl e1)))
                go_wp2_with fail
                go_ret2
                exact splitPost_nil HV.out HB.out
              by_cases e2 : x.toList = [46]
              · have HV := Lib.hid (HBV.out (bad_of (.inr (.inl e2))))
                go_wp2_with fail
                go_ret2
                exact splitPost_nil HV.out HB.out
              by_cases e3 : x.toList = [46, 46]
              · have HV := Lib.hid (HBV.out (bad_of (.inr (.inr (.inl e3)))))
                go_wp2_with fail
                go_ret2
                exact splitPost_nil HV.out HB.out
              have b1 : x.toList.isEmpty = false := by simpa using e1
              have b2 : (x.toList == [46]) = false := by simpa using e2
              have b3 : (x.toList == [46, 46]) = false := by simpa using e3
              cases e4 : x.data.toList.contains 0 with
              | true =>
                have HV := Lib.hid (HBV.out (bad_of (.inr (.inr (.inr e4)))))
                have hz : 0 ≤ Lib.indexByte x.data.toList 0 := by rw [← index_zero] at e4; exact of_decide_eq_true e4
                clear e4
                go_wp2_with fail
                refine (HIB.out _).mono ?_; rintro e w' ⟨rfl, hw⟩; obtain rfl := hw.symm
                go_wp2_with fail
                go_ret2
                exact splitPost_nil HV.out HB.out
              | false =>
                have HG := Lib.hid (good_of e1 e2 e3 e4)
                have hz : ¬ 0 ≤ Lib.indexByte x.data.toList 0 := by rw [← index_zero] at e4; exact of_decide_eq_false e4
                clear e4
                by_cases hl : (32 : Int) < (x.size : Int)
                · go_wp2_with fail
                  refine (HIB.out _).mono ?_; rintro e w' ⟨rfl, hw⟩; obtain rfl := hw.symm
                  go_wp2_with fail
                  go_round
                  case rel => exact ⟨k + 1, by omega, by go_num, by rw [HCL.out (by omega)], Lib.hid (HNX.out HG.out)⟩
                  case measure => simp [intOf]; omega
                · go_wp2_with fail
                  refine (HIB.out _).mono ?_; rintro e w' ⟨rfl, hw⟩; obtain rfl := hw.symm
                  go_wp2_with fail
                  go_round
                  case rel => exact ⟨k + 1, by omega, by go_num, by rw [HCS.out (by omega)], Lib.hid (HNX.out HG.out)⟩
                  case measure => simp [intOf]; omega
            · obtain rfl : k = xs.length := by omega
              have HV := Lib.hid (splitP_done HT.out (by rw [HT.out]; simp; omega) H3.out HX.out (by omega) HBD.out)
              by_cases e : codeTo xs xs.length = 105
              · have hv := HV.out
                rw [if_pos e] at hv
                have HV2 := Lib.hid hv
                clear hv HV
                rw [e]
                clear e
                go_wp2_with fail
                go_ret2
                exact splitPost_nil HV2.out HB.out
              · have e0 : codeTo xs xs.length = 0 := by unfold codeTo at e ⊢; split at e <;> simp_all
                have hv := HV.out
                rw [if_neg e] at hv
                have HV2 := Lib.hid hv
                clear hv HV e
                rw [e0]
                clear e0
                go_wp2_with fail
                go_ret2
                exact HP.out _ HV2.out rfl
  · have hv : splitP s.data.toList = ([], 107) := by unfold splitP; rw [if_pos (.inl h1)]
    rw [decide_eq_false h1] at hcp
    have HV := Lib.hid hv
    have HCP := Lib.hid hcp
    clear hv hsl h1 hcp
    go_enter Tryd.func11, Tryd.ntmps11
    go_wp2_with fail
    refine HCP.out.mono ?_; rintro e w' ⟨rfl, hw⟩; obtain rfl := hw.symm
    go_wp2_with fail
    go_ret2
    exact splitPost_nil HV.out (Below.refl _ _)

end Go.Proofs.YtgpknilmfkcneaaDoor
