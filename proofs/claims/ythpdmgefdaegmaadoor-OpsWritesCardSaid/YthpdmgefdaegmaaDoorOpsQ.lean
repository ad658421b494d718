/- The laws of ops: one file, in plain Lean. -/
import Derived.Test.YthpdmgefdaegmaaDoorOpsP
namespace Go.Proofs.YthpdmgefdaegmaaDoor
open Go.RowKit
set_option linter.unusedVariables false
set_option linter.unusedSimpArgs false

/-- Piece k of a file. -/
def fileP (fl : List UInt8) (k : Nat) : List UInt8 := (List.range 64).map fun q => fl.getD (k * 64 + q) 0
theorem fileP_len (fl : List UInt8) (k : Nat) : (fileP fl k).length = 64 := by unfold fileP; simp
theorem fileP_get (fl : List UInt8) (k q : Nat) (hq : q < 64) : (fileP fl k)[q]? = some (fl.getD (k * 64 + q) 0) := by
  unfold fileP
  rw [List.getElem?_map, List.getElem?_range hq]; rfl
/-- These pieces hold this file. -/
structure Keeps (ps : List (List UInt8)) (fl : List UInt8) : Prop where
  len : ps.length = 200
  all : ∀ k, k < 200 → pieceL (atL ps k) = fileP fl k
theorem list64 {a b : List UInt8} (ha : a.length = 64) (hb : b.length = 64) (h : ∀ q, q < 64 → a[q]? = b[q]?) : a = b := by
  apply List.ext_getElem?
  intro q
  rcases Nat.lt_or_ge q 64 with hq | hq
  · exact h q hq
  · rw [List.getElem?_eq_none (by omega), List.getElem?_eq_none (by omega)]

theorem wrL_get {off : Nat} {d : List UInt8} {k : Nat} {l : List UInt8} {q : Nat} (h1 : off < (k + 1) * 64) (h2 : k * 64 < off + d.length) (hq : q < 64) :
    (wrL off d k l)[q]? = if off ≤ k * 64 + q ∧ k * 64 + q < off + d.length then d[k * 64 + q - off]? else (pieceL l)[q]? := by
  unfold wrL putL
  obtain ⟨a, ha⟩ : ∃ a, a = max off (k * 64) - k * 64 := ⟨_, rfl⟩
  obtain ⟨b, hb⟩ : ∃ b, b = max off (k * 64) - off := ⟨_, rfl⟩
  rw [← ha, ← hb]
  have hp := pieceL_len l
  have t1 : ((pieceL l).take a).length = a := by rw [List.length_take]; omega
  have t2 : ((d.drop b).take (64 - a)).length = min (64 - a) (d.length - b) := by rw [List.length_take, List.length_drop]
  rcases Nat.lt_or_ge q a with h | h
  · rw [if_neg (by omega), List.append_assoc, List.getElem?_append_left (by omega), List.getElem?_take_of_lt h]
  · rcases Nat.lt_or_ge q (a + min (64 - a) (d.length - b)) with h3 | h3
    · rw [if_pos (by omega), List.append_assoc, List.getElem?_append_right (by omega), t1, List.getElem?_append_left (by omega), List.getElem?_take_of_lt (by omega), List.getElem?_drop]
      congr 1
      omega
    · rw [if_neg (by omega), List.getElem?_append_right (by rw [List.length_append, t1, t2]; omega), List.length_append, t1, t2, List.getElem?_drop]
      congr 1
      omega

/-- The file behind k bytes of a write. -/
def extL (fl : List UInt8) (m : Nat) : List UInt8 := fl ++ List.replicate (m - fl.length) 0
def putF (fl : List UInt8) (off : Nat) (d : List UInt8) (k : Nat) : List UInt8 := (extL fl (off + d.length)).take off ++ d.take k ++ (extL fl (off + d.length)).drop (off + k)
theorem extL_len (fl : List UInt8) (m : Nat) : (extL fl m).length = max fl.length m := by unfold extL; rw [List.length_append, List.length_replicate]; omega
theorem extL_get (fl : List UInt8) (m p : Nat) : (extL fl m).getD p 0 = fl.getD p 0 := by
  unfold extL
  rw [List.getD_eq_getElem?_getD, List.getD_eq_getElem?_getD]
  rcases Nat.lt_or_ge p fl.length with h | h
  · rw [List.getElem?_append_left h]
  · rw [List.getElem?_append_right h, List.getElem?_eq_none h, List.getElem?_replicate]
    split <;> rfl
theorem putF_len {fl : List UInt8} {off : Nat} {d : List UInt8} {k : Nat} (hk : k ≤ d.length) : (putF fl off d k).length = max fl.length (off + d.length) := by
  unfold putF
  rw [List.length_append, List.length_append, List.length_take, List.length_take, List.length_drop, extL_len]; omega
theorem putF_zero (fl : List UInt8) (off : Nat) (d : List UInt8) : putF fl off d 0 = extL fl (off + d.length) := by unfold putF; simp
theorem putF_succ {fl : List UInt8} {off : Nat} {d : List UInt8} {k : Nat} (hk : k < d.length) : (putF fl off d k).set (off + k) (d[k]'hk) = putF fl off d (k + 1) := by
  have hl := extL_len fl (off + d.length)
  have t1 : ((extL fl (off + d.length)).take off).length = off := by rw [List.length_take]; omega
  have t2 : (d.take k).length = k := by rw [List.length_take]; omega
  unfold putF
  rw [List.set_append_right _ _ (by rw [List.length_append, t1, t2]; omega), List.length_append, t1, t2, Nat.sub_self, List.drop_eq_getElem_cons (by omega), List.set_cons_zero]
  have e : d.take (k + 1) = d.take k ++ [d[k]'hk] := List.take_succ_eq_append_getElem hk
  rw [e, Nat.add_assoc]
  simp only [List.append_assoc, List.singleton_append]
theorem putF_get (fl : List UInt8) (off : Nat) (d : List UInt8) (p : Nat) : (putF fl off d d.length).getD p 0 = if off ≤ p ∧ p < off + d.length then d.getD (p - off) 0 else fl.getD p 0 := by
  have hl := extL_len fl (off + d.length)
  have t1 : ((extL fl (off + d.length)).take off).length = off := by rw [List.length_take]; omega
  rw [← extL_get fl (off + d.length) p]
  unfold putF
  rw [List.take_length, List.getD_eq_getElem?_getD, List.getD_eq_getElem?_getD, List.getD_eq_getElem?_getD]
  rcases Nat.lt_or_ge p off with h | h
  · rw [if_neg (by omega), List.append_assoc, List.getElem?_append_left (by omega), List.getElem?_take_of_lt h]
  · rcases Nat.lt_or_ge p (off + d.length) with h2 | h2
    · rw [if_pos (by omega), List.append_assoc, List.getElem?_append_right (by omega), t1, List.getElem?_append_left (by omega)]
    · rw [if_neg (by omega), List.getElem?_append_right (by rw [List.length_append, t1]; omega), List.length_append, t1, List.getElem?_drop]
      congr 2
      omega

/-- What changes say: the pieces that they name become these; the others are these already. -/
structure Chgs (new : Nat → List UInt8) (ps : List (List UInt8)) (cs : List (Nat × List UInt8)) : Prop where
  mem : ∀ x ∈ cs, x.1 < 200 ∧ ChgOf x.2 (Lib.trimRightB (new x.1) 0)
  out : ∀ k, k < 200 → k ∉ cs.map Prod.fst → pieceL (atL ps k) = new k
def applyC (new : Nat → List UInt8) (ps : List (List UInt8)) (cs : List (Nat × List UInt8)) : List (List UInt8) := cs.foldl (fun ps x => ps.set x.1 (Lib.trimRightB (new x.1) 0)) ps
theorem applyC_snoc (new : Nat → List UInt8) (ps : List (List UInt8)) (cs : List (Nat × List UInt8)) (x : Nat × List UInt8) : applyC new ps (cs ++ [x]) = (applyC new ps cs).set x.1 (Lib.trimRightB (new x.1) 0) := by
  unfold applyC; rw [List.foldl_append]; rfl
theorem applyC_len (new : Nat → List UInt8) (cs : List (Nat × List UInt8)) : ∀ ps : List (List UInt8), (applyC new ps cs).length = ps.length := by
  induction cs with
  | nil => intro ps; rfl
  | cons x cs ih => intro ps; show (applyC new (ps.set x.1 _) cs).length = _; rw [ih, List.length_set]
theorem applyC_at (new : Nat → List UInt8) (cs : List (Nat × List UInt8)) : ∀ (ps : List (List UInt8)) (k : Nat), k < ps.length → atL (applyC new ps cs) k = if k ∈ cs.map Prod.fst then Lib.trimRightB (new k) 0 else atL ps k := by
  induction cs with
  | nil => intro ps k _; rfl
  | cons x cs ih =>
    intro ps k hk
    show atL (applyC new (ps.set x.1 _) cs) k = _
    rw [ih _ k (by rw [List.length_set]; exact hk), List.map_cons]
    by_cases h : k ∈ cs.map Prod.fst
    · rw [if_pos h, if_pos (List.mem_cons_of_mem _ h)]
    · rw [if_neg h]
      by_cases h2 : x.1 = k
      · subst h2
        rw [if_pos (List.mem_cons_self), atL, List.getD_eq_getElem?_getD, List.getElem?_set_self hk]; rfl
      · rw [if_neg (by rw [List.mem_cons, not_or]; exact ⟨fun e => h2 e.symm, h⟩)]
        unfold atL
        rw [List.getD_eq_getElem?_getD, List.getD_eq_getElem?_getD, List.getElem?_set_ne h2]
theorem Chgs.done {fl : List UInt8} {ps : List (List UInt8)} {cs : List (Nat × List UInt8)} (h : Chgs (fileP fl) ps cs) (hp : ps.length = 200) : Keeps (applyC (fileP fl) ps cs) fl := by
  refine ⟨by rw [applyC_len, hp], fun k hk => ?_⟩
  rw [applyC_at _ _ _ _ (by omega)]
  by_cases hm : k ∈ cs.map Prod.fst
  · rw [if_pos hm]; exact pieceL_trim (fileP_len _ _)
  · rw [if_neg hm]; exact h.out k hk hm

theorem slice_at (ps : List (List UInt8)) (F n j : Nat) (hj : j < n) : atL ((ps.drop F).take n) j = atL ps (F + j) := by
  unfold atL
  rw [List.getD_eq_getElem?_getD, List.getD_eq_getElem?_getD, List.getElem?_take_of_lt hj, List.getElem?_drop]
/-- A write of a file's bytes. -/
theorem write_file {ps : List (List UInt8)} {fl d : List UInt8} {off n : Nat} {cs : List (Nat × List UInt8)} (hk : Keeps ps fl) (hd : d ≠ []) (hn : n = (off + d.length - 1) / 64 + 1 - off / 64) (hb : off + d.length ≤ 12800)
    (h : WrTo off d ((ps.drop (off / 64)).take n) (off / 64) n cs) : Chgs (fileP (putF fl off d d.length)) ps cs := by
  have hl : 0 < d.length := List.length_pos_iff.2 hd
  have hw : ∀ j, j < n → wrL off d (off / 64 + j) (atL ((ps.drop (off / 64)).take n) j) = fileP (putF fl off d d.length) (off / 64 + j) := by
    intro j hj
    refine list64 (wrL_len _ _ _ _ (by omega)) (fileP_len _ _) fun q hq => ?_
    rw [wrL_get (by omega) (by omega) hq, fileP_get _ _ _ hq, putF_get, slice_at _ _ _ _ hj, hk.all _ (by omega), fileP_get _ _ _ hq]
    split
    · rw [List.getD_eq_getElem?_getD, List.getElem?_eq_getElem (by omega)]; rfl
    · rfl
  constructor
  · intro x hx
    obtain ⟨j, hj, h1, h2⟩ := h.mem x hx
    unfold nowL at h2
    rw [hw j hj, ← h1] at h2
    exact ⟨by omega, h2⟩
  · intro k hk2 hm
    by_cases hin : off / 64 ≤ k ∧ k < off / 64 + n
    · have h3 := h.out (k - off / 64) (by omega) (by rw [show off / 64 + (k - off / 64) = k by omega]; exact hm)
      rw [hw _ (by omega), slice_at _ _ _ _ (by omega), show off / 64 + (k - off / 64) = k by omega] at h3
      exact h3.symm
    · rw [hk.all k hk2]
      refine list64 (fileP_len _ _) (fileP_len _ _) fun q hq => ?_
      rw [fileP_get _ _ _ hq, fileP_get _ _ _ hq, putF_get, if_neg (by omega)]
/-- A cut. -/
theorem cut_file {ps : List (List UInt8)} {fl : List UInt8} {t : Nat} {c : List (Nat × List UInt8)} (hk : Keeps ps fl) (ht : t < fl.length) (hb : fl.length ≤ 12800) (h : CutA t (pieceL (atL ps (t / 64))) c) :
    Chgs (fileP (fl.take t)) ps (c ++ gones (cutK t) ((fl.length - 1) / 64 + 1 - cutK t)) := by
  have hget : ∀ p, (fl.take t).getD p 0 = if p < t then fl.getD p 0 else 0 := by
    intro p
    rw [List.getD_eq_getElem?_getD, List.getD_eq_getElem?_getD]
    by_cases h : p < t
    · rw [if_pos h, List.getElem?_take_of_lt h]
    · rw [if_neg h, List.getElem?_eq_none (by rw [List.length_take]; omega)]; rfl
  have hz : ∀ k, cutK t ≤ k → fileP (fl.take t) k = List.replicate 64 0 := by
    intro k hk3
    refine list64 (fileP_len _ _) (by simp) fun q hq => ?_
    rw [fileP_get _ _ _ hq, hget, if_neg (by unfold cutK at hk3; split at hk3 <;> omega), List.getElem?_replicate, if_pos hq]
  have hfirst : t % 64 ≠ 0 → cutL (t % 64) (pieceL (atL ps (t / 64))) = fileP (fl.take t) (t / 64) := by
    intro h0
    refine list64 (cutL_len (pieceL_len _) (by omega)) (fileP_len _ _) fun q hq => ?_
    rw [fileP_get _ _ _ hq, hget, hk.all _ (by omega)]
    unfold cutL
    by_cases h1 : q < t % 64
    · rw [List.getElem?_append_left (by rw [List.length_take, fileP_len]; omega), List.getElem?_take_of_lt h1, fileP_get _ _ _ hq, if_pos (by omega)]
    · rw [List.getElem?_append_right (by rw [List.length_take, fileP_len]; omega), List.length_take, fileP_len, List.getElem?_replicate, if_pos (by omega), if_neg (by omega)]
  have hold : ∀ k, k < t / 64 → fileP fl k = fileP (fl.take t) k := by
    intro k hk3
    refine list64 (fileP_len _ _) (fileP_len _ _) fun q hq => ?_
    rw [fileP_get _ _ _ hq, fileP_get _ _ _ hq, hget, if_pos (by omega)]
  have hend : ∀ k, (fl.length - 1) / 64 + 1 ≤ k → fileP fl k = List.replicate 64 0 := by
    intro k hk3
    refine list64 (fileP_len _ _) (by simp) fun q hq => ?_
    rw [fileP_get _ _ _ hq, List.getElem?_replicate, if_pos hq, List.getD_eq_getElem?_getD, List.getElem?_eq_none (by omega)]; rfl
  have hgm : ∀ k, k ∈ (gones (cutK t) ((fl.length - 1) / 64 + 1 - cutK t)).map Prod.fst ↔ cutK t ≤ k ∧ k < (fl.length - 1) / 64 + 1 := by
    intro k
    unfold gones
    rw [List.map_map]
    simp only [List.mem_map, Function.comp, List.mem_range'_1]
    constructor
    · rintro ⟨a, h1, rfl⟩; omega
    · intro h1; exact ⟨k, by omega, rfl⟩
  have hKt : cutK t = if t % 64 = 0 then t / 64 else t / 64 + 1 := rfl
  have htrim0 : Lib.trimRightB (List.replicate 64 (0 : UInt8)) 0 = [] := by decide
  constructor
  · intro x hx
    rcases List.mem_append.1 hx with hx | hx
    · rcases h with ⟨_, rfl⟩ | ⟨_, _, rfl⟩ | ⟨h0, _, y, rfl, hy⟩
      · cases hx
      · cases hx
      · rw [List.mem_singleton] at hx
        subst hx
        exact ⟨by show t / 64 < 200; omega, by rw [← hfirst h0]; exact hy⟩
    · have h1 : x.1 ∈ (gones (cutK t) ((fl.length - 1) / 64 + 1 - cutK t)).map Prod.fst := List.mem_map_of_mem hx
      rw [hgm] at h1
      have h2 : x.2 = [] := by
        unfold gones at hx
        obtain ⟨a, _, rfl⟩ := List.mem_map.1 hx
        rfl
      exact ⟨by omega, .inl ⟨by rw [hz _ h1.1, htrim0], h2⟩⟩
  · intro k hk2 hm
    rw [List.map_append, List.mem_append, not_or, hgm] at hm
    rw [hk.all k hk2]
    rcases Nat.lt_or_ge k (t / 64) with h1 | h1
    · exact hold k h1
    · rcases Nat.lt_or_ge k (cutK t) with h2 | h2
      · have hkt : k = t / 64 := by rw [hKt] at h2; split at h2 <;> omega
        have h0 : t % 64 ≠ 0 := by intro h0; rw [hKt, if_pos h0] at h2; omega
        subst hkt
        rcases h with ⟨h3, _⟩ | ⟨_, h3, rfl⟩ | ⟨_, _, y, rfl, hy⟩
        · exact absurd h3 h0
        · rw [← hfirst h0, h3, hk.all _ hk2]
        · exact absurd (by simp) hm.1
      · rw [hz k h2, hend k (by omega)]
/-- What is read. -/
theorem read_file {ps : List (List UInt8)} {fl : List UInt8} {o : Nat} (hk : Keeps ps fl) (ho : o ≤ 2000) (hb : fl.length ≤ 8192) :
    readL fl.length o 90 ((ps.drop (o / 64)).take ((o + 89) / 64 + 1 - o / 64)) = (fl.drop o).take 90 := by
  unfold readL
  by_cases h : (o : Int) < 0 ∨ (90 : Int) < 1 ∨ (fl.length : Int) ≤ (o : Int)
  · rw [if_pos h, List.drop_of_length_le (by omega)]; rfl
  · rw [if_neg h]
    obtain ⟨m, hm⟩ : ∃ m : Nat, min 90 ((fl.length : Int) - (o : Int)) = (m : Int) := ⟨(min 90 ((fl.length : Int) - (o : Int))).toNat, by omega⟩
    have hsp : spanC (o : Int) (m : Int) = (((o / 64 : Nat) : Int), (((o + m - 1) / 64 + 1 : Nat) : Int)) := by
      unfold spanC
      rw [if_neg (by omega)]
      refine Prod.ext ?_ ?_ <;> simp <;> omega
    simp only [hm, hsp, Int.toNat_natCast]
    obtain ⟨F, hF⟩ : ∃ F, F = o / 64 := ⟨_, rfl⟩
    obtain ⟨T, hT⟩ : ∃ T, T = (o + m - 1) / 64 + 1 := ⟨_, rfl⟩
    rw [← hF, ← hT, show ((T : Int) - (F : Int)).toNat = T - F by omega]
    rw [if_neg (by intro e; have := congrArg List.length e; rw [rowL_len] at this; simp at this; omega)]
    rw [show ((o : Int) - (F : Int) * 64).toNat = o - F * 64 by omega]
    apply List.ext_getElem?
    intro i
    rcases Nat.lt_or_ge i m with hi | hi
    · rw [List.getElem?_take_of_lt hi, List.getElem?_drop, rowL_get _ _ _ (by omega), slice_at _ _ _ _ (by omega), hk.all _ (by omega), fileP_get _ _ _ (by omega)]
      rw [List.getElem?_take_of_lt (by omega), List.getElem?_drop, show (F + (o - F * 64 + i) / 64) * 64 + (o - F * 64 + i) % 64 = o + i by omega, List.getD_eq_getElem?_getD, List.getElem?_eq_getElem (by omega)]
      rfl
    · rw [List.getElem?_eq_none (by rw [List.length_take]; omega), List.getElem?_eq_none (by rw [List.length_take, List.length_drop]; omega)]

end Go.Proofs.YthpdmgefdaegmaaDoor
