/- The laws of ops: what OpsHalves reads, in plain Lean; an append within a drawn region. -/
import Derived.Test.YthpdmgefdaegmaaDoorOpsL
namespace Go.Proofs.YthpdmgefdaegmaaDoor
open Go.RowKit
set_option linter.unusedVariables false
set_option linter.unusedSimpArgs false

theorem step_append_own {P : Program} {w : World} {ops : Array Oper} {o : Oper} {a : Act} {K : Act → World → Prop} {Q : Exit → Act → World → Prop} {E : Prop} (hgd : o.guard = none) (s x : Operand) (t : TypeId)
    (ho : o.op = .call { callee := .builtin .append, args := #[s, x], argTypes := #[t, t] })
    (base : Nat) (e : TypeId) (i : TypeInfo) (z : Value) (size bytes : Nat) (ht : P.underlying t = some (.slice e)) (hi : P.info? e = some i) (hz : i.zero = some z)
    (hsize : i.size = size) (hby : i.bytes = bytes) (hzs : z.cells.size = size) (hsz : 0 < size)
    (v : Value) (n : Nat) (xs : List Value) (hs : a.eval s = v) (hown : w.ownsRow base e size v n xs)
    (ad : Addr) (m c : Nat) (news : List Value) (hx : a.eval x = .slice (some ad) m c) (hl : news.length = m * size) (hnews : ∀ j u, news[j]? = some u → w.cell? (ad.add j) = some u) (h1 : ∀ u ∈ news, u.oneCell' = true)
    (h63 : n + m ≤ maxLen) (hbytes : (n + m) * bytes ≤ 140737488355328) (hbase : base ≤ w.heap.size)
    (h : ∀ v' w', w'.ownsRow base e size v' (n + m) (xs ++ news) → w.grownBy w' v.ownBlock → (v' = .slice none 0 0 ↔ v = .slice none 0 0 ∧ m = 0) → K (a.put o.dst v') w') :
    if Region.wanted o (yielded ops a.tmps) = true then Oper.wp P o a w K Q else E := by
  have hw : Region.wanted o (yielded ops a.tmps) = true := by simp [Region.wanted, hgd]
  rw [if_pos hw]
  exact wp_append_own w s x t ho base e i z size bytes ht hi hz hsize hby hzs hsz v n xs hs hown ad m c news hx hl hnews h1 h63 hbytes hbase h

def strV (p : List UInt8) : Value := .string (strB p)
theorem infoStr : (Tryd.prog.info? 9).map (fun i => (i.zero, i.size, i.bytes)) = some (some (.string ⟨#[]⟩), 1, 16) := by kernel_rfl
theorem StrsAt.of_own {w : World} {B : Nat} {v : Value} {ps : List (List UInt8)} (h : w.ownsRow B 9 1 v ps.length (ps.map strV)) : StrsAt w v ps := by
  rcases h.2 with ⟨rfl, h0⟩ | ⟨g, cap, cur, rfl, hb, hh, hle, hm, hs, ht⟩
  · have : ps = [] := List.length_eq_zero_iff.1 h0
    subst this
    exact ⟨none, 0, rfl, Nat.le_refl _, .inl rfl⟩
  · refine ⟨_, cap, rfl, hle, .inr ⟨g, 0, rfl, fun j hj => ?_⟩⟩
    rw [Nat.zero_add, World.ownsRow.cellAt h j (by omega)]
    simp [hj, strV]
theorem rowL_get (ps : List (List UInt8)) (n i : Nat) (hi : i < n * 64) : (rowL ps n)[i]? = (pieceL (atL ps (i / 64)))[i % 64]? := by
  induction n with
  | zero => omega
  | succ n ih =>
    rw [rowL]
    rcases Nat.lt_or_ge i (n * 64) with h | h
    · rw [List.getElem?_append_left (by rw [rowL_len]; exact h)]; exact ih h
    · rw [List.getElem?_append_right (by rw [rowL_len]; exact h), rowL_len, show i / 64 = n by omega, show i - n * 64 = i % 64 by omega]

/-- The byte at a place of OpsHalves' file. -/
def hbyte (p : Nat) : UInt8 := UInt8.ofNat ((p / 64) * 7 + p % 64)
def halfP (k : Nat) : List UInt8 := (List.range 64).map fun q => UInt8.ofNat (k * 7 + q)
def halfPs : List (List UInt8) := (List.range 140).map halfP
theorem halfP_len (k : Nat) : (halfP k).length = 64 := by unfold halfP; simp
theorem pieceL_full {l : List UInt8} (h : l.length = 64) : pieceL l = l := by
  unfold pieceL
  rw [List.take_of_length_le (by omega), h]; simp
theorem halfPs_at (F n j : Nat) (hj : j < n) (h : F + j < 140) : atL ((halfPs.drop F).take n) j = halfP (F + j) := by
  unfold atL
  rw [List.getD_eq_getElem?_getD, List.getElem?_take_of_lt hj, List.getElem?_drop]
  unfold halfPs
  rw [List.getElem?_map, List.getElem?_range h]; rfl
/-- How many bytes are read. -/
def readN (S O n : Int) : Nat := (max (min n (S - O)) 0).toNat
def readH (S O n : Int) : List UInt8 :=
  let s := spanC O (max (min n (S - O)) 0)
  readL S O n ((halfPs.drop s.1.toNat).take (s.2.toNat - s.1.toNat))
theorem readH_eq (S O n : Int) (hS : 0 ≤ S) (hS2 : S ≤ 8192) (hO : 0 ≤ O) : readH S O n = (List.range (readN S O n)).map fun i => hbyte (O.toNat + i) := by
  unfold readH readN readL
  by_cases h : O < 0 ∨ n < 1 ∨ S ≤ O
  · rw [if_pos h, show (max (min n (S - O)) 0).toNat = 0 by omega]; rfl
  · rw [if_neg h]
    obtain ⟨m, hm⟩ : ∃ m : Nat, min n (S - O) = (m : Int) := ⟨(min n (S - O)).toNat, by omega⟩
    have hmm : max (m : Int) 0 = (m : Int) := by omega
    obtain ⟨o, rfl⟩ : ∃ o : Nat, O = (o : Int) := ⟨O.toNat, by omega⟩
    have hsp : spanC o m = (((o / 64 : Nat) : Int), (((o + m - 1) / 64 + 1 : Nat) : Int)) := by
      unfold spanC
      rw [if_neg (by omega)]
      refine Prod.ext ?_ ?_ <;> simp <;> omega
    simp only [hm, hmm, hsp, Int.toNat_natCast]
    obtain ⟨F, hF⟩ : ∃ F, F = o / 64 := ⟨_, rfl⟩
    obtain ⟨T, hT⟩ : ∃ T, T = (o + m - 1) / 64 + 1 := ⟨_, rfl⟩
    rw [← hF, ← hT]
    have hTF : ((T : Int) - (F : Int)).toNat = T - F := by omega
    rw [hTF, if_neg (by intro e; have := rowL_len ((halfPs.drop F).take (T - F)) (T - F); rw [e] at this; simp at this; omega)]
    rw [show ((o : Int) - (F : Int) * 64).toNat = o - F * 64 by omega]
    apply List.ext_getElem?
    intro i
    rw [List.getElem?_map]
    rcases Nat.lt_or_ge i m with hi | hi
    · rw [List.getElem?_take_of_lt hi, List.getElem?_drop, rowL_get _ _ _ (by omega), List.getElem?_range hi]
      rw [halfPs_at F (T - F) _ (by omega) (by omega), pieceL_full (halfP_len _)]
      unfold halfP hbyte
      rw [List.getElem?_map, List.getElem?_range (by omega)]
      simp only [Option.map_some]
      refine congrArg some (congrArg UInt8.ofNat ?_)
      omega
    · rw [List.getElem?_eq_none (by rw [List.length_take]; omega), List.getElem?_eq_none (by simp; omega)]; rfl
/-- Two halves are the whole. -/
theorem halves_pure (S O a b : Int) (hS : 0 ≤ S) (hS2 : S ≤ 8192) (hO : 0 ≤ O) (ha : 0 ≤ a) (hb : 0 ≤ b) :
    readH S O a ++ readH S (O + a) b = readH S O (a + b) ∧ ((readH S O (a + b)).length : Int) = max (min (a + b) (S - O)) 0 := by
  rw [readH_eq S O a hS hS2 hO, readH_eq S (O + a) b hS hS2 (by omega), readH_eq S O (a + b) hS hS2 hO]
  refine ⟨?_, by simp [readN]⟩
  by_cases h : readN S (O + a) b = 0
  · rw [h, show readN S O (a + b) = readN S O a by unfold readN at *; omega]; simp
  · rw [show readN S O (a + b) = readN S O a + readN S (O + a) b by unfold readN at *; omega, List.range_add, List.map_append, List.map_map]
    congr 1
    refine List.map_congr_left fun i _ => ?_
    simp only [Function.comp]
    congr 1
    unfold readN at *
    omega

end Go.Proofs.YthpdmgefdaegmaaDoor
