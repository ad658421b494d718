/- New of the document's chip: all pages erased. -/
import Derived.Test.YthoadcibknaelaaRRead
import Derived.Deep.RegionLaw
namespace Go.Proofs.Ythoadcibknaelaa
open Go.RowKit
set_option linter.unusedVariables false
set_option linter.unusedSimpArgs false

theorem cell_heap {W : World} {b o : Nat} {cs : Array Value} {t : TypeId} {f : Nat × Nat} {v : Value} (h : W.heap[b]? = some (.cells cs t f)) (hv : cs[o]? = some v) : W.cell? ⟨b, o, none⟩ = some v := by
  simp only [World.cell?, h]; simpa using hv
theorem free_heap {W : World} {b : Nat} {cs : Array Value} {t : TypeId} (h : W.heap[b]? = some (.cells cs t (0, 0))) (o : Nat) : W.frozen? ⟨b, o, none⟩ = false := by
  simp [World.frozen?, h]
theorem made_one (v : Value) (n i : Nat) (h : i < n) : (madeCells #[v] n)[i]? = some v := by
  rw [madeCells_get _ _ _ h]
  have : i % (#[v] : Array Value).size = 0 := by
    show i % 1 = 0
    omega
  rw [this]; rfl
theorem made_page (n i : Nat) (h : i < n) : (madeCells #[.int .i64 0, .string ⟨#[]⟩, .bool false] n)[i]? = some (fcell ⟨0, ⟨#[]⟩, false⟩ (i % 3)) := by
  rw [madeCells_get _ _ _ h]
  have hs : i % (#[Value.int .i64 0, .string ⟨#[]⟩, .bool false] : Array Value).size = i % 3 := rfl
  rw [hs]
  have : i % 3 = 0 ∨ i % 3 = 1 ∨ i % 3 = 2 := by omega
  rcases this with e | e | e <;> rw [e] <;> rfl

theorem rnew_ref {W : World} {R : RLay} {nb np T : Nat} {bytes : Int} {t0 t1 t2 t3 t4 : TypeId} (hmd : R.md = 0) (hT : T = nb * np)
    (h0 : W.heap[R.a]? = some (.cells #[.int .i64 nb, .int .i64 np, .int .i64 bytes, .slice (some ⟨R.pp, 0, none⟩) T T, .slice (some ⟨R.ee, 0, none⟩) nb nb, .slice (some ⟨R.rr, 0, none⟩) nb nb, .slice (some ⟨R.ww, 0, none⟩) nb nb, .int .i64 0, .int .i64 0, .int .i64 0, .int .i64 0, .int .i64 0, .bool false, .int .i64 0] t0 (0, 0)))
    (h1 : W.heap[R.pp]? = some (.cells (madeCells #[.int .i64 0, .string ⟨#[]⟩, .bool false] (T * 3)) t1 (0, 0)))
    (h2 : W.heap[R.ee]? = some (.cells (madeCells #[.int .i64 0] nb) t2 (0, 0)))
    (h3 : W.heap[R.rr]? = some (.cells (madeCells #[.int .i64 0] nb) t3 (0, 0)))
    (h4 : W.heap[R.ww]? = some (.cells (madeCells #[.bool false] nb) t4 (0, 0)))
    (n1 : R.a ≠ R.pp) (n2 : R.a ≠ R.ee) (n3 : R.a ≠ R.rr) (n4 : R.a ≠ R.ww) (n5 : R.pp ≠ R.ee) (n6 : R.pp ≠ R.rr) (n7 : R.pp ≠ R.ww) (n8 : R.ee ≠ R.rr) (n9 : R.ee ≠ R.ww) (n10 : R.rr ≠ R.ww)
    (g1 : 1 ≤ nb) (g2 : nb ≤ 64) (g3 : 4 ≤ np) (g4 : np ≤ 64) (g6 : 1 ≤ bytes) (g7 : bytes ≤ 2048) : RefAt W R (freshC nb np bytes) := by
  subst hT
  refine ⟨?_, ?_, ?_, ?_, ?_, ?_, n1, n2, n3, n4, n5, n6, n7, n8, n9, n10, g2, g4, (by show 0 < np; omega), (by show 0 < nb; omega), (by show (0 : Int) ≤ 0; omega), (by show (0 : Int) ≤ _; omega), (by rw [hmd]; decide), (by rw [hmd]; decide), g6, g7, .inl rfl⟩
  · intro i hi
    refine cell_heap h0 ?_
    match i, hi with
    | 0, _ => rfl | 1, _ => rfl | 2, _ => rfl | 3, _ => rfl | 4, _ => rfl | 5, _ => rfl | 6, _ => rfl | 7, _ => rfl | 8, _ => rfl | 9, _ => rfl | 10, _ => rfl
    | 11, _ => show _ = some (Value.int .i64 R.md); rw [hmd]; rfl
    | 12, _ => rfl | 13, _ => rfl
  · intro i hi
    refine cell_heap h1 ?_
    exact made_page _ _ hi
  · intro i hi; exact cell_heap h2 (made_one _ _ _ hi)
  · intro i hi; exact cell_heap h3 (made_one _ _ _ hi)
  · intro i hi; exact cell_heap h4 (made_one _ _ _ hi)
  · rintro k (rfl | rfl | rfl | rfl | rfl) o
    · exact free_heap h0 o
    · exact free_heap h1 o
    · exact free_heap h2 o
    · exact free_heap h3 o
    · exact free_heap h4 o

theorem five (w : World) (o1 o2 o3 o4 o5 : Obj) : (((((w.alloc o1).alloc o2).alloc o3).alloc o4).alloc o5).drew.heap[w.heap.size]? = some o1 ∧
    (((((w.alloc o1).alloc o2).alloc o3).alloc o4).alloc o5).drew.heap[w.heap.size + 1]? = some o2 ∧ (((((w.alloc o1).alloc o2).alloc o3).alloc o4).alloc o5).drew.heap[w.heap.size + 1 + 1]? = some o3 ∧
    (((((w.alloc o1).alloc o2).alloc o3).alloc o4).alloc o5).drew.heap[w.heap.size + 1 + 1 + 1]? = some o4 ∧ (((((w.alloc o1).alloc o2).alloc o3).alloc o4).alloc o5).drew.heap[w.heap.size + 1 + 1 + 1 + 1]? = some o5 := by
  have s1 : (w.alloc o1).heap.size = w.heap.size + 1 := by simp
  have s2 : ((w.alloc o1).alloc o2).heap.size = w.heap.size + 1 + 1 := by simp
  have s3 : (((w.alloc o1).alloc o2).alloc o3).heap.size = w.heap.size + 1 + 1 + 1 := by simp
  have s4 : ((((w.alloc o1).alloc o2).alloc o3).alloc o4).heap.size = w.heap.size + 1 + 1 + 1 + 1 := by simp
  simp only [heap_drew]
  refine ⟨?_, ?_, ?_, ?_, ?_⟩
  · rw [Below.heap_alloc _ _ _ (by omega), Below.heap_alloc _ _ _ (by omega), Below.heap_alloc _ _ _ (by omega), Below.heap_alloc _ _ _ (by omega)]; exact heap_alloc_new w o1
  · rw [Below.heap_alloc _ _ _ (by omega), Below.heap_alloc _ _ _ (by omega), Below.heap_alloc _ _ _ (by omega), ← s1]; exact heap_alloc_new _ o2
  · rw [Below.heap_alloc _ _ _ (by omega), Below.heap_alloc _ _ _ (by omega), ← s2]; exact heap_alloc_new _ o3
  · rw [Below.heap_alloc _ _ _ (by omega), ← s3]; exact heap_alloc_new _ o4
  · rw [← s4]; exact heap_alloc_new _ o5
theorem five_below (w : World) (o1 o2 o3 o4 o5 : Obj) : Below w.heap.size w (((((w.alloc o1).alloc o2).alloc o3).alloc o4).alloc o5).drew :=
  ((((((Below.refl _ w).alloc (Nat.le_refl _) _).alloc (by simp) _).alloc (by simp; omega) _).alloc (by simp; omega) _).alloc (by simp; omega) _).drew

def RNewPost (nb np : Nat) (bytes : Int) (w : World) (e : Ending) (w' : World) : Prop :=
  ∃ R : RLay, e = .returned (.pointer (some ⟨R.a, 0, none⟩)) ∧ RefAt w' R (freshC nb np bytes) ∧ Below w.heap.size w w' ∧ ∀ k, RFoot R k → w.heap.size ≤ k

theorem infoRPage : (Try.prog.info? 86).map (fun i => (i.zero, i.size, i.bytes)) = some (some (.agg #[.int .i64 0, .string ⟨#[]⟩, .bool false]), 3, 32) := by kernel_rfl

set_option maxHeartbeats 2000000 in
theorem rnew_good (nb np : Nat) (bytes : Int) (w : World) (h1 : 1 ≤ nb) (h2 : nb ≤ 64) (h3 : 4 ≤ np) (h4 : np ≤ 64) (h5 : np % 4 = 0) (h6 : 1 ≤ bytes) (h7 : bytes ≤ 2048) :
    Calls Try.prog 24 #[.int .i64 nb, .int .i64 np, .int .i64 bytes] w (RNewPost nb np bytes w) := by
  have t1 : decide ((nb : Int) < 1) = false := by simp; omega
  have t2 : decide (64 < (nb : Int)) = false := by simp; omega
  have t3 : decide ((np : Int) < 4) = false := by simp; omega
  have t4 : decide (64 < (np : Int)) = false := by simp; omega
  have t5 : ((np : Int) % 4 != 0) = false := by simp; omega
  have t6 : decide (bytes < 1) = false := by simp; omega
  have t7 : decide (2048 < bytes) = false := by simp; omega
  have hT : nb * np ≤ 4096 := Nat.mul_le_mul h2 h4
  obtain ⟨T, hTT⟩ : ∃ T, T = nb * np := ⟨_, rfl⟩
  have hs0 : (nb : Int) * (np : Int) = (T : Int) := by rw [hTT]; simp
  have hs1 : IntKind.i64.wrap (T : Int) = (T : Int) := by rw [IntKind.wrap_i64] <;> omega
  have HT := Lib.hid hTT
  rw [← hTT] at hT
  obtain ⟨j0, hj0, hy0, hy1, hy2⟩ := info_parts infoRPage
  have hmk1 : ∀ W : World, (Instr.makeSlice 59 (.int .i64 (T : Int)) (.int .i64 (T : Int))).run Try.prog W = .ok (.slice (some ⟨W.heap.size, 0, none⟩) T T) (W.alloc (.cells (madeCells #[.int .i64 0, .string ⟨#[]⟩, .bool false] (T * 3)) 86)) := by
    intro W
    have := run_make (P := Try.prog) W 59 86 j0 _ (by kernel_rfl) hj0 hy0 .i64 .i64 (T : Int) (T : Int) (by omega) (by omega) (by rw [hy2]; omega) (by omega)
    rw [hy1] at this
    simp only [Int.toNat_natCast] at this
    exact this
  have hmk2 : ∀ W : World, (Instr.makeSlice 46 (.int .i64 (nb : Int)) (.int .i64 (nb : Int))).run Try.prog W = .ok (.slice (some ⟨W.heap.size, 0, none⟩) nb nb) (W.alloc (.cells (madeCells #[.int .i64 0] nb) 3)) :=
    fun W => run_make_row' 46 3 (.int .i64 0) 8 (by kernel_rfl) (by kernel_rfl) rfl .i64 .i64 nb (by omega) (by omega) W
  have hmk3 : ∀ W : World, (Instr.makeSlice 60 (.int .i64 (nb : Int)) (.int .i64 (nb : Int))).run Try.prog W = .ok (.slice (some ⟨W.heap.size, 0, none⟩) nb nb) (W.alloc (.cells (madeCells #[.bool false] nb) 4)) :=
    fun W => run_make_row' 60 4 (.bool false) 1 (by kernel_rfl) (by kernel_rfl) rfl .i64 .i64 nb (by omega) (by omega) W
  clear hTT
  go_enter Try.func24, Try.ntmps24
  go_wp2_with fail
  go_region
  all_goals
    go_wp2
    go_ret
    refine ⟨⟨_, _, _, _, _, 0⟩, rfl, rnew_ref (t1 := 86) (t2 := 3) (t3 := 3) (t4 := 4) rfl HT.out (five w _ _ _ _ _).2.2.2.2 ?_ ?_ ?_ ?_ ?_ ?_ ?_ ?_ ?_ ?_ ?_ ?_ ?_ ?_ h1 h2 h3 h4 h6 h7, five_below w _ _ _ _ _, ?_⟩
    · first | exact (five w _ _ _ _ _).1 | exact (five w _ _ _ _ _).2.1 | exact (five w _ _ _ _ _).2.2.1 | exact (five w _ _ _ _ _).2.2.2.1
    · first | exact (five w _ _ _ _ _).1 | exact (five w _ _ _ _ _).2.1 | exact (five w _ _ _ _ _).2.2.1 | exact (five w _ _ _ _ _).2.2.2.1
    · first | exact (five w _ _ _ _ _).1 | exact (five w _ _ _ _ _).2.1 | exact (five w _ _ _ _ _).2.2.1 | exact (five w _ _ _ _ _).2.2.2.1
    · first | exact (five w _ _ _ _ _).1 | exact (five w _ _ _ _ _).2.1 | exact (five w _ _ _ _ _).2.2.1 | exact (five w _ _ _ _ _).2.2.2.1
    all_goals have hll : w.heap.toList.length = w.heap.size := by simp
    all_goals first
      | (show _ ≠ _; intro e; dsimp only at e; omega)
      | (rintro k (h | h | h | h | h) <;> (dsimp only at h; omega))

theorem rnew_any (x y z : Int) (w : World) (h : newOk x y z) : Calls Try.prog 24 #[.int .i64 x, .int .i64 y, .int .i64 z] w fun e w' =>
    ∃ R : RLay, e = .returned (.pointer (some ⟨R.a, 0, none⟩)) ∧ RefAt w' R (freshC x.toNat y.toNat z) ∧ Below w.heap.size w w' ∧ ∀ k, RFoot R k → w.heap.size ≤ k := by
  obtain ⟨h1, h2, h3, h4, h5, h6, h7⟩ := h
  obtain ⟨n, rfl⟩ : ∃ n : Nat, x = n := ⟨x.toNat, by omega⟩
  obtain ⟨m, rfl⟩ : ∃ m : Nat, y = m := ⟨y.toNat, by omega⟩
  exact rnew_good n m z w (by omega) (by omega) (by omega) (by omega) (by omega) h6 h7

end Go.Proofs.Ythoadcibknaelaa
