/- New of package nand: a chip of erased pages. -/
import Derived.Test.YthoadcibknaelaaWrite
import Derived.Outline
import Derived.Deep.RegionHeld3
import Derived.Deep.RegionLaw
import Derived.Deep.AppendLies
import Derived.Laws.MakeOwn
import Derived.KernelRfl
namespace Go.Proofs.Ythoadcibknaelaa
open Go.RowKit
set_option linter.unusedVariables false
set_option linter.unusedSimpArgs false

def freshC (nb np : Nat) (bytes : Int) : Chp :=
  { nb := nb, np := np, pg := fun _ _ => ⟨0, ⟨#[]⟩, false⟩, er := fun _ => 0, rd := fun _ => 0, worn := fun _ => false, bytes := bytes, seed := 0, most := 0, piece := 0, left := 0, mode := 0, off := false, changes := 0 }

theorem infoBlk : (Try.prog.info? 73).map (fun i => (i.zero, i.size, i.bytes)) = some (some (.agg #[.slice none 0 0, .int .i64 0, .int .i64 0, .bool false]), 4, 48) := by kernel_rfl
theorem infoPage : (Try.prog.info? 77).map (fun i => (i.zero, i.size, i.bytes)) = some (some (.agg #[.int .i64 0, .string ⟨#[]⟩, .bool false]), 3, 32) := by kernel_rfl

/-- The cells of blocks whose pages lie there. -/
def rowOf (np : Nat) (ps : List Nat) : List Value := ps.flatMap fun g => [.slice (some ⟨g, 0, none⟩) np np, .int .i64 0, .int .i64 0, .bool false]
theorem rowOf_len (np : Nat) (ps : List Nat) : (rowOf np ps).length = ps.length * 4 := by
  induction ps with
  | nil => rfl
  | cons a l ih =>
    have : rowOf np (a :: l) = [.slice (some ⟨a, 0, none⟩) np np, .int .i64 0, .int .i64 0, .bool false] ++ rowOf np l := rfl
    rw [this, List.length_append, ih]; simp; omega
theorem rowOf_snoc (np : Nat) (ps : List Nat) (g : Nat) : rowOf np (ps ++ [g]) = rowOf np ps ++ [.slice (some ⟨g, 0, none⟩) np np, .int .i64 0, .int .i64 0, .bool false] := by simp [rowOf]
theorem rowOf_get (np : Nat) : ∀ (ps : List Nat) (i : Nat) (_ : i < ps.length), (rowOf np ps)[i * 4]? = some (.slice (some ⟨ps.getD i 0, 0, none⟩) np np) ∧ (rowOf np ps)[i * 4 + 1]? = some (.int .i64 0) ∧ (rowOf np ps)[i * 4 + 2]? = some (.int .i64 0) ∧ (rowOf np ps)[i * 4 + 3]? = some (.bool false)
  | [], i, hi => absurd hi (by simp)
  | a :: l, 0, _ => ⟨rfl, rfl, rfl, rfl⟩
  | a :: l, i + 1, hi => by
    have h := rowOf_get np l i (by simpa using hi)
    have e : rowOf np (a :: l) = .slice (some ⟨a, 0, none⟩) np np :: .int .i64 0 :: .int .i64 0 :: .bool false :: rowOf np l := rfl
    rw [e, show (i + 1) * 4 = i * 4 + 1 + 1 + 1 + 1 by omega]
    exact h

/-- What New has made behind k rounds: w: the world ahead of it, v: the slice of blocks, ps: where their pages lie. -/
structure NewRel (w wr : World) (np : Nat) (bytes : Int) (v : Value) (ps : List Nat) : Prop where
  own : wr.ownsRow (w.heap.size + 1) 73 4 v ps.length (rowOf np ps)
  below : Below w.heap.size w wr
  c0 : wr.cell? ⟨w.heap.size, 0, none⟩ = some v
  c1 : wr.cell? ⟨w.heap.size, 1, none⟩ = some (.int .i64 bytes)
  c2 : wr.cell? ⟨w.heap.size, 2, none⟩ = some (.int .i64 0)
  c3 : wr.cell? ⟨w.heap.size, 3, none⟩ = some (.int .i64 0)
  c4 : wr.cell? ⟨w.heap.size, 4, none⟩ = some (.int .i64 0)
  c5 : wr.cell? ⟨w.heap.size, 5, none⟩ = some (.int .i64 0)
  c6 : wr.cell? ⟨w.heap.size, 6, none⟩ = some (.int .i64 0)
  c7 : wr.cell? ⟨w.heap.size, 7, none⟩ = some (.bool false)
  c8 : wr.cell? ⟨w.heap.size, 8, none⟩ = some (.int .i64 0)
  fa : ∀ o, wr.frozen? ⟨w.heap.size, o, none⟩ = false
  pages : ∀ g ∈ ps, w.heap.size + 1 ≤ g ∧ wr.heap[g]? = some (.cells (madeCells #[.int .i64 0, .string ⟨#[]⟩, .bool false] (np * 3)) 77 (0, 0))
  apart : ∀ g ∈ ps, v.ownBlock ≠ some g
  once : ps.Nodup

theorem own_base {w : World} {base e size n : Nat} {v : Value} {xs : List Value} (h : w.ownsRow base e size v n xs) {g : Nat} (hg : v.ownBlock = some g) : base ≤ g ∧ g < w.heap.size := by
  rcases h.2 with ⟨rfl, _⟩ | ⟨g', cap, cur, rfl, hb, hh, _⟩
  · simp [Value.ownBlock] at hg
  · have e : g' = g := by simpa [Value.ownBlock] using hg
    subst e
    refine ⟨hb, ?_⟩
    rcases Nat.lt_or_ge g' w.heap.size with hlt | hge
    · exact hlt
    · rw [Array.getElem?_eq_none hge] at hh; cases hh

theorem heap_drew (w : World) : w.drew.heap = w.heap := rfl

/-- One round of New: a row of pages is made, the block is appended, the slice is stored. -/
theorem NewRel.step {w wr w1 : World} {np : Nat} {bytes : Int} {v : Value} {ps : List Nat} (H : NewRel w wr np bytes v ps) (o : Obj) {gg cap : Nat}
    (hown : w1.ownsRow (w.heap.size + 1) 73 4 (.slice (some ⟨gg, 0, none⟩) (ps.length + 1) cap) (ps.length + 1) (rowOf np ps ++ [.slice (some ⟨wr.heap.size, 0, none⟩) np np, .int .i64 0, .int .i64 0, .bool false]))
    (hgrow : (((wr.alloc (.cells (madeCells #[.int .i64 0, .string ⟨#[]⟩, .bool false] (np * 3)) 77)).alloc o).drew).grownBy w1 v.ownBlock)
    (hat : v.ownBlock = some gg ∨ gg = wr.heap.size + 2) :
    NewRel w (w1.setCell ⟨w.heap.size, 0, none⟩ (.slice (some ⟨gg, 0, none⟩) (ps.length + 1) cap)) np bytes (.slice (some ⟨gg, 0, none⟩) (ps.length + 1) cap) (ps ++ [wr.heap.size]) := by
  have hsz : w.heap.size < wr.heap.size := World.block_lt_of_cell? _ _ H.c0
  have hvne : ∀ g, v.ownBlock = some g → w.heap.size + 1 ≤ g ∧ g < wr.heap.size := fun g hg => own_base H.own hg
  have keep : ∀ g, g < wr.heap.size → v.ownBlock ≠ some g → w1.heap[g]? = wr.heap[g]? := by
    intro g hg hne
    have h1 := hgrow.block g (by simp [heap_drew]; omega) (fun e => hne e.symm)
    rw [h1, heap_drew, Below.heap_alloc _ _ _ (by simp; omega), Below.heap_alloc _ _ _ hg]
  have hne0 : v.ownBlock ≠ some w.heap.size := fun e => by have := (hvne _ e).1; omega
  have hps : ∀ g ∈ ps, g < wr.heap.size := by
    intro g hg
    have := (H.pages g hg).2
    rcases Nat.lt_or_ge g wr.heap.size with h | h
    · exact h
    · rw [Array.getElem?_eq_none h] at this; cases this
  have cell0 : ∀ o', w1.cell? ⟨w.heap.size, o', none⟩ = wr.cell? ⟨w.heap.size, o', none⟩ := fun o' => World.cell?_of_block (w := wr) (keep _ hsz hne0)
  have froz0 : ∀ o', w1.frozen? ⟨w.heap.size, o', none⟩ = wr.frozen? ⟨w.heap.size, o', none⟩ := fun o' => World.frozen?_of_block (w := wr) (keep _ hsz hne0)
  have oth : ∀ o', o' ≠ 0 → ∀ u, (w1.setCell ⟨w.heap.size, 0, none⟩ u).cell? ⟨w.heap.size, o', none⟩ = wr.cell? ⟨w.heap.size, o', none⟩ := fun o' ho u => by rw [setA_other _ _ _ _ _ (Ne.symm ho), cell0]
  have hbel : Below w.heap.size w w1 := (((H.below.alloc (by omega) _).alloc (by simp; omega) _).drew).grown hgrow (by simp [heap_drew]; omega) (fun k hk => by have := (hvne k hk).1; omega)
  have hnew : w1.heap[wr.heap.size]? = some (.cells (madeCells #[.int .i64 0, .string ⟨#[]⟩, .bool false] (np * 3)) 77 (0, 0)) := by
    have h1 := hgrow.block wr.heap.size (by simp [heap_drew]; omega) (fun e => by have := (hvne _ e.symm).2; omega)
    rw [h1, heap_drew, Below.heap_alloc _ _ _ (by simp)]
    exact heap_alloc_new _ _
  refine ⟨?_, hbel.setCell (p := ⟨w.heap.size, 0, none⟩) (Nat.le_refl _) _, setA_same _ _ _ _ _ ((cell0 0).trans H.c0), (oth 1 (by omega) _).trans H.c1, (oth 2 (by omega) _).trans H.c2, (oth 3 (by omega) _).trans H.c3, (oth 4 (by omega) _).trans H.c4, (oth 5 (by omega) _).trans H.c5, (oth 6 (by omega) _).trans H.c6, (oth 7 (by omega) _).trans H.c7, (oth 8 (by omega) _).trans H.c8, ?_, ?_, ?_, ?_⟩
  · rw [rowOf_snoc, List.length_append, List.length_singleton]
    exact ownsRow_setCell_below hown (a := ⟨w.heap.size, 0, none⟩) (by simp) _
  · intro o'; rw [World.frozen?_setCell, froz0]; exact H.fa o'
  · intro g hg
    rcases List.mem_append.1 hg with hg | hg
    · refine ⟨(H.pages g hg).1, ?_⟩
      rw [Below.heap_setCell _ _ _ _ (by have := (H.pages g hg).1; simp; omega), keep g (hps g hg) (H.apart g hg)]
      exact (H.pages g hg).2
    · obtain rfl : g = wr.heap.size := by simpa using hg
      refine ⟨hsz, ?_⟩
      rw [Below.heap_setCell _ _ _ _ (by simp; omega)]
      exact hnew
  · intro g hg e
    have e' : gg = g := by simpa [Value.ownBlock] using e
    subst e'
    rcases List.mem_append.1 hg with hg | hg
    · rcases hat with h | h
      · exact H.apart _ hg h
      · have := hps _ hg; omega
    · obtain h2 : gg = wr.heap.size := by simpa using hg
      rcases hat with h | h
      · have := (hvne _ h).2; omega
      · omega
  · rw [List.nodup_append]
    refine ⟨H.once, by simp, ?_⟩
    intro a ha b hb
    obtain rfl : b = wr.heap.size := by simpa using hb
    have := hps _ ha
    omega

theorem blk2 (w : World) (o1 o2 : Obj) : ((w.alloc o1).alloc o2).drew.heap[w.heap.size + 1]? = some o2 := by
  have h := heap_alloc_new (w.alloc o1) o2
  rwa [show (w.alloc o1).heap.size = w.heap.size + 1 from by simp] at h
theorem NewRel.mid {w wr w1 : World} {np : Nat} {bytes : Int} {v : Value} {ps : List Nat} (H : NewRel w wr np bytes v ps) {o1 o2 : Obj}
    (hgrow : (((wr.alloc o1).alloc o2).drew).grownBy w1 v.ownBlock) : w1.cell? ⟨w.heap.size, 0, none⟩ = some v ∧ w1.frozen? ⟨w.heap.size, 0, none⟩ = false := by
  have hsz : w.heap.size < wr.heap.size := World.block_lt_of_cell? _ _ H.c0
  have hb : w1.heap[w.heap.size]? = wr.heap[w.heap.size]? := by
    have h1 := hgrow.block w.heap.size (by simp [heap_drew]; omega) (fun e => by have := (own_base H.own e.symm).1; omega)
    rw [h1, heap_drew, Below.heap_alloc _ _ _ (by simp; omega), Below.heap_alloc _ _ _ hsz]
  exact ⟨(World.cell?_of_block (w := wr) (a := ⟨w.heap.size, 0, none⟩) hb).trans H.c0, (World.frozen?_of_block (w := wr) (a := ⟨w.heap.size, 0, none⟩) hb).trans (H.fa 0)⟩

theorem madeCells_get (z : Array Value) (n i : Nat) (h : i < n) : (madeCells z n)[i]? = some (z[i % z.size]!) := by
  simp [madeCells, h]

/-- What New has made behind the last round is a fresh chip. -/
theorem NewRel.chip {w wr : World} {np : Nat} {bytes : Int} {v : Value} {ps : List Nat} (H : NewRel w wr np bytes v ps) (h1 : 1 ≤ ps.length) (h2 : ps.length ≤ 64) (h3 : 4 ≤ np) (h4 : np ≤ 64) (h6 : 1 ≤ bytes) (h7 : bytes ≤ 2048) :
    ∃ L, L.a = w.heap.size ∧ ChipAt wr L (freshC ps.length np bytes) ∧ (∀ k, Foot L ps.length k → w.heap.size ≤ k) := by
  obtain ⟨hl, ⟨_, h0⟩ | ⟨g, cap, cur, rfl, hb, hh, hnc, hcm, hcs, htk⟩⟩ := H.own
  · omega
  have hget : ∀ j u, (rowOf np ps)[j]? = some u → wr.cell? ⟨g, j, none⟩ = some u := by
    intro j u hu
    rw [cell_of_row wr g j cur 73 (0, 0) hh]
    rw [← htk] at hu
    rw [List.getElem?_take] at hu
    split at hu
    · simpa using hu
    · cases hu
  have hfr : ∀ g' o, ∀ cs t, wr.heap[g']? = some (.cells cs t (0, 0)) → wr.frozen? ⟨g', o, none⟩ = false := by
    intro g' o cs t hg
    simp [World.frozen?, hg]
  have mem : ∀ i, i < ps.length → ps.getD i 0 ∈ ps := fun i hi => by
    rw [List.getD_eq_getElem?_getD, List.getElem?_eq_getElem hi]; exact List.getElem_mem hi
  have pgc : ∀ i, i < ps.length → ∀ x, x < np * 3 → wr.cell? ⟨ps.getD i 0, x, none⟩ = some ((#[.int .i64 0, .string ⟨#[]⟩, .bool false] : Array Value)[x % 3]!) := by
    intro i hi x hx
    rw [cell_of_row wr _ x _ 77 (0, 0) (H.pages _ (mem i hi)).2, madeCells_get _ _ _ hx]
    rfl
  refine ⟨⟨w.heap.size, g, cap, fun i => ps.getD i 0⟩, rfl, ⟨H.c0, H.c1, H.c2, H.c3, H.c4, H.c5, H.c6, H.c7, H.c8, ?_, ?_, ?_, ?_, ?_, ?_, ?_, H.fa, ?_, ?_, ?_, ?_, ?_, ?_, h2, h4, ?_, h1, ?_, ?_, ?_, ?_, h6, h7⟩, ?_⟩
  · exact fun i hi => hget _ _ (rowOf_get np ps i hi).1
  · exact fun i hi => hget _ _ (rowOf_get np ps i hi).2.1
  · exact fun i hi => hget _ _ (rowOf_get np ps i hi).2.2.1
  · exact fun i hi => hget _ _ (rowOf_get np ps i hi).2.2.2
  · intro i hi j hj
    have hj' : j < np := hj
    have := pgc i hi (j * 3) (by omega)
    rw [show j * 3 % 3 = 0 by omega] at this
    exact this
  · intro i hi j hj
    have hj' : j < np := hj
    have := pgc i hi (j * 3 + 1) (by omega)
    rw [show (j * 3 + 1) % 3 = 1 by omega] at this
    exact this
  · intro i hi j hj
    have hj' : j < np := hj
    have := pgc i hi (j * 3 + 2) (by omega)
    rw [show (j * 3 + 2) % 3 = 2 by omega] at this
    exact this
  · exact fun o => hfr g o cur _ hh
  · exact fun i hi o => hfr _ o _ _ (H.pages _ (mem i hi)).2
  · show w.heap.size ≠ g; omega
  · intro i hi; have := (H.pages _ (mem i hi)).1; show w.heap.size ≠ ps.getD i 0; omega
  · intro i hi; have := H.apart _ (mem i hi); intro e; apply this; show some g = some (ps.getD i 0); exact congrArg some e
  · intro i j hi hj e
    have hi' : i < ps.length := hi
    have hj' : j < ps.length := hj
    have e' : ps.getD i 0 = ps.getD j 0 := e
    rw [List.getD_eq_getElem?_getD, List.getD_eq_getElem?_getD, List.getElem?_eq_getElem hi', List.getElem?_eq_getElem hj'] at e'
    exact (List.getElem_inj H.once).1 e'
  · show 0 < np; omega
  · exact Int.le_refl 0
  · show (0 : Int) ≤ 9223372036854775807; omega
  · show (-9223372036854775808 : Int) ≤ 0; omega
  · show (0 : Int) ≤ 9223372036854775807; omega
  · rintro k (h | h | ⟨i, hi, h⟩)
    · rw [h]; exact Nat.le_refl _
    · rw [h]; show w.heap.size ≤ g; omega
    · have := (H.pages _ (mem i hi)).1; rw [h]; show w.heap.size ≤ ps.getD i 0; omega

set_option maxHeartbeats 1600000 in
set_option maxRecDepth 100000 in
theorem new_good (nb np : Nat) (bytes : Int) (w : World) (h1 : 1 ≤ nb) (h2 : nb ≤ 64) (h3 : 4 ≤ np) (h4 : np ≤ 64) (h5 : np % 4 = 0) (h6 : 1 ≤ bytes) (h7 : bytes ≤ 2048) :
    Calls Try.prog 12 #[.int .i64 nb, .int .i64 np, .int .i64 bytes] w fun e w' => ∃ L, e = .returned (.tuple #[.pointer (some ⟨L.a, 0, none⟩), .int .i64 0]) ∧ ChipAt w' L (freshC nb np bytes) ∧
      Below w.heap.size w w' ∧ (∀ k, Foot L nb k → w.heap.size ≤ k) := by
  have t1 : decide ((nb : Int) < 1) = false := by simp; omega
  have t2 : decide (64 < (nb : Int)) = false := by simp; omega
  have t3 : decide ((np : Int) < 4) = false := by simp; omega
  have t4 : decide (64 < (np : Int)) = false := by simp; omega
  have t5 : ((np : Int) % 4 != 0) = false := by simp; omega
  have t6 : decide (bytes < 1) = false := by simp; omega
  have t7 : decide (2048 < bytes) = false := by simp; omega
  obtain ⟨i0, hi0, hz0, hz1, hz2⟩ := info_parts infoBlk
  obtain ⟨j0, hj0, hy0, hy1, hy2⟩ := info_parts infoPage
  have hmk : ∀ W : World, (Instr.makeSlice 71 (.int .i64 (np : Int)) (.int .i64 (np : Int))).run Try.prog W = .ok (.slice (some ⟨W.heap.size, 0, none⟩) np np) (W.alloc (.cells (madeCells #[.int .i64 0, .string ⟨#[]⟩, .bool false] (np * 3)) 77)) := by
    intro W
    have := run_make (P := Try.prog) W 71 77 j0 _ (by kernel_rfl) hj0 hy0 .i64 .i64 (np : Int) (np : Int) (by omega) (by omega) (by rw [hy2]; omega) (by omega)
    rw [hy1] at this
    simp only [Int.toNat_natCast] at this
    exact this
  go_enter Try.func12, Try.ntmps12
  go_wp2_with fail
  go_loopw [40] (fun i wr => ∃ (v : Value) (ps : List Nat), ps.length ≤ nb ∧ i = .int .i64 ps.length ∧ NewRel w wr np bytes v ps) (fun i _ => nb - (intOf i).toNat)
  case atStart =>
    refine ⟨.slice none 0 0, [], by simp, rfl, ⟨⟨rfl, .inl ⟨rfl, rfl⟩⟩, (Below.refl _ _).alloc (Nat.le_refl _) _, by simp, by simp, by simp, by simp, by simp, by simp, by simp, by simp, by simp, by simp, by simp, by simp, by simp⟩⟩
  case round =>
    obtain ⟨v, ps, hk, rfl, H⟩ := hrel
    have k0 := H.c0
    have hfa := H.fa
    by_cases hlt : ps.length < nb
    · have hn : ps.length + 1 ≤ maxLen := by unfold maxLen; omega
      have hbd : (ps.length + 1) * 48 ≤ 140737488355328 := by omega
      have hsz : w.heap.size < wr.heap.size := World.block_lt_of_cell? _ _ H.c0
      have hvne : ∀ g, v.ownBlock = some g → w.heap.size + 1 ≤ g ∧ g < wr.heap.size := fun g hg => own_base H.own hg
      have HV := Lib.hid hvne
      clear hvne
      go_wp2_with fail
      go_region_law ((refine step_append_lies _ (by rfl) (.tmp 46) (.tmp 50) _ (by rfl) (w.heap.size + 1) 73 i0 _ 4 48 (by kernel_rfl) hi0 hz0 hz1 hz2 rfl (by omega) v ps.length (rowOf np ps) (by rfl) (((H.own.alloc _).alloc _).drew) ⟨wr.heap.size + 1, 0, none⟩ 1 1 [.slice (some ⟨wr.heap.size, 0, none⟩) np np, .int .i64 0, .int .i64 0, .bool false] (by rfl) (by rfl) (World.news_of_block (cs := #[.slice (some ⟨wr.heap.size, 0, none⟩) np np, .int .i64 0, .int .i64 0, .bool false]) (t := 73) (fr := (0, 0)) (blk2 wr _ _)) (by simp [Value.oneCell']) (by omega) hn hbd (by simp; omega) (wr.heap.size + 2) (by simp) ?_; intro gg cap w1 hown1 hgrow hat hlt1; obtain ⟨k1, f1⟩ := H.mid hgrow))
      all_goals
        go_wp2
        go_roundw
        case rel => exact ⟨_, ps ++ [wr.heap.size], by simp; omega, by simp, H.step _ hown1 hgrow hat⟩
        case measure => simp [intOf]; omega
    · obtain rfl : nb = ps.length := by omega
      obtain ⟨L, hL, hC, hF⟩ := H.chip h1 h2 h3 h4 h6 h7
      have HL := Lib.hid hL
      have HB := H.below
      clear hL
      go_wp2_with fail
      go_ret2
      exact ⟨L, by rw [HL.out]; rfl, hC, HB, hF⟩

/-- Are these the numbers of a chip? -/
def newOk (nb np bytes : Int) : Prop := 1 ≤ nb ∧ nb ≤ 64 ∧ 4 ≤ np ∧ np ≤ 64 ∧ np % 4 = 0 ∧ 1 ≤ bytes ∧ bytes ≤ 2048

set_option maxHeartbeats 800000 in
theorem new_bad (nb np bytes : Int) (w : World) (h : ¬ newOk nb np bytes) :
    Calls Try.prog 12 #[.int .i64 nb, .int .i64 np, .int .i64 bytes] w fun e w' => e = .returned (.tuple #[.pointer none, .int .i64 1]) ∧ w = w' := by
  unfold newOk at h
  by_cases c1 : nb < 1
  · go_enter Try.func12, Try.ntmps12
    go_wp2_with fail
    go_ret2
    exact ⟨rfl, rfl⟩
  by_cases c2 : 64 < nb
  · go_enter Try.func12, Try.ntmps12
    go_wp2_with fail
    go_ret2
    exact ⟨rfl, rfl⟩
  by_cases c3 : np < 4
  · go_enter Try.func12, Try.ntmps12
    go_wp2_with fail
    go_ret2
    exact ⟨rfl, rfl⟩
  by_cases c4 : 64 < np
  · go_enter Try.func12, Try.ntmps12
    go_wp2_with fail
    go_ret2
    exact ⟨rfl, rfl⟩
  by_cases c5 : np % 4 = 0
  · have c5b : (np % 4 != 0) = false := by simpa using c5
    have C5 := Lib.hid c5
    clear c5
    by_cases c6 : bytes < 1
    · go_enter Try.func12, Try.ntmps12
      go_wp2_with fail
      go_ret2
      exact ⟨rfl, rfl⟩
    by_cases c7 : 2048 < bytes
    · go_enter Try.func12, Try.ntmps12
      go_wp2_with fail
      go_ret2
      exact ⟨rfl, rfl⟩
    exact absurd ⟨by omega, by omega, by omega, by omega, C5.out, by omega, by omega⟩ h
  · have c5b : (np % 4 != 0) = true := by simpa using c5
    clear h c5
    go_enter Try.func12, Try.ntmps12
    go_wp2_with fail
    go_ret2
    exact ⟨rfl, rfl⟩

end Go.Proofs.Ythoadcibknaelaa
