/- What stays true of a chip whatever is called: the same numbers, and every page erased, spoilt or written whole. And the row's last step. -/
import Derived.Test.YthoadcibknaelaaReadm
namespace Go.Proofs.Ythoadcibknaelaa
open Go.RowKit
set_option linter.unusedVariables false
set_option linter.unusedSimpArgs false
variable {c : Chp}

def Good (c : Chp) : Prop := ∀ i j, i < c.nb → j < c.np → GoodPg c.bytes (c.pg i j)
/-- The same blocks, pages, bytes. -/
def Like (c d : Chp) : Prop := d.nb = c.nb ∧ d.np = c.np ∧ d.bytes = c.bytes
theorem Like.refl (c : Chp) : Like c c := ⟨rfl, rfl, rfl⟩
theorem Like.trans {a b c : Chp} (h : Like a b) (k : Like b c) : Like a c := ⟨k.1.trans h.1, k.2.1.trans h.2.1, k.2.2.trans h.2.2⟩
theorem tornC_like (c : Chp) : Like c (tornC c).2 := ⟨tornC_nb c, tornC_np c, tornC_bytes c⟩

theorem good_fresh (nb np : Nat) (bytes : Int) : Good (freshC nb np bytes) := fun _ _ _ _ => .inl rfl
theorem good_of {c d : Chp} (hl : Like c d) (hp : d.pg = c.pg) (h : Good c) : Good d := by
  intro i j hi hj
  rw [hl.1] at hi
  rw [hl.2.1] at hj
  rw [hl.2.2, hp]
  exact h i j hi hj
theorem good_torn (h : Good c) : Good (tornC c).2 := good_of (tornC_like c) (tornC_pg c) h
theorem good_upd2 {x : Nat → Nat → Pg} {nb np : Nat} {bytes : Int} (h : ∀ i j, i < nb → j < np → GoodPg bytes (x i j)) (i j : Nat) {p : Pg} (hp : i < nb → j < np → GoodPg bytes p) : ∀ i' j', i' < nb → j' < np → GoodPg bytes (upd2 x i j p i' j') := by
  intro i' j' hi hj
  unfold upd2
  split
  · rename_i e; exact hp (by omega) (by omega)
  · exact h i' j' hi hj
theorem good_progPg {bytes m : Int} {data : ByteArray} {p : Pg} (h : GoodPg bytes p) (hs : (data.size : Int) = bytes) : GoodPg bytes (progPg m data p) := by
  unfold progPg GoodPg
  by_cases h1 : m % 3 = 1
  · rw [if_pos h1]; exact .inr (.inl rfl)
  · by_cases h2 : m % 3 = 2
    · rw [if_neg h1, if_pos h2, if_pos h2]; exact .inr (.inr ⟨rfl, hs⟩)
    · rw [if_neg h1, if_neg h2, if_neg h2]; exact h
theorem good_progTorn {m : Int} {b p : Nat} {data : ByteArray} (h : Good c) (hs : (data.size : Int) = c.bytes) : Good (progTorn c m b p data) := by
  have h1 : ∀ i j, i < c.nb → j < c.np → GoodPg c.bytes (upd2 c.pg b p (progPg m data (c.pg b p)) i j) := good_upd2 h b p (fun hi hj => good_progPg (h b p hi hj) hs)
  by_cases hc : 2 ≤ p % 4 ∧ 4 ≤ m ∧ (c.pg b (p - 2)).st = 1
  · rw [progTorn_yes hc]
    exact good_upd2 h1 b (p - 2) (fun _ _ => .inr (.inl rfl))
  · rw [progTorn_no hc]
    exact h1
theorem like_progTorn (c : Chp) (m : Int) (b p : Nat) (data : ByteArray) : Like c (progTorn c m b p data) := by
  by_cases hc : 2 ≤ p % 4 ∧ 4 ≤ m ∧ (c.pg b (p - 2)).st = 1
  · rw [progTorn_yes hc]; exact ⟨rfl, rfl, rfl⟩
  · rw [progTorn_no hc]; exact ⟨rfl, rfl, rfl⟩
theorem good_progFine {b p : Nat} {data : ByteArray} (h : Good c) (hs : (data.size : Int) = c.bytes) : Good (progFine c b p data) :=
  good_upd2 h b p (fun _ _ => .inr (.inr ⟨rfl, hs⟩))
theorem like_programC (c : Chp) (b p : Int) (data : ByteArray) : Like c (programC c b p data).2 := by
  unfold programC
  by_cases h1 : hasPB c b p = true ∧ (data.size : Int) = c.bytes
  · rw [if_pos h1]
    by_cases h2 : mayC c b.toNat = 0
    · rw [if_pos h2]
      by_cases h3 : cleanB c b.toNat p.toNat = true
      · rw [if_pos h3]
        by_cases h4 : (tornC c).1.2 = true
        · rw [if_pos h4]; exact (tornC_like c).trans (like_progTorn _ _ _ _ _)
        · rw [if_neg h4]; exact (tornC_like c).trans ⟨rfl, rfl, rfl⟩
      · rw [if_neg h3]; exact Like.refl c
    · rw [if_neg h2]; exact Like.refl c
  · rw [if_neg h1]; exact Like.refl c
theorem good_programC (h : Good c) (b p : Int) (data : ByteArray) : Good (programC c b p data).2 := by
  unfold programC
  by_cases h1 : hasPB c b p = true ∧ (data.size : Int) = c.bytes
  · rw [if_pos h1]
    by_cases h2 : mayC c b.toNat = 0
    · rw [if_pos h2]
      by_cases h3 : cleanB c b.toNat p.toNat = true
      · rw [if_pos h3]
        by_cases h4 : (tornC c).1.2 = true
        · rw [if_pos h4]; exact good_progTorn (good_torn h) (by rw [tornC_bytes]; exact h1.2)
        · rw [if_neg h4]; exact good_progFine (good_torn h) (by rw [tornC_bytes]; exact h1.2)
      · rw [if_neg h3]; exact h
    · rw [if_neg h2]; exact h
  · rw [if_neg h1]; exact h
theorem good_erasePg {bytes mo : Int} {tn : Bool} {p : Pg} (h : GoodPg bytes p) : GoodPg bytes (erasePg mo tn p) := by
  unfold erasePg
  by_cases h1 : tn = false ∨ 6 ≤ mo
  · rw [if_pos h1]; exact .inl rfl
  · rw [if_neg h1]
    by_cases h2 : 3 ≤ mo ∧ p.st ≠ 0
    · rw [if_pos h2]; exact .inr (.inl rfl)
    · rw [if_neg h2]; exact h
theorem like_eraseC (c : Chp) (b : Int) : Like c (eraseC c b).2 := by
  unfold eraseC
  by_cases h1 : hasB c b = true
  · rw [if_pos h1]
    by_cases h2 : mayC c b.toNat = 0
    · rw [if_pos h2]; exact (tornC_like c).trans ⟨rfl, rfl, rfl⟩
    · rw [if_neg h2]; exact Like.refl c
  · rw [if_neg h1]; exact Like.refl c
theorem good_eraseC (h : Good c) (b : Int) : Good (eraseC c b).2 := by
  unfold eraseC
  by_cases h1 : hasB c b = true
  · rw [if_pos h1]
    by_cases h2 : mayC c b.toNat = 0
    · rw [if_pos h2]
      intro i j hi hj
      have hg := good_torn h i j hi hj
      show GoodPg (tornC c).2.bytes (pgTo _ (tornC c).2.pg b.toNat c.np i j)
      unfold pgTo
      split
      · exact good_erasePg hg
      · exact hg
    · rw [if_neg h2]; exact h
  · rw [if_neg h1]; exact h
theorem like_readC (c : Chp) (b p : Int) : Like c (readC c b p).2.2 := by
  unfold readC
  by_cases h1 : hasPB c b p = true
  · rw [if_pos h1]
    by_cases h2 : c.off = true
    · rw [if_pos h2]; exact Like.refl c
    · rw [if_neg h2]; exact ⟨rfl, rfl, rfl⟩
  · rw [if_neg h1]; exact Like.refl c
theorem good_readC (h : Good c) (b p : Int) : Good (readC c b p).2.2 := by
  unfold readC
  by_cases h1 : hasPB c b p = true
  · rw [if_pos h1]
    by_cases h2 : c.off = true
    · rw [if_pos h2]; exact h
    · rw [if_neg h2]; exact h
  · rw [if_neg h1]; exact h
theorem like_spoilC (c : Chp) (b p : Int) : Like c (spoilC c b p).2 := by
  unfold spoilC
  by_cases h1 : hasPB c b p = true
  · rw [if_pos h1]
    by_cases h2 : (c.pg b.toNat p.toNat).st = 1
    · rw [if_pos h2]; exact ⟨rfl, rfl, rfl⟩
    · rw [if_neg h2]; exact Like.refl c
  · rw [if_neg h1]; exact Like.refl c
theorem good_spoilC (h : Good c) (b p : Int) : Good (spoilC c b p).2 := by
  unfold spoilC
  by_cases h1 : hasPB c b p = true
  · rw [if_pos h1]
    by_cases h2 : (c.pg b.toNat p.toNat).st = 1
    · rw [if_pos h2]; exact good_upd2 h _ _ (fun _ _ => .inr (.inl rfl))
    · rw [if_neg h2]; exact h
  · rw [if_neg h1]; exact h
theorem like_wearC (c : Chp) (b : Int) : Like c (wearC c b).2 := by
  unfold wearC
  by_cases h1 : hasB c b = true
  · rw [if_pos h1]; exact ⟨rfl, rfl, rfl⟩
  · rw [if_neg h1]; exact Like.refl c
theorem good_wearC (h : Good c) (b : Int) : Good (wearC c b).2 := by
  unfold wearC
  by_cases h1 : hasB c b = true
  · rw [if_pos h1]; exact h
  · rw [if_neg h1]; exact h

/-! ### The calls, with one relation on the world: a chip that was made behind w -/
/-- In world W, behind w: this chip stands, made since w, and nothing older has changed. -/
structure Holds (w W : World) (L : Lay) (c : Chp) : Prop where
  at_ : ChipAt W L c
  good : Good c
  below : Below w.heap.size w W
  new : ∀ k, Foot L c.nb k → w.heap.size ≤ k
theorem Holds.step {w W W' : World} {L : Lay} {c d : Chp} (h : Holds w W L c) (hat : ChipAt W' L d) (hg : Good d) (hl : Like c d) (hs : Stays (Foot L c.nb) W W') : Holds w W' L d :=
  ⟨hat, hg, Below.stays h.below hs h.new h.below.size, fun k hk => h.new k (by rw [hl.1] at hk; exact hk)⟩
theorem Holds.own {w W W' : World} {L : Lay} {c d : Chp} (h : Holds w W L c) (hat : ChipAt W' L d) (hg : Good d) (hl : Like c d) (hs : Stays (· = L.a) W W') : Holds w W' L d :=
  h.step hat hg hl (hs.mono (fun _ hk => hk ▸ foot_a L c.nb))
theorem Holds.drewN {w W : World} {L : Lay} {c : Chp} (h : Holds w W L c) (n : Nat) : Holds w (W.drewN n) L c := h.step (h.at_.drewN n) h.good (Like.refl c) (Stays.drewN (Stays.refl _ _) n)
theorem Holds.alloc {w W : World} {L : Lay} {c : Chp} (h : Holds w W L c) (o : Obj) : Holds w (W.alloc o) L c := h.step (h.at_.alloc o) h.good (Like.refl c) (Stays.alloc (Stays.refl _ _) o)

/-- A store beside the chip, into a block that is new since w. -/
theorem Holds.beside {w W : World} {L : Lay} {c : Chp} (h : Holds w W L c) {g o : Nat} {v : Value} (hg : w.heap.size ≤ g) (hn : ¬ Foot L c.nb g) : Holds w (W.setCell ⟨g, o, none⟩ v) L c :=
  ⟨h.at_.stays (S := fun x => x = g) (Stays.inA (Stays.refl _ _) v) (fun x hx e => hn (e ▸ hx)), h.good, h.below.setCell (p := ⟨g, o, none⟩) hg v, h.new⟩

theorem new_at (x y z : Int) (w W : World) (hW : Below w.heap.size w W) (h : newOk x y z) : Calls Try.prog 12 #[.int .i64 x, .int .i64 y, .int .i64 z] W fun e W' =>
    ∃ L, e = .returned (.tuple #[.pointer (some ⟨L.a, 0, none⟩), .int .i64 0]) ∧ Holds w W' L (freshC x.toNat y.toNat z) := by
  obtain ⟨h1, h2, h3, h4, h5, h6, h7⟩ := h
  obtain ⟨n, rfl⟩ : ∃ n : Nat, x = n := ⟨x.toNat, by omega⟩
  obtain ⟨m, rfl⟩ : ∃ m : Nat, y = m := ⟨y.toNat, by omega⟩
  refine (new_good n m z W (by omega) (by omega) (by omega) (by omega) (by omega) h6 h7).mono ?_
  rintro e W' ⟨L, he, hC, hB, hF⟩
  exact ⟨L, he, hC, good_fresh _ _ _, hW.trans (hB.mono hW.size), fun k hk => Nat.le_trans hW.size (hF k hk)⟩
section
variable {w W : World} {L : Lay}
theorem program_h (h : Holds w W L c) (b p : Int) (data : ByteArray) : Calls Try.prog 13 #[.pointer (some ⟨L.a, 0, none⟩), .int .i64 b, .int .i64 p, .string data] W fun e W' =>
    e = .returned (.int .i64 (programC c b p data).1) ∧ Holds w W' L (programC c b p data).2 :=
  (program_any h.at_ b p data).mono fun _ _ ⟨he, hc, hs⟩ => ⟨he, h.step hc (good_programC h.good b p data) (like_programC c b p data) hs⟩
theorem erase_h (h : Holds w W L c) (b : Int) : Calls Try.prog 19 #[.pointer (some ⟨L.a, 0, none⟩), .int .i64 b] W fun e W' =>
    e = .returned (.int .i64 (eraseC c b).1) ∧ Holds w W' L (eraseC c b).2 :=
  (erase_any h.at_ b).mono fun _ _ ⟨he, hc, hs⟩ => ⟨he, h.step hc (good_eraseC h.good b) (like_eraseC c b) hs⟩
theorem read_h (h : Holds w W L c) (b p : Int) : Calls Try.prog 17 #[.pointer (some ⟨L.a, 0, none⟩), .int .i64 b, .int .i64 p] W fun e W' =>
    e = .returned (.tuple #[.string (readC c b p).1, .int .i64 (readC c b p).2.1]) ∧ Holds w W' L (readC c b p).2.2 :=
  (read_any h.at_ b p h.good).mono fun _ _ ⟨he, hc, hs⟩ => ⟨he, h.step hc (good_readC h.good b p) (like_readC c b p) hs⟩
theorem cut_h (h : Holds w W L c) (n m : Int) (n0 : n ≤ 9223372036854775807) (m0 : -9223372036854775808 ≤ m) (m1 : m ≤ 9223372036854775807) : Calls Try.prog 14 #[.pointer (some ⟨L.a, 0, none⟩), .int .i64 n, .int .i64 m] W fun e W' =>
    e = .returned (.tuple #[]) ∧ Holds w W' L { c with left := max n 1, mode := m } :=
  (cut_any h.at_ n m n0 m0 m1).mono fun _ _ ⟨he, hc, hs⟩ => ⟨he, h.own hc h.good ⟨rfl, rfl, rfl⟩ hs⟩
theorem on_h (h : Holds w W L c) : Calls Try.prog 16 #[.pointer (some ⟨L.a, 0, none⟩)] W fun e W' =>
    e = .returned (.tuple #[]) ∧ Holds w W' L { c with off := false, left := 0, mode := 0 } :=
  (on_any h.at_).mono fun _ _ ⟨he, hc, hs⟩ => ⟨he, h.own hc h.good ⟨rfl, rfl, rfl⟩ hs⟩
theorem noise_h (h : Holds w W L c) (s m p : Int) : Calls Try.prog 18 #[.pointer (some ⟨L.a, 0, none⟩), .int .i64 s, .int .i64 m, .int .i64 p] W fun e W' =>
    e = .returned (.tuple #[]) ∧ Holds w W' L { c with seed := s, most := m, piece := p } :=
  (noise_any h.at_ s m p).mono fun _ _ ⟨he, hc, hs⟩ => ⟨he, h.own hc h.good ⟨rfl, rfl, rfl⟩ hs⟩
theorem spoil_h (h : Holds w W L c) (b p : Int) : Calls Try.prog 22 #[.pointer (some ⟨L.a, 0, none⟩), .int .i64 b, .int .i64 p] W fun e W' =>
    e = .returned (.int .i64 (spoilC c b p).1) ∧ Holds w W' L (spoilC c b p).2 :=
  (spoil_any h.at_ b p).mono fun _ _ ⟨he, hc, hs⟩ => ⟨he, h.step hc (good_spoilC h.good b p) (like_spoilC c b p) hs⟩
theorem wear_h (h : Holds w W L c) (b : Int) : Calls Try.prog 23 #[.pointer (some ⟨L.a, 0, none⟩), .int .i64 b] W fun e W' =>
    e = .returned (.int .i64 (wearC c b).1) ∧ Holds w W' L (wearC c b).2 :=
  (wear_any h.at_ b).mono fun _ _ ⟨he, hc, hs⟩ => ⟨he, h.step hc (good_wearC h.good b) (like_wearC c b) hs⟩
theorem off_h (h : Holds w W L c) : Calls Try.prog 15 #[.pointer (some ⟨L.a, 0, none⟩)] W fun e W' => e = .returned (.bool c.off) ∧ W = W' := off_any h.at_
end

end Go.Proofs.Ythoadcibknaelaa
