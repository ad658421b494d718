/- Both chips at once: the chip of package nand and the document's, each over plain data of its own, in one world. -/
import Derived.Test.YthoadcibknaelaaRNew
import Derived.Test.YthoadcibknaelaaSpeaks
namespace Go.Proofs.Ythoadcibknaelaa
open Go.RowKit
set_option linter.unusedVariables false
set_option linter.unusedSimpArgs false

/-! ### Read of the document's chip, every call -/
set_option maxHeartbeats 800000 in
set_option maxRecDepth 100000 in
theorem rread_any {R : RLay} {c : Chp} {w : World} (h : RefAt w R c) (hg : Good c) (b p : Int) : Calls Try.prog 27 #[.pointer (some ⟨R.a, 0, none⟩), .int .i64 b, .int .i64 p] w fun e w' =>
    e = .returned (.tuple #[.string (readC c b p).1, .int .i64 (readC c b p).2.1]) ∧ RefAt w' R (readC c b p).2.2 ∧ Stays (RFoot R) w w' := by
  by_cases hb : hasPB c b p = true
  · obtain ⟨n, m, rfl, rfl, hn, hm⟩ := hasPB_nat hb
    cases ho : c.off with
    | false =>
      have hv : readC c (n : Int) (m : Int) = (readS c n m, 0, { c with rd := upd c.rd n (wrap64 (c.rd n + 1)) }) := by
        unfold readC; rw [if_pos hb, ho]; rfl
      rw [hv]
      exact rread_go h n m hn hm ho (hg n m hn hm)
    | true =>
      have hv : readC c (n : Int) (m : Int) = (⟨#[]⟩, 20, c) := by
        unfold readC; rw [if_pos hb, ho]; rfl
      have HV := Lib.hid hv
      have k12 : w.cell? ⟨R.a, 12, none⟩ = some (.bool c.off) := h.ca 12 (by decide)
      rw [ho] at k12
      clear hv hg ho
      go_enter Try.func27, Try.ntmps27
      go_wp2_with fail
      refine (rpage_any h _ _).mono ?_; rintro e w' ⟨rfl, rfl⟩
      go_wp2_with fail
      go_ret2
      rw [HV.out]
      exact ⟨rfl, h, Stays.refl _ _⟩
  · have hb' : hasPB c b p = false := by simpa using hb
    have hv : readC c b p = (⟨#[]⟩, 1, c) := if_neg hb
    have HV := Lib.hid hv
    clear hv hb hg
    go_enter Try.func27, Try.ntmps27
    go_wp2_with fail
    refine (rpage_any h _ _).mono ?_; rintro e w' ⟨rfl, rfl⟩
    go_wp2_with fail
    go_ret2
    rw [HV.out]
    exact ⟨rfl, h, Stays.refl _ _⟩

/-! ### Both -/
structure Two (w W : World) (L : Lay) (R : RLay) (c d : Chp) : Prop where
  h : Holds w W L c
  r : RefAt W R d
  g : Good d
  ap : ∀ k, Foot L c.nb k → ¬ RFoot R k
  rn : ∀ k, RFoot R k → w.heap.size ≤ k
section
variable {w W W' : World} {L : Lay} {R : RLay} {c d c' d' : Chp}
theorem Two.left (t : Two w W L R c d) (hat : ChipAt W' L c') (hg : Good c') (hl : Like c c') (hs : Stays (Foot L c.nb) W W') : Two w W' L R c' d :=
  ⟨t.h.step hat hg hl hs, t.r.stays hs (fun k hk hf => t.ap k hf hk), t.g, fun k hk => t.ap k (by rw [hl.1] at hk; exact hk), t.rn⟩
theorem Two.right {R' : RLay} (t : Two w W L R c d) (hat : RefAt W' R' d') (hg : Good d') (hR : ∀ k, RFoot R' k ↔ RFoot R k) (hs : Stays (RFoot R) W W') : Two w W' L R' c d' :=
  ⟨⟨t.h.at_.stays hs (fun k hk hf => t.ap k hk hf), t.h.good, Below.stays t.h.below hs t.rn t.h.below.size, t.h.new⟩, hat, hg, fun k hk hf => t.ap k hk ((hR k).1 hf), fun k hk => t.rn k ((hR k).1 hk)⟩
theorem Two.drewN (t : Two w W L R c d) (n : Nat) : Two w (W.drewN n) L R c d := t.left (t.h.at_.drewN n) t.h.good (Like.refl c) (Stays.drewN (Stays.refl _ _) n)
theorem Two.alloc (t : Two w W L R c d) (o : Obj) : Two w (W.alloc o) L R c d := t.left (t.h.at_.alloc o) t.h.good (Like.refl c) (Stays.alloc (Stays.refl _ _) o)
theorem Two.fresh (t : Two w W L R c d) (hs : Stays (fun _ => False) W W') : Two w W' L R c d := t.left (t.h.at_.stays hs (fun _ _ => id)) t.h.good (Like.refl c) (hs.mono (fun _ => False.elim))
theorem Two.lt (t : Two w W L R c d) (k : Nat) (hk : Foot L c.nb k) : k < W.heap.size := by
  rcases hk with h | h | ⟨i, hi, h⟩
  · rw [h]; exact World.block_lt_of_cell? _ _ t.h.at_.c0
  · rw [h]; exact World.block_lt_of_cell? _ _ (t.h.at_.b0 0 t.h.at_.nb0)
  · rw [h]; exact World.block_lt_of_cell? _ _ (t.h.at_.p0 i hi 0 t.h.at_.np0)
/-- What is written in a block that is new since the world W is beside both. -/
theorem Two.beside (t : Two w W L R c d) {g : Nat} (hg : W.heap.size ≤ g) (hs : Stays (· = g) W W') : Two w W' L R c d :=
  ⟨⟨t.h.at_.stays hs (fun k hk e => by have := t.lt k hk; omega), t.h.good, Below.stays t.h.below hs (fun k hk => by rw [hk]; exact Nat.le_trans t.h.below.size hg) t.h.below.size, t.h.new⟩,
    t.r.stays hs (fun k hk e => by have := t.r.lt k hk; omega), t.g, t.ap, t.rn⟩

/-- Both chips, in a world in which nothing but what they take has changed since W0; all that they take lies below B. -/
structure Trio (w W0 W : World) (B : Nat) (L : Lay) (R : RLay) (c d : Chp) : Prop where
  t : Two w W L R c d
  s : Stays (fun k => Foot L c.nb k ∨ RFoot R k) W0 W
  b : ∀ k, Foot L c.nb k ∨ RFoot R k → k < B
variable {W0 : World} {B : Nat}
theorem Trio.start (t : Two w W L R c d) : Trio w W W W.heap.size L R c d :=
  ⟨t, Stays.refl _ _, fun k hk => hk.elim (t.lt k) (t.r.lt k)⟩
theorem Trio.cell (t : Trio w W0 W B L R c d) {p : Addr} {v : Value} (h : W0.cell? p = some v) (hp : B ≤ p.block) : W.cell? p = some v :=
  t.s.cell h (fun hk => by have := t.b _ hk; omega)
theorem Trio.bytes (t : Trio w W0 W B L R c d) {g : Nat} {l : List UInt8} (h : BytesAt W0 g l) (hg : g < W0.heap.size) (hp : B ≤ g) : BytesAt W g l :=
  h.stays hg t.s (fun hk => by have := t.b _ hk; omega)
theorem Trio.drewN (t : Trio w W0 W B L R c d) (n : Nat) : Trio w W0 (W.drewN n) B L R c d := ⟨t.t.drewN n, t.s.drewN n, t.b⟩
theorem Trio.drew (t : Trio w W0 W B L R c d) : Trio w W0 W.drew B L R c d := t.drewN 1
/-- The start is moved: something was made, or written in what is new. -/
theorem Trio.again (t : Trio w W0 W B L R c d) (h : Two w W' L R c d) : Trio w W' W' B L R c d := ⟨h, Stays.refl _ _, t.b⟩
theorem Trio.left (t : Trio w W0 W B L R c d) (hat : ChipAt W' L c') (hg : Good c') (hl : Like c c') (hs : Stays (Foot L c.nb) W W') : Trio w W0 W' B L R c' d :=
  ⟨t.t.left hat hg hl hs, by rw [hl.1]; exact t.s.trans (hs.mono (fun _ h => .inl h)), by rw [hl.1]; exact t.b⟩
theorem Trio.right {R' : RLay} (t : Trio w W0 W B L R c d) (hat : RefAt W' R' d') (hg : Good d') (hR : ∀ k, RFoot R' k ↔ RFoot R k) (hs : Stays (RFoot R) W W') : Trio w W0 W' B L R' c d' :=
  ⟨t.t.right hat hg hR hs, (t.s.trans (hs.mono (fun _ h => .inr h))).mono (fun k hk => hk.imp id (hR k).2), fun k hk => t.b k (hk.imp id (hR k).1)⟩
theorem Trio.own (t : Trio w W0 W B L R c d) (hat : ChipAt W' L c') (hg : Good c') (hl : Like c c') (hs : Stays (· = L.a) W W') : Trio w W0 W' B L R c' d :=
  t.left hat hg hl (hs.mono (fun _ hk => hk ▸ foot_a L c.nb))

theorem two_program (t : Trio w W0 W B L R c d) (b p : Int) (data : ByteArray) : Calls Try.prog 13 #[.pointer (some ⟨L.a, 0, none⟩), .int .i64 b, .int .i64 p, .string data] W fun e W' =>
    e = .returned (.int .i64 (programC c b p data).1) ∧ Trio w W0 W' B L R (programC c b p data).2 d :=
  (program_any t.t.h.at_ b p data).mono fun _ _ ⟨he, hc, hs⟩ => ⟨he, t.left hc (good_programC t.t.h.good b p data) (like_programC c b p data) hs⟩
theorem two_rprogram (t : Trio w W0 W B L R c d) (b p : Int) (data : ByteArray) : Calls Try.prog 26 #[.pointer (some ⟨R.a, 0, none⟩), .int .i64 b, .int .i64 p, .string data] W fun e W' =>
    e = .returned (.int .i64 (programC d b p data).1) ∧ Trio w W0 W' B L R c (programC d b p data).2 :=
  (rprogram_any t.t.r b p data).mono fun _ _ ⟨he, hc, hs⟩ => ⟨he, t.right hc (good_programC t.t.g b p data) (fun _ => Iff.rfl) hs⟩
theorem two_erase (t : Trio w W0 W B L R c d) (b : Int) : Calls Try.prog 19 #[.pointer (some ⟨L.a, 0, none⟩), .int .i64 b] W fun e W' =>
    e = .returned (.int .i64 (eraseC c b).1) ∧ Trio w W0 W' B L R (eraseC c b).2 d :=
  (erase_any t.t.h.at_ b).mono fun _ _ ⟨he, hc, hs⟩ => ⟨he, t.left hc (good_eraseC t.t.h.good b) (like_eraseC c b) hs⟩
theorem two_rerase (t : Trio w W0 W B L R c d) (b : Int) : Calls Try.prog 25 #[.pointer (some ⟨R.a, 0, none⟩), .int .i64 b] W fun e W' =>
    e = .returned (.int .i64 (eraseC d b).1) ∧ Trio w W0 W' B L R c (eraseC d b).2 :=
  (rerase_any t.t.r b).mono fun _ _ ⟨he, hc, hs⟩ => ⟨he, t.right hc (good_eraseC t.t.g b) (fun _ => Iff.rfl) hs⟩
theorem two_spoil (t : Trio w W0 W B L R c d) (b p : Int) : Calls Try.prog 22 #[.pointer (some ⟨L.a, 0, none⟩), .int .i64 b, .int .i64 p] W fun e W' =>
    e = .returned (.int .i64 (spoilC c b p).1) ∧ Trio w W0 W' B L R (spoilC c b p).2 d :=
  (spoil_any t.t.h.at_ b p).mono fun _ _ ⟨he, hc, hs⟩ => ⟨he, t.left hc (good_spoilC t.t.h.good b p) (like_spoilC c b p) hs⟩
theorem two_rspoil (t : Trio w W0 W B L R c d) (b p : Int) : Calls Try.prog 28 #[.pointer (some ⟨R.a, 0, none⟩), .int .i64 b, .int .i64 p] W fun e W' =>
    e = .returned (.int .i64 (spoilC d b p).1) ∧ Trio w W0 W' B L R c (spoilC d b p).2 :=
  (rspoil_any t.t.r b p).mono fun _ _ ⟨he, hc, hs⟩ => ⟨he, t.right hc (good_spoilC t.t.g b p) (fun _ => Iff.rfl) hs⟩
theorem two_wear (t : Trio w W0 W B L R c d) (b : Int) : Calls Try.prog 23 #[.pointer (some ⟨L.a, 0, none⟩), .int .i64 b] W fun e W' =>
    e = .returned (.int .i64 (wearC c b).1) ∧ Trio w W0 W' B L R (wearC c b).2 d :=
  (wear_any t.t.h.at_ b).mono fun _ _ ⟨he, hc, hs⟩ => ⟨he, t.left hc (good_wearC t.t.h.good b) (like_wearC c b) hs⟩
theorem two_rwear (t : Trio w W0 W B L R c d) (b : Int) : Calls Try.prog 29 #[.pointer (some ⟨R.a, 0, none⟩), .int .i64 b] W fun e W' =>
    e = .returned (.int .i64 (wearC d b).1) ∧ Trio w W0 W' B L R c (wearC d b).2 :=
  (rwear_any t.t.r b).mono fun _ _ ⟨he, hc, hs⟩ => ⟨he, t.right hc (good_wearC t.t.g b) (fun _ => Iff.rfl) hs⟩
theorem two_read (t : Trio w W0 W B L R c d) (b p : Int) : Calls Try.prog 17 #[.pointer (some ⟨L.a, 0, none⟩), .int .i64 b, .int .i64 p] W fun e W' =>
    e = .returned (.tuple #[.string (readC c b p).1, .int .i64 (readC c b p).2.1]) ∧ Trio w W0 W' B L R (readC c b p).2.2 d :=
  (read_any t.t.h.at_ b p t.t.h.good).mono fun _ _ ⟨he, hc, hs⟩ => ⟨he, t.left hc (good_readC t.t.h.good b p) (like_readC c b p) hs⟩
theorem two_rread (t : Trio w W0 W B L R c d) (b p : Int) : Calls Try.prog 27 #[.pointer (some ⟨R.a, 0, none⟩), .int .i64 b, .int .i64 p] W fun e W' =>
    e = .returned (.tuple #[.string (readC d b p).1, .int .i64 (readC d b p).2.1]) ∧ Trio w W0 W' B L R c (readC d b p).2.2 :=
  (rread_any t.t.r t.t.g b p).mono fun _ _ ⟨he, hc, hs⟩ => ⟨he, t.right hc (good_readC t.t.g b p) (fun _ => Iff.rfl) hs⟩
theorem two_cut (t : Trio w W0 W B L R c d) (n m : Int) (n0 : n ≤ 9223372036854775807) (m0 : -9223372036854775808 ≤ m) (m1 : m ≤ 9223372036854775807) : Calls Try.prog 14 #[.pointer (some ⟨L.a, 0, none⟩), .int .i64 n, .int .i64 m] W fun e W' =>
    e = .returned (.tuple #[]) ∧ Trio w W0 W' B L R { c with left := max n 1, mode := m } d :=
  (cut_any t.t.h.at_ n m n0 m0 m1).mono fun _ _ ⟨he, hc, hs⟩ => ⟨he, t.own hc t.t.h.good ⟨rfl, rfl, rfl⟩ hs⟩
theorem two_on (t : Trio w W0 W B L R c d) : Calls Try.prog 16 #[.pointer (some ⟨L.a, 0, none⟩)] W fun e W' =>
    e = .returned (.tuple #[]) ∧ Trio w W0 W' B L R { c with off := false, left := 0, mode := 0 } d :=
  (on_any t.t.h.at_).mono fun _ _ ⟨he, hc, hs⟩ => ⟨he, t.own hc t.t.h.good ⟨rfl, rfl, rfl⟩ hs⟩
theorem two_noise (t : Trio w W0 W B L R c d) (s m p : Int) : Calls Try.prog 18 #[.pointer (some ⟨L.a, 0, none⟩), .int .i64 s, .int .i64 m, .int .i64 p] W fun e W' =>
    e = .returned (.tuple #[]) ∧ Trio w W0 W' B L R { c with seed := s, most := m, piece := p } d :=
  (noise_any t.t.h.at_ s m p).mono fun _ _ ⟨he, hc, hs⟩ => ⟨he, t.own hc t.t.h.good ⟨rfl, rfl, rfl⟩ hs⟩
/-! ### The law's own stores into the document's chip -/
theorem Trio.rcut (t : Trio w W0 W B L R c d) (n m : Int) (n0 : 0 ≤ n) (n1 : n ≤ 9223372036854775807) (m0 : -9223372036854775808 ≤ m) (m1 : m ≤ 9223372036854775807) :
    Trio w W0 ((W.setCell ⟨R.a, 10, none⟩ (.int .i64 n)).setCell ⟨R.a, 11, none⟩ (.int .i64 m)) B L { R with md := m } c { d with left := n, mode := m } :=
  t.right (t.t.r.sCut n m n0 n1 m0 m1) t.t.g (fun _ => Iff.rfl) (((Stays.refl _ _).setCell (p := ⟨R.a, 10, none⟩) (rfoot_a R) _).setCell (p := ⟨R.a, 11, none⟩) (rfoot_a R) _)
theorem Trio.ron (t : Trio w W0 W B L R c d) (m : Int) : Trio w W0 ((W.setCell ⟨R.a, 12, none⟩ (.bool false)).setCell ⟨R.a, 10, none⟩ (.int .i64 0)) B L R c { d with off := false, left := 0, mode := m } :=
  t.right (t.t.r.sOn m) t.t.g (fun _ => Iff.rfl) (((Stays.refl _ _).setCell (p := ⟨R.a, 12, none⟩) (rfoot_a R) _).setCell (p := ⟨R.a, 10, none⟩) (rfoot_a R) _)
theorem Trio.rnoise (t : Trio w W0 W B L R c d) (s m p : Int) : Trio w W0 (((W.setCell ⟨R.a, 7, none⟩ (.int .i64 s)).setCell ⟨R.a, 8, none⟩ (.int .i64 m)).setCell ⟨R.a, 9, none⟩ (.int .i64 p)) B L R c { d with seed := s, most := m, piece := p } :=
  t.right (((t.t.r.sSeed s).sMost m).sPiece p) t.t.g (fun _ => Iff.rfl) ((((Stays.refl _ _).setCell (p := ⟨R.a, 7, none⟩) (rfoot_a R) _).setCell (p := ⟨R.a, 8, none⟩) (rfoot_a R) _).setCell (p := ⟨R.a, 9, none⟩) (rfoot_a R) _)
end

theorem two_new (x y z : Int) {w W W' : World} {L : Lay} {R : RLay} (h : Holds w W L (freshC x.toNat y.toNat z)) (hr : RefAt W' R (freshC x.toNat y.toNat z)) (hb : Below W.heap.size W W') (hn : ∀ k, RFoot R k → W.heap.size ≤ k) : Two w W' L R (freshC x.toNat y.toNat z) (freshC x.toNat y.toNat z) := by
  have hs : Stays (fun _ => False) W W' := Stays.of_below hb
  have hlt : ∀ k, Foot L x.toNat k → k < W.heap.size := by
    rintro k (h1 | h1 | ⟨i, hi, h1⟩)
    · rw [h1]; exact World.block_lt_of_cell? _ _ h.at_.c0
    · rw [h1]; exact World.block_lt_of_cell? _ _ (h.at_.b0 0 h.at_.nb0)
    · rw [h1]; exact World.block_lt_of_cell? _ _ (h.at_.p0 i hi 0 h.at_.np0)
  exact ⟨h.step (h.at_.stays hs (fun _ _ => id)) h.good (Like.refl _) (hs.mono (fun _ => False.elim)), hr, good_fresh _ _ _, fun k hk hf => by
    have h1 := hlt k hk
    have h2 := hn k hf
    omega, fun k hk => Nat.le_trans h.below.size (hn k hk)⟩

theorem rnew_bad (nb np bytes : Int) (w : World) (h : ¬ newOk nb np bytes) :
    Calls Try.prog 24 #[.int .i64 nb, .int .i64 np, .int .i64 bytes] w fun e w' => e = .returned (.pointer none) ∧ w = w' := by
  unfold newOk at h
  by_cases c1 : nb < 1
  · go_enter Try.func24, Try.ntmps24
    go_wp2_with fail
    go_ret
    exact ⟨rfl, rfl⟩
  by_cases c2 : 64 < nb
  · go_enter Try.func24, Try.ntmps24
    go_wp2_with fail
    go_ret
    exact ⟨rfl, rfl⟩
  by_cases c3 : np < 4
  · go_enter Try.func24, Try.ntmps24
    go_wp2_with fail
    go_ret
    exact ⟨rfl, rfl⟩
  by_cases c4 : 64 < np
  · go_enter Try.func24, Try.ntmps24
    go_wp2_with fail
    go_ret
    exact ⟨rfl, rfl⟩
  by_cases c5 : np % 4 = 0
  · have c5b : (np % 4 != 0) = false := by simpa using c5
    have C5 := Lib.hid c5
    clear c5
    by_cases c6 : bytes < 1
    · go_enter Try.func24, Try.ntmps24
      go_wp2_with fail
      go_ret
      exact ⟨rfl, rfl⟩
    by_cases c7 : 2048 < bytes
    · go_enter Try.func24, Try.ntmps24
      go_wp2_with fail
      go_ret
      exact ⟨rfl, rfl⟩
    exact absurd ⟨by omega, by omega, by omega, by omega, C5.out, by omega, by omega⟩ h
  · have c5b : (np % 4 != 0) = true := by simpa using c5
    clear h c5
    go_enter Try.func24, Try.ntmps24
    go_wp2_with fail
    go_ret
    exact ⟨rfl, rfl⟩

end Go.Proofs.Ythoadcibknaelaa
