/- Syndromes; Decode of a code word. -/
import Derived.Test.YtgfjeaegigjnaaaGreatDoorPgM
import Derived.Lib.ConvBytes
import Derived.Test.YtgfjeaegigjnaaaGreatDoorPgJ
namespace Go.Proofs.YtgfjeaegigjnaaaGreatDoor
open Go.RowKit
set_option linter.unusedVariables false
set_option linter.unusedSimpArgs false

/-- A row of n cells of block g; behind them nothing is said. -/
structure SRow (w : World) (g n : Nat) (E : Nat → Value) : Prop where
  cell : ∀ j, j < n → w.cell? ⟨g, j, none⟩ = some (E j)
  free : ∀ j, j < n → w.frozen? ⟨g, j, none⟩ = false
theorem SRow.set {w : World} {g n : Nat} {E : Nat → Value} (h : SRow w g n E) (i : Nat) (v : Value) : SRow (w.setCell ⟨g, i, none⟩ v) g n (upd E i v) := by
  refine ⟨fun j hj => ?_, fun j hj => (World.frozen?_setCell _ _ _ _).trans (h.free j hj)⟩
  by_cases e : j = i
  · subst e; rw [upd_same]; exact World.cell?_setCell_same _ _ _ (h.cell j hj)
  · rw [upd_other _ _ e]; exact (World.cell?_setCell_other _ _ _ _ (addr_ne_off (Ne.symm e))).trans (h.cell j hj)
theorem SRow.stays {w w' : World} {g n : Nat} {S : Nat → Prop} {E : Nat → Value} (h : SRow w g n E) (k : Stays S w w') (hg : g < w.heap.size) (hb : ¬ S g) : SRow w' g n E :=
  ⟨fun j hj => k.cell (h.cell j hj) hb, fun j hj => (k.frozen (p := ⟨g, j, none⟩) hb hg).trans (h.free j hj)⟩
theorem SRow.drew {w : World} {g n : Nat} {E : Nat → Value} (h : SRow w g n E) : SRow w.drew g n E :=
  ⟨fun j hj => (World.cell?_drew _ _).trans (h.cell j hj), fun j hj => (World.frozen?_drew _ _).trans (h.free j hj)⟩
theorem SRow.congr {w : World} {g n : Nat} {E E' : Nat → Value} (h : SRow w g n E) (hE : ∀ j, j < n → E j = E' j) : SRow w g n E' := ⟨fun j hj => by rw [h.cell j hj, hE j hj], h.free⟩
/-- Bytes that are the number V. -/
def SV (w : World) (g n V : Nat) : Prop := SRow w g n (fun j => .int .u8 ((byteAt n V j : Nat) : Int))
theorem SV.string {w : World} {g n V cap : Nat} (h : SV w g n V) : (convert 47 9 (.slice (some ⟨g, 0, none⟩) n cap)).run Tryz.prog w = .ok (.string (strOf n V)) w := by
  have := run_convert_bytes_back (P := Tryz.prog) w 47 9 5 ⟨g, 0, none⟩ cap (bytesOf n V) (by kernel_rfl) (by kernel_rfl) (by kernel_rfl) (by
    intro j hj
    rw [bytesOf_length] at hj
    have h1 := bytesOf_get (V := V) hj
    rw [List.getElem?_eq_getElem (by rw [bytesOf_length]; exact hj)] at h1
    rw [Option.some.inj h1, addr_add, Nat.zero_add, h.cell j hj, UInt8.toNat_ofNat_of_lt' (byteAt_lt n V j)])
  rw [bytesOf_length] at this
  exact this
theorem SV.flip {w : World} {g n V i : Nat} (h : SV w g n V) (hi : i < 8 * n) : SV (w.setCell ⟨g, i / 8, none⟩ (.int .u8 ((byteAt n V (i / 8) ^^^ 2 ^ (7 - i % 8) : Nat) : Int))) g n (V ^^^ 2 ^ (8 * n - 1 - i)) := by
  refine (SRow.set h _ _).congr fun j hj => ?_
  rw [byte_set hi j hj]
  by_cases e : j = i / 8
  · subst e; rw [upd_same, if_pos rfl]
  · rw [upd_other _ _ e, if_neg e]
/-- The bytes of a text are its number's. -/
theorem byteAt_num (L : List UInt8) (j : Nat) (b : UInt8) (h : L[j]? = some b) : byteAt L.length (numB L) j = b.toNat := by
  have hj : j < L.length := by
    rcases Nat.lt_or_ge j L.length with h1 | h1
    · exact h1
    · rw [List.getElem?_eq_none h1] at h; cases h
  apply Nat.eq_of_testBit_eq
  intro t
  rw [byteAt_bit]
  by_cases ht : t < 8
  · have := numB_bit L j (7 - t) b h (by omega)
    rw [show 8 * L.length - 1 - (8 * j + (7 - t)) = 8 * (L.length - 1 - j) + t by omega, show 7 - (7 - t) = t by omega] at this
    simp [ht, this]
  · have : b.toNat.testBit t = false := Nat.testBit_lt_two_pow (Nat.lt_of_lt_of_le (UInt8.toNat_lt b) (Nat.pow_le_pow_right (by decide) (show 8 ≤ t by omega)))
    simp [ht, this]
theorem bytes_num (L : List UInt8) : bytesOf L.length (numB L) = L := by
  apply List.ext_getElem?
  intro j
  rcases Nat.lt_or_ge j L.length with h | h
  · rw [bytesOf_get h, byteAt_num L j L[j] (List.getElem?_eq_getElem h), List.getElem?_eq_getElem h]
    congr 1
    exact UInt8.ofNat_toNat
  · rw [List.getElem?_eq_none (by rw [bytesOf_length]; exact h), List.getElem?_eq_none h]
theorem str_num (s : ByteArray) : strOf s.size (numB s.data.toList) = s := by
  have hsl : s.data.toList.length = s.size := by simp
  have := bytes_num s.data.toList
  rw [hsl] at this
  unfold strOf
  rw [this]
theorem num_bytes {n V : Nat} (h : V < 2 ^ (8 * n)) : numB (bytesOf n V) = V := by
  apply Nat.eq_of_testBit_eq
  intro t
  rcases Nat.lt_or_ge t (8 * n) with ht | ht
  · obtain ⟨j, r, hj, hr, e⟩ : ∃ j r, j < n ∧ r < 8 ∧ t = 8 * n - 1 - (8 * j + r) := ⟨(8 * n - 1 - t) / 8, (8 * n - 1 - t) % 8, by omega, by omega, by omega⟩
    have h1 := numB_bit (bytesOf n V) j r _ (bytesOf_get hj) hr
    rw [bytesOf_length, ← e, UInt8.toNat_ofNat_of_lt' (byteAt_lt n V j), byteAt_bit] at h1
    rw [h1]
    have e2 : 8 * (n - 1 - j) + (7 - r) = t := by omega
    have e3 : 7 - r < 8 := by omega
    rw [e2]; simp [e3]
  · rw [bit_none h ht]
    have := numB_lt (bytesOf n V)
    rw [bytesOf_length] at this
    exact bit_none this ht
theorem conv_strN (s : ByteArray) (W : World) : (convert 9 47 (.string s)).run Tryz.prog W = .ok (.slice (some ⟨W.heap.size, 0, none⟩) s.size (grownCap W s.size 0 5)) (Lib.bytesWorld W 5 s) :=
  Lib.run_convert_string_bytes W 9 47 5 s (u := .string) (by kernel_rfl) (by kernel_rfl) (by kernel_rfl)
theorem below_bytes (w : World) (s : ByteArray) : Below w.heap.size w (Lib.bytesWorld w 5 s) :=
  ⟨rfl, rfl, rfl, by rw [Lib.bytesWorld_size]; omega, fun k hk => Lib.bytesWorld_at_old w 5 s k hk⟩
theorem bytes_row (w : World) (s : ByteArray) : SV (Lib.bytesWorld w 5 s) w.heap.size s.size (numB s.data.toList) := by
  have hsl : s.data.toList.length = s.size := by simp
  refine ⟨fun j hj => ?_, fun j hj => ?_⟩
  · rw [Lib.bytesWorld_cell w 5 s j hj]
    have hb : s.data.toList[j]? = some (s.data.toList.getD j 0) := by
      rw [List.getD_eq_getElem?_getD, List.getElem?_eq_getElem (by rw [hsl]; exact hj)]; rfl
    have := byteAt_num s.data.toList j _ hb
    rw [hsl] at this
    rw [this]
  · have h := Lib.bytesWorld_at_new w 5 s
    have hlen : s.size ≤ (Lib.bytesCells w 5 s).size := by
      unfold Lib.bytesCells
      simp
    simp only [World.frozen?, h]
    have : ¬ ((Lib.bytesCells w 5 s).size ≤ j) := by omega
    simp [this]
/-- Without the spare bits. -/
def noSpare (s V : Nat) : Nat := (V >>> s) <<< s
theorem noSpare_bit (s V t : Nat) : (noSpare s V).testBit t = (decide (s ≤ t) && V.testBit t) := by
  unfold noSpare
  rw [Nat.testBit_shiftLeft, Nat.testBit_shiftRight]
  by_cases h : s ≤ t
  · have : s + (t - s) = t := by omega
    simp [h, this]
  · simp [h]
end Go.Proofs.YtgfjeaegigjnaaaGreatDoor

namespace Go.Proofs.YtgfjeaegigjnaaaGreatDoor
open Go.RowKit
set_option linter.unusedVariables false
set_option linter.unusedSimpArgs false

theorem spare_and (b s : Nat) (hb : b < 256) (hs : s < 8) : b &&& (((255 <<< s) % 256)) = (b >>> s) <<< s := by
  apply Nat.eq_of_testBit_eq
  intro t
  rw [Nat.testBit_and, show (256 : Nat) = 2 ^ 8 from rfl, Nat.testBit_mod_two_pow, Nat.testBit_shiftLeft, Nat.testBit_shiftLeft, Nat.testBit_shiftRight]
  have h255 : ∀ k, (255 : Nat).testBit k = decide (k < 8) := by
    intro k
    have := Nat.testBit_two_pow_sub_one 8 k
    exact this
  rw [h255]
  by_cases h : t ≥ s
  · by_cases h8 : t < 8
    · have e1 : s + (t - s) = t := by omega
      have e2 : t - s < 8 := by omega
      simp [h, h8, e1, e2]
    · have e1 : s + (t - s) = t := by omega
      have : b.testBit t = false := bit_none (show b < 2 ^ 8 from hb) (by omega)
      simp [h8, e1, this]
  · simp [h]
theorem byte_spare {n s V : Nat} (hs : s < 8) (hn : 0 < n) (j : Nat) (hj : j < n) : byteAt n (noSpare s V) j = if j = n - 1 then (byteAt n V j >>> s) <<< s else byteAt n V j := by
  apply Nat.eq_of_testBit_eq
  intro t
  rw [byteAt_bit, noSpare_bit]
  split
  · next h =>
    rw [Nat.testBit_shiftLeft, Nat.testBit_shiftRight, byteAt_bit]
    have e1 : 8 * (n - 1 - j) + t = t := by omega
    rw [e1]
    by_cases h2 : s ≤ t
    · have e2 : s + (t - s) = t := by omega
      rw [e2, e1]
      by_cases h3 : t < 8
      · simp [h2, h3]
      · simp [h2, h3]
    · simp [h2]
  · next h =>
    rw [byteAt_bit]
    have e1 : s ≤ 8 * (n - 1 - j) + t := by omega
    simp [e1]
def CleanQ (t : Nat) (s : ByteArray) (w : World) (e : Ending) (w' : World) : Prop := ∃ cap, e = .returned (.slice (some ⟨w.heap.size, 0, none⟩) (parN t) cap) ∧ SV w' w.heap.size (parN t) (noSpare (spare t) (numB s.data.toList)) ∧ Below w.heap.size w w'
set_option maxRecDepth 100000 in
set_option maxHeartbeats 3200000 in
theorem clean_any (c t : Nat) (s : ByteArray) (w : World) (ht1 : 1 ≤ t) (ht8 : t ≤ 8) (h11 : w.cell? ⟨c, 11, none⟩ = some (.int .i64 ((13 * t : Nat) : Int))) (hs : s.size = parN t) :
    Calls Tryz.prog 64 #[.pointer (some ⟨c, 0, none⟩), .string s] w (CleanQ t s w) := by
  have hps := par_spare t
  have hpp := par_pos ht1
  have hpl := par_le ht8
  have hcv := conv_strN s w
  have hrow := bytes_row w s
  have hbw := below_bytes w s
  have lc := World.block_lt_of_cell? _ _ h11
  have lc : c < w.heap.size := lc
  rw [hs] at hcv hrow
  have hsz := Lib.bytesWorld_size w 5 s
  generalize Lib.bytesWorld w 5 s = w1 at *
  generalize grownCap w s.size 0 5 = cap at *
  generalize grownCap w (parN t) 0 5 = cap2 at *
  have h11' : w1.cell? ⟨c, 11, none⟩ = some (.int .i64 ((13 * t : Nat) : Int)) := (hbw.cell (p := ⟨c, 11, none⟩) lc).trans h11
  obtain ⟨d, hd⟩ : ∃ d, d = 13 * t := ⟨_, rfl⟩
  obtain ⟨nb, hnb⟩ : ∃ nb, nb = parN t := ⟨_, rfl⟩
  obtain ⟨sp, hsp⟩ : ∃ sp, sp = spare t := ⟨_, rfl⟩
  obtain ⟨V, hV⟩ : ∃ V, V = numB s.data.toList := ⟨_, rfl⟩
  obtain ⟨g, hg⟩ : ∃ g, g = w.heap.size := ⟨_, rfl⟩
  rw [← hd] at h11' hps
  rw [← hnb] at hcv hrow hps hpp hpl
  rw [← hsp] at hps
  rw [← hV] at hrow
  rw [← hg] at hcv hrow
  have hsz' : g < w1.heap.size := by omega
  have hQ : ∀ e w', (∃ cap, e = .returned (.slice (some ⟨g, 0, none⟩) nb cap) ∧ SV w' g nb (noSpare sp V) ∧ Below g w w') → CleanQ t s w e w' := by
    intro e w' h
    rw [hg, hnb, hsp, hV] at h
    exact h
  have HQ := Lib.hid hQ
  have hbw' : Below g w w1 := by rw [hg]; exact hbw
  have HD := Lib.hid hd
  have HG := Lib.hid hg
  have hdd : d ≤ 104 := by omega
  have hsp8 : sp < 8 := by rw [hsp]; unfold spare parN; omega
  have hr : d % 8 = (8 - sp) % 8 := by omega
  have HROW := Lib.hid hrow
  have HBW := Lib.hid hbw'
  clear hd hnb hsp hV hg hrow hbw hbw' h11 hs hsz hQ
  by_cases h0 : sp = 0
  · have hri : (d : Int) % 8 = 0 := by omega
    have H0 := Lib.hid h0
    clear h0 hr
    go_enter Tryz.func64, Tryz.ntmps64
    go_wp2_with fail
    go_ret
    refine HQ.out _ _ ⟨_, rfl, ?_, HBW.out⟩
    rw [H0.out]
    unfold noSpare
    simpa using HROW.out
  · have hri : (d : Int) % 8 = ((8 - sp : Nat) : Int) := by omega
    obtain ⟨r, hre⟩ : ∃ r, r = 8 - sp := ⟨_, rfl⟩
    rw [← hre] at hri
    have hr0 : 0 < r := by omega
    have hr8 : r < 8 := by omega
    have hspi : (8 : Int) - (r : Int) = (sp : Int) := by omega
    obtain ⟨q, hq⟩ : ∃ q, q = nb - 1 := ⟨_, rfl⟩
    have hqi : (nb : Int) - 1 = (q : Int) := by omega
    have hqn : q < nb := by omega
    have hqnI : (q : Int) < (nb : Int) := by omega
    have hcq := HROW.out.cell q hqn
    have hfq := HROW.out.free q hqn
    have hbb := byteAt_lt nb V q
    have hset : ∀ j, j < nb → byteAt nb (noSpare sp V) j = if j = q then (byteAt nb V q >>> sp) <<< sp else byteAt nb V j := fun j hj => by
      rw [byte_spare hsp8 hpp j hj, hq]
      split <;> rename_i hjq
      · rw [hjq]
      · rfl
    obtain ⟨y, hy⟩ : ∃ y, y = byteAt nb V q := ⟨_, rfl⟩
    rw [← hy] at hcq hbb hset
    have hand := and_u8 y ((255 <<< sp) % 256) hbb (Nat.mod_lt _ (by decide))
    rw [spare_and y sp hbb hsp8] at hand
    have hwr : (((255 <<< sp) % 256 : Nat) : Int) = 255 * 2 ^ sp % 256 := by
      have h2 : ((2 ^ sp : Nat) : Int) = (2 : Int) ^ sp := by simp
      rw [← h2, Nat.shiftLeft_eq]
      generalize 2 ^ sp = z
      omega
    rw [hwr] at hand
    obtain ⟨z, hz⟩ : ∃ z, z = (y >>> sp) <<< sp := ⟨_, rfl⟩
    rw [← hz] at hand hset
    have hst : SV (w1.setCell ⟨g, q, none⟩ (.int .u8 ((z : Nat) : Int))).drew g nb (noSpare sp V) := by
      refine ((SRow.set HROW.out q _).congr fun j hj => ?_).drew
      rw [hset j hj]
      by_cases e : j = q
      · subst e; rw [upd_same, if_pos rfl]
      · rw [upd_other _ _ e, if_neg e]
    have HST := Lib.hid hst
    clear h0 hr hre hq hset hy hwr hz hst
    go_enter Tryz.func64, Tryz.ntmps64
    go_wp2_with fail
    go_region
    go_wp2_with fail
    go_ret
    exact HQ.out _ _ ⟨_, rfl, HST.out, Below.drew (HBW.out.setCell (by exact Nat.le_refl _) _)⟩
end Go.Proofs.YtgfjeaegigjnaaaGreatDoor

namespace Go.Proofs.YtgfjeaegigjnaaaGreatDoor
open Go.RowKit
set_option linter.unusedVariables false
set_option linter.unusedSimpArgs false

theorem CodeReady.readied {w w' : World} {c t chunk gl be bl : Nat} (h : CodeReady w c t chunk gl be bl) (k : Readied c 5 w w') : CodeReady w' c t chunk gl be bl ∧ Only c 5 11 w w' := by
  obtain ⟨k1, k2⟩ := k.same h.field
  exact ⟨⟨k2.cell h.h0 (fun _ => by omega), k2.cell h.h1 (fun _ => by omega), k2.cell h.h2 (fun _ => by omega), k2.cell h.h3 (fun _ => by omega), k2.cell h.h11 (fun _ => by omega), k2.cell h.h12 (fun _ => by omega), Row.only h.low k2 h.lt h.n1, k1, h.n1, h.n2, h.n3, Nat.lt_of_lt_of_le h.lt k2.st.size, fun o => (k2.fz o).trans (h.free o)⟩, k2⟩
/-- What stands while syndromes are reckoned; B: where the call's own memory begins. -/
structure SynSt (w0 w : World) (c t chunk gl be bl : Nat) : Prop where
  cr : CodeReady w c t chunk gl be bl
  on : Only c 5 11 w0 w
  lc : c < w0.heap.size
  lg : gl < w0.heap.size
  le : be < w0.heap.size
  ll : bl < w0.heap.size
section
variable {w0 w w' : World} {c t chunk gl be bl : Nat}
theorem SynSt.readied (h : SynSt w0 w c t chunk gl be bl) (k : Readied c 5 w w') : SynSt w0 w' c t chunk gl be bl := by
  obtain ⟨k1, k2⟩ := h.cr.readied k
  exact ⟨k1, h.on.trans k2, h.lc, h.lg, h.le, h.ll⟩
theorem SynSt.new {S : Nat → Prop} (h : SynSt w0 w c t chunk gl be bl) (k : Stays S w w') (hS : ∀ q, S q → w0.heap.size ≤ q) : SynSt w0 w' c t chunk gl be bl := by
  have h1 := h.lc
  have h2 := h.lg
  have h3 := h.le
  have h4 := h.ll
  exact ⟨h.cr.stays k (fun q => by have := hS _ q; omega) (fun q => by have := hS _ q; omega) (fun q => by have := hS _ q; omega) (fun q => by have := hS _ q; omega), h.on.new k hS h1, h1, h2, h3, h4⟩
theorem SynSt.alloc (h : SynSt w0 w c t chunk gl be bl) (o : Obj) : SynSt w0 (w.alloc o) c t chunk gl be bl := h.new (S := fun _ => False) ((Stays.refl _ _).alloc o) (fun _ q => q.elim)
theorem SynSt.drew (h : SynSt w0 w c t chunk gl be bl) : SynSt w0 w.drew c t chunk gl be bl := h.new (S := fun _ => False) ((Stays.refl _ _).drew) (fun _ q => q.elim)
theorem SynSt.set (h : SynSt w0 w c t chunk gl be bl) {g : Nat} (o : Nat) (v : Value) (hg : w0.heap.size ≤ g) : SynSt w0 (w.setCell ⟨g, o, none⟩ v) c t chunk gl be bl :=
  h.new (S := (· = g)) Row.stay (fun q hq => by have : q = g := hq; omega)
theorem SynSt.start (h : CodeReady w c t chunk gl be bl) : SynSt w w c t chunk gl be bl := ⟨h, Only.refl _ _ _ _, h.lc, h.lt, h.field.lt1, h.field.lt2⟩
end
/-- Syndrome k of the first i bits of V. -/
def syn (V nb d k : Nat) : Nat → Nat
  | 0 => 0
  | i + 1 => syn V nb d k i ^^^ (if V.testBit (8 * nb - 1 - i) then expN ((k + 1) * (d - 1 - i)) else 0)
theorem syn_lt (V nb d k i : Nat) : syn V nb d k i < 8192 := by
  induction i with
  | zero => exact (by decide : (0 : Nat) < 8192)
  | succ i ih =>
    refine Nat.xor_lt_two_pow (n := 13) ih ?_
    split
    · exact expN_lt _
    · decide
def clB (V nb d : Nat) : Nat → Bool
  | 0 => true
  | k + 1 => clB V nb d k && (syn V nb d k d == 0)
def srow (V nb d k i q : Nat) : Nat := if q < k then syn V nb d q d else if q = k then syn V nb d k i else 0
def SynQ (c t chunk gl be bl V : Nat) (w : World) (e : Ending) (w' : World) : Prop := ∃ gs, e = .returned (.tuple #[.slice (some ⟨gs, 0, none⟩) (2 * t) (2 * t), .bool (clB V (parN t) (13 * t) (2 * t))]) ∧ w.heap.size ≤ gs ∧ gs < w'.heap.size ∧ NRow w' gs (2 * t) (fun q => syn V (parN t) (13 * t) q (13 * t)) ∧ SynSt w w' c t chunk gl be bl
theorem make_ints (n : Nat) (hn : n ≤ 1000000) (W : World) : (Instr.makeSlice 55 (.int .i64 (n : Int)) (.int .i64 (n : Int))).run Tryz.prog W = .ok (.slice (some ⟨W.heap.size, 0, none⟩) n n) (W.alloc (.cells (madeCells #[.int .i64 0] n) 3)) :=
  run_make_row' (P := Tryz.prog) 55 3 (.int .i64 0) 8 (by kernel_rfl) (by kernel_rfl) rfl .i64 .i64 n (by omega) (by omega) W
set_option maxHeartbeats 6400000 in
set_option maxRecDepth 100000 in
theorem syndromes_any (c t chunk gl be bl g cap V : Nat) (w : World) (ht1 : 1 ≤ t) (ht8 : t ≤ 8) (h : CodeReady w c t chunk gl be bl) (hv : SV w g (parN t) V) (hgc : g ≠ c) (lg : g < w.heap.size) :
    Calls Tryz.prog 65 #[.pointer (some ⟨c, 0, none⟩), .slice (some ⟨g, 0, none⟩) (parN t) cap] w (SynQ c t chunk gl be bl V w) := by
  have hps := par_spare t
  have hpl := par_le ht8
  have h0 := h.h0
  have hst0 := SynSt.start h
  obtain ⟨d, hd⟩ : ∃ d, d = 13 * t := ⟨_, rfl⟩
  obtain ⟨nb, hnb⟩ : ∃ nb, nb = parN t := ⟨_, rfl⟩
  obtain ⟨n2, hn2⟩ : ∃ n2, n2 = 2 * t := ⟨_, rfl⟩
  have hQ : ∀ e w', (∃ gs, e = .returned (.tuple #[.slice (some ⟨gs, 0, none⟩) n2 n2, .bool (clB V nb d n2)]) ∧ w.heap.size ≤ gs ∧ gs < w'.heap.size ∧ NRow w' gs n2 (fun q => syn V nb d q d) ∧ SynSt w w' c t chunk gl be bl) → SynQ c t chunk gl be bl V w e w' := by
    intro e w' h
    rw [hd, hnb, hn2] at h
    exact h
  have hmk := make_ints n2 (by omega)
  have hd104 : d ≤ 104 := by omega
  have hdn : d ≤ 8 * nb := by omega
  have hn16 : n2 ≤ 16 := by omega
  have hn2i : 2 * (t : Int) = (n2 : Int) := by omega
  have HCELL : Hid (∀ W, SynSt w W c t chunk gl be bl → W.cell? ⟨c, 11, none⟩ = some (.int .i64 (d : Int))) := Lib.hid (fun W hW => by rw [hd]; exact hW.cr.h11)
  rw [← hnb] at hv hpl ⊢
  have HV := Lib.hid hv
  have HQ := Lib.hid hQ
  have HST0 := Lib.hid hst0
  clear hps hd hnb hn2 hv hQ hst0 h
  go_enter Tryz.func65, Tryz.ntmps65
  go_wp2_with fail
  obtain ⟨gs, hgs⟩ : ∃ gs, gs = w.heap.size := ⟨_, rfl⟩
  have hrow0 : NRow (w.alloc (.cells (madeCells #[.int .i64 0] n2) 3)) gs n2 (srow V nb d 0 0) := by
    rw [hgs]
    exact Row.made _ _ _ _ _ (fun j hj => by rw [madeCells_getN _ _ _ hj]; unfold srow; rw [if_neg (by omega)]; split <;> rfl)
  have hst1 := HST0.out.alloc (.cells (madeCells #[.int .i64 0] n2) 3)
  have hgs1 : gs < (w.alloc (.cells (madeCells #[.int .i64 0] n2) 3)).heap.size := by rw [hgs]; simp
  try rw [← hgs]
  have hgsw : w.heap.size ≤ gs := by omega
  have hgg : g ≠ gs := by omega
  have hgsc : gs ≠ c := by have := HST0.out.lc; omega
  generalize w.alloc (.cells (madeCells #[.int .i64 0] n2) 3) = W1 at *
  have HROW0 := Lib.hid hrow0
  have HST1 := Lib.hid hst1
  clear hrow0 hst1 hgs h0 hmk
  go_loopw [7, 18] (fun cv iv wr => ∃ k : Nat, k ≤ n2 ∧ iv = .int .i64 (k : Int) ∧ cv = .bool (clB V nb d k) ∧ gs < wr.heap.size ∧ Hid (NRow wr gs n2 (srow V nb d k 0)) ∧ Hid (SynSt w wr c t chunk gl be bl)) (fun _ iv _ => n2 - (intOf iv).toNat)
  case atStart => exact ⟨0, Nat.zero_le _, rfl, rfl, hgs1, HROW0, HST1⟩
  case round =>
    obtain ⟨k, hk, rfl, rfl, hgz, HR, HS⟩ := hrel
    obtain ⟨wq, rfl⟩ : ∃ wq : World, wq = wr := ⟨_, rfl⟩
    obtain ⟨cb, hcb⟩ : ∃ cb, cb = clB V nb d k := ⟨_, rfl⟩
    rw [← hcb]
    have HCB := Lib.hid hcb
    clear hcb
    by_cases hlt : k < n2
    · have hltI : (k : Int) < (n2 : Int) := by omega
      have c11 := HCELL.out wq HS.out
      go_wp2_with fail
      go_loopw [25] (fun iv wr => ∃ i : Nat, i ≤ d ∧ iv = .int .i64 (i : Int) ∧ gs < wr.heap.size ∧ Hid (NRow wr gs n2 (srow V nb d k i)) ∧ Hid (SynSt w wr c t chunk gl be bl)) (fun iv _ => d - (intOf iv).toNat)
      case atStart => exact ⟨0, Nat.zero_le _, rfl, hgz, HR, HS⟩
      case round =>
        clear c11
        obtain ⟨i, hid, rfl, hgz2, HR2, HS2⟩ := hrel
        obtain ⟨wz, rfl⟩ : ∃ wz : World, wz = wr := ⟨_, rfl⟩
        by_cases hil : i < d
        · obtain ⟨q, hq⟩ : ∃ q, q = i / 8 := ⟨_, rfl⟩
          obtain ⟨r, hr⟩ : ∃ r, r = 7 - i % 8 := ⟨_, rfl⟩
          have hqi : (i : Int) / 8 = (q : Int) := by omega
          have hri : (7 : Int) - (i : Int) % 8 = (r : Int) := by omega
          have hqn : q < nb := by omega
          have hqnI : (q : Int) < (nb : Int) := by omega
          have hr8 : r ≤ 7 := by omega
          have hVz : SV wz g nb V := SRow.stays HV.out HS2.out.on.st lg hgc
          have cv := hVz.cell q hqn
          have hbb := byteAt_lt nb V q
          have hbit := bit_u8 (byteAt nb V q) r hbb
          have hbv : (byteAt nb V q).testBit r = V.testBit (8 * nb - 1 - i) := by
            rw [byteAt_bit, show 8 * (nb - 1 - q) + r = 8 * nb - 1 - i by omega]
            have : r < 8 := by omega
            simp [this]
          rw [hbv] at hbit
          obtain ⟨y, hy⟩ : ∃ y, y = byteAt nb V q := ⟨_, rfl⟩
          rw [← hy] at cv hbb hbit
          have hnx : syn V nb d k (i + 1) = syn V nb d k i ^^^ (if V.testBit (8 * nb - 1 - i) then expN ((k + 1) * (d - 1 - i)) else 0) := rfl
          have HNX := Lib.hid hnx
          have hilI : (i : Int) < (d : Int) := by omega
          have c11 := HCELL.out wz HS2.out
          clear hq hr hVz hbv hy hnx
          cases hbt : V.testBit (8 * nb - 1 - i)
          · rw [hbt] at hbit HNX
            have HR3 : Hid (NRow wz gs n2 (srow V nb d k (i + 1))) := Lib.hid (HR2.out.congr fun j hj => by
              unfold srow
              split
              · rfl
              · split
                · rw [HNX.out]; simp
                · rfl)
            have hbit2 : bits BinOp.and .u8 ((y : Int) / 2 ^ r) 1 = 0 := hbit
            clear hbt hbit
            go_wp2_with fail
            go_roundw
            case rel => exact ⟨i + 1, by omega, by go_num, hgz2, HR3, HS2⟩
            case measure => simp [intOf]; omega
          · rw [hbt] at hbit HNX
            have hbit2 : bits BinOp.and .u8 ((y : Int) / 2 ^ r) 1 = 1 := hbit
            have ck : wz.cell? ⟨gs, k, none⟩ = some (.int .i64 ((syn V nb d k i : Nat) : Int)) := by
              have := HR2.out.cell k hlt
              rw [this]; unfold srow; rw [if_neg (Nat.lt_irrefl _), if_pos rfl]; rfl
            have fk := HR2.out.free k
            have hs8 := syn_lt V nb d k i
            obtain ⟨E, hE⟩ : ∃ E, E = (k + 1) * (d - 1 - i) := ⟨_, rfl⟩
            have hEl : E ≤ 17 * 104 := by rw [hE]; exact Nat.mul_le_mul (by omega) (by omega)
            obtain ⟨j, hj⟩ : ∃ j, j = d - 1 - i := ⟨_, rfl⟩
            have hji : (d : Int) - 1 - (i : Int) = (j : Int) := by omega
            have hEi : ((k : Int) + 1) * (j : Int) = (E : Int) := by
              rw [hE, ← hj, Int.natCast_mul]; rfl
            have e1 : IntKind.i64.wrap ((k : Int) + 1) = (k : Int) + 1 := (IntWalk.i64_left _).trans (IntWalk.wrap64_in _ (by omega))
            have e2 : IntKind.i64.wrap ((d : Int) - 1) = (d : Int) - 1 := (IntWalk.i64_left _).trans (IntWalk.wrap64_in _ (by omega))
            have e3 : IntKind.i64.wrap ((d : Int) - 1 - (i : Int)) = (j : Int) := by rw [hji]; exact (IntWalk.i64_left _).trans (IntWalk.wrap64_in _ (by omega))
            have e4 : IntKind.i64.wrap (((k : Int) + 1) * (j : Int)) = (E : Int) := by rw [hEi]; exact (IntWalk.i64_left _).trans (IntWalk.wrap64_in _ (by omega))
            obtain ⟨x, hx⟩ : ∃ x, x = expN E := ⟨_, rfl⟩
            have hx8 : x < 8192 := by rw [hx]; exact expN_lt _
            obtain ⟨y0, hy0⟩ : ∃ y0, y0 = syn V nb d k i := ⟨_, rfl⟩
            have hxo := xor_i64 y0 x (by omega) (by omega)
            rw [← hy0] at ck hs8
            rw [if_pos rfl, ← hE, ← hx, ← hy0] at HNX
            have HEXP := Lib.hid (Exp_any c 5 (E : Int) (E % 8191) (by omega) (by omega) (by omega) wz.drew (.inr ⟨be, bl, HS2.out.cr.field.drew⟩))
            rw [exp_mod, ← hx] at HEXP
            have HS2d := Lib.hid HS2.out.drew
            have hRd : NRow wz.drew gs n2 (srow V nb d k i) := Row.drew HR2.out
            have HRD := Lib.hid hRd
            clear hbt hbit hE hj hji hEi hx hy0 hRd
            go_wp2_with fail
            go_region_with (go_at_call 83; refine HEXP.out.mono ?_; rintro e w3 ⟨rfl, hq⟩; have HS3 := Lib.hid (HS2d.out.readied hq); have HO3 := Lib.hid (HS2d.out.cr.readied hq).2; have ck3 : w3.cell? ⟨gs, k, none⟩ = some (.int .i64 (y0 : Int)) := HO3.out.st.cell (p := ⟨gs, k, none⟩) ((World.cell?_drew _ _).trans ck) hgsc; have fk3 : w3.frozen? ⟨gs, k, none⟩ = false := (HO3.out.st.frozen (p := ⟨gs, k, none⟩) hgsc (by simp; omega)).trans ((World.frozen?_drew _ _).trans fk); have c113 := HCELL.out w3 HS3.out; clear hq)
            all_goals
              have HR4 : Hid (NRow (w3.setCell ⟨gs, k, none⟩ (.int .i64 ((y0 ^^^ x : Nat) : Int))) gs n2 (srow V nb d k (i + 1))) := Lib.hid ((NRow.set (Row.only HRD.out HO3.out (by simpa using hgz2) hgsc) k (y0 ^^^ x)).congr fun j hj => by
                by_cases e : j = k
                · subst e; rw [upd_same]; unfold srow; rw [if_neg (Nat.lt_irrefl _), if_pos rfl, HNX.out]
                · rw [upd_other _ _ e]; unfold srow
                  simp only [if_neg e])
              have HS4 := Lib.hid (HS3.out.set (g := gs) k (.int .i64 ((y0 ^^^ x : Nat) : Int)) hgsw)
              have hz4 : gs < (w3.setCell ⟨gs, k, none⟩ (.int .i64 ((y0 ^^^ x : Nat) : Int))).heap.size := by have := HO3.out.st.size; simp at this; simp; omega
              clear ck3 fk3 c113 ck fk e1 e2 e3 e4
              go_wp2_with fail
              go_roundw
              case rel => exact ⟨i + 1, by omega, by go_num, hz4, HR4, HS4⟩
              case measure => simp [intOf]; omega
        · obtain rfl : i = d := by omega
          have ck : wz.cell? ⟨gs, k, none⟩ = some (.int .i64 ((syn V nb i k i : Nat) : Int)) := by
            have := HR2.out.cell k hlt
            rw [this]; unfold srow; rw [if_neg (Nat.lt_irrefl _), if_pos rfl]; rfl
          have hcs : clB V nb i (k + 1) = (cb && (syn V nb i k i == 0)) := by rw [HCB.out]; rfl
          have HR5 : Hid (NRow wz gs n2 (srow V nb i (k + 1) 0)) := Lib.hid (HR2.out.congr fun j hj => by
            unfold srow
            by_cases e : j < k
            · rw [if_pos e, if_pos (by omega)]
            · rw [if_neg e]
              by_cases e2 : j = k
              · subst e2; rw [if_pos rfl, if_pos (Nat.lt_succ_self _)]
              · rw [if_neg e2, if_neg (by omega)]
                split <;> rfl)
          obtain ⟨y, hy⟩ : ∃ y, y = syn V nb i k i := ⟨_, rfl⟩
          rw [← hy] at ck hcs
          have HCS := Lib.hid hcs
          clear hy hcs
          cases cb
          · go_wp2_with fail
            go_roundw
            case rel => exact ⟨k + 1, by omega, by go_num, by rw [HCS.out]; rfl, hgz2, HR5, HS2⟩
            case measure => simp [intOf]; omega
          · by_cases hy0 : y = 0
            · have hb : (((y : Nat) : Int) == 0) = true := by simp [hy0]
              have HY := Lib.hid hy0
              clear hy0
              go_wp2_with fail
              go_roundw
              case rel => exact ⟨k + 1, by omega, by go_num, by rw [HCS.out, HY.out]; rfl, hgz2, HR5, HS2⟩
              case measure => simp [intOf]; omega
            · have hb : (((y : Nat) : Int) == 0) = false := by simp; omega
              have HY : Hid ((y == 0) = false) := Lib.hid (by simpa using hy0)
              clear hy0
              go_wp2_with fail
              go_roundw
              case rel => exact ⟨k + 1, by omega, by go_num, by rw [HCS.out, HY.out]; rfl, hgz2, HR5, HS2⟩
              case measure => simp [intOf]; omega
    · obtain rfl : k = n2 := by omega
      go_wp2_with fail
      go_ret2
      refine HQ.out _ _ ⟨gs, by rw [HCB.out]; rfl, hgsw, hgz, HR.out.congr fun j hj => by unfold srow; rw [if_pos hj], HS.out⟩
end Go.Proofs.YtgfjeaegigjnaaaGreatDoor

namespace Go.Proofs.YtgfjeaegigjnaaaGreatDoor
open Go.RowKit
set_option linter.unusedVariables false
set_option linter.unusedSimpArgs false

theorem Coded.syn {c t chunk gl be bl : Nat} {w w1 w2 : World} (h : Coded c t chunk w w1) (h1 : CodeReady w1 c t chunk gl be bl) (k : SynSt w1 w2 c t chunk gl be bl) : Coded c t chunk w w2 := by
  obtain ⟨gl', be', bl', k1, k2, k3⟩ := h
  obtain ⟨rfl, rfl, rfl⟩ := k1.one h1
  exact ⟨_, _, _, k.cr, k2.trans (k.on.mono (by omega) (by omega)), k3⟩
/-- The register of a word that came in. -/
def regW (t : Nat) (s q : ByteArray) : Nat := regI (parN t) (lowN t) (numB s.data.toList) (8 * s.size) (8 * s.size) ^^^ noSpare (spare t) (numB q.data.toList)
set_option maxHeartbeats 6400000 in
set_option maxRecDepth 100000 in
theorem Decode_clean (c t chunk : Nat) (s q : ByteArray) (hs : s.size = chunk) (hq : q.size = parN t) (hc : chunk ≤ 256) (ht1 : 1 ≤ t) (ht8 : t ≤ 8) (w : World) (h : CodeAt w c t chunk)
    (hcl : clB (regW t s q) (parN t) (13 * t) (2 * t) = true) :
    Calls Tryz.prog 43 #[.pointer (some ⟨c, 0, none⟩), .string s, .string q] w fun e w' => e = .returned (.tuple #[.string s, .string (strOf (parN t) (noSpare (spare t) (numB q.data.toList))), .int .i64 0, .bool true]) ∧ Coded c t chunk w w' := by
  have h1 : w.cell? ⟨c, 1, none⟩ = some (.int .i64 (chunk : Int)) := by
    rcases h with h | ⟨_, _, _, h⟩ <;> exact h.h1
  have lc := h.lc
  have hsne : ((s.size : Int) != (chunk : Int)) = false := by simp; omega
  have hqne : ((q.size : Int) != ((parN t : Nat) : Int)) = false := by simp; omega
  have HP := Lib.hid (Parity_any c t chunk ht1 ht8 w h)
  have hcv := conv_strN s
  have HS := Lib.hid hs
  have HQ := Lib.hid hq
  have HCL := Lib.hid hcl
  have hpp := par_pos ht1
  have hpl := par_le ht8
  have hss : s.size ≤ 1000000 := by omega
  clear h hs hq hcl
  go_enter Tryz.func43, Tryz.ntmps43
  go_wp2_with fail
  go_at_call 28
  refine HP.out.mono ?_
  rintro e w1 ⟨rfl, hk⟩
  have HK := Lib.hid hk
  obtain ⟨gl, be, bl, hr1, ho1, _⟩ := hk
  have HR1 := Lib.hid hr1
  clear hr1 ho1 HP
  go_wp2_with fail
  have hbw2 := below_bytes w1 s
  generalize Lib.bytesWorld w1 5 s = w2 at *
  have HST2 := Lib.hid ((SynSt.start HR1.out).new (S := fun _ => False) (Stays.of_below hbw2) (fun _ q => q.elim))
  have HC := Lib.hid (clean_any c t q w2 ht1 ht8 HST2.out.cr.h11 HQ.out)
  have hsz2 := hbw2.size
  clear hbw2
  go_at_call 64
  refine HC.out.mono ?_
  intro e w3 hcq
  obtain ⟨pc, rfl, hpv, hb3⟩ := hcq
  obtain ⟨gp, hgp⟩ : ∃ gp, gp = w2.heap.size := ⟨_, rfl⟩
  rw [← hgp] at hpv
  rw [← hgp]
  have lgp : gp < w3.heap.size := World.block_lt_of_cell? _ _ (hpv.cell 0 hpp)
  have HPV := Lib.hid hpv
  have HST3 := Lib.hid (HST2.out.new (S := fun _ => False) (Stays.of_below hb3) (fun _ q => q.elim))
  have hsz3 := hb3.size
  have n4 : gp ≠ c := by have := HST2.out.lc; omega
  clear hpv hb3 HC hgp
  have HDV := Lib.hid (divide_any c gl (parN t) (parN t) (lowN t) s w3 HST3.out.cr.h12 HST3.out.cr.low hpp (by omega) hss)
  go_wp2_with fail
  go_at_call 58
  refine HDV.out.mono ?_
  rintro e w4 ⟨rfl, hv4, hb4⟩
  obtain ⟨gr, hgr⟩ : ∃ gr, gr = w3.heap.size := ⟨_, rfl⟩
  rw [← hgr] at hv4
  rw [← hgr]
  have lgr : gr < w4.heap.size := World.block_lt_of_cell? _ _ (hv4.cell 0 hpp)
  have HST4 := Lib.hid (HST3.out.new (S := fun _ => False) (Stays.of_below hb4) (fun _ q => q.elim))
  have HPV4 : Hid (SV w4 gp (parN t) (noSpare (spare t) (numB q.data.toList))) := Lib.hid (SRow.stays HPV.out (S := fun _ => False) (Stays.of_below hb4) lgp id)
  have hsz4 := hb4.size
  obtain ⟨nb, hnb⟩ : ∃ nb, nb = parN t := ⟨_, rfl⟩
  obtain ⟨D, hD⟩ : ∃ D, D = regI (parN t) (lowN t) (numB s.data.toList) (8 * s.size) (8 * s.size) := ⟨_, rfl⟩
  obtain ⟨P, hP⟩ : ∃ P, P = noSpare (spare t) (numB q.data.toList) := ⟨_, rfl⟩
  rw [← hD] at hv4
  rw [← hP] at HPV4
  rw [← hnb] at hv4 HPV4 hpp hpl hqne
  rw [← hnb]
  have HV4 := Lib.hid hv4
  have HNB := Lib.hid hnb
  have HD := Lib.hid hD
  have HPE := Lib.hid hP
  have n1 : gr ≠ gp := by omega
  have n2 : gr ≠ c := by have := HST4.out.lc; omega
  have n3 : w1.heap.size ≤ gr := by omega
  clear hv4 hb4 hnb hD hP hgr HDV HPV
  go_wp2_with fail
  go_loopw [50] (fun iv wr => ∃ k : Nat, k ≤ nb ∧ iv = .int .i64 (k : Int) ∧ Hid (Row wr gr nb (fun j => .int .u8 ((xrow nb D P k j : Nat) : Int))) ∧ Hid (Stays (· = gr) w4 wr)) (fun iv _ => nb - (intOf iv).toNat)
  case atStart => exact ⟨0, Nat.zero_le _, rfl, Lib.hid (Row.congr HV4.out fun j hj => by unfold xrow; rw [if_neg (by omega)]), Lib.hid (Stays.refl _ _)⟩
  case round =>
    obtain ⟨k, hk, rfl, HR, HSt⟩ := hrel
    obtain ⟨wy, rfl⟩ : ∃ wy : World, wy = wr := ⟨_, rfl⟩
    by_cases hkn : k < nb
    · have k2 : wy.cell? ⟨gp, k, none⟩ = some (.int .u8 ((byteAt nb P k : Nat) : Int)) := HSt.out.cell (HPV4.out.cell k hkn) (Ne.symm n1)
      have k3 : wy.cell? ⟨gr, k, none⟩ = some (.int .u8 ((byteAt nb D k : Nat) : Int)) := by
        have := HR.out.cell k hkn
        rw [this]; unfold xrow; rw [if_neg (Nat.lt_irrefl _)]
      have kf := HR.out.free k
      have b1 := byteAt_lt nb P k
      have b2 := byteAt_lt nb D k
      obtain ⟨x, hx⟩ : ∃ x, x = byteAt nb P k := ⟨_, rfl⟩
      obtain ⟨y, hy⟩ : ∃ y, y = byteAt nb D k := ⟨_, rfl⟩
      rw [← hx] at k2 b1
      rw [← hy] at k3 b2
      have hxo := xor_u8N y x b2 b1
      have hki : (k : Int) < (nb : Int) := by omega
      have hR4 : Row (wy.setCell ⟨gr, k, none⟩ (.int .u8 (bits BinOp.xor .u8 (y : Int) (x : Int)))).drew gr nb (fun j => .int .u8 ((xrow nb D P (k + 1) j : Nat) : Int)) := by
        rw [hxo]
        refine ((Row.set HR.out k _).congr fun j hj => ?_).drew
        by_cases e : j = k
        · subst e; rw [upd_same]; unfold xrow; rw [if_pos (Nat.lt_succ_self _), hx, hy]
        · rw [upd_other _ _ e]; unfold xrow
          have e2 : (j < k + 1) ↔ (j < k) := by omega
          simp only [e2]
      have HR4 := Lib.hid hR4
      clear hx hy hxo hR4
      go_wp2_with fail
      go_region
      go_wp2_with fail
      go_roundw
      case rel => exact ⟨k + 1, by omega, by go_num, HR4, Lib.hid ((HSt.out.trans Row.stay).drew)⟩
      case measure => simp [intOf]; omega
    · obtain rfl : k = nb := by omega
      have hvx : SV wy gr k (regW t s q) := by
        have : regW t s q = D ^^^ P := by rw [HD.out, HPE.out]; rfl
        rw [this]
        refine ⟨fun j hj => ?_, fun j _ => HR.out.free j⟩
        rw [HR.out.cell j hj]
        unfold xrow
        rw [if_pos hj, byteAt_xor]
      have HSTy := Lib.hid (HST4.out.new HSt.out (fun q hq => by have : q = gr := hq; omega))
      have HPVy : Hid (SV wy gp k P) := Lib.hid (SRow.stays HPV4.out HSt.out (by omega) (Ne.symm n1))
      have lgry : gr < wy.heap.size := by have := HSt.out.size; omega
      have lgpy : gp < wy.heap.size := by have := HSt.out.size; omega
      have hsyn := syndromes_any c t chunk gl be bl gr k (regW t s q) wy ht1 ht8 HSTy.out.cr (by rw [← HNB.out]; exact hvx) n2 lgry
      rw [← HNB.out] at hsyn
      have HSY := Lib.hid hsyn
      clear hvx hsyn
      go_wp2_with fail
      go_at_call 65
      refine HSY.out.mono ?_
      intro e w6 hsq
      obtain ⟨gs, rfl, hs1, hs2, hs3, hs4⟩ := hsq
      rw [HCL.out]
      have hpv6 : SV w6 gp k P := SRow.stays HPVy.out hs4.on.st lgpy n4
      have hcs := SV.string (cap := pc) hpv6
      have hcsd := SV.string (cap := pc) (SRow.drew hpv6)
      have HFIN : Hid (SynSt w1 w6 c t chunk gl be bl) := Lib.hid ⟨hs4.cr, HSTy.out.on.trans hs4.on, HSTy.out.lc, HSTy.out.lg, HSTy.out.le, HSTy.out.ll⟩
      obtain ⟨X, hX⟩ : ∃ X, X = strOf k P := ⟨_, rfl⟩
      rw [← hX] at hcs hcsd
      have HX := Lib.hid hX
      clear hs1 hs2 hs3 hs4 hpv6 hX HSY
      go_wp2_with fail
      go_region
      go_wp2_with fail
      refine bodyPost_ret (v := .tuple #[.string s, .string X, .int .i64 0, .bool true]) (by simp [results, Tryz.results43, go_sem]) rfl ⟨?_, HK.out.syn HR1.out HFIN.out.drew⟩
      rw [HX.out, HPE.out, HNB.out]
end Go.Proofs.YtgfjeaegigjnaaaGreatDoor

namespace Go.Proofs.YtgfjeaegigjnaaaGreatDoor
open Go.RowKit
set_option linter.unusedVariables false
set_option linter.unusedSimpArgs false

theorem noSpare_xor {s R X : Nat} (h : X < 2 ^ s) : noSpare s ((R <<< s) ^^^ X) = R <<< s := by
  apply Nat.eq_of_testBit_eq
  intro t
  rw [noSpare_bit, Nat.testBit_xor, Nat.testBit_shiftLeft]
  by_cases ht : s ≤ t
  · have : X.testBit t = false := bit_none h ht
    simp [ht, this]
  · simp [ht]
theorem syn_zero (nb d k i : Nat) : syn 0 nb d k i = 0 := by
  induction i with
  | zero => rfl
  | succ i ih => unfold syn; rw [ih]; simp
theorem clB_zero (nb d k : Nat) : clB 0 nb d k = true := by
  induction k with
  | zero => rfl
  | succ k ih => unfold clB; rw [ih, syn_zero]; rfl
/-- The register of a chunk is the document's rest, over the spare bits. -/
theorem reg_rest {t : Nat} (ht1 : 1 ≤ t) (ht8 : t ≤ 8) (s : ByteArray) : ∃ R, R < 2 ^ (13 * t) ∧ regI (parN t) (lowN t) (numB s.data.toList) (8 * s.size) (8 * s.size) = R <<< spare t := by
  have hsl : s.data.toList.length = s.size := by simp
  have hDlt := numB_lt s.data.toList
  rw [hsl] at hDlt
  have hend := div_end (n := parN t) (s := spare t) (d := 13 * t) (G := genA t) (M := 8 * s.size) (par_spare t) (by omega) (by rw [← gen_log (show t < 9 by omega)]; exact Nat.lt_log2_self) (by rw [← gen_log (show t < 9 by omega)]; exact Nat.testBit_log2 (gen_ne (by omega))) (numB s.data.toList) hDlt
  exact ⟨_, hend.1, hend.2⟩
theorem rest_lt {t R : Nat} (h : R < 2 ^ (13 * t)) : R <<< spare t < 2 ^ (8 * parN t) := by
  rw [par_spare]; exact shl_lt h (Nat.le_refl _)
theorem num_str {n V : Nat} (h : V < 2 ^ (8 * n)) : numB (strOf n V).data.toList = V := num_bytes h
theorem str_size (n V : Nat) : (strOf n V).size = n := by
  show (bytesOf n V).toArray.size = n
  simp [bytesOf_length]
theorem byte_low {n V X : Nat} (hX : X < 256) (hn : 0 < n) (j : Nat) (hj : j < n) : byteAt n (V ^^^ X) j = if j = n - 1 then byteAt n V j ^^^ X else byteAt n V j := by
  rw [byteAt_xor]
  have hx : byteAt n X j = if j = n - 1 then X else 0 := by
    unfold byteAt
    split
    · next h =>
      subst h
      rw [show 8 * (n - 1 - (n - 1)) = 0 by omega, Nat.shiftRight_zero]
      exact Nat.mod_eq_of_lt hX
    · next h =>
      rw [Nat.shiftRight_eq_div_pow, Nat.div_eq_of_lt (Nat.lt_of_lt_of_le (show X < 2 ^ 8 from hX) (Nat.pow_le_pow_right (by decide) (by omega)))]
  rw [hx]
  split
  · rfl
  · rw [Nat.xor_zero]
theorem shr255 (r : Nat) (h : r ≤ 8) : (255 : Int) / 2 ^ r = ((2 ^ (8 - r) - 1 : Nat) : Int) := by
  match r, h with
  | 0, _ => rfl
  | 1, _ => rfl
  | 2, _ => rfl
  | 3, _ => rfl
  | 4, _ => rfl
  | 5, _ => rfl
  | 6, _ => rfl
  | 7, _ => rfl
  | 8, _ => rfl
/-- What Decode makes of the parity with any spare bits. -/
theorem spare_decode (c t chunk : Nat) (s : ByteArray) (R X : Nat) (hR : R < 2 ^ (13 * t)) (hreg : regI (parN t) (lowN t) (numB s.data.toList) (8 * s.size) (8 * s.size) = R <<< spare t) (hX : X < 2 ^ spare t)
    (hs : s.size = chunk) (hc : chunk ≤ 256) (ht1 : 1 ≤ t) (ht8 : t ≤ 8) (w : World) (h : CodeAt w c t chunk) :
    Calls Tryz.prog 43 #[.pointer (some ⟨c, 0, none⟩), .string s, .string (strOf (parN t) ((R <<< spare t) ^^^ X))] w fun e w' => e = .returned (.tuple #[.string s, .string (parS t s), .int .i64 0, .bool true]) ∧ Coded c t chunk w w' := by
  have hlt : (R <<< spare t) ^^^ X < 2 ^ (8 * parN t) := Nat.xor_lt_two_pow (rest_lt hR) (Nat.lt_of_lt_of_le hX (Nat.pow_le_pow_right (by decide) (by rw [par_spare]; omega)))
  have hn : numB (strOf (parN t) ((R <<< spare t) ^^^ X)).data.toList = (R <<< spare t) ^^^ X := num_str hlt
  have hW : regW t s (strOf (parN t) ((R <<< spare t) ^^^ X)) = 0 := by
    unfold regW
    rw [hreg, hn, noSpare_xor hX, Nat.xor_self]
  refine (Decode_clean c t chunk s _ hs (str_size _ _) hc ht1 ht8 w h (by rw [hW]; exact clB_zero _ _ _)).mono fun e w' ⟨he, hk⟩ => ⟨?_, hk⟩
  rw [he, hn, noSpare_xor hX]
  unfold parS
  rw [hreg]
end Go.Proofs.YtgfjeaegigjnaaaGreatDoor

namespace Go.Proofs.YtgfjeaegigjnaaaGreatDoor
set_option linter.unusedVariables false
set_option linter.unusedSimpArgs false

structure BM where
  now : List Nat
  old : List Nat
  len : Nat
  gap : Nat
  last : Nat
/-- The discrepancy, of the first i terms. -/
def dsc (s : Nat → Nat) (now : List Nat) (n : Nat) : Nat → Nat
  | 0 => s n
  | i + 1 => dsc s now n i ^^^ mulP (now.getD (i + 1) 0) (s (n - (i + 1)))
def BM.disc (s : Nat → Nat) (st : BM) (n : Nat) : Nat := dsc s st.now n (min st.len (st.now.length - 1))
/-- The first i terms of by times old laid over now, gap higher. -/
def adf (now old : List Nat) (by' gap i j : Nat) : Nat := now.getD j 0 ^^^ (if gap ≤ j ∧ j < gap + i then mulP by' (old.getD (j - gap) 0) else 0)
def addS (now old : List Nat) (by' gap : Nat) : List Nat := (List.range (max now.length (old.length + gap))).map (adf now old by' gap old.length)
noncomputable def quotN (last d : Nat) : Nat := mulP (expN (8191 - logN last)) d
noncomputable def bmStep (s : Nat → Nat) (st : BM) (n : Nat) : BM :=
  if st.disc s n = 0 then { st with gap := st.gap + 1 }
  else if 2 * st.len ≤ n then { now := addS st.now st.old (quotN st.last (st.disc s n)) st.gap, old := st.now, len := n + 1 - st.len, gap := 1, last := st.disc s n }
  else { st with now := addS st.now st.old (quotN st.last (st.disc s n)) st.gap, gap := st.gap + 1 }
noncomputable def bmI (s : Nat → Nat) : Nat → BM
  | 0 => ⟨[1], [1], 0, 1, 1⟩
  | n + 1 => bmStep s (bmI s n) n
/-- Without the noughts at the end. -/
def trimL : List Nat → Nat → List Nat
  | L, 0 => L
  | L, f + 1 => if 1 < L.length ∧ L.getD (L.length - 1) 0 = 0 then trimL (L.take (L.length - 1)) f else L
theorem dsc_lt {s : Nat → Nat} (hs : ∀ i, s i < 8192) (now : List Nat) (n i : Nat) : dsc s now n i < 8192 := by
  induction i with
  | zero => exact hs n
  | succ i ih => exact Nat.xor_lt_two_pow (n := 13) ih (mulP_lt _ (hs _))
theorem adf_lt {now old : List Nat} (hn : ∀ j, now.getD j 0 < 8192) (ho : ∀ j, old.getD j 0 < 8192) (by' gap i j : Nat) : adf now old by' gap i j < 8192 := by
  unfold adf
  refine Nat.xor_lt_two_pow (n := 13) (hn j) ?_
  split
  · exact mulP_lt _ (ho _)
  · exact (by decide : (0 : Nat) < 2 ^ 13)
theorem addS_length (now old : List Nat) (by' gap : Nat) : (addS now old by' gap).length = max now.length (old.length + gap) := by simp [addS]
theorem addS_get (now old : List Nat) (by' gap j : Nat) (h : j < max now.length (old.length + gap)) : (addS now old by' gap).getD j 0 = adf now old by' gap old.length j := by
  unfold addS
  rw [List.getD_eq_getElem?_getD, List.getElem?_map, List.getElem?_range h]; rfl
theorem addS_lt {now old : List Nat} (hn : ∀ j, now.getD j 0 < 8192) (ho : ∀ j, old.getD j 0 < 8192) (by' gap j : Nat) : (addS now old by' gap).getD j 0 < 8192 := by
  rcases Nat.lt_or_ge j (max now.length (old.length + gap)) with h | h
  · rw [addS_get _ _ _ _ _ h]; exact adf_lt hn ho _ _ _ _
  · rw [List.getD_eq_getElem?_getD, List.getElem?_eq_none (by rw [addS_length]; exact h)]; decide
theorem adf_zero (now old : List Nat) (by' gap j : Nat) : adf now old by' gap 0 j = now.getD j 0 := by
  unfold adf
  rw [if_neg (by omega), Nat.xor_zero]
theorem adf_step (now old : List Nat) (by' gap i j : Nat) : adf now old by' gap (i + 1) j = if j = i + gap then adf now old by' gap i j ^^^ mulP by' (old.getD i 0) else adf now old by' gap i j := by
  unfold adf
  by_cases h : j = i + gap
  · subst h
    rw [if_pos rfl, if_pos ⟨by omega, by omega⟩, if_neg (by omega), Nat.xor_zero, Nat.add_sub_cancel]
  · rw [if_neg h]
    have e : (gap ≤ j ∧ j < gap + (i + 1)) ↔ (gap ≤ j ∧ j < gap + i) := by omega
    simp only [e]
/-- What holds ahead of syndrome n. -/
structure BMok (st : BM) (n : Nat) : Prop where
  len : st.len ≤ n
  now1 : 1 ≤ st.now.length
  nowl : st.now.length ≤ n + 1
  old1 : 1 ≤ st.old.length
  oldl : st.old.length + st.gap ≤ n + 2
  gap1 : 1 ≤ st.gap
  last0 : 0 < st.last
  last8 : st.last < 8192
  now8 : ∀ j, st.now.getD j 0 < 8192
  old8 : ∀ j, st.old.getD j 0 < 8192
theorem bm_ok {s : Nat → Nat} (hs : ∀ i, s i < 8192) (n : Nat) : BMok (bmI s n) n := by
  induction n with
  | zero =>
    have h1 : ∀ j, ([1] : List Nat).getD j 0 < 8192 := by
      intro j
      match j with
      | 0 => decide
      | j + 1 => simp
    exact ⟨Nat.le_refl _, by simp [bmI], by simp [bmI], by simp [bmI], by simp [bmI], by simp [bmI], by simp [bmI], by simp [bmI], h1, h1⟩
  | succ n ih =>
    show BMok (bmStep s (bmI s n) n) (n + 1)
    generalize bmI s n = st at ih
    obtain ⟨i1, i2, i3, i4, i5, i6, i7, i8, i9, i10⟩ := ih
    unfold bmStep
    have hd8 : st.disc s n < 8192 := dsc_lt hs _ _ _
    split
    · exact ⟨by show st.len ≤ n + 1; omega, i2, by show st.now.length ≤ n + 1 + 1; omega, i4, by show st.old.length + (st.gap + 1) ≤ n + 1 + 2; omega, by show 1 ≤ st.gap + 1; omega, i7, i8, i9, i10⟩
    · split
      · refine ⟨by show n + 1 - st.len ≤ n + 1; omega, ?_, ?_, i2, by show st.now.length + 1 ≤ n + 1 + 2; omega, Nat.le_refl _, by show 0 < st.disc s n; omega, hd8, fun j => addS_lt i9 i10 _ _ _, i9⟩
        · show 1 ≤ (addS _ _ _ _).length
          rw [addS_length]; omega
        · show (addS _ _ _ _).length ≤ n + 1 + 1
          rw [addS_length]; omega
      · refine ⟨by show st.len ≤ n + 1; omega, ?_, ?_, i4, by show st.old.length + (st.gap + 1) ≤ n + 1 + 2; omega, by show 1 ≤ st.gap + 1; omega, i7, i8, fun j => addS_lt i9 i10 _ _ _, i10⟩
        · show 1 ≤ (addS _ _ _ _).length
          rw [addS_length]; omega
        · show (addS _ _ _ _).length ≤ n + 1 + 1
          rw [addS_length]; omega
end Go.Proofs.YtgfjeaegigjnaaaGreatDoor
namespace Go.Proofs.YtgfjeaegigjnaaaGreatDoor
set_option linter.unusedVariables false
set_option linter.unusedSimpArgs false

theorem logN_zero : logN 0 = 0 := by
  unfold logN
  rw [dif_neg (by omega)]
/-- The exponent of term i at e, from 0 to 8190. -/
noncomputable def chE (x i e : Nat) : Nat := (((logN x : Int) - (i : Int) * (e : Int)) % 8191).toNat
theorem chE_eq (x i e : Nat) : ((logN x : Int) - (i : Int) * (e : Int)) % 8191 = ((chE x i e : Nat) : Int) := by
  unfold chE
  have := Int.emod_nonneg ((logN x : Int) - (i : Int) * (e : Int)) (by decide : (8191 : Int) ≠ 0)
  omega
/-- The value at the inverse power e, of the first i terms. -/
noncomputable def chien (L : List Nat) (e : Nat) : Nat → Nat
  | 0 => 0
  | i + 1 => if L.getD i 0 = 0 then chien L e i else chien L e i ^^^ expN (chE (L.getD i 0) i e)
theorem chien_lt (L : List Nat) (e i : Nat) : chien L e i < 8192 := by
  induction i with
  | zero => exact (by decide : (0 : Nat) < 8192)
  | succ i ih =>
    unfold chien
    split
    · exact ih
    · exact Nat.xor_lt_two_pow (n := 13) ih (expN_lt _)
/-- The roots below e: never more than the list is long. -/
noncomputable def rootsI (L : List Nat) : Nat → List Nat
  | 0 => []
  | e + 1 => if (rootsI L e).length < L.length ∧ chien L e L.length = 0 then rootsI L e ++ [e] else rootsI L e
theorem rootsI_length (L : List Nat) (e : Nat) : (rootsI L e).length ≤ L.length ∧ (rootsI L e).length ≤ e := by
  induction e with
  | zero => exact ⟨Nat.zero_le _, Nat.zero_le _⟩
  | succ e ih =>
    unfold rootsI
    split
    · rename_i h
      rw [List.length_append]
      exact ⟨by simp; omega, by simp; omega⟩
    · exact ⟨ih.1, by omega⟩
theorem rootsI_lt (L : List Nat) (e : Nat) : ∀ x ∈ rootsI L e, x < e := by
  induction e with
  | zero => intro x hx; simp [rootsI] at hx
  | succ e ih =>
    intro x hx
    unfold rootsI at hx
    split at hx
    · rcases List.mem_append.1 hx with h | h
      · have := ih x h; omega
      · simp at h; omega
    · have := ih x hx; omega
theorem rootsI_nodup (L : List Nat) (e : Nat) : (rootsI L e).Nodup := by
  induction e with
  | zero => exact List.nodup_nil
  | succ e ih =>
    unfold rootsI
    split
    · refine List.nodup_append.2 ⟨ih, by simp, ?_⟩
      intro a ha b hb
      have := rootsI_lt L e a ha
      simp at hb; omega
    · exact ih
/-- Once it is full, it stays so. -/
theorem rootsI_full (L : List Nat) (e k : Nat) (h : L.length ≤ (rootsI L e).length) : rootsI L (e + k) = rootsI L e := by
  induction k with
  | zero => rfl
  | succ k ih =>
    show (if (rootsI L (e + k)).length < L.length ∧ chien L (e + k) L.length = 0 then rootsI L (e + k) ++ [e + k] else rootsI L (e + k)) = _
    rw [ih, if_neg (by omega)]
end Go.Proofs.YtgfjeaegigjnaaaGreatDoor

namespace Go.Proofs.YtgfjeaegigjnaaaGreatDoor
set_option linter.unusedVariables false
set_option linter.unusedSimpArgs false

/-- Bit k from the front of n bytes, turned. -/
theorem byteAt_turn (n V k j : Nat) (hk : k < 8 * n) (hj : j < n) : byteAt n (V ^^^ 2 ^ (8 * n - 1 - k)) j = if j = k / 8 then byteAt n V j ^^^ 128 / 2 ^ (k % 8) else byteAt n V j := by
  have h128 : ∀ i, i < 8 → (128 : Nat) / 2 ^ i = 2 ^ (7 - i) := by decide
  apply Nat.eq_of_testBit_eq
  intro i
  have hl1 := byteAt_bit n (V ^^^ 2 ^ (8 * n - 1 - k)) j i
  have hl2 := byteAt_bit n V j i
  rw [hl1, Nat.testBit_xor, Nat.testBit_two_pow]
  by_cases h : j = k / 8
  · rw [if_pos h, Nat.testBit_xor, hl2, h128 _ (Nat.mod_lt _ (by decide)), Nat.testBit_two_pow]
    by_cases hi : i < 8
    · have e : (8 * n - 1 - k = 8 * (n - 1 - j) + i) ↔ (7 - k % 8 = i) := by omega
      simp [hi, e]
    · have : ¬ (7 - k % 8 = i) := by omega
      simp [hi, this]
  · rw [if_neg h, hl2]
    by_cases hi : i < 8
    · have e : ¬ (8 * n - 1 - k = 8 * (n - 1 - j) + i) := by omega
      simp [hi, e]
    · simp [hi]
open Go.RowKit in
theorem SV.turn {w : World} {g n V k : Nat} (h : SV w g n V) (hk : k < 8 * n) : SV (w.setCell ⟨g, k / 8, none⟩ (.int .u8 ((byteAt n V (k / 8) ^^^ 128 / 2 ^ (k % 8) : Nat) : Int))) g n (V ^^^ 2 ^ (8 * n - 1 - k)) :=
  (SRow.set h (k / 8) (.int .u8 ((byteAt n V (k / 8) ^^^ 128 / 2 ^ (k % 8) : Nat) : Int))).congr fun j hj => by
    by_cases e : j = k / 8
    · rw [e, upd_same, byteAt_turn n V k (k / 8) hk (by omega), if_pos rfl]
    · rw [upd_other _ _ e, byteAt_turn n V k j hk hj, if_neg e]
/-- One place turned back: of the chunk, or of the parity. -/
def decStep (chunk nb deg : Nat) (s : Nat × Nat) (e : Nat) : Nat × Nat :=
  if 8 * chunk + deg - 1 - e < 8 * chunk then (s.1 ^^^ 2 ^ (8 * chunk - 1 - (8 * chunk + deg - 1 - e)), s.2)
  else (s.1, s.2 ^^^ 2 ^ (8 * nb - 1 - (8 * chunk + deg - 1 - e - 8 * chunk)))
/-- The first i places turned back. -/
def decI (chunk nb deg V P : Nat) (L : List Nat) : Nat → Nat × Nat
  | 0 => (V, P)
  | i + 1 => decStep chunk nb deg (decI chunk nb deg V P L i) (L.getD i 0)
theorem decI_lt {chunk nb deg V P : Nat} (hV : V < 2 ^ (8 * chunk)) (hP : P < 2 ^ (8 * nb)) (hc : 0 < chunk) (hn : 0 < nb) (L : List Nat) (i : Nat) : (decI chunk nb deg V P L i).1 < 2 ^ (8 * chunk) ∧ (decI chunk nb deg V P L i).2 < 2 ^ (8 * nb) := by
  induction i with
  | zero => exact ⟨hV, hP⟩
  | succ i ih =>
    show (decStep _ _ _ _ _).1 < _ ∧ (decStep _ _ _ _ _).2 < _
    unfold decStep
    split
    · exact ⟨Nat.xor_lt_two_pow ih.1 (Nat.pow_lt_pow_right (by decide) (by omega)), ih.2⟩
    · exact ⟨ih.1, Nat.xor_lt_two_pow ih.2 (Nat.pow_lt_pow_right (by decide) (by omega))⟩
end Go.Proofs.YtgfjeaegigjnaaaGreatDoor

