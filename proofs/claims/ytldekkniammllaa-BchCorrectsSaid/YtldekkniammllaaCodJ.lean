/- clean: a parity without its spare bits. -/
import Derived.Test.YtldekkniammllaaCodI
namespace Go.Proofs.Ytldekkniammllaa
open Go.RowKit
set_option linter.unusedVariables false
set_option linter.unusedSimpArgs false

theorem spare_and (b s : Nat) (hb : b < 256) (hs : s < 8) : b &&& (((255 <<< s) % 256)) = (b >>> s) <<< s := by
  apply Nat.eq_of_testBit_eq
  intro t
  rw [Nat.testBit_and, show (256 : Nat) = 2 ^ 8 from rfl, Nat.testBit_mod_two_pow, Nat.testBit_shiftLeft, Nat.testBit_shiftLeft, Nat.testBit_shiftRight]
  have h255 : ∀ k, (255 : Nat).testBit k = decide (k < 8) := by
    intro k
    have := Nat.testBit_two_pow_sub_one 8 k
    exact this
  rw [h255]
  by_cases h : t ≥ s
  · by_cases h8 : t < 8
    · have e1 : s + (t - s) = t := by omega
      have e2 : t - s < 8 := by omega
      simp [h, h8, e1, e2]
    · have e1 : s + (t - s) = t := by omega
      have : b.testBit t = false := bit_none (show b < 2 ^ 8 from hb) (by omega)
      simp [h8, e1, this]
  · simp [h]
theorem byte_spare {n s V : Nat} (hs : s < 8) (hn : 0 < n) (j : Nat) (hj : j < n) : byteAt n (noSpare s V) j = if j = n - 1 then (byteAt n V j >>> s) <<< s else byteAt n V j := by
  apply Nat.eq_of_testBit_eq
  intro t
  rw [byteAt_bit, noSpare_bit]
  split
  · next h =>
    rw [Nat.testBit_shiftLeft, Nat.testBit_shiftRight, byteAt_bit]
    have e1 : 8 * (n - 1 - j) + t = t := by omega
    rw [e1]
    by_cases h2 : s ≤ t
    · have e2 : s + (t - s) = t := by omega
      rw [e2, e1]
      by_cases h3 : t < 8
      · simp [h2, h3]
      · simp [h2, h3]
    · simp [h2]
  · next h =>
    rw [byteAt_bit]
    have e1 : s ≤ 8 * (n - 1 - j) + t := by omega
    simp [e1]

def CleanQ (t : Nat) (s : ByteArray) (w : World) (e : Ending) (w' : World) : Prop := ∃ cap, e = .returned (.slice (some ⟨w.heap.size, 0, none⟩) (parN t) cap) ∧ SV w' w.heap.size (parN t) (noSpare (spare t) (numB s.data.toList)) ∧ Below w.heap.size w w'
set_option maxHeartbeats 3200000 in
theorem clean_any (c t : Nat) (s : ByteArray) (w : World) (ht1 : 1 ≤ t) (ht8 : t ≤ 8) (h11 : w.cell? ⟨c, 11, none⟩ = some (.int .i64 ((13 * t : Nat) : Int))) (hs : s.size = parN t) :
    Calls Try.prog 23 #[.pointer (some ⟨c, 0, none⟩), .string s] w (CleanQ t s w) := by
  have hps := par_spare t
  have hpp := par_pos ht1
  have hpl := par_le ht8
  have hcv := conv_str s w
  have hrow := bytes_row w s
  have hbw := below_bytes w s
  have lc := World.block_lt_of_cell? _ _ h11
  have lc : c < w.heap.size := lc
  rw [hs] at hcv hrow
  have hsz := Lib.bytesWorld_size w 5 s
  generalize Lib.bytesWorld w 5 s = w1 at *
  generalize grownCap w s.size 0 5 = cap at *
  generalize grownCap w (parN t) 0 5 = cap2 at *
  have h11' : w1.cell? ⟨c, 11, none⟩ = some (.int .i64 ((13 * t : Nat) : Int)) := (hbw.cell (p := ⟨c, 11, none⟩) lc).trans h11
  obtain ⟨d, hd⟩ : ∃ d, d = 13 * t := ⟨_, rfl⟩
  obtain ⟨nb, hnb⟩ : ∃ nb, nb = parN t := ⟨_, rfl⟩
  obtain ⟨sp, hsp⟩ : ∃ sp, sp = spare t := ⟨_, rfl⟩
  obtain ⟨V, hV⟩ : ∃ V, V = numB s.data.toList := ⟨_, rfl⟩
  obtain ⟨g, hg⟩ : ∃ g, g = w.heap.size := ⟨_, rfl⟩
  rw [← hd] at h11' hps
  rw [← hnb] at hcv hrow hps hpp hpl
  rw [← hsp] at hps
  rw [← hV] at hrow
  rw [← hg] at hcv hrow
  have hsz' : g < w1.heap.size := by omega
  have hQ : ∀ e w', (∃ cap, e = .returned (.slice (some ⟨g, 0, none⟩) nb cap) ∧ SV w' g nb (noSpare sp V) ∧ Below g w w') → CleanQ t s w e w' := by
    intro e w' h
    rw [hg, hnb, hsp, hV] at h
    exact h
  have HQ := Lib.hid hQ
  have hbw' : Below g w w1 := by rw [hg]; exact hbw
  have HD := Lib.hid hd
  have HG := Lib.hid hg
  have hdd : d ≤ 104 := by omega
  have hsp8 : sp < 8 := by rw [hsp]; unfold spare parN; omega
  have hr : d % 8 = (8 - sp) % 8 := by omega
  have HROW := Lib.hid hrow
  have HBW := Lib.hid hbw'
  clear hd hnb hsp hV hg hrow hbw hbw' h11 hs hsz hQ
  by_cases h0 : sp = 0
  · have hri : (d : Int) % 8 = 0 := by omega
    have H0 := Lib.hid h0
    clear h0 hr
    go_enter Try.func23, Try.ntmps23
    go_wp2_with fail
    go_ret
    refine HQ.out _ _ ⟨_, rfl, ?_, HBW.out⟩
    rw [H0.out]
    unfold noSpare
    simpa using HROW.out
  · have hri : (d : Int) % 8 = ((8 - sp : Nat) : Int) := by omega
    obtain ⟨r, hre⟩ : ∃ r, r = 8 - sp := ⟨_, rfl⟩
    rw [← hre] at hri
    have hr0 : 0 < r := by omega
    have hr8 : r < 8 := by omega
    have hspi : (8 : Int) - (r : Int) = (sp : Int) := by omega
    obtain ⟨q, hq⟩ : ∃ q, q = nb - 1 := ⟨_, rfl⟩
    have hqi : (nb : Int) - 1 = (q : Int) := by omega
    have hqn : q < nb := by omega
    have hqnI : (q : Int) < (nb : Int) := by omega
    have hcq := HROW.out.cell q hqn
    have hfq := HROW.out.free q hqn
    have hbb := byteAt_lt nb V q
    have hset : ∀ j, j < nb → byteAt nb (noSpare sp V) j = if j = q then (byteAt nb V q >>> sp) <<< sp else byteAt nb V j := fun j hj => by
      rw [byte_spare hsp8 hpp j hj, hq]
      split <;> rename_i hjq
      · rw [hjq]
      · rfl
    obtain ⟨y, hy⟩ : ∃ y, y = byteAt nb V q := ⟨_, rfl⟩
    rw [← hy] at hcq hbb hset
    have hand := and_u8 y ((255 <<< sp) % 256) hbb (Nat.mod_lt _ (by decide))
    rw [spare_and y sp hbb hsp8] at hand
    have hwr : (((255 <<< sp) % 256 : Nat) : Int) = 255 * 2 ^ sp % 256 := by
      have h2 : ((2 ^ sp : Nat) : Int) = (2 : Int) ^ sp := by simp
      rw [← h2, Nat.shiftLeft_eq]
      generalize 2 ^ sp = z
      omega
    rw [hwr] at hand
    obtain ⟨z, hz⟩ : ∃ z, z = (y >>> sp) <<< sp := ⟨_, rfl⟩
    rw [← hz] at hand hset
    have hst : SV (w1.setCell ⟨g, q, none⟩ (.int .u8 ((z : Nat) : Int))).drew g nb (noSpare sp V) := by
      refine ((SRow.set HROW.out q _).congr fun j hj => ?_).drew
      rw [hset j hj]
      by_cases e : j = q
      · subst e; rw [upd_same, if_pos rfl]
      · rw [upd_other _ _ e, if_neg e]
    have HST := Lib.hid hst
    clear h0 hr hre hq hset hy hwr hz hst
    go_enter Try.func23, Try.ntmps23
    go_wp2_with fail
    go_region
    go_wp2_with fail
    go_ret
    exact HQ.out _ _ ⟨_, rfl, HST.out, Below.drew (HBW.out.setCell (by exact Nat.le_refl _) _)⟩
end Go.Proofs.Ytldekkniammllaa
