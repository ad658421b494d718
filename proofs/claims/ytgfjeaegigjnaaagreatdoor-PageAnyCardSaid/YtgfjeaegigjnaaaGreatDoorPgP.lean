/- Massey's theorem; what Decode answers: in plain Lean. -/
import Derived.Test.YtgfjeaegigjnaaaGreatDoorPgJ
import Derived.Test.YtgfjeaegigjnaaaGreatDoorPgN
import Derived.Test.YtgfjeaegigjnaaaGreatDoorPgO
namespace Go.Proofs.YtgfjeaegigjnaaaGreatDoor
set_option linter.unusedVariables false
set_option linter.unusedSimpArgs false

structure Fe where
  v : Nat
  lt : v < 8192
namespace Fe
theorem same {a b : Fe} (h : a.v = b.v) : a = b := by
  cases a; cases b
  simp only at h
  subst h; rfl
instance : Add Fe := ⟨fun a b => ⟨a.v ^^^ b.v, Nat.xor_lt_two_pow (n := 13) a.lt b.lt⟩⟩
instance : Mul Fe := ⟨fun a b => ⟨mulP a.v b.v, mulP_lt _ b.lt⟩⟩
instance : OfNat Fe 0 := ⟨⟨0, by decide⟩⟩
instance : OfNat Fe 1 := ⟨⟨1, by decide⟩⟩
theorem add_v (a b : Fe) : (a + b).v = a.v ^^^ b.v := rfl
theorem mul_v (a b : Fe) : (a * b).v = mulP a.v b.v := rfl
theorem zero_v : (0 : Fe).v = 0 := rfl
theorem one_v : (1 : Fe).v = 1 := rfl
theorem add_comm (a b : Fe) : a + b = b + a := same (Nat.xor_comm _ _)
theorem add_assoc (a b c : Fe) : a + b + c = a + (b + c) := same (Nat.xor_assoc _ _ _)
theorem add_lc (a b c : Fe) : a + (b + c) = b + (a + c) := by rw [← add_assoc, add_comm a b, add_assoc]
theorem add_zero (a : Fe) : a + 0 = a := same (Nat.xor_zero _)
theorem zero_add (a : Fe) : 0 + a = a := same (Nat.zero_xor _)
theorem add_self (a : Fe) : a + a = 0 := same (Nat.xor_self _)
theorem add_can {a b : Fe} (h : a + b = 0) : a = b := by
  have : a + b + b = b := by rw [h, zero_add]
  rw [add_assoc, add_self, add_zero] at this
  exact this
/-- A power of the generator. -/
def ex (i : Nat) : Fe := ⟨expN i, expN_lt i⟩
theorem ex_mul (i j : Nat) : ex i * ex j = ex (i + j) := same (mulP_exp i j)
theorem ex_zero : ex 0 = 1 := rfl
theorem ex_ne (i : Nat) : ex i ≠ 0 := fun h => by
  have h1 := exp_pos i
  have h2 := congrArg Fe.v h
  rw [zero_v] at h2
  have : (ex i).v = expN i := rfl
  omega
theorem ex_surj {a : Fe} (h : a ≠ 0) : ∃ i, a = ex i := by
  have h0 : 0 < a.v := by
    rcases Nat.eq_zero_or_pos a.v with h1 | h1
    · exact absurd (same h1) h
    · exact h1
  obtain ⟨i, _, hi⟩ := exp_surj h0 a.lt
  exact ⟨i, same hi.symm⟩
theorem zero_mul (a : Fe) : 0 * a = 0 := same (mulP_zero_left _)
theorem mul_zero (a : Fe) : a * 0 = 0 := same (mulP_zero_right _)
theorem cases0 (a : Fe) : a = 0 ∨ ∃ i, a = ex i := by
  by_cases h : a = 0
  · exact .inl h
  · exact .inr (ex_surj h)
theorem mul_comm (a b : Fe) : a * b = b * a := by
  rcases cases0 a with rfl | ⟨i, rfl⟩
  · rw [zero_mul, mul_zero]
  rcases cases0 b with rfl | ⟨j, rfl⟩
  · rw [zero_mul, mul_zero]
  rw [ex_mul, ex_mul, Nat.add_comm]
theorem mul_assoc (a b c : Fe) : a * b * c = a * (b * c) := by
  rcases cases0 a with rfl | ⟨i, rfl⟩
  · rw [zero_mul, zero_mul, zero_mul]
  rcases cases0 b with rfl | ⟨j, rfl⟩
  · rw [mul_zero, zero_mul, mul_zero]
  rcases cases0 c with rfl | ⟨k, rfl⟩
  · rw [mul_zero, mul_zero, mul_zero]
  rw [ex_mul, ex_mul, ex_mul, ex_mul, Nat.add_assoc]
theorem mul_lc (a b c : Fe) : a * (b * c) = b * (a * c) := by rw [← mul_assoc, mul_comm a b, mul_assoc]
theorem one_mul (a : Fe) : 1 * a = a := same (mulP_one _)
theorem mul_one (a : Fe) : a * 1 = a := by rw [mul_comm, one_mul]
theorem add_mul (a b c : Fe) : (a + b) * c = a * c + b * c := same (mulK_xor _ _ _ _)
theorem mul_add (a b c : Fe) : a * (b + c) = a * b + a * c := by rw [mul_comm, add_mul, mul_comm b, mul_comm c]
theorem mul_eq_zero {a b : Fe} (h : a * b = 0) : a = 0 ∨ b = 0 := by
  rcases cases0 a with h1 | ⟨i, rfl⟩
  · exact .inl h1
  rcases cases0 b with h1 | ⟨j, rfl⟩
  · exact .inr h1
  rw [ex_mul] at h
  exact absurd h (ex_ne _)
theorem one_ne : (1 : Fe) ≠ 0 := ex_ne 0
/-- A sum of n terms. -/
def sm (f : Nat → Fe) : Nat → Fe
  | 0 => 0
  | n + 1 => sm f n + f n
theorem sm_succ (f : Nat → Fe) (n : Nat) : sm f (n + 1) = sm f n + f n := rfl
theorem sm_congr {f g : Nat → Fe} {n : Nat} (h : ∀ i, i < n → f i = g i) : sm f n = sm g n := by
  induction n with
  | zero => rfl
  | succ n ih => rw [sm_succ, sm_succ, ih (fun i hi => h i (by omega)), h n (by omega)]
theorem sm_zero {f : Nat → Fe} {n : Nat} (h : ∀ i, i < n → f i = 0) : sm f n = 0 := by
  induction n with
  | zero => rfl
  | succ n ih => rw [sm_succ, ih (fun i hi => h i (by omega)), h n (by omega), add_zero]
theorem sm_add (f g : Nat → Fe) (n : Nat) : sm (fun i => f i + g i) n = sm f n + sm g n := by
  induction n with
  | zero => exact (add_zero 0).symm
  | succ n ih => rw [sm_succ, ih, sm_succ, sm_succ]; simp only [add_assoc, add_comm, add_lc]
theorem sm_mul (c : Fe) (f : Nat → Fe) (n : Nat) : sm (fun i => c * f i) n = c * sm f n := by
  induction n with
  | zero => exact (mul_zero c).symm
  | succ n ih => rw [sm_succ, ih, sm_succ, mul_add]
theorem sm_swap (f : Nat → Nat → Fe) (n m : Nat) : sm (fun i => sm (f i) m) n = sm (fun j => sm (fun i => f i j) n) m := by
  induction n with
  | zero => exact (sm_zero fun _ _ => rfl).symm
  | succ n ih => rw [sm_succ, ih, ← sm_add]; rfl
/-- Terms behind n that are 0 fall away. -/
theorem sm_more {f : Nat → Fe} {n m : Nat} (h : n ≤ m) (hz : ∀ i, n ≤ i → i < m → f i = 0) : sm f m = sm f n := by
  induction m with
  | zero => rw [show n = 0 by omega]
  | succ m ih =>
    rcases Nat.lt_or_ge n (m + 1) with h1 | h1
    · rw [sm_succ, hz m (by omega) (by omega), add_zero, ih (by omega) (fun i h2 h3 => hz i h2 (by omega))]
    · rw [show n = m + 1 by omega]
theorem sm_shift (f : Nat → Fe) (g n : Nat) : sm (fun i => if g ≤ i then f (i - g) else 0) (g + n) = sm f n := by
  induction n with
  | zero => exact sm_zero fun i hi => if_neg (by omega)
  | succ n ih =>
    rw [← Nat.add_assoc, sm_succ, ih, sm_succ, if_pos (by omega), Nat.add_sub_cancel_left]
theorem sm_first (f : Nat → Fe) (n : Nat) : sm f (n + 1) = f 0 + sm (fun i => f (i + 1)) n := by
  induction n with
  | zero => exact add_comm 0 (f 0)
  | succ n ih => rw [sm_succ, ih, sm_succ, add_assoc]
theorem sm_rev (f : Nat → Fe) (n : Nat) : sm (fun i => f (n - 1 - i)) n = sm f n := by
  induction n with
  | zero => rfl
  | succ n ih =>
    rw [sm_first, sm_succ, add_comm]
    congr 1
    rw [← ih]
    apply sm_congr
    intro i hi
    congr 1
    omega
/-- Powers. -/
def pw (a : Fe) : Nat → Fe
  | 0 => 1
  | n + 1 => pw a n * a
theorem pw_add (a : Fe) (m n : Nat) : pw a (m + n) = pw a m * pw a n := by
  induction n with
  | zero => exact (mul_one _).symm
  | succ n ih => show pw a (m + n) * a = _; rw [ih, mul_assoc]; rfl
theorem pw_ex (i n : Nat) : pw (ex i) n = ex (i * n) := by
  induction n with
  | zero => rfl
  | succ n ih => show pw (ex i) n * ex i = _; rw [ih, ex_mul]; rfl
theorem pw_zero (n : Nat) : pw 0 (n + 1) = 0 := mul_zero _
end Fe
end Go.Proofs.YtgfjeaegigjnaaaGreatDoor
namespace Go.Proofs.YtgfjeaegigjnaaaGreatDoor
set_option linter.unusedVariables false
set_option linter.unusedSimpArgs false
namespace Fe

def fe (x : Nat) : Fe := ⟨x % 8192, Nat.mod_lt _ (by decide)⟩
theorem fe_v {x : Nat} (h : x < 8192) : (fe x).v = x := Nat.mod_eq_of_lt h
theorem fe_zero : fe 0 = 0 := rfl
theorem fe_one : fe 1 = 1 := rfl
theorem fe_of (a : Fe) : fe a.v = a := same (fe_v a.lt)
theorem fe_xor {x y : Nat} (hx : x < 8192) (hy : y < 8192) : fe (x ^^^ y) = fe x + fe y := same (by
  rw [fe_v (Nat.xor_lt_two_pow (n := 13) hx hy), add_v, fe_v hx, fe_v hy])
theorem fe_mul {x y : Nat} (hx : x < 8192) (hy : y < 8192) : fe (mulP x y) = fe x * fe y := same (by
  rw [fe_v (mulP_lt _ hy), mul_v, fe_v hx, fe_v hy])
theorem fe_exp (i : Nat) : fe (expN i) = ex i := same (fe_v (expN_lt i))
theorem fe_eq {x : Nat} (hx : x < 8192) (h : fe x = 0) : x = 0 := by
  have := congrArg Fe.v h
  rw [fe_v hx] at this
  exact this
/-- The coefficients of a list. -/
def co (L : List Nat) (i : Nat) : Fe := fe (L.getD i 0)
theorem co_out {L : List Nat} {i : Nat} (h : L.length ≤ i) : co L i = 0 := by
  unfold co
  rw [List.getD_eq_getElem?_getD, List.getElem?_eq_none h]; rfl
/-- Place m of the product of two series. -/
def conv (C S : Nat → Fe) (m : Nat) : Fe := sm (fun i => C i * S (m - i)) (m + 1)
theorem assoc_conv (C D S : Nat → Fe) (n : Nat) : sm (fun i => C i * conv D S (n - i)) (n + 1) = sm (fun j => D j * conv C S (n - j)) (n + 1) := by
  have key : ∀ (C D : Nat → Fe) (i : Nat), i < n + 1 → C i * conv D S (n - i) = sm (fun j => if i + j ≤ n then C i * (D j * S (n - i - j)) else 0) (n + 1) := by
    intro C D i hi
    unfold conv
    rw [← sm_mul, sm_more (n := n - i + 1) (m := n + 1) (by omega) (fun j h1 h2 => if_neg (by omega))]
    exact sm_congr fun j hj => (if_pos (by omega)).symm
  rw [sm_congr (key C D), sm_congr (key D C), sm_swap]
  refine sm_congr fun j hj => sm_congr fun i hi => ?_
  by_cases h : i + j ≤ n
  · rw [if_pos h, if_pos (by omega), mul_lc, show n - i - j = n - j - i by omega]
  · rw [if_neg h, if_neg (by omega)]
/-- A recurrence of length L that fails first at n: whatever goes through n is longer than n - L. -/
theorem massey {C D S : Nat → Fe} {n L L' : Nat} (hC : ∀ i, L < i → C i = 0) (hD : ∀ i, L' < i → D i = 0) (hD0 : D 0 = 1)
    (gC : ∀ m, L ≤ m → m < n → conv C S m = 0) (dC : conv C S n ≠ 0) (gD : ∀ m, L' ≤ m → m ≤ n → conv D S m = 0) : n < L + L' := by
  apply Classical.byContradiction
  intro hn
  have h := assoc_conv C D S n
  rw [sm_zero (f := fun i => C i * conv D S (n - i)) (fun i hi => by
    rcases Nat.lt_or_ge L i with h1 | h1
    · show C i * _ = 0; rw [hC i h1, zero_mul]
    · show _ * conv D S (n - i) = 0; rw [gD _ (by omega) (by omega), mul_zero]), sm_first, hD0, one_mul, Nat.sub_zero,
    sm_zero (f := fun j => D (j + 1) * conv C S (n - (j + 1))) (fun j hj => by
    rcases Nat.lt_or_ge L' (j + 1) with h1 | h1
    · show D (j + 1) * _ = 0; rw [hD _ h1, zero_mul]
    · show _ * conv C S (n - (j + 1)) = 0; rw [gC _ (by omega) (by omega), mul_zero]), add_zero] at h
  exact dC h.symm
theorem conv_add (C B S : Nat → Fe) (q : Fe) (g m : Nat) : conv (fun j => C j + if g ≤ j then q * B (j - g) else 0) S m = conv C S m + if g ≤ m then q * conv B S (m - g) else 0 := by
  unfold conv
  have h1 : sm (fun i => (C i + if g ≤ i then q * B (i - g) else 0) * S (m - i)) (m + 1) = sm (fun i => C i * S (m - i) + (if g ≤ i then q * (B (i - g) * S (m - g - (i - g))) else 0)) (m + 1) := sm_congr fun i hi => by
    rw [add_mul]
    congr 1
    split
    · next h => rw [mul_assoc, show m - g - (i - g) = m - i by omega]
    · exact zero_mul _
  rw [h1, sm_add]
  congr 1
  split
  · next h =>
    have h2 := sm_shift (fun j => q * (B j * S (m - g - j))) g (m - g + 1)
    rw [show g + (m - g + 1) = m + 1 by omega, sm_mul] at h2
    exact h2
  · next h => exact sm_zero fun i hi => if_neg (by omega)
theorem conv_congr {C C' S : Nat → Fe} (h : ∀ i, C i = C' i) (m : Nat) : conv C S m = conv C' S m := sm_congr fun i _ => by rw [h]
/-- The discrepancy is a place of the product. -/
theorem disc_conv {s : Nat → Nat} (hs : ∀ i, s i < 8192) {st : BM} {n : Nat} (k : BMok st n) (sup : ∀ i, st.len < i → co st.now i = 0) (one : co st.now 0 = 1) : fe (st.disc s n) = conv (co st.now) (fun i => fe (s i)) n := by
  have h1 : ∀ i, fe (dsc s st.now n i) = fe (s n) + sm (fun j => co st.now (j + 1) * fe (s (n - (j + 1)))) i := by
    intro i
    induction i with
    | zero => exact (add_zero _).symm
    | succ i ih =>
      show fe (dsc s st.now n i ^^^ mulP (st.now.getD (i + 1) 0) (s (n - (i + 1)))) = _
      rw [fe_xor (dsc_lt hs _ _ _) (mulP_lt _ (hs _)), ih, fe_mul (k.now8 _) (hs _), sm_succ, add_assoc]; rfl
  unfold BM.disc conv
  rw [h1, sm_first, one, one_mul, Nat.sub_zero]
  congr 1
  have hk := k.len
  symm
  refine sm_more (by omega) fun i h2 h3 => ?_
  have : co st.now (i + 1) = 0 := by
    rcases Nat.lt_or_ge st.len (i + 1) with h4 | h4
    · exact sup _ h4
    · exact co_out (by omega)
  rw [this, zero_mul]
theorem quot_mul {b d : Nat} (h0 : 0 < b) (h8 : b < 8192) (hd : d < 8192) : fe (quotN b d) * fe b = fe d := by
  unfold quotN
  have hl := logN_lt b
  have hb : fe b = ex (logN b) := by rw [← fe_exp, exp_log h0 h8]
  rw [fe_mul (expN_lt _) hd, fe_exp, hb, mul_assoc, mul_comm (fe d), ← mul_assoc, ex_mul, show 8191 - logN b + logN b = 8191 by omega]
  have : ex 8191 = 1 := same exp_8191
  rw [this, one_mul]
theorem co_add {now old : List Nat} {q gap : Nat} (hn : ∀ j, now.getD j 0 < 8192) (ho : ∀ j, old.getD j 0 < 8192) (hq : q < 8192) (j : Nat) : co (addS now old q gap) j = co now j + if gap ≤ j then fe q * co old (j - gap) else 0 := by
  rcases Nat.lt_or_ge j (max now.length (old.length + gap)) with h | h
  · unfold co
    rw [addS_get _ _ _ _ _ h]
    unfold adf
    by_cases h1 : gap ≤ j
    · rw [if_pos h1]
      by_cases h2 : j < gap + old.length
      · rw [if_pos ⟨h1, h2⟩, fe_xor (hn _) (mulP_lt _ (ho _)), fe_mul hq (ho _)]
      · rw [if_neg (fun h => h2 h.2), Nat.xor_zero]
        have : old.getD (j - gap) 0 = 0 := by rw [List.getD_eq_getElem?_getD, List.getElem?_eq_none (by omega)]; rfl
        rw [this, fe_zero, mul_zero, add_zero]
    · rw [if_neg h1, if_neg (fun h => h1 h.1), Nat.xor_zero, add_zero]
  · rw [co_out (by rw [addS_length]; exact h), co_out (L := now) (by omega)]
    split
    · rw [co_out (L := old) (by omega), mul_zero, add_zero]
    · rw [add_zero]
/-- What holds of the recurrence ahead of syndrome n. -/
structure BMinv (s : Nat → Nat) (st : BM) (n LB : Nat) : Prop where
  ok : BMok st n
  sup : ∀ i, st.len < i → co st.now i = 0
  one : co st.now 0 = 1
  gen : ∀ m, st.len ≤ m → m < n → conv (co st.now) (fun i => fe (s i)) m = 0
  tot : st.len + LB + st.gap = n + 1
  supB : ∀ i, LB < i → co st.old i = 0
  genB : ∀ m, LB ≤ m → m + st.gap < n → conv (co st.old) (fun i => fe (s i)) m = 0
  lastB : st.gap ≤ n → conv (co st.old) (fun i => fe (s i)) (n - st.gap) = fe st.last
  least : ∀ (D : Nat → Fe) (l : Nat), D 0 = 1 → (∀ i, l < i → D i = 0) → (∀ m, l ≤ m → m < n → conv D (fun i => fe (s i)) m = 0) → st.len ≤ l
theorem bm_inv {s : Nat → Nat} (hs : ∀ i, s i < 8192) (n : Nat) : ∃ LB, BMinv s (bmI s n) n LB := by
  induction n with
  | zero =>
    refine ⟨0, bm_ok hs 0, fun i hi => co_out (by show 1 ≤ i; have : (bmI s 0).len = 0 := rfl; omega), rfl, fun m _ h => by omega, rfl, fun i hi => co_out (by show 1 ≤ i; omega), fun m _ h => by omega, fun h => ?_, fun _ _ _ _ _ => Nat.zero_le _⟩
    have : (bmI s 0).gap = 1 := rfl
    omega
  | succ n ih =>
    obtain ⟨LB, h⟩ := ih
    have hok := bm_ok hs (n + 1)
    have hst : bmI s (n + 1) = bmStep s (bmI s n) n := rfl
    rw [hst] at hok ⊢
    generalize bmI s n = st at h hok
    obtain ⟨ok, sup, one, gen, tot, supB, genB, lastB, least⟩ := h
    have hd := disc_conv hs ok sup one
    have hd8 : st.disc s n < 8192 := dsc_lt hs _ _ _
    have hn8 := ok.now8
    have ho8 := ok.old8
    by_cases h0 : st.disc s n = 0
    · have e : bmStep s st n = { st with gap := st.gap + 1 } := by unfold bmStep; rw [if_pos h0]
      rw [e] at hok ⊢
      rw [h0, fe_zero] at hd
      refine ⟨LB, hok, sup, one, fun m h1 h2 => ?_, by show st.len + LB + (st.gap + 1) = _; omega, supB, fun m h1 h2 => genB m h1 (by have : m + (st.gap + 1) < n + 1 := h2; omega), fun h1 => ?_, fun D l h1 h2 h3 => least D l h1 h2 (fun m h4 h5 => h3 m h4 (by omega))⟩
      · rcases Nat.lt_or_ge m n with h3 | h3
        · exact gen m h1 h3
        · rw [show m = n by omega]; exact hd.symm
      · show conv (co st.old) _ (n + 1 - (st.gap + 1)) = _
        rw [show n + 1 - (st.gap + 1) = n - st.gap by omega]
        exact lastB (by have : st.gap + 1 ≤ n + 1 := h1; omega)
    · have e : bmStep s st n = if 2 * st.len ≤ n then { now := addS st.now st.old (quotN st.last (st.disc s n)) st.gap, old := st.now, len := n + 1 - st.len, gap := 1, last := st.disc s n } else { st with now := addS st.now st.old (quotN st.last (st.disc s n)) st.gap, gap := st.gap + 1 } := by unfold bmStep; rw [if_neg h0]
      rw [e] at hok ⊢
      have hq8 : quotN st.last (st.disc s n) < 8192 := mulP_lt _ hd8
      have hqm := quot_mul ok.last0 ok.last8 hd8
      generalize quotN st.last (st.disc s n) = q at hq8 hqm hok ⊢
      have hco := co_add (gap := st.gap) hn8 ho8 hq8
      have hg1 := ok.gap1
      have hfe : fe (st.disc s n) ≠ 0 := fun h => h0 (fe_eq hd8 h)
      -- the new list: its support, its first, what it makes
      have one' : co (addS st.now st.old q st.gap) 0 = 1 := by rw [hco, if_neg (by omega), add_zero]; exact one
      have cv' : ∀ m, conv (co (addS st.now st.old q st.gap)) (fun i => fe (s i)) m = conv (co st.now) (fun i => fe (s i)) m + if st.gap ≤ m then fe q * conv (co st.old) (fun i => fe (s i)) (m - st.gap) else 0 := fun m => by
        rw [conv_congr hco, conv_add]
      have sup' : ∀ l, st.len ≤ l → n + 1 - st.len ≤ l → ∀ i, l < i → co (addS st.now st.old q st.gap) i = 0 := fun l h1 h2 i h3 => by
        rw [hco, sup i (by omega), zero_add]
        split
        · rw [supB _ (by omega), mul_zero]
        · rfl
      have gen' : ∀ l, st.len ≤ l → n + 1 - st.len ≤ l → ∀ m, l ≤ m → m < n + 1 → conv (co (addS st.now st.old q st.gap)) (fun i => fe (s i)) m = 0 := fun l h1 h2 m h3 h4 => by
        rw [cv']
        by_cases hg : st.gap ≤ n
        · rw [if_pos (by omega)]
          rcases Nat.lt_or_ge m n with h5 | h5
          · rw [gen m (by omega) h5, genB _ (by omega) (by omega), mul_zero, add_zero]
          · obtain rfl : m = n := by omega
            rw [← hd, lastB hg, hqm, add_self]
        · omega
      have len' : ∀ (D : Nat → Fe) (l : Nat), D 0 = 1 → (∀ i, l < i → D i = 0) → (∀ m, l ≤ m → m < n + 1 → conv D (fun i => fe (s i)) m = 0) → n + 1 - st.len ≤ l := fun D l h1 h2 h3 => by
        have := massey sup h2 h1 gen (by rw [← hd]; exact hfe) (fun m h4 h5 => h3 m h4 (by omega))
        omega
      have len0 : ∀ (D : Nat → Fe) (l : Nat), D 0 = 1 → (∀ i, l < i → D i = 0) → (∀ m, l ≤ m → m < n + 1 → conv D (fun i => fe (s i)) m = 0) → st.len ≤ l := fun D l h1 h2 h3 => least D l h1 h2 (fun m h4 h5 => h3 m h4 (by omega))
      have hl := ok.len
      by_cases h2n : 2 * st.len ≤ n
      · rw [if_pos h2n] at hok ⊢
        refine ⟨st.len, hok, sup' _ (by show st.len ≤ n + 1 - st.len; omega) (Nat.le_refl _), one', gen' _ (by show st.len ≤ n + 1 - st.len; omega) (Nat.le_refl _), by show n + 1 - st.len + st.len + 1 = _; omega, sup, fun m h1 h2 => gen m h1 (by have : m + 1 < n + 1 := h2; omega), fun _ => ?_, len'⟩
        show conv (co st.now) _ (n + 1 - 1) = fe (st.disc s n)
        exact hd.symm
      · rw [if_neg h2n] at hok ⊢
        refine ⟨LB, hok, sup' _ (Nat.le_refl _) (by show n + 1 - st.len ≤ st.len; omega), one', gen' _ (Nat.le_refl _) (by show n + 1 - st.len ≤ st.len; omega), by show st.len + LB + (st.gap + 1) = _; omega, supB, fun m h1 h2 => genB m h1 (by have : m + (st.gap + 1) < n + 1 := h2; omega), fun h1 => ?_, len0⟩
        show conv (co st.old) _ (n + 1 - (st.gap + 1)) = _
        rw [show n + 1 - (st.gap + 1) = n - st.gap by omega]
        exact lastB (by have : st.gap + 1 ≤ n + 1 := h1; omega)
end Fe
end Go.Proofs.YtgfjeaegigjnaaaGreatDoor
namespace Go.Proofs.YtgfjeaegigjnaaaGreatDoor
set_option linter.unusedVariables false
set_option linter.unusedSimpArgs false
namespace Fe

/-- Different points: sums of powers that are all 0 have no weights. -/
theorem vander (X : Nat → Fe) (n : Nat) (hX : ∀ i j, i < n → j < n → X i = X j → i = j) (y : Nat → Fe) (h : ∀ j, j < n → sm (fun k => pw (X k) j * y k) n = 0) : ∀ k, k < n → y k = 0 := by
  induction n generalizing y with
  | zero => intro k hk; omega
  | succ n ih =>
    have h2 : ∀ k, k < n → (X k + X n) * y k = 0 := by
      refine ih (fun i j hi hj => hX i j (by omega) (by omega)) (fun k => (X k + X n) * y k) fun j hj => ?_
      have e : sm (fun k => pw (X k) j * ((X k + X n) * y k)) (n + 1) = sm (fun k => pw (X k) (j + 1) * y k) (n + 1) + X n * sm (fun k => pw (X k) j * y k) (n + 1) := by
        rw [← sm_mul, ← sm_add]
        refine sm_congr fun k _ => ?_
        show _ = pw (X k) j * X k * y k + _
        rw [add_mul, mul_add, mul_assoc, mul_lc (X n)]
      rw [h (j + 1) (by omega), h j (by omega), mul_zero, add_zero, sm_succ, add_self, zero_mul, mul_zero, add_zero] at e
      exact e
    have h3 : ∀ k, k < n → y k = 0 := fun k hk => by
      rcases mul_eq_zero (h2 k hk) with h4 | h4
      · have := hX k n (by omega) (by omega) (add_can h4); omega
      · exact h4
    intro k hk
    rcases Nat.lt_or_ge k n with h4 | h4
    · exact h3 k h4
    · have h5 := h 0 (by omega)
      rw [sm_succ, sm_zero (fun i hi => by rw [h3 i hi, mul_zero]), zero_add] at h5
      rw [show k = n by omega, ← one_mul (y n)]
      exact h5
theorem can (a b : Fe) : a + (a + b) = b := by rw [← add_assoc, add_self, zero_add]
/-- A polynomial's value. -/
def ev (q : Nat → Fe) (d : Nat) (x : Fe) : Fe := sm (fun i => q i * pw x i) (d + 1)
theorem ev_first (q : Nat → Fe) (d : Nat) (x : Fe) : ev q (d + 1) x = q 0 + x * ev (fun i => q (i + 1)) d x := by
  unfold ev
  rw [sm_first, ← sm_mul]
  congr 1
  · exact mul_one _
  · refine sm_congr fun i _ => ?_
    show q (i + 1) * (pw x i * x) = _
    rw [mul_comm (pw x i), mul_lc]
theorem ev_div (a : Fe) (d : Nat) : ∀ q : Nat → Fe, ∃ b : Nat → Fe, (∀ x, ev q (d + 1) x = (x + a) * ev b d x + ev q (d + 1) a) ∧ b d = q (d + 1) := by
  induction d with
  | zero =>
    intro q
    refine ⟨fun _ => q 1, fun x => ?_, rfl⟩
    rw [ev_first, ev_first]
    have e : ∀ (f : Nat → Fe) (z : Fe), ev f 0 z = f 0 := fun f z => by
      show 0 + f 0 * 1 = f 0
      rw [zero_add, mul_one]
    rw [e, e, e, add_mul]
    simp only [add_assoc, add_comm, add_lc, can]
  | succ d ih =>
    intro q
    obtain ⟨b, hb, hl⟩ := ih (fun i => q (i + 1))
    refine ⟨fun i => match i with | 0 => ev (fun i => q (i + 1)) (d + 1) a | i + 1 => b i, fun x => ?_, hl⟩
    have e := ev_first (fun i => match i with | 0 => ev (fun i => q (i + 1)) (d + 1) a | i + 1 => b i) d x
    rw [ev_first q (d + 1) x, ev_first q (d + 1) a, hb x, e]
    show q 0 + x * ((x + a) * ev b d x + ev (fun i => q (i + 1)) (d + 1) a) = (x + a) * (ev (fun i => q (i + 1)) (d + 1) a + x * ev b d x) + (q 0 + a * ev (fun i => q (i + 1)) (d + 1) a)
    generalize ev (fun i => q (i + 1)) (d + 1) a = E
    generalize ev b d x = V
    rw [mul_add (x + a), add_mul x a E, mul_add, mul_lc (x + a) x V]
    simp only [add_assoc, add_comm, add_lc, can]
/-- No more roots than the degree. -/
theorem roots_le (d : Nat) : ∀ (q : Nat → Fe) (n : Nat) (X : Nat → Fe), q d ≠ 0 → (∀ i j, i < n → j < n → X i = X j → i = j) → (∀ k, k < n → ev q d (X k) = 0) → n ≤ d := by
  induction d with
  | zero =>
    intro q n X hq hX h
    rcases Nat.eq_zero_or_pos n with h0 | h0
    · omega
    · have := h 0 h0
      unfold ev at this
      rw [sm_succ] at this
      have e : sm (fun i => q i * pw (X 0) i) 0 = 0 := rfl
      rw [e, zero_add] at this
      have e2 : pw (X 0) 0 = 1 := rfl
      rw [e2, mul_one] at this
      exact absurd this hq
  | succ d ih =>
    intro q n X hq hX h
    match n with
    | 0 => omega
    | n + 1 =>
      obtain ⟨b, hb, hl⟩ := ev_div (X n) d q
      have := ih b n X (by rw [hl]; exact hq) (fun i j hi hj => hX i j (by omega) (by omega)) (fun k hk => by
        have h1 := hb (X k)
        rw [h k (by omega), h n (by omega), add_zero] at h1
        rcases mul_eq_zero h1.symm with h2 | h2
        · have := hX k n (by omega) (by omega) (add_can h2); omega
        · exact h2)
      omega
/-- A sum of n powers has a recurrence of length n. -/
theorem lam_ex (X : Nat → Fe) (n : Nat) : ∀ y : Nat → Fe, ∃ D : Nat → Fe, D 0 = 1 ∧ (∀ i, n < i → D i = 0) ∧ ∀ m, n ≤ m → conv D (fun m => sm (fun k => y k * pw (X k) m) n) m = 0 := by
  induction n with
  | zero =>
    intro y
    refine ⟨fun i => if i = 0 then 1 else 0, if_pos rfl, fun i hi => if_neg (by omega), fun m _ => sm_zero fun i _ => mul_zero _⟩
  | succ n ih =>
    intro y
    obtain ⟨D, d0, ds, dg⟩ := ih (fun k => y k * (X k + X n))
    refine ⟨fun i => D i + if 1 ≤ i then X n * D (i - 1) else 0, ?_, fun i hi => ?_, fun m hm => ?_⟩
    · show D 0 + _ = 1
      rw [if_neg (by omega), d0, add_zero]
    · show D i + _ = 0
      rw [ds i (by omega), if_pos (by omega), ds (i - 1) (by omega), mul_zero, add_zero]
    · rw [conv_add, if_pos (by omega)]
      obtain ⟨p, rfl⟩ : ∃ p, m = p + 1 := ⟨m - 1, by omega⟩
      rw [Nat.add_sub_cancel]
      have h := dg p (by omega)
      unfold conv at h ⊢
      rw [sm_succ, ds (p + 1) (by omega), zero_mul, add_zero, ← sm_mul, ← sm_add, ← h]
      refine sm_congr fun i hi => ?_
      rw [mul_lc, ← mul_add]
      congr 1
      rw [show p + 1 - i = (p - i) + 1 by omega, ← sm_mul, ← sm_add, sm_succ]
      have e0 : y n * pw (X n) (p - i + 1) + X n * (y n * pw (X n) (p - i)) = 0 := by
        show y n * (pw (X n) (p - i) * X n) + _ = 0
        rw [mul_comm (pw (X n) (p - i)), mul_lc (y n), add_self]
      rw [e0, add_zero]
      refine sm_congr fun k _ => ?_
      show y k * (pw (X k) (p - i) * X k) + X n * (y k * pw (X k) (p - i)) = y k * (X k + X n) * pw (X k) (p - i)
      rw [mul_assoc, add_mul, mul_add, mul_comm (pw (X k) (p - i)), mul_lc (X n)]
/-- The list, turned round: at X. -/
def qev (L : List Nat) (d : Nat) (x : Fe) : Fe := sm (fun i => co L i * pw x (d - i)) (d + 1)
theorem qev_ev (L : List Nat) (d : Nat) (x : Fe) : qev L d x = ev (fun i => co L (d - i)) d x := by
  unfold qev ev
  rw [← sm_rev]
  refine sm_congr fun i hi => ?_
  show co L (d + 1 - 1 - i) * pw x (d - (d + 1 - 1 - i)) = _
  rw [show d + 1 - 1 - i = d - i by omega, show d - (d - i) = i by omega]
/-- What Berlekamp and Massey make of a sum of powers. -/
theorem bm_powers {s : Nat → Nat} (hs : ∀ i, s i < 8192) (X : Nat → Fe) (n t : Nat) (hn : n ≤ t) (hX : ∀ i j, i < n → j < n → X i = X j → i = j) (hX0 : ∀ k, k < n → X k ≠ 0)
    (h : ∀ m, m < 2 * t → fe (s m) = sm (fun k => pw (X k) (m + 1)) n) :
    (bmI s (2 * t)).len = n ∧ co (bmI s (2 * t)).now n ≠ 0 ∧ (∀ i, n < i → co (bmI s (2 * t)).now i = 0) ∧ (∀ k, k < n → qev (bmI s (2 * t)).now n (X k) = 0) ∧ (∀ x, qev (bmI s (2 * t)).now n x = 0 → ∃ k, k < n ∧ x = X k) := by
  obtain ⟨LB, k⟩ := bm_inv hs (2 * t)
  generalize bmI s (2 * t) = st at k ⊢
  obtain ⟨D, d0, ds, dg⟩ := lam_ex X n X
  have hcv : ∀ C : Nat → Fe, ∀ m, m < 2 * t → conv C (fun i => fe (s i)) m = conv C (fun m => sm (fun k => X k * pw (X k) m) n) m := fun C m hm => sm_congr fun i hi => by
    show C i * fe (s (m - i)) = C i * _
    rw [h (m - i) (by omega)]
    congr 1
    exact sm_congr fun k _ => mul_comm (pw (X k) (m - i)) (X k)
  have hle : st.len ≤ n := k.least D n d0 ds (fun m h1 h2 => by rw [hcv D m h2]; exact dg m h1)
  have hQ : ∀ i, i < n → X i * qev st.now st.len (X i) = 0 := by
    refine vander X n hX (fun i => X i * qev st.now st.len (X i)) fun j hj => ?_
    have h1 := k.gen (st.len + j) (by omega) (by omega)
    rw [hcv _ _ (by omega)] at h1
    unfold conv at h1
    rw [sm_more (n := st.len + 1) (by omega) (fun i h2 h3 => by rw [k.sup i (by omega), zero_mul])] at h1
    rw [← h1]
    have e : ∀ i, i < st.len + 1 → co st.now i * sm (fun k => X k * pw (X k) (st.len + j - i)) n = sm (fun k => co st.now i * (X k * pw (X k) (st.len + j - i))) n := fun i _ => (sm_mul _ _ _).symm
    rw [sm_congr e, sm_swap]
    refine sm_congr fun i _ => ?_
    unfold qev
    rw [← sm_mul, ← sm_mul]
    refine sm_congr fun l hl => ?_
    rw [show st.len + j - l = j + (st.len - l) by omega, pw_add, mul_lc (X i) (co st.now l), mul_lc (pw (X i) j), mul_lc (pw (X i) j)]
  have hQ0 : ∀ i, i < n → qev st.now st.len (X i) = 0 := fun i hi => by
    rcases mul_eq_zero (hQ i hi) with h1 | h1
    · exact absurd h1 (hX0 i hi)
    · exact h1
  have hlead : (fun i => co st.now (st.len - i)) st.len ≠ 0 := by
    show co st.now (st.len - st.len) ≠ 0
    rw [Nat.sub_self, k.one]; exact one_ne
  have hge : n ≤ st.len := roots_le st.len _ n X hlead hX (fun i hi => by rw [← qev_ev]; exact hQ0 i hi)
  have hlen : st.len = n := by omega
  rw [hlen] at hQ0 hlead
  have hall : ∀ x, qev st.now n x = 0 → ∃ k, k < n ∧ x = X k := fun x hx => by
    apply Classical.byContradiction
    intro hno
    have := roots_le n _ (n + 1) (fun i => if i < n then X i else x) hlead (fun i j hi hj hij => by
      rcases Nat.lt_or_ge i n with h1 | h1
      · rcases Nat.lt_or_ge j n with h2 | h2
        · simp only [if_pos h1, if_pos h2] at hij
          exact hX i j h1 h2 hij
        · simp only [if_pos h1, if_neg (show ¬ j < n by omega)] at hij
          exact absurd ⟨i, h1, hij.symm⟩ hno
      · rcases Nat.lt_or_ge j n with h2 | h2
        · simp only [if_pos h2, if_neg (show ¬ i < n by omega)] at hij
          exact absurd ⟨j, h2, hij⟩ hno
        · omega) (fun i hi => by
      rw [← qev_ev]
      split
      · next h1 => exact hQ0 i h1
      · exact hx)
    omega
  refine ⟨hlen, fun h0 => ?_, fun i hi => k.sup i (by omega), hQ0, hall⟩
  have hz : qev st.now n 0 = 0 := by
    unfold qev
    refine sm_zero fun i hi => ?_
    rcases Nat.lt_or_ge i n with h1 | h1
    · rw [show n - i = (n - i - 1) + 1 by omega, pw_zero, mul_zero]
    · rw [show i = n by omega, h0, zero_mul]
  obtain ⟨i, hi, h1⟩ := hall 0 hz
  exact hX0 i hi h1.symm
end Fe
end Go.Proofs.YtgfjeaegigjnaaaGreatDoor
namespace Go.Proofs.YtgfjeaegigjnaaaGreatDoor
set_option linter.unusedVariables false
set_option linter.unusedSimpArgs false
namespace Fe

/-- The first n bits of W, at the power k. -/
def evF (W k n : Nat) : Fe := sm (fun i => if W.testBit i then ex (k * i) else 0) n
theorem evF_xor (A B k n : Nat) : evF (A ^^^ B) k n = evF A k n + evF B k n := by
  unfold evF
  rw [← sm_add]
  refine sm_congr fun i _ => ?_
  rw [Nat.testBit_xor]
  cases A.testBit i <;> cases B.testBit i <;> simp [add_zero, zero_add, add_self]
theorem evF_zero (k n : Nat) : evF 0 k n = 0 := sm_zero fun i _ => by simp
theorem evF_more {A k n m : Nat} (h : A < 2 ^ n) (hm : n ≤ m) : evF A k m = evF A k n := sm_more hm fun i h1 _ => by rw [bit_none h h1]; rfl
theorem evF_shl (G j k n : Nat) : evF (G <<< j) k (j + n) = ex (k * j) * evF G k n := by
  unfold evF
  rw [← sm_mul, ← sm_shift (fun i => ex (k * j) * if G.testBit i then ex (k * i) else 0) j n]
  refine sm_congr fun i _ => ?_
  rw [Nat.testBit_shiftLeft]
  by_cases h : j ≤ i
  · rw [if_pos h]
    simp only [ge_iff_le, h, decide_true, Bool.true_and]
    split
    · rw [ex_mul, ← Nat.mul_add, show j + (i - j) = i by omega]
    · rw [mul_zero]
  · rw [if_neg h]
    simp [h]
/-- From the top, bit by bit. -/
def hor (G k n : Nat) : Nat → Nat
  | 0 => 0
  | i + 1 => stepN k (hor G k n i) ^^^ (if G.testBit (n - 1 - i) then 1 else 0)
theorem hor_lt (G k n i : Nat) : hor G k n i < 8192 := by
  cases i with
  | zero => exact (by decide : 0 < 8192)
  | succ i =>
    refine Nat.xor_lt_two_pow (n := 13) (stepN_lt k ?_) (by split <;> decide)
    induction i with
    | zero => exact (by decide : 0 < 8192)
    | succ i ih => exact Nat.xor_lt_two_pow (n := 13) (stepN_lt k ih) (by split <;> decide)
theorem fe_stepN {x : Nat} (k : Nat) (hx : x < 8192) : fe (stepN k x) = ex k * fe x := by
  rcases Nat.eq_zero_or_pos x with rfl | h
  · rw [stepN_zero, fe_zero, mul_zero]
  · obtain ⟨i, _, rfl⟩ := exp_surj h hx
    rw [stepN_exp, fe_exp, fe_exp, ex_mul]
theorem hor_ev (G k n i : Nat) (hi : i ≤ n) : fe (hor G k n i) = evF (G >>> (n - i)) k i := by
  induction i with
  | zero => rfl
  | succ i ih =>
    show fe (stepN k (hor G k n i) ^^^ _) = _
    rw [fe_xor (stepN_lt k (hor_lt _ _ _ _)) (by split <;> decide), fe_stepN k (hor_lt _ _ _ _), ih (by omega)]
    unfold evF
    rw [sm_first, add_comm, ← sm_mul]
    congr 1
    · rw [Nat.testBit_shiftRight, show n - (i + 1) + 0 = n - 1 - i by omega]
      split
      · rfl
      · rfl
    · refine sm_congr fun j _ => ?_
      rw [Nat.testBit_shiftRight, Nat.testBit_shiftRight, show n - (i + 1) + (j + 1) = n - i + j by omega]
      split
      · rw [ex_mul, Nat.mul_add, Nat.mul_one, Nat.add_comm k]
      · rw [mul_zero]
/-- The generator has its roots: decided. -/
theorem gen_roots {t k : Nat} (ht1 : 1 ≤ t) (ht8 : t ≤ 8) (hk1 : 1 ≤ k) (hk : k ≤ 2 * t) : evF (genA t) k (13 * t + 1) = 0 := by
  have key : ∀ t, t < 9 → ∀ k, k < 17 → 1 ≤ t → 1 ≤ k → k ≤ 2 * t → hor (genA t) k (13 * t + 1) (13 * t + 1) = 0 := by decide +kernel
  have h := hor_ev (genA t) k (13 * t + 1) (13 * t + 1) (Nat.le_refl _)
  rw [key t (by omega) k (by omega) ht1 hk1 hk, Nat.sub_self, Nat.shiftRight_zero] at h
  exact h.symm
/-- The rest of a division has the same values at the generator's roots. -/
theorem evF_doc {G d k : Nat} (hG : G < 2 ^ (d + 1)) (h0 : evF G k (d + 1) = 0) (T B i : Nat) (hi : i + d ≤ T) : evF (docI G d T B i) k T = evF B k T := by
  induction i with
  | zero => rfl
  | succ i ih =>
    show evF (if _ then _ else _) k T = _
    split
    · rw [evF_xor, ih (by omega)]
      have h1 : evF (G <<< (T - 1 - d - i)) k T = 0 := by
        have := evF_shl G (T - 1 - d - i) k (d + 1 + i)
        rw [show T - 1 - d - i + (d + 1 + i) = T by omega, evF_more hG (by omega), h0, mul_zero] at this
        exact this
      rw [h1, add_zero]
    · exact ih (by omega)
/-- The syndromes of a register are the values of what stands ahead of the spare bits. -/
theorem syn_ev {nb d s : Nat} (hn : 8 * nb = d + s) (V k : Nat) : fe (syn V nb d k d) = evF (V >>> s) (k + 1) d := by
  have h : ∀ i, fe (syn V nb d k i) = sm (fun i => if V.testBit (8 * nb - 1 - i) then ex ((k + 1) * (d - 1 - i)) else 0) i := by
    intro i
    induction i with
    | zero => rfl
    | succ i ih =>
      show fe (_ ^^^ _) = _
      rw [fe_xor (syn_lt _ _ _ _ _) (by split <;> first | exact expN_lt _ | decide), ih, sm_succ]
      congr 1
      split
      · exact fe_exp _
      · rfl
  rw [h]
  unfold evF
  rw [← sm_rev (fun i => if (V >>> s).testBit i then ex ((k + 1) * i) else 0) d]
  refine sm_congr fun i hi => ?_
  show _ = if (V >>> s).testBit (d - 1 - i) then _ else _
  rw [Nat.testBit_shiftRight, show 8 * nb - 1 - i = s + (d - 1 - i) by omega]
/-- Squares. -/
theorem add_sq (a b : Fe) : (a + b) * (a + b) = a * a + b * b := by
  rw [add_mul, mul_add, mul_add, mul_comm b a]
  simp only [add_assoc, add_comm, add_lc, can]
theorem evF_sq (W k n : Nat) : evF W (2 * k) n = evF W k n * evF W k n := by
  unfold evF
  induction n with
  | zero => exact (mul_zero 0).symm
  | succ n ih =>
    rw [sm_succ, sm_succ, add_sq, ih]
    congr 1
    split
    · rw [ex_mul]; congr 1; rw [Nat.mul_assoc, Nat.two_mul]
    · rw [mul_zero]
theorem evF_pow {W k n : Nat} (h : evF W k n = 0) (j : Nat) : evF W (k * 2 ^ j) n = 0 := by
  induction j with
  | zero => rw [Nat.pow_zero, Nat.mul_one]; exact h
  | succ j ih => rw [Nat.pow_succ, show k * (2 ^ j * 2) = 2 * (k * 2 ^ j) by rw [Nat.mul_comm 2, Nat.mul_assoc], evF_sq, ih, mul_zero]
/-- The places: k odd below 16, doubled up to 12 times. -/
def plc (i : Nat) : Nat := (2 * (i / 13) + 1) * 2 ^ (i % 13) % 8191
theorem plc_inj : ∀ i, i < 104 → ∀ j, j < 104 → plc i = plc j → i = j := by decide +kernel
theorem ex_mod (i : Nat) : ex (i % 8191) = ex i := same (exp_mod i)
theorem ex_inj {i j : Nat} (hi : i < 8191) (hj : j < 8191) (h : ex i = ex j) : i = j := exp_inj hi hj (congrArg Fe.v h)
/-- What is shorter than the generator and has its roots is 0. -/
theorem evF_none {t R : Nat} (ht8 : t ≤ 8) (hR : R < 2 ^ (13 * t)) (h : ∀ k, 1 ≤ k → k ≤ 2 * t → evF R k (13 * t) = 0) : R = 0 := by
  apply Classical.byContradiction
  intro h0
  have hl := Nat.testBit_log2 h0
  have hd : R.log2 < 13 * t := by
    rcases Nat.lt_or_ge R.log2 (13 * t) with h1 | h1
    · exact h1
    · rw [bit_none hR h1] at hl; cases hl
  have hR2 : R < 2 ^ (R.log2 + 1) := Nat.lt_log2_self
  have := roots_le R.log2 (fun i => if R.testBit i then 1 else 0) (13 * t) (fun i => ex (plc i)) (by simp only [hl, if_true]; exact one_ne) (fun i j hi hj hij => plc_inj i (by omega) j (by omega) (ex_inj (Nat.mod_lt _ (by decide)) (Nat.mod_lt _ (by decide)) hij)) (fun i hi => by
    have h1 := evF_pow (h (2 * (i / 13) + 1) (by omega) (by omega)) (i % 13)
    rw [evF_more hR2 (by omega)] at h1
    refine Eq.trans ?_ h1
    unfold ev evF
    refine sm_congr fun j _ => ?_
    show (if R.testBit j then 1 else 0) * pw (ex (plc i)) j = _
    have e : ex (plc i) = ex ((2 * (i / 13) + 1) * 2 ^ (i % 13)) := ex_mod _
    split
    · rw [one_mul, e, pw_ex]
    · rw [zero_mul])
  omega
end Fe
end Go.Proofs.YtgfjeaegigjnaaaGreatDoor
namespace Go.Proofs.YtgfjeaegigjnaaaGreatDoor
set_option linter.unusedVariables false
set_option linter.unusedSimpArgs false

/-- The register of a chunk's number. -/
def regV (t chunk V : Nat) : Nat := regI (parN t) (lowN t) V (8 * chunk) (8 * chunk)
noncomputable def locR (t W : Nat) : List Nat := trimL (bmI (fun k => syn W (parN t) (13 * t) k (13 * t)) (2 * t)).now 20
noncomputable def decR (t chunk V P : Nat) : Option (Nat × Nat × Nat) :=
  if clB (regV t chunk V ^^^ noSpare (spare t) P) (parN t) (13 * t) (2 * t) = true then some (V, noSpare (spare t) P, 0)
  else if t < (locR t (regV t chunk V ^^^ noSpare (spare t) P)).length - 1 ∨ (rootsI (locR t (regV t chunk V ^^^ noSpare (spare t) P)) (8 * chunk + 13 * t)).length ≠ (locR t (regV t chunk V ^^^ noSpare (spare t) P)).length - 1 then none
  else if regV t chunk (decI chunk (parN t) (13 * t) V (noSpare (spare t) P) (rootsI (locR t (regV t chunk V ^^^ noSpare (spare t) P)) (8 * chunk + 13 * t)) (rootsI (locR t (regV t chunk V ^^^ noSpare (spare t) P)) (8 * chunk + 13 * t)).length).1 = (decI chunk (parN t) (13 * t) V (noSpare (spare t) P) (rootsI (locR t (regV t chunk V ^^^ noSpare (spare t) P)) (8 * chunk + 13 * t)) (rootsI (locR t (regV t chunk V ^^^ noSpare (spare t) P)) (8 * chunk + 13 * t)).length).2
    then some ((decI chunk (parN t) (13 * t) V (noSpare (spare t) P) (rootsI (locR t (regV t chunk V ^^^ noSpare (spare t) P)) (8 * chunk + 13 * t)) (rootsI (locR t (regV t chunk V ^^^ noSpare (spare t) P)) (8 * chunk + 13 * t)).length).1, (decI chunk (parN t) (13 * t) V (noSpare (spare t) P) (rootsI (locR t (regV t chunk V ^^^ noSpare (spare t) P)) (8 * chunk + 13 * t)) (rootsI (locR t (regV t chunk V ^^^ noSpare (spare t) P)) (8 * chunk + 13 * t)).length).2, (rootsI (locR t (regV t chunk V ^^^ noSpare (spare t) P)) (8 * chunk + 13 * t)).length)
    else none
/-- Chunk and parity as one word, without the spare bits. -/
def wordN (d s V P : Nat) : Nat := (V <<< d) ^^^ (P >>> s)
theorem shr_pow (s e : Nat) : (2 ^ (s + e)) >>> s = 2 ^ e := by
  rw [Nat.shiftRight_eq_div_pow, Nat.pow_add, Nat.mul_comm, Nat.mul_div_cancel _ (Nat.two_pow_pos _)]
theorem shl_shr (x s : Nat) : (x <<< s) >>> s = x := by
  rw [Nat.shiftLeft_eq, Nat.shiftRight_eq_div_pow, Nat.mul_div_cancel _ (Nat.two_pow_pos _)]
theorem shr_lt {P n s d : Nat} (h : P < 2 ^ n) (hn : n = d + s) : P >>> s < 2 ^ d := by
  rw [Nat.shiftRight_eq_div_pow]
  apply Nat.div_lt_of_lt_mul
  rw [← Nat.pow_add, Nat.add_comm, ← hn]; exact h
theorem noSpare_shr (s P : Nat) : noSpare s P >>> s = P >>> s := shl_shr _ _
theorem word_lt {d s V P M nb : Nat} (hn : 8 * nb = d + s) (hV : V < 2 ^ M) (hP : P < 2 ^ (8 * nb)) : wordN d s V P < 2 ^ (M + d) :=
  Nat.xor_lt_two_pow (shl_lt hV (Nat.le_refl _)) (Nat.lt_of_lt_of_le (shr_lt hP hn) (Nat.pow_le_pow_right (by decide) (by omega)))
theorem word_step {chunk nb d s e : Nat} (hn : 8 * nb = d + s) (he : e < 8 * chunk + d) (z : Nat × Nat) : wordN d s (decStep chunk nb d z e).1 (decStep chunk nb d z e).2 = wordN d s z.1 z.2 ^^^ 2 ^ e := by
  unfold decStep wordN
  split
  · next h =>
    show (z.1 ^^^ _) <<< d ^^^ z.2 >>> s = _
    rw [Nat.shiftLeft_xor_distrib, show 8 * chunk - 1 - (8 * chunk + d - 1 - e) = e - d by omega, Nat.shiftLeft_eq (2 ^ (e - d)), ← Nat.pow_add, show e - d + d = e by omega, Nat.xor_assoc, Nat.xor_comm (2 ^ e), ← Nat.xor_assoc]
  · next h =>
    show z.1 <<< d ^^^ (z.2 ^^^ _) >>> s = _
    rw [Nat.shiftRight_xor_distrib, show 8 * nb - 1 - (8 * chunk + d - 1 - e - 8 * chunk) = s + e by omega, shr_pow, Nat.xor_assoc]
theorem spare_step {chunk nb d s e : Nat} (hn : 8 * nb = d + s) (he : e < 8 * chunk + d) (z : Nat × Nat) (h : noSpare s z.2 = z.2) : noSpare s (decStep chunk nb d z e).2 = (decStep chunk nb d z e).2 := by
  unfold decStep
  split
  · exact h
  · next h1 =>
    show noSpare s (z.2 ^^^ _) = z.2 ^^^ _
    rw [show 8 * nb - 1 - (8 * chunk + d - 1 - e - 8 * chunk) = s + e by omega]
    apply Nat.eq_of_testBit_eq
    intro i
    have h2 := congrArg (fun x => x.testBit i) h
    simp only [noSpare_bit] at h2
    rw [noSpare_bit, Nat.testBit_xor, Nat.testBit_two_pow, ← h2]
    by_cases h3 : s ≤ i
    · simp [h3]
    · have : ¬ (s + e = i) := by omega
      simp [h3, this]
/-- The sum of the first i powers of two of a list. -/
def xorI (L : List Nat) : Nat → Nat
  | 0 => 0
  | i + 1 => xorI L i ^^^ 2 ^ (L.getD i 0)
theorem getD_lt {L : List Nat} {n i : Nat} (h : ∀ x ∈ L, x < n) (hi : i < L.length) : L.getD i 0 < n := by
  rw [List.getD_eq_getElem?_getD, List.getElem?_eq_getElem hi]
  exact h _ (List.getElem_mem hi)
theorem word_dec {chunk nb d s V P : Nat} (hn : 8 * nb = d + s) {L : List Nat} (hL : ∀ x ∈ L, x < 8 * chunk + d) (i : Nat) (hi : i ≤ L.length) : wordN d s (decI chunk nb d V P L i).1 (decI chunk nb d V P L i).2 = wordN d s V P ^^^ xorI L i := by
  induction i with
  | zero => exact (Nat.xor_zero _).symm
  | succ i ih =>
    show wordN d s (decStep _ _ _ _ _).1 (decStep _ _ _ _ _).2 = _
    rw [word_step hn (getD_lt hL (by omega)), ih (by omega), Nat.xor_assoc]; rfl
theorem spare_dec {chunk nb d s V P : Nat} (hn : 8 * nb = d + s) {L : List Nat} (hL : ∀ x ∈ L, x < 8 * chunk + d) (h : noSpare s P = P) (i : Nat) (hi : i ≤ L.length) : noSpare s (decI chunk nb d V P L i).2 = (decI chunk nb d V P L i).2 := by
  induction i with
  | zero => exact h
  | succ i ih => exact spare_step hn (getD_lt hL (by omega)) _ (ih (by omega))
theorem xorI_bit {L : List Nat} (hL : L.Nodup) (i : Nat) (hi : i ≤ L.length) (e : Nat) : (xorI L i).testBit e = decide (e ∈ L.take i) := by
  induction i with
  | zero => simp [xorI]
  | succ i ih =>
    have hl : i < L.length := by omega
    have hg : L.getD i 0 = L[i] := by rw [List.getD_eq_getElem?_getD, List.getElem?_eq_getElem hl]; rfl
    have ht : L.take (i + 1) = L.take i ++ [L[i]] := by rw [List.take_add_one, List.getElem?_eq_getElem hl]; rfl
    show (xorI L i ^^^ _).testBit e = _
    have hm : (e ∈ L.take (i + 1)) ↔ (e ∈ L.take i ∨ e = L[i]) := by rw [ht, List.mem_append, List.mem_singleton]
    have hm2 : decide (e ∈ L.take (i + 1)) = (decide (e ∈ L.take i) || decide (e = L[i])) := by
      rw [Bool.eq_iff_iff]
      simp only [decide_eq_true_eq, Bool.or_eq_true]
      exact hm
    rw [Nat.testBit_xor, ih (by omega), Nat.testBit_two_pow, hg, hm2]
    have hnd : (L.take i ++ [L[i]]).Nodup := by
      rw [← ht]; exact List.Nodup.sublist (List.take_sublist _ _) hL
    by_cases h1 : L[i] = e
    · subst h1
      have : L[i] ∉ L.take i := fun hm => by
        have := (List.nodup_append.1 hnd).2.2 _ hm L[i] (by simp)
        exact this rfl
      simp [this]
    · have h2 : ¬ e = L[i] := fun h => h1 h.symm
      simp [h1, h2]
theorem xorI_all {L : List Nat} (hL : L.Nodup) (e : Nat) : (xorI L L.length).testBit e = decide (e ∈ L) := by
  rw [xorI_bit hL _ (Nat.le_refl _), List.take_of_length_le (Nat.le_refl _)]
theorem xorI_same {L M : List Nat} (hL : L.Nodup) (hM : M.Nodup) (h : ∀ x, x ∈ L ↔ x ∈ M) : xorI L L.length = xorI M M.length := by
  apply Nat.eq_of_testBit_eq
  intro e
  rw [xorI_all hL, xorI_all hM]
  exact decide_eq_decide.2 (h e)
theorem nodup_le {A : List Nat} (hA : A.Nodup) : ∀ {B : List Nat}, (∀ x ∈ A, x ∈ B) → A.length ≤ B.length := by
  induction A with
  | nil => intro B _; exact Nat.zero_le _
  | cons a A ih =>
    intro B h
    have ha : a ∈ B := h a (by simp)
    have hn := List.nodup_cons.1 hA
    have := ih hn.2 (B := B.erase a) (fun x hx => by
      refine (List.mem_erase_of_ne ?_).2 (h x (by simp [hx]))
      intro e; subst e; exact hn.1 hx)
    rw [List.length_erase_of_mem ha] at this
    have hp : 0 < B.length := List.length_pos_of_mem ha
    rw [List.length_cons]
    omega
/-- Two words that are alike: chunk and parity are alike. -/
theorem word_inj {d s V P V' P' nb : Nat} (hn : 8 * nb = d + s) (hP : P < 2 ^ (8 * nb)) (hP' : P' < 2 ^ (8 * nb)) (h : wordN d s V P = wordN d s V' P') : V = V' ∧ noSpare s P = noSpare s P' := by
  have b1 := shr_lt hP hn
  have b2 := shr_lt hP' hn
  unfold wordN at h
  have hb : ∀ i, (V <<< d ^^^ P >>> s).testBit i = (V' <<< d ^^^ P' >>> s).testBit i := fun i => by rw [h]
  constructor
  · apply Nat.eq_of_testBit_eq
    intro i
    have := hb (d + i)
    rw [Nat.testBit_xor, Nat.testBit_xor, bit_none b1 (by omega), bit_none b2 (by omega), Nat.testBit_shiftLeft, Nat.testBit_shiftLeft, Nat.add_sub_cancel_left] at this
    simpa using this
  · unfold noSpare
    congr 1
    apply Nat.eq_of_testBit_eq
    intro i
    rcases Nat.lt_or_ge i d with h1 | h1
    · have := hb i
      rw [Nat.testBit_xor, Nat.testBit_xor, Nat.testBit_shiftLeft, Nat.testBit_shiftLeft] at this
      have h2 : ¬ (i ≥ d) := by omega
      simpa [h2] using this
    · rw [bit_none b1 h1, bit_none b2 h1]
theorem clB_iff (V nb d k : Nat) : clB V nb d k = true ↔ ∀ i, i < k → syn V nb d i d = 0 := by
  induction k with
  | zero => exact ⟨fun _ i hi => by omega, fun _ => rfl⟩
  | succ k ih =>
    show (clB V nb d k && (syn V nb d k d == 0)) = true ↔ _
    rw [Bool.and_eq_true, ih, beq_iff_eq]
    constructor
    · rintro ⟨h1, h2⟩ i hi
      rcases Nat.lt_or_ge i k with h3 | h3
      · exact h1 i h3
      · rw [show i = k by omega]; exact h2
    · exact fun h => ⟨fun i hi => h i (by omega), h k (by omega)⟩
/-- The register is the rest of the division, over the spare bits. -/
theorem regV_rest {t : Nat} (ht1 : 1 ≤ t) (ht8 : t ≤ 8) (chunk V : Nat) (hV : V < 2 ^ (8 * chunk)) : docI (genA t) (13 * t) (8 * chunk + 13 * t) (V <<< (13 * t)) (8 * chunk) < 2 ^ (13 * t) ∧ regV t chunk V = docI (genA t) (13 * t) (8 * chunk + 13 * t) (V <<< (13 * t)) (8 * chunk) <<< spare t :=
  div_end (n := parN t) (s := spare t) (d := 13 * t) (G := genA t) (M := 8 * chunk) (par_spare t) (by omega) (by rw [← gen_log (show t < 9 by omega)]; exact Nat.lt_log2_self) (by rw [← gen_log (show t < 9 by omega)]; exact Nat.testBit_log2 (gen_ne (by omega))) V hV
theorem regV_lt {t : Nat} (ht1 : 1 ≤ t) (ht8 : t ≤ 8) (chunk V : Nat) (hV : V < 2 ^ (8 * chunk)) : regV t chunk V < 2 ^ (8 * parN t) := by
  obtain ⟨h1, h2⟩ := regV_rest ht1 ht8 chunk V hV
  rw [h2]; exact rest_lt h1
theorem regV_spare {t : Nat} (ht1 : 1 ≤ t) (ht8 : t ≤ 8) (chunk V : Nat) (hV : V < 2 ^ (8 * chunk)) : noSpare (spare t) (regV t chunk V) = regV t chunk V := by
  obtain ⟨h1, h2⟩ := regV_rest ht1 ht8 chunk V hV
  rw [h2]; unfold noSpare; rw [shl_shr]
open Fe in
theorem syn_word {t : Nat} (ht1 : 1 ≤ t) (ht8 : t ≤ 8) {chunk V P : Nat} (hV : V < 2 ^ (8 * chunk)) (hP : P < 2 ^ (8 * parN t)) (k : Nat) (hk : k < 2 * t) : fe (syn (regV t chunk V ^^^ noSpare (spare t) P) (parN t) (13 * t) k (13 * t)) = evF (wordN (13 * t) (spare t) V P) (k + 1) (8 * chunk + 13 * t) := by
  obtain ⟨h1, h2⟩ := regV_rest ht1 ht8 chunk V hV
  have hps := par_spare t
  have hG : genA t < 2 ^ (13 * t + 1) := by rw [← gen_log (show t < 9 by omega)]; exact Nat.lt_log2_self
  have hd := evF_doc hG (gen_roots ht1 ht8 (show 1 ≤ k + 1 by omega) (by omega)) (8 * chunk + 13 * t) (V <<< (13 * t)) (8 * chunk) (Nat.le_refl _)
  rw [syn_ev hps, h2, Nat.shiftRight_xor_distrib, shl_shr, noSpare_shr, evF_xor]
  unfold wordN
  rw [evF_xor, ← hd]
  congr 1
  · exact (evF_more h1 (by omega)).symm
  · exact (evF_more (shr_lt hP hps) (by omega)).symm
end Go.Proofs.YtgfjeaegigjnaaaGreatDoor
namespace Go.Proofs.YtgfjeaegigjnaaaGreatDoor
set_option linter.unusedVariables false
set_option linter.unusedSimpArgs false
open Fe

theorem trimL_spec (L : List Nat) (f : Nat) : (∀ j, (trimL L f).getD j 0 = L.getD j 0) ∧ (trimL L f).length ≤ L.length ∧ (1 ≤ L.length → 1 ≤ (trimL L f).length) ∧ (L.length ≤ f + 1 → (trimL L f).length ≤ 1 ∨ (trimL L f).getD ((trimL L f).length - 1) 0 ≠ 0) := by
  induction f generalizing L with
  | zero => exact ⟨fun _ => rfl, Nat.le_refl _, id, fun h => .inl h⟩
  | succ f ih =>
    by_cases h : 1 < L.length ∧ L.getD (L.length - 1) 0 = 0
    · rw [trimL_step h.1 h.2]
      have hl : (L.take (L.length - 1)).length = L.length - 1 := by rw [List.length_take]; omega
      obtain ⟨h1, h2, h3, h4⟩ := ih (L.take (L.length - 1))
      refine ⟨fun j => ?_, by omega, fun _ => h3 (by omega), fun h5 => h4 (by omega)⟩
      rw [h1, List.getD_eq_getElem?_getD, List.getD_eq_getElem?_getD]
      rcases Nat.lt_or_ge j (L.length - 1) with h5 | h5
      · rw [List.getElem?_take_of_lt h5]
      · rw [List.getElem?_eq_none (by omega)]
        rcases Nat.lt_or_ge j L.length with h6 | h6
        · have h7 := h.2
          rw [List.getD_eq_getElem?_getD, show L.length - 1 = j by omega] at h7
          exact h7.symm
        · rw [List.getElem?_eq_none h6]
    · rw [trimL_stop _ h]
      refine ⟨fun _ => rfl, Nat.le_refl _, id, fun _ => ?_⟩
      by_cases h1 : 1 < L.length
      · exact .inr fun h2 => h ⟨h1, h2⟩
      · exact .inl (by omega)
/-- The value that is sought is 0 where the polynomial has a root. -/
theorem chien_ev {L : List Nat} (h8 : ∀ j, L.getD j 0 < 8192) (n e i : Nat) (hi : i ≤ n + 1) : fe (chien L e i) * ex (e * n) = sm (fun j => co L j * ex (e * (n - j))) i := by
  induction i with
  | zero => exact zero_mul _
  | succ i ih =>
    rw [sm_succ, ← ih (by omega)]
    rw [show chien L e (i + 1) = (if L.getD i 0 = 0 then chien L e i else chien L e i ^^^ expN (chE (L.getD i 0) i e)) from rfl]
    by_cases h0 : L.getD i 0 = 0
    · rw [if_pos h0]
      have : co L i = 0 := by unfold co; rw [h0]; rfl
      rw [this, zero_mul, add_zero]
    · rw [if_neg h0, fe_xor (chien_lt _ _ _) (expN_lt _), fe_exp, add_mul]
      congr 1
      have hx := h8 i
      have hexp : ex (chE (L.getD i 0) i e + i * e) = co L i := by
        have h1 := chE_eq (L.getD i 0) i e
        have h2 := logN_lt (L.getD i 0)
        have h3 : (chE (L.getD i 0) i e + i * e) % 8191 = logN (L.getD i 0) := by
          have h4 : ((i * e : Nat) : Int) = (i : Int) * (e : Int) := Int.natCast_mul _ _
          rw [← h4] at h1
          generalize i * e = q at h1 ⊢
          omega
        rw [← ex_mod, h3]
        exact same (by
          show expN (logN _) = (fe _).v
          rw [fe_v hx]
          exact exp_log (by omega) hx)
      rw [show e * n = i * e + e * (n - i) by rw [Nat.mul_comm i, ← Nat.mul_add]; congr 1; omega, ← hexp, ex_mul, ex_mul]
      congr 1
      omega
theorem chien_root {L : List Nat} (h8 : ∀ j, L.getD j 0 < 8192) (n e : Nat) (hl : L.length = n + 1) : chien L e L.length = 0 ↔ qev L n (ex e) = 0 := by
  have h := chien_ev h8 n e (n + 1) (Nat.le_refl _)
  have hq : qev L n (ex e) = sm (fun j => co L j * ex (e * (n - j))) (n + 1) := sm_congr fun i _ => by rw [pw_ex]
  rw [hl, hq, ← h]
  constructor
  · intro h0; rw [h0, fe_zero, zero_mul]
  · intro h0
    rcases mul_eq_zero h0 with h1 | h1
    · exact fe_eq (chien_lt _ _ _) h1
    · exact absurd h1 (ex_ne _)
/-- The places found are the roots, if these are few enough. -/
theorem rootsI_mem {L es : List Nat} {n : Nat} (h : ∀ e, e < n → (chien L e L.length = 0 ↔ e ∈ es)) (hl : es.length < L.length) (e : Nat) (he : e ≤ n) : ∀ x, x ∈ rootsI L e ↔ (x < e ∧ x ∈ es) := by
  induction e with
  | zero => intro x; simp [rootsI]
  | succ e ih =>
    have ih := ih (by omega)
    have hlen : (rootsI L e).length ≤ es.length := nodup_le (rootsI_nodup L e) (fun x hx => ((ih x).1 hx).2)
    intro x
    unfold rootsI
    by_cases hc : chien L e L.length = 0
    · rw [if_pos ⟨by omega, hc⟩, List.mem_append, ih x, List.mem_singleton]
      have := (h e (by omega)).1 hc
      constructor
      · rintro (⟨h1, h2⟩ | rfl)
        · exact ⟨by omega, h2⟩
        · exact ⟨by omega, this⟩
      · rintro ⟨h1, h2⟩
        by_cases h3 : x = e
        · exact .inr h3
        · exact .inl ⟨by omega, h2⟩
    · rw [if_neg (fun h => hc h.2), ih x]
      constructor
      · rintro ⟨h1, h2⟩; exact ⟨by omega, h2⟩
      · rintro ⟨h1, h2⟩
        refine ⟨?_, h2⟩
        by_cases h3 : x = e
        · subst h3; exact absurd ((h x (by omega)).2 h2) hc
        · omega
theorem evF_pow2 (e k n : Nat) (he : e < n) : evF (2 ^ e) k n = ex (k * e) := by
  unfold evF
  have h1 : ∀ i, (if (2 ^ e).testBit i then ex (k * i) else 0) = if e = i then ex (k * i) else 0 := fun i => by
    rw [Nat.testBit_two_pow]
    by_cases h : e = i <;> simp [h]
  rw [sm_congr (fun i _ => h1 i), sm_more (n := e + 1) (by omega) (fun i h2 _ => if_neg (by omega)), sm_succ, sm_zero (fun i hi => if_neg (by omega)), zero_add, if_pos rfl]
theorem evF_list {L : List Nat} {n : Nat} (hL : ∀ x ∈ L, x < n) (k i : Nat) (hi : i ≤ L.length) : evF (xorI L i) k n = sm (fun j => ex (k * L.getD j 0)) i := by
  induction i with
  | zero => exact evF_zero _ _
  | succ i ih =>
    show evF (xorI L i ^^^ _) k n = _
    rw [evF_xor, ih (by omega), evF_pow2 _ _ _ (getD_lt hL (by omega)), sm_succ]
theorem nodup_getD {L : List Nat} (h : L.Nodup) {i j : Nat} (hi : i < L.length) (hj : j < L.length) (e : L.getD i 0 = L.getD j 0) : i = j := by
  rw [List.getD_eq_getElem?_getD, List.getD_eq_getElem?_getD, List.getElem?_eq_getElem hi, List.getElem?_eq_getElem hj] at e
  have e : L[i] = L[j] := e
  have hp := List.pairwise_iff_getElem.1 h
  rcases Nat.lt_trichotomy i j with h1 | h1 | h1
  · exact absurd e (hp i j hi hj h1)
  · exact h1
  · exact absurd e.symm (hp j i hj hi h1)
theorem mem_getD {L : List Nat} {x : Nat} : x ∈ L ↔ ∃ i, i < L.length ∧ L.getD i 0 = x := by
  constructor
  · intro h
    obtain ⟨i, hi, rfl⟩ := List.getElem_of_mem h
    exact ⟨i, hi, by rw [List.getD_eq_getElem?_getD, List.getElem?_eq_getElem hi]; rfl⟩
  · rintro ⟨i, hi, rfl⟩
    rw [List.getD_eq_getElem?_getD, List.getElem?_eq_getElem hi]
    exact List.getElem_mem hi
/-- A code word's values are 0. -/
theorem code_ev {t : Nat} (ht1 : 1 ≤ t) (ht8 : t ≤ 8) {chunk V : Nat} (hV : V < 2 ^ (8 * chunk)) (k : Nat) (hk : k < 2 * t) : evF (wordN (13 * t) (spare t) V (regV t chunk V)) (k + 1) (8 * chunk + 13 * t) = 0 := by
  have h := syn_word ht1 ht8 hV (regV_lt ht1 ht8 chunk V hV) k hk
  rw [regV_spare ht1 ht8 chunk V hV, Nat.xor_self, syn_zero, fe_zero] at h
  exact h.symm
/-- Whatever is answered is a code word, as far as it says. -/
theorem decR_word {t : Nat} (ht1 : 1 ≤ t) (ht8 : t ≤ 8) {chunk V P V' P' k : Nat} (hc : 0 < chunk) (hV : V < 2 ^ (8 * chunk)) (hP : P < 2 ^ (8 * parN t)) (h : decR t chunk V P = some (V', P', k)) :
    V' < 2 ^ (8 * chunk) ∧ P' = regV t chunk V' ∧ k ≤ t ∧ ∃ es : List Nat, es.Nodup ∧ (∀ x ∈ es, x < 8 * chunk + 13 * t) ∧ es.length = k ∧ wordN (13 * t) (spare t) V' P' = wordN (13 * t) (spare t) V P ^^^ xorI es es.length := by
  have hps := par_spare t
  have hpp := par_pos ht1
  have hnP : noSpare (spare t) P < 2 ^ (8 * parN t) := by
    rw [hps]
    exact shl_lt (shr_lt hP hps) (Nat.le_refl _)
  have hnn : noSpare (spare t) (noSpare (spare t) P) = noSpare (spare t) P := by
    unfold noSpare; rw [shl_shr]
  unfold decR at h
  split at h
  · next hcl =>
    obtain ⟨rfl, rfl, rfl⟩ : V = V' ∧ noSpare (spare t) P = P' ∧ 0 = k := by
      have := Option.some.inj h
      exact ⟨congrArg (·.1) this, congrArg (·.2.1) this, congrArg (·.2.2) this⟩
    rw [clB_iff] at hcl
    obtain ⟨r1, r2⟩ := regV_rest ht1 ht8 chunk V hV
    have h0 := evF_none ht8 (R := docI (genA t) (13 * t) (8 * chunk + 13 * t) (V <<< (13 * t)) (8 * chunk) ^^^ (P >>> spare t)) (Nat.xor_lt_two_pow r1 (shr_lt hP hps)) (fun k hk1 hk => by
      have h1 := hcl (k - 1) (by omega)
      have h2 := syn_ev hps (regV t chunk V ^^^ noSpare (spare t) P) (k - 1)
      rw [h1, fe_zero, r2, Nat.shiftRight_xor_distrib, shl_shr, noSpare_shr, show k - 1 + 1 = k by omega] at h2
      exact h2.symm)
    have h1 : docI (genA t) (13 * t) (8 * chunk + 13 * t) (V <<< (13 * t)) (8 * chunk) = P >>> spare t := by
      have := congrArg (fun x => x ^^^ (P >>> spare t)) h0
      simp only [Nat.xor_assoc, Nat.xor_self, Nat.xor_zero, Nat.zero_xor] at this
      exact this
    refine ⟨hV, ?_, Nat.zero_le _, [], List.nodup_nil, by simp, rfl, ?_⟩
    · rw [r2, h1]; rfl
    · show wordN _ _ V (noSpare _ P) = _ ^^^ 0
      unfold wordN
      rw [noSpare_shr, Nat.xor_zero]
  · split at h
    · cases h
    · next hcl hlen =>
      split at h
      · next hre =>
        have hnd := rootsI_nodup (locR t (regV t chunk V ^^^ noSpare (spare t) P)) (8 * chunk + 13 * t)
        have hlt := rootsI_lt (locR t (regV t chunk V ^^^ noSpare (spare t) P)) (8 * chunk + 13 * t)
        obtain ⟨l1, l2⟩ := not_or.1 hlen
        generalize rootsI (locR t (regV t chunk V ^^^ noSpare (spare t) P)) (8 * chunk + 13 * t) = r at *
        obtain ⟨rfl, rfl, rfl⟩ : (decI chunk (parN t) (13 * t) V (noSpare (spare t) P) r r.length).1 = V' ∧ (decI chunk (parN t) (13 * t) V (noSpare (spare t) P) r r.length).2 = P' ∧ r.length = k := by
          have := Option.some.inj h
          exact ⟨congrArg (·.1) this, congrArg (·.2.1) this, congrArg (·.2.2) this⟩
        refine ⟨(decI_lt hV hnP hc hpp _ _).1, hre.symm, by omega, r, hnd, hlt, rfl, ?_⟩
        rw [word_dec hps hlt _ (Nat.le_refl _)]
        unfold wordN
        rw [noSpare_shr]
      · cases h
/-- Up to t turned bits are put right. -/
theorem decR_right {t : Nat} (ht1 : 1 ≤ t) (ht8 : t ≤ 8) {chunk V : Nat} (hc0 : 0 < chunk) (hc : chunk ≤ 256) (hV : V < 2 ^ (8 * chunk)) {es : List Nat} (hes : es.Nodup) (hlt : ∀ x ∈ es, x < 8 * chunk + 13 * t) (hle : es.length ≤ t)
    (V' P' : Nat) (hV' : V' < 2 ^ (8 * chunk)) (hP' : P' < 2 ^ (8 * parN t)) (hW : wordN (13 * t) (spare t) V' P' = wordN (13 * t) (spare t) V (regV t chunk V) ^^^ xorI es es.length) : decR t chunk V' P' = some (V, regV t chunk V, es.length) := by
  have hps := par_spare t
  have hpp := par_pos ht1
  have hE : ∀ k, k < 2 * t → fe (syn (regV t chunk V' ^^^ noSpare (spare t) P') (parN t) (13 * t) k (13 * t)) = sm (fun j => ex ((k + 1) * es.getD j 0)) es.length := fun k hk => by
    rw [syn_word ht1 ht8 hV' hP' k hk, hW, evF_xor, code_ev ht1 ht8 hV k hk, zero_add, evF_list hlt _ _ (Nat.le_refl _)]
  have hnP : noSpare (spare t) P' < 2 ^ (8 * parN t) := by
    rw [hps]
    exact shl_lt (shr_lt hP' hps) (Nat.le_refl _)
  have hregs := regV_spare ht1 ht8 chunk V hV
  have hregl := regV_lt ht1 ht8 chunk V hV
  have hNW : wordN (13 * t) (spare t) V' (noSpare (spare t) P') = wordN (13 * t) (spare t) V (regV t chunk V) ^^^ xorI es es.length := by
    rw [← hW]; unfold wordN; rw [noSpare_shr]
  have hnn : noSpare (spare t) (noSpare (spare t) P') = noSpare (spare t) P' := by
    unfold noSpare; rw [shl_shr]
  unfold decR
  generalize hwd : regV t chunk V' ^^^ noSpare (spare t) P' = W at hE ⊢
  rcases Nat.eq_zero_or_pos es.length with h0 | h0
  · have hcl : clB W (parN t) (13 * t) (2 * t) = true := (clB_iff _ _ _ _).2 fun k hk => by
      have h1 := hE k hk
      rw [h0] at h1
      exact fe_eq (syn_lt _ _ _ _ _) h1
    rw [if_pos hcl, h0]
    rw [h0] at hNW
    obtain ⟨e1, e2⟩ := word_inj hps hnP hregl (by rw [hNW]; exact Nat.xor_zero _)
    rw [hnn, hregs] at e2
    rw [e1, e2]
  · have hX : ∀ i j, i < es.length → j < es.length → ex (es.getD i 0) = ex (es.getD j 0) → i = j := fun i j hi hj h => nodup_getD hes hi hj (ex_inj (by have := getD_lt hlt hi; omega) (by have := getD_lt hlt hj; omega) h)
    have hpw : ∀ m, m < 2 * t → fe (syn W (parN t) (13 * t) m (13 * t)) = sm (fun k => pw (ex (es.getD k 0)) (m + 1)) es.length := fun m hm => by
      rw [hE m hm]
      exact sm_congr fun i _ => by rw [pw_ex, Nat.mul_comm]
    obtain ⟨b1, b2, b3, b4, b5⟩ := bm_powers (s := fun k => syn W (parN t) (13 * t) k (13 * t)) (fun i => syn_lt _ _ _ _ _) (fun k => ex (es.getD k 0)) es.length t hle hX (fun _ _ => ex_ne _) hpw
    have hok := bm_ok (s := fun k => syn W (parN t) (13 * t) k (13 * t)) (fun i => syn_lt _ _ _ _ _) (2 * t)
    have hcl : ¬ clB W (parN t) (13 * t) (2 * t) = true := fun h1 => by
      rw [clB_iff] at h1
      have h2 : ∀ k, k < es.length → ex (es.getD k 0) = 0 := vander (fun k => ex (es.getD k 0)) es.length hX (fun k => ex (es.getD k 0)) fun j hj => by
        have h3 := hpw j (by omega)
        rw [h1 j (by omega)] at h3
        exact h3.symm
      exact ex_ne _ (h2 0 h0)
    rw [if_neg hcl]
    have hloc : locR t W = trimL (bmI (fun k => syn W (parN t) (13 * t) k (13 * t)) (2 * t)).now 20 := rfl
    generalize bmI (fun k => syn W (parN t) (13 * t) k (13 * t)) (2 * t) = st at b1 b2 b3 b4 b5 hok hloc
    obtain ⟨t1, t2, t3, t4⟩ := trimL_spec st.now 20
    rw [← hloc] at t1 t2 t3 t4
    generalize locR t W = l at t1 t2 t3 t4 ⊢
    have hco : ∀ j, co l j = co st.now j := fun j => by unfold co; rw [t1]
    have hgt : es.length < l.length := by
      rcases Nat.lt_or_ge es.length l.length with h1 | h1
      · exact h1
      · exact absurd ((hco _).symm.trans (co_out h1)) b2
    have hnl := hok.nowl
    have hll : l.length = es.length + 1 := by
      rcases t4 (by omega) with h1 | h1
      · omega
      · rcases Nat.lt_or_ge (es.length + 1) l.length with h2 | h2
        · have h3 := b3 (l.length - 1) (by omega)
          rw [← hco] at h3
          exact absurd (fe_eq (by rw [t1]; exact hok.now8 _) h3) h1
        · omega
    have hqev : ∀ x, qev l es.length x = qev st.now es.length x := fun x => sm_congr fun i _ => by rw [hco]
    have hroot : ∀ e, e < 8 * chunk + 13 * t → (chien l e l.length = 0 ↔ e ∈ es) := fun e he => by
      rw [chien_root (fun j => by rw [t1]; exact hok.now8 j) es.length e hll, hqev, mem_getD]
      constructor
      · intro h1
        obtain ⟨k, hk, h2⟩ := b5 _ h1
        exact ⟨k, hk, (ex_inj (by omega) (by have := getD_lt hlt hk; omega) h2).symm⟩
      · rintro ⟨k, hk, rfl⟩
        exact b4 k hk
    have hmem := rootsI_mem hroot hgt (8 * chunk + 13 * t) (Nat.le_refl _)
    have hnd := rootsI_nodup l (8 * chunk + 13 * t)
    have hrl := rootsI_lt l (8 * chunk + 13 * t)
    generalize rootsI l (8 * chunk + 13 * t) = r at hmem hnd hrl ⊢
    have hmem' : ∀ x, x ∈ r ↔ x ∈ es := fun x => (hmem x).trans ⟨fun h => h.2, fun h => ⟨hlt x h, h⟩⟩
    have hlen : r.length = es.length := by
      have h1 := nodup_le hnd (fun x hx => (hmem' x).1 hx)
      have h2 := nodup_le hes (fun x hx => (hmem' x).2 hx)
      omega
    rw [if_neg (by omega)]
    have hdec := word_dec (V := V') (P := noSpare (spare t) P') hps hrl r.length (Nat.le_refl _)
    have hspd := spare_dec (V := V') (P := noSpare (spare t) P') hps hrl hnn r.length (Nat.le_refl _)
    rw [hNW, xorI_same hnd hes hmem', Nat.xor_assoc, Nat.xor_self, Nat.xor_zero] at hdec
    · have hdl := decI_lt (deg := 13 * t) hV' hnP hc0 hpp r r.length
      obtain ⟨e1, e2⟩ := word_inj hps hdl.2 hregl hdec
      rw [hspd, hregs] at e2
      rw [e1, e2, if_pos rfl, hlen]
end Go.Proofs.YtgfjeaegigjnaaaGreatDoor

