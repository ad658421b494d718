/- Package lz: the map of what stood where. Nothing of its keys is asked, only that its elements are places ahead of 'at'. -/
import Derived.Test.YthpdmgefdaegmaaDoorOpsG
import Derived.Maps.Keyed
import Derived.WideKeyArr
import Derived.WideKeyPair
namespace Go.Proofs.YthpdmgefdaegmaaDoor
open Go.RowKit Go.WideMaps Go.WideShapes Go.WideElems Go.Maps
set_option linter.unusedVariables false
set_option linter.unusedSimpArgs false

theorem arr3 : ArrKey Tryd.prog 79 5 3 := ⟨by kernel_rfl, by kernel_rfl, by kernel_rfl, by kernel_rfl⟩
theorem keyed3 : Keyed Tryd.prog 79 := Keyed.of_law arr3.law
theorem typesPos : decide (0 < Tryd.prog.types.size) = true := by kernel_rfl
theorem typesSome : ∃ m, Tryd.prog.types.size = m + 1 := by
  have h := of_decide_eq_true typesPos
  generalize Tryd.prog.types.size = n at h
  exact ⟨n - 1, by omega⟩
def key3 (a b c : UInt8) : Value := .agg #[byteV a, byteV b, byteV c]
theorem byte_wf (x : UInt8) : (Lit.int .u8 (x.toNat : Int)).wf = true := by
  have := x.toNat_lt
  have h1 : IntKind.u8.min = 0 := rfl
  have h2 : IntKind.u8.max = 255 := rfl
  unfold Lit.wf
  simp [h1, h2]
  omega
theorem keyOf3 (a b c : UInt8) : ∃ kl, keyOf Tryd.prog 79 (key3 a b c) = some kl := by
  have he : Tryd.prog.underlying 5 = some (.int .u8) := by kernel_rfl
  have hkt := arr3.keyType typesSome
  obtain ⟨m, hm⟩ := typesSome
  refine ⟨.string (keyBytes [.int .u8 a.toNat, .int .u8 b.toNat, .int .u8 c.toNat]), ?_⟩
  unfold keyOf key3 byteV
  simp only [arr3.hu]
  rw [if_pos (by simp [hkt, Value.formed, arr3.hu, arr3.size]), hm]
  unfold Program.keyLits
  simp only [arr3.hu, Value.cells]
  rw [if_pos (by rw [arr3.size]; rfl), show List.range 3 = [0, 1, 2] from rfl, List.mapM_cons, List.mapM_cons, List.mapM_cons, List.mapM_nil]
  simp [arr3.one, Program.keyLits, he, byte_wf]

def anyR : Value → Option (DataW Unit × List MemPlace) := fun _ => some (.nil, [])
/-- The map in block mb: its elements are places ahead of n. -/
def SeenAt (w : World) (mb n : Nat) : Prop :=
  ∃ es clock, w.heap[mb]? = some (.map es clock) ∧ Fit Tryd.prog 79 anyR es clock ∧ es.size ≤ n ∧ ∀ x ∈ es.toList, ∃ o : Nat, x.val = .int .i64 (o : Int) ∧ o < n
theorem SeenAt.keep {w w' : World} {mb n : Nat} (h : SeenAt w mb n) (hw : w'.heap[mb]? = w.heap[mb]?) : SeenAt w' mb n := by
  obtain ⟨es, cl, h1, h2⟩ := h
  exact ⟨es, cl, hw.trans h1, h2⟩

theorem pairwise_one {α β : Type} {f : α → β} : ∀ {l : List α}, l.Pairwise (fun x y => f x ≠ f y) → ∀ {a b : α}, a ∈ l → b ∈ l → f a = f b → a = b
  | [], _, _, _, h, _, _ => by cases h
  | x :: l, hp, a, b, ha, hb, he => by
    have hp1 := (List.pairwise_cons.1 hp).1
    rcases List.mem_cons.1 ha with rfl | ha2
    · rcases List.mem_cons.1 hb with rfl | hb2
      · rfl
      · exact absurd he (hp1 _ hb2)
    · rcases List.mem_cons.1 hb with rfl | hb2
      · exact absurd he.symm (hp1 _ ha2)
      · exact pairwise_one (List.pairwise_cons.1 hp).2 ha2 hb2 he
theorem seen_look {w : World} {mb n : Nat} (h : SeenAt w mb n) (a b c : UInt8) :
    ∃ v, (v = .tuple #[.int .i64 0, .bool false] ∨ ∃ o : Nat, o < n ∧ v = .tuple #[.int .i64 (o : Int), .bool true]) ∧
      ∀ w' : World, w'.heap[mb]? = w.heap[mb]? → (Instr.lookup 73 (.map (some mb)) (key3 a b c) true).run Tryd.prog w' = .ok v w' := by
  obtain ⟨es, cl, h1, h2, h3, h4⟩ := h
  obtain ⟨kl, hk⟩ := keyOf3 a b c
  have hd := ((Go.MapKept.stamped_iff es cl).1 h2.stamped).2.2
  have hl := fun (w' : World) (hw : w'.heap[mb]? = w.heap[mb]?) => fit_look true keyed3 (t := 73) (e := 3) (by kernel_rfl) (z := .int .i64 0) (w := w') (by kernel_rfl) (hw.trans h1) h2 hk
  by_cases hx : ∃ e ∈ es.toList, e.key = key3 a b c
  · obtain ⟨e1, he1, hk1⟩ := hx
    obtain ⟨o, ho, hlt⟩ := h4 e1 he1
    refine ⟨_, .inr ⟨o, hlt, rfl⟩, fun w' hw => ?_⟩
    rcases hl w' hw with ⟨_, r, _⟩ | ⟨e0, y, he0, hk0, r, _⟩
    · exact absurd hk1 (r e1 he1)
    · obtain rfl := pairwise_one hd he0 he1 (hk0.trans hk1.symm)
      rw [ho] at r
      exact r
  · refine ⟨_, .inl rfl, fun w' hw => ?_⟩
    rcases hl w' hw with ⟨r, _⟩ | ⟨e0, y, he0, hk0, r, _⟩
    · exact r
    · exact absurd ⟨e0, he0, hk0⟩ hx

theorem seen_put {w : World} {mb n : Nat} (h : SeenAt w mb n) (hn : n < maxLen) (a b c : UInt8) :
    ∃ w', (Instr.mapUpdate 73 (.map (some mb)) (key3 a b c) (.int .i64 (n : Int))).run Tryd.prog w = .ok () w' ∧ SeenAt w' mb (n + 1) ∧
      w'.heap.size = w.heap.size ∧ (∀ k, k ≠ mb → w'.heap[k]? = w.heap[k]?) ∧ w'.os = w.os ∧ w'.tape = w.tape ∧ w'.output = w.output := by
  obtain ⟨es, cl, h1, h2, h3, h4⟩ := h
  obtain ⟨kl, hk⟩ := keyOf3 a b c
  obtain ⟨es', cl', r, F, _, _, _, hmem⟩ := fit_store keyed3 (t := 73) (e := 3) (R := anyR) (R' := anyR) (by kernel_rfl) h1 h2 (by omega) (key := key3 a b c) (val := .int .i64 (n : Int)) (yv := (.nil, [])) (fun x _ _ z hz => hz) hk rfl
  refine ⟨_, r, ⟨es', cl', Go.ChangeMaps.heap_setBlock_same h1 _, F, ?_, ?_⟩, ?_, ?_, rfl, rfl, rfl⟩
  · have hes : ∀ X Y, (Instr.mapUpdate 73 (.map (some mb)) (key3 a b c) (.int .i64 (n : Int))).run Tryd.prog w = .ok () (Go.ChangeMaps.setBlock w mb (.map X Y)) → es'.size = X.size := by
      intro X Y h
      rw [r] at h
      have h5 := congrArg (fun q : Result Unit => match q with
        | .ok _ w' => w'.heap[mb]?
        | _ => none) h
      dsimp only at h5
      rw [Go.ChangeMaps.heap_setBlock_same h1, Go.ChangeMaps.heap_setBlock_same h1] at h5
      cases h5
      rfl
    have ht : Tryd.prog.underlying 73 = some (.map 79 3) := by kernel_rfl
    rcases keyed3.find w hk es.toList h2.keys with ⟨g1, g2⟩ | ⟨j, e0, g1, g2, g3⟩
    · rw [hes (es.push ⟨key3 a b c, .int .i64 (n : Int), cl⟩) (cl + 1) (by
        simp [Instr.mapUpdate, run_underlying ht, Go.MapKept.run_getObj_map h1, keyed3.check w false hk, g1, Go.MapKept.run_setObj_map _ h1, Result.andThen, Go.ChangeMaps.setBlock])]
      simp
      omega
    · have hj : es[j]? = some e0 := by simpa using g2
      rw [hes (es.modify j (fun e' => { e' with key := key3 a b c, val := .int .i64 (n : Int) })) cl (by
        simp [Instr.mapUpdate, run_underlying ht, Go.MapKept.run_getObj_map h1, keyed3.check w false hk, g1, hj, g3, keyed3.stays w hk, Go.MapKept.run_setObj_map _ h1, Result.andThen, Go.ChangeMaps.setBlock])]
      simp
      omega
  · intro x hx
    rcases hmem x hx with ⟨hx, _⟩ | ⟨_, hv⟩
    · obtain ⟨o, ho, hl⟩ := h4 x hx
      exact ⟨o, ho, by omega⟩
    · exact ⟨n, hv, by omega⟩
  · simp [Go.ChangeMaps.setBlock]
  · intro k hk
    exact Go.ChangeMaps.heap_setBlock_other h1 _ hk

end Go.Proofs.YthpdmgefdaegmaaDoor
