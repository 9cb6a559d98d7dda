/- sample: the table of a chain. -/
import Derived.Test.YtmilljlkcbljpaaGr
import Derived.Test.YtmilljlkcbljpaaQw
namespace Go.Proofs.Ytmilljlkcbljpaa
open Go.RowKit Go.Sort

theorem Try.info3 : (Try.prog.info? 28).map (fun i => (i.zero, i.size, i.bytes)) = some (some (.agg #[.int .i64 0, .int .i64 0, .int .i64 0]), 3, 24) := by kernel_rfl

/-- The place of a grid point. -/
theorem place {m k : Nat} (hm : 2 ≤ m) (hk : k < m * m * m) : k / (m * m) < m ∧ k / m % m < m ∧ k % m < m :=
  ⟨Nat.div_lt_of_lt_mul (by rw [Nat.mul_assoc] at hk ⊢; exact hk), Nat.mod_lt _ (by omega), Nat.mod_lt _ (by omega)⟩
theorem crd_0 (m k : Nat) : crd m k 0 = argV (k / (m * m)) m := rfl
theorem crd_1 (m k : Nat) : crd m k 1 = argV (k / m % m) m := rfl
theorem crd_2 (m k : Nat) : crd m k 2 = argV (k % m) m := rfl

/-- The boxes of sample: the size, the result, the grid. -/
theorem sample_new (w : World) (m : Int) (t t' : TypeId) : ∃ w0, ((w.alloc (.cells #[.int .i64 m] t)).alloc (.cells #[.int .i64 0, .slice none 0 0] t')).alloc (.cells #[.int .i64 m, .slice none 0 0] t') = w0 ∧
    Below w.heap.size w w0 ∧ w0.heap.size = w.heap.size + 3 ∧ One t w0 w.heap.size (.int .i64 m) ∧ Two t' w0 (w.heap.size + 1) (.int .i64 0) (.slice none 0 0) ∧ Two t' w0 (w.heap.size + 1 + 1) (.int .i64 m) (.slice none 0 0) := by
  refine ⟨_, rfl, (((Below.refl _ w).alloc (Nat.le_refl _) _).alloc (by simp) _).alloc (by simp <;> omega) _, by simp, ((One.new w _ t).alloc _).alloc _, ?_, ?_⟩
  · have h := Two.new (w.alloc (.cells #[.int .i64 m] t)) (.int .i64 0) (.slice none 0 0) t'
    rw [World.size_alloc] at h
    exact h.alloc _
  · have h := Two.new ((w.alloc (.cells #[.int .i64 m] t)).alloc (.cells #[.int .i64 0, .slice none 0 0] t')) (.int .i64 m) (.slice none 0 0) t'
    simp only [World.size_alloc] at h
    exact h

theorem cube_bd {m : Nat} (hm : 2 ≤ m) (hm' : m ≤ 17) : 8 ≤ m * m * m ∧ m * m * m ≤ 4913 ∧ 4 ≤ m * m ∧ m * m ≤ 289 := by
  have h1 : 2 * 2 ≤ m * m := Nat.mul_le_mul hm hm
  have h2 : m * m ≤ 17 * 17 := Nat.mul_le_mul hm' hm'
  have h3 : 2 * 2 * 2 ≤ m * m * m := Nat.mul_le_mul h1 hm
  have h4 : m * m * m ≤ 17 * 17 * 17 := Nat.mul_le_mul h2 hm'
  omega

theorem build_run (parts : Array (Nat × Value)) (w : World) : (∃ v o, (Instr.buildSlice 29 1 parts).run Try.prog w = .ok v (w.alloc o)) ∨ ∃ h, (Instr.buildSlice 29 1 parts).run Try.prog w = .halt h w := by
  have hu := run_underlying (P := Try.prog) Try.underlying29
  have hs : ∀ w, (sizeOf 28).run Try.prog w = .ok 3 w := fun w => by kernel_rfl
  have hz : ∀ w, (zeroValue 28).run Try.prog w = .ok (.agg #[.int .i64 0, .int .i64 0, .int .i64 0]) w := fun w => by kernel_rfl
  unfold Instr.buildSlice
  simp [Sem.run_bind, hu, hs, hz]
  generalize Instr.fill _ _ parts.toList = r
  cases r with
  | none => exact .inr ⟨_, by simp [go_sem]; rfl⟩
  | some cs => exact .inl ⟨_, _, by simp [go_sem]; exact ⟨rfl, rfl⟩⟩

set_option maxRecDepth 100000 in
/-- buildSlice keeps what was there. -/
theorem build_mid {ops : Array Oper} {Q : Exit → Act → World → Prop} {W : World} {j : Nat} {o : Oper} {parts : Array (Nat × Operand)} (hj : ops[j]? = some o) (ho : o.op = .buildSlice 29 1 parts) (a : Act) (w : World)
    (hC : ∃ p : Regrown, w = grow (redrawn W p.d) p.os) (K : Act → World → Prop) (h : wpOp Try.prog ops Q j K a w) : wpOp Try.prog ops Q j (fun a' w' => (∃ p : Regrown, w' = grow (redrawn W p.d) p.os) ∧ K a' w') a w := by
  unfold wpOp at *
  simp only [hj] at *
  split
  · rename_i hw
    simp only [hw, if_true] at h
    refine h.imp (fun h => ?_) id
    unfold Oper.wp at *
    have hr : (execOp a.eval o).run Try.prog w = ((Instr.buildSlice 29 1 (parts.map fun x => (x.1, a.eval x.2))).run Try.prog w).andThen fun u w' => .ok (.value u) w' := by
      unfold execOp
      simp [ho]
    rw [hr] at h ⊢
    rcases build_run (parts.map fun x => (x.1, a.eval x.2)) w with ⟨v, ob, e⟩ | ⟨x, e⟩
    · have hb : Below W.heap.size W (w.alloc ob) := (below_of_regrown hC).alloc (below_of_regrown hC).size ob
      have hg := regrown_of_below hb
      simp only [e, Result.andThen_ok, Oper.upon] at h ⊢
      exact ⟨hg, h⟩
    · rw [e] at h ⊢
      cases x <;> exact h
  · rename_i hw
    simp only [hw] at h
    exact ⟨hC, h⟩

theorem cells_new3 (w : World) (a b c : Value) (t : TypeId) : ∀ (j : Nat) (u : Value), [a, b, c][j]? = some u → (w.alloc (.cells #[a, b, c] t)).cell? ((⟨w.heap.size, 0, none⟩ : Addr).add j) = some u := by
  intro j u h
  have hadd : (⟨w.heap.size, 0, none⟩ : Addr).add j = ⟨w.heap.size, j, none⟩ := by unfold Addr.add; split <;> simp_all
  rw [hadd, World.cell?_alloc_at _ _ _ _ rfl]
  simpa using h

theorem own_pos {w : World} {B e size n : Nat} {xs : List Value} {v : Value} (h : w.ownsRow B e size v n xs) (hn : 1 ≤ n) : ∃ g cap, v = .slice (some ⟨g, 0, none⟩) n cap := by
  rcases h.2 with ⟨rfl, h0⟩ | ⟨g, cap, cur, rfl, _⟩
  · omega
  · exact ⟨g, cap, rfl⟩
theorem own_succ {w : World} {B e size n : Nat} {xs : List Value} {v : Value} (h : w.ownsRow B e size v (n + 1) xs) : ∃ g cap, v = .slice (some ⟨g, 0, none⟩) (n + 1) cap := own_pos h (by omega)
theorem below_le {B B' : Nat} {w w' : World} (h : Below B w w') (hB : B' ≤ B) : Below B' w w' := ⟨h.os, h.tape, h.output, h.size, fun k hk => h.block k (by omega)⟩

end Go.Proofs.Ytmilljlkcbljpaa
