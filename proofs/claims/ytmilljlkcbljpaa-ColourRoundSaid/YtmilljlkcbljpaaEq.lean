/- Comparison of colours. -/
import Derived.Test.YtmilljlkcbljpaaCe
import Derived.Laws.StructEq
namespace Go.Proofs.Ytmilljlkcbljpaa
open Go.RowKit

/-- A block of one cell. -/
def One (t : TypeId) (w : World) (b : Nat) (v : Value) : Prop := w.heap[b]? = some (.cells #[v] t (0, 0))
theorem One.cell {t : TypeId} {w : World} {b : Nat} {v : Value} (h : One t w b v) : w.cell? ⟨b, 0, none⟩ = some v := by simp [World.cell?, show w.heap[b]? = _ from h]
theorem One.free {t : TypeId} {w : World} {b : Nat} {v : Value} (h : One t w b v) (j : Nat) : w.frozen? ⟨b, j, none⟩ = false := frozen_of_row w b j _ _ h
theorem One.lt {t : TypeId} {w : World} {b : Nat} {v : Value} (h : One t w b v) : b < w.heap.size := (Array.getElem?_eq_some_iff.1 h).1
theorem One.below {t : TypeId} {w w' : World} {b B : Nat} {v : Value} (h : One t w b v) (hb : Below B w w') (hB : b < B) : One t w' b v := (hb.block b hB).trans h
theorem One.on {t : TypeId} {w w' : World} {b : Nat} {v : Value} (h : One t w b v) (hb : Below w.heap.size w w') : One t w' b v := h.below hb h.lt
theorem One.keep {t : TypeId} {w : World} {b b' j : Nat} {v x : Value} (h : One t w b v) (hb : b ≠ b') : One t (w.setCell ⟨b', j, none⟩ x) b v := (Below.heap_setCell w ⟨b', j, none⟩ x b hb).trans h
theorem One.set {t : TypeId} {w : World} {b : Nat} {v : Value} (h : One t w b v) (x : Value) : One t (w.setCell ⟨b, 0, none⟩ x) b x := by
  unfold One; rw [heap_setCell_same w b 0 _ _ x h]; simp
theorem One.new (w : World) (v : Value) (t : TypeId) : One t (w.alloc (.cells #[v] t)) w.heap.size v := heap_alloc_new w _
theorem One.alloc {t : TypeId} {w : World} {b : Nat} {v : Value} (h : One t w b v) (o : Obj) : One t (w.alloc o) b v := h.on ((Below.refl _ _).alloc (Nat.le_refl _) _)

/-- Three boxes. -/
theorem boxes3 (w : World) (x y z : Value) (t : TypeId) : ∃ w0, ((w.alloc (.cells #[x] t)).alloc (.cells #[y] t)).alloc (.cells #[z] t) = w0 ∧
    Below w.heap.size w w0 ∧ w0.heap.size = w.heap.size + 3 ∧ One t w0 w.heap.size x ∧ One t w0 (w.heap.size + 1) y ∧ One t w0 (w.heap.size + 1 + 1) z := by
  refine ⟨_, rfl, (((Below.refl _ w).alloc (Nat.le_refl _) _).alloc (by simp) _).alloc (by simp <;> omega) _, by simp, ((One.new w x t).alloc _).alloc _, ?_, ?_⟩
  · have h := One.new (w.alloc (.cells #[x] t)) y t
    rw [World.size_alloc] at h
    exact h.alloc _
  · have h := One.new ((w.alloc (.cells #[x] t)).alloc (.cells #[y] t)) z t
    simp only [World.size_alloc] at h
    exact h

/-- A channel of a colour that is no variable. -/
theorem index_col (c : Nat → Int) (k : Nat) (hk : k < 3) (w : World) : (Instr.index 28 (.agg #[.int .i64 (c 0), .int .i64 (c 1), .int .i64 (c 2)]) (.int .i64 k)).run Try.prog w = .ok (.int .i64 (c k)) w := by
  obtain rfl | rfl | rfl : k = 0 ∨ k = 1 ∨ k = 2 := by omega
  · exact index_0 _ _ _ w
  · exact index_1 _ _ _ w
  · exact index_2 _ _ _ w

theorem part_int {e : TypeId} {cs : Array Value} {i : Nat} {x : Int} (w : World) (he : Try.prog.underlying e = some (.int .i64)) (h : cs[i]? = some (.int .i64 x)) : (part e cs i).run Try.prog w = .ok (.int .i64 x) w := by
  simp [part, isAgg, run_underlying he, h]

theorem equalIn_col (a0 a1 a2 b0 b1 b2 : Int) (w : World) :
    (Op.equalIn 10000 28 (.agg #[.int .i64 a0, .int .i64 a1, .int .i64 a2]) (.agg #[.int .i64 b0, .int .i64 b1, .int .i64 b2])).run Try.prog w = .ok (a0 == b0 && (a1 == b1 && a2 == b2)) w := by
  have hsz : ∀ w, (sizeOf 3).run Try.prog w = .ok 1 w := fun w => by kernel_rfl
  have ht : Try.prog.underlying 28 = some (.array 3 3) := Try.underlying28
  have he : Try.prog.underlying 3 = some (.int .i64) := Try.underlying3
  have p0 : ∀ x0 x1 x2 : Int, (part 3 #[.int .i64 x0, .int .i64 x1, .int .i64 x2] 0).run Try.prog w = .ok (.int .i64 x0) w := fun _ _ _ => part_int w he rfl
  have p1 : ∀ x0 x1 x2 : Int, (part 3 #[.int .i64 x0, .int .i64 x1, .int .i64 x2] 1).run Try.prog w = .ok (.int .i64 x1) w := fun _ _ _ => part_int w he rfl
  have p2 : ∀ x0 x1 x2 : Int, (part 3 #[.int .i64 x0, .int .i64 x1, .int .i64 x2] 2).run Try.prog w = .ok (.int .i64 x2) w := fun _ _ _ => part_int w he rfl
  have hq : ∀ a b : Int, (Op.equalIn 9999 3 (.int .i64 a) (.int .i64 b)).run Try.prog w = .ok (a == b) w := fun a b => run_equalIn_int w 9998 _ .i64 .i64 a b he
  rw [Op.equalIn]
  simp only [Sem.run_bind, run_underlying ht, Result.andThen_ok, hsz, Std.Legacy.Range.forIn_eq_forIn_range', Std.Legacy.Range.size, Nat.sub_zero, Nat.add_sub_cancel, Nat.div_one]
  simp only [List.range', List.forIn_cons, List.forIn_nil, Sem.run_bind, Nat.reduceAdd, Nat.reduceMul, Nat.zero_mul, Nat.zero_add, p0, hq, Result.andThen_ok]
  cases a0 == b0
  · simp
  · cases h1 : a1 == b1
    · simp [p1, hq, Sem.run_bind, h1]
    · cases h2 : a2 == b2
      · simp [p1, p2, hq, Sem.run_bind, h1, h2]
      · simp [p1, p2, hq, Sem.run_bind, h1, h2]

open Classical in
/-- Whether two colours are equal. -/
noncomputable def eqB (c d : Nat → Int) : Bool := decide (∀ i, i < 3 → c i = d i)
theorem eqB_t {c d : Nat → Int} (h : ∀ i, i < 3 → c i = d i) : eqB c d = true := by simp only [eqB, decide_eq_true_eq]; exact h
theorem eqB_f {c d : Nat → Int} {i : Nat} (hi : i < 3) (h : c i ≠ d i) : eqB c d = false := by
  simp only [eqB, decide_eq_false_iff_not]; exact fun hh => h (hh i hi)
theorem of_eqB {c d : Nat → Int} (h : eqB c d = true) : ∀ i, i < 3 → c i = d i := by simpa only [eqB, decide_eq_true_eq] using h
theorem eqB_is (c d : Nat → Int) : (c 0 == d 0 && (c 1 == d 1 && c 2 == d 2)) = eqB c d := by
  by_cases h0 : c 0 = d 0
  · by_cases h1 : c 1 = d 1
    · by_cases h2 : c 2 = d 2
      · rw [eqB_t (fun i hi => by rcases (show i = 0 ∨ i = 1 ∨ i = 2 by omega) with rfl | rfl | rfl <;> assumption)]
        simp [h0, h1, h2]
      · rw [eqB_f (by omega) h2]; simp [h2]
    · rw [eqB_f (by omega) h1]; simp [h1]
  · rw [eqB_f (by omega) h0]; simp [h0]

theorem eql_col (c d : Nat → Int) (w : World) : (binOp .eql 28 (col c) (col d)).run Try.prog w = .ok (.bool (eqB c d)) w := by
  unfold col
  rw [run_eql_struct, equalIn_col, eqB_is]
  rfl
theorem neq_col (c d : Nat → Int) (w : World) : (binOp .neq 28 (col c) (col d)).run Try.prog w = .ok (.bool (!eqB c d)) w := by
  unfold col
  rw [run_neq_struct, equalIn_col, eqB_is]
  rfl

end Go.Proofs.Ytmilljlkcbljpaa
