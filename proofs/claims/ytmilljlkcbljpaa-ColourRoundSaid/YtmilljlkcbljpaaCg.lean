/- Gamut, floor, clamps of the reference. -/
import Derived.Test.YtmilljlkcbljpaaCf
import Derived.StillTailTactics
namespace Go.Proofs.Ytmilljlkcbljpaa
open Go.RowKit

/-- The box of a colour, the result. -/
theorem gamut_new (w : World) (c : Nat → Int) (t : TypeId) : ∃ w0, (w.alloc (.cells #[.int .i64 (c 0), .int .i64 (c 1), .int .i64 (c 2)] t)).alloc (.cells #[.int .i64 0, .int .i64 0, .int .i64 0] t) = w0 ∧
    Below w.heap.size w w0 ∧ w0.heap.size = w.heap.size + 2 ∧ Tri t w0 w.heap.size c ∧ Tri t w0 (w.heap.size + 1) (fun _ => 0) := by
  refine ⟨_, rfl, ((Below.refl _ w).alloc (Nat.le_refl _) _).alloc (by simp) _, by simp, (Tri.new w c t).alloc _, ?_⟩
  have h := Tri.new (w.alloc (.cells #[.int .i64 (c 0), .int .i64 (c 1), .int .i64 (c 2)] t)) (fun _ => 0) t
  simp only [World.size_alloc] at h
  exact h

set_option maxHeartbeats 1000000 in
theorem gamut_any {c : Nat → Int} {w : World} :
    Calls Try.prog 56 #[col c] w fun e w' => e = .returned (col (gam c)) ∧ Below w.heap.size w w' := by
  obtain ⟨w0, h0, hb, hz, t1, t2⟩ := gamut_new w c 28
  have d0 := t1.c0
  have d1 := t1.c1
  have d2 := t1.c2
  have T2 := Lib.hid t2
  have Z := Lib.hid hz
  clear t1 t2 hz
  have hcl := Lib.hid (fun W => clamped_any (a := 0) (b := 65535) (c := c) (w := W) (by omega))
  unfold col at *
  go_enter Try.func56, Try.ntmps56
  go_wp2_with fail
  refine (hcl.out _).mono ?_
  rintro e w1 ⟨rfl, hb1⟩
  have T3 := T2.out.on hb1
  have x0 := T3.c0
  have x1 := T3.c1
  have x2 := T3.c2
  have y0 := T3.free 0
  have y1 := T3.free 1
  have y2 := T3.free 2
  have hb2 := hb.trans (hb1.mono (by have := Z.out; omega))
  clear T3
  go_wp2
  refine bodyPost_ret (v := .agg #[.int .i64 (clm 0 65535 (c 0)), .int .i64 (clm 0 65535 (c 1)), .int .i64 (clm 0 65535 (c 2))]) (by simp [results, Try.results56, go_sem, *]) rfl ?_
  exact ⟨rfl, ((hb2.setCell (p := ⟨w.heap.size + 1, 0, none⟩) (by simp) _).setCell (p := ⟨w.heap.size + 1, 1, none⟩) (by simp) _).setCell (p := ⟨w.heap.size + 1, 2, none⟩) (by simp) _⟩

set_option maxHeartbeats 400000 in
theorem clamp_any {a b v : Int} {w : World} (hab : a ≤ b) :
    Calls Try.prog 72 #[.int .i64 a, .int .i64 v, .int .i64 b] w fun e w' => e = .returned (.int .i64 (clm a b v)) ∧ w' = w := by
  by_cases h1 : v < a
  · have E := Lib.hid (show clm a b v = a from if_pos h1)
    have h2 : ¬ b < v := by omega
    go_enter Try.func72, Try.ntmps72
    go_wp2
    all_goals (
      go_ret
      exact ⟨ret_int (by rw [E.out] <;> omega), rfl⟩)
  · by_cases h2 : b < v
    · have E := Lib.hid (show clm a b v = b by unfold clm; rw [if_neg h1, if_pos h2])
      have h3 : ¬ b < a := by omega
      go_enter Try.func72, Try.ntmps72
      go_wp2
      all_goals (
        go_ret
        exact ⟨ret_int (by rw [E.out] <;> omega), rfl⟩)
    · have E := Lib.hid (show clm a b v = v by unfold clm; rw [if_neg h1, if_neg h2])
      go_enter Try.func72, Try.ntmps72
      go_wp2
      all_goals (
        go_ret
        exact ⟨ret_int (by rw [E.out] <;> omega), rfl⟩)

end Go.Proofs.Ytmilljlkcbljpaa
