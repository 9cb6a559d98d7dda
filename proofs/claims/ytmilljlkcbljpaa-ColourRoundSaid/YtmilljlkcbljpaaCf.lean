/- Clamping of colours. -/
import Derived.Test.YtmilljlkcbljpaaCe
import Derived.Test.YtmilljlkcbljpaaPc
namespace Go.Proofs.Ytmilljlkcbljpaa
open Go.RowKit

set_option maxHeartbeats 400000 in
theorem clamped1_any {a b v i : Int} {b1 b2 : Nat} {w : World} (hab : a ≤ b) (c1 : w.cell? ⟨b1, 0, none⟩ = some (.int .i64 a)) (c2 : w.cell? ⟨b2, 0, none⟩ = some (.int .i64 b)) :
    Calls Try.prog 89 #[.int .i64 i, .int .i64 v, .pointer (some ⟨b1, 0, none⟩), .pointer (some ⟨b2, 0, none⟩)] w fun e w' => e = .returned (.int .i64 (clm a b v)) ∧ Drawn w w' := by
  by_cases h1 : v < a
  · have E := Lib.hid (show clm a b v = a from if_pos h1)
    have h2 : ¬ b < v := by omega
    go_enter Try.func89, Try.ntmps89
    go_wp2
    all_goals (
      go_ret
      exact ⟨ret_int (by rw [E.out] <;> omega), .refl _⟩)
  · by_cases h2 : b < v
    · have E := Lib.hid (show clm a b v = b by unfold clm; rw [if_neg h1, if_pos h2])
      have h3 : ¬ b < a := by omega
      go_enter Try.func89, Try.ntmps89
      go_wp2
      all_goals (
        go_ret
        exact ⟨ret_int (by rw [E.out] <;> omega), .refl _⟩)
    · have E := Lib.hid (show clm a b v = v by unfold clm; rw [if_neg h1, if_neg h2])
      go_enter Try.func89, Try.ntmps89
      go_wp2
      all_goals (
        go_ret
        exact ⟨ret_int (by rw [E.out] <;> omega), .refl _⟩)

theorem Tri.alloc {t : TypeId} {w : World} {b : Nat} {c : Nat → Int} (h : Tri t w b c) (o : Obj) : Tri t (w.alloc o) b c := h.on ((Below.refl _ _).alloc (Nat.le_refl _) _)

/-- The boxes of clamped: the colour, the two bounds, the result. -/
theorem clamped_new (w : World) (c : Nat → Int) (a b : Int) (t t' : TypeId) : ∃ w0, (((w.alloc (.cells #[.int .i64 (c 0), .int .i64 (c 1), .int .i64 (c 2)] t)).alloc (.cells #[.int .i64 a] t')).alloc (.cells #[.int .i64 b] t')).alloc (.cells #[.int .i64 0, .int .i64 0, .int .i64 0] t) = w0 ∧
    Below w.heap.size w w0 ∧ w0.heap.size = w.heap.size + 4 ∧ w0.cell? ⟨w.heap.size + 1, 0, none⟩ = some (.int .i64 a) ∧ w0.cell? ⟨w.heap.size + 2, 0, none⟩ = some (.int .i64 b) ∧ Tri t w0 w.heap.size c ∧ Tri t w0 (w.heap.size + 3) (fun _ => 0) := by
  refine ⟨_, rfl, ((((Below.refl _ w).alloc (Nat.le_refl _) _).alloc (by simp) _).alloc (by simp <;> omega) _).alloc (by simp <;> omega) _, by simp, ?_, ?_, ?_, ?_⟩
  · rw [World.cell?_alloc_past _ _ _ (by simp <;> omega), World.cell?_alloc_past _ _ _ (by simp), World.cell?_alloc_at _ _ _ _ (by simp)]; rfl
  · rw [World.cell?_alloc_past _ _ _ (by simp), World.cell?_alloc_at _ _ _ _ (by simp)]; rfl
  · have h := Tri.new w c t
    exact ((h.alloc _).alloc _).alloc _
  · have h := Tri.new (((w.alloc (.cells #[.int .i64 (c 0), .int .i64 (c 1), .int .i64 (c 2)] t)).alloc (.cells #[.int .i64 a] t')).alloc (.cells #[.int .i64 b] t')) (fun _ => 0) t
    simp only [World.size_alloc] at h
    exact h

set_option maxHeartbeats 1000000 in
theorem clamped_any {a b : Int} {c : Nat → Int} {w : World} (hab : a ≤ b) :
    Calls Try.prog 55 #[col c, .int .i64 a, .int .i64 b] w fun e w' => e = .returned (col fun i => clm a b (c i)) ∧ Below w.heap.size w w' := by
  have hmf : ∀ (fn : Fn) (first cap : Array Value) (w : World), (Instr.makeFunc fn first cap).run Try.prog w = .ok (.func fn first cap) w := fun _ _ _ _ => rfl
  obtain ⟨w0, h0, hb, hz, c1, c2, t1, t2⟩ := clamped_new w c a b 28 3
  have d0 := t1.c0
  have d1 := t1.c1
  have d2 := t1.c2
  have T2 := Lib.hid t2
  have Z := Lib.hid hz
  clear t1 t2 hz
  unfold col
  go_enter Try.func55, Try.ntmps55
  go_wp2_with fail
  refine (each_clamped (c := c) (r := fun i => clm a b (c i)) fun i hi W hbW => ?_).mono ?_
  · refine (clamped1_any hab ?_ ?_).mono ?_
    · exact (hbW.cell (p := ⟨w.heap.size + 1, 0, none⟩) (by have := Z.out; simp; omega)).trans c1
    · exact (hbW.cell (p := ⟨w.heap.size + 2, 0, none⟩) (by have := Z.out; simp; omega)).trans c2
    · rintro e w' ⟨he, hd⟩
      exact ⟨he, hd.below _⟩
  · unfold col
    rintro e w1 ⟨rfl, hb1⟩
    have T3 := T2.out.on hb1
    have x0 := T3.c0
    have x1 := T3.c1
    have x2 := T3.c2
    have y0 := T3.free 0
    have y1 := T3.free 1
    have y2 := T3.free 2
    have hb2 := hb.trans (hb1.mono (by have := Z.out; omega))
    clear T3
    go_wp2
    refine bodyPost_ret (v := .agg #[.int .i64 (clm a b (c 0)), .int .i64 (clm a b (c 1)), .int .i64 (clm a b (c 2))]) (by simp [results, Try.results55, go_sem, *]) rfl ?_
    exact ⟨rfl, ((hb2.setCell (p := ⟨w.heap.size + 3, 0, none⟩) (by simp) _).setCell (p := ⟨w.heap.size + 3, 1, none⟩) (by simp) _).setCell (p := ⟨w.heap.size + 3, 2, none⟩) (by simp) _⟩

end Go.Proofs.Ytmilljlkcbljpaa
