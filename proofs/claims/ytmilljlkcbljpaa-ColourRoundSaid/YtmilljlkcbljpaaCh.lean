/- Gamut and bound of the reference; floor. -/
import Derived.Test.YtmilljlkcbljpaaCg
namespace Go.Proofs.Ytmilljlkcbljpaa
open Go.RowKit

set_option maxRecDepth 100000 in
set_option maxHeartbeats 1000000 in
theorem refGamut_any {c : Nat → Int} {w : World} :
    Calls Try.prog 71 #[col c] w fun e w' => e = .returned (col (gam c)) ∧ Below w.heap.size w w' := by
  obtain ⟨w0, h0, hb, hz, t1, t2⟩ := gamut_new w c 28
  have d0 := t1.c0
  have d1 := t1.c1
  have d2 := t1.c2
  have x0 := t2.c0
  have x1 := t2.c1
  have x2 := t2.c2
  have y0 := t2.free 0
  have y1 := t2.free 1
  have y2 := t2.free 2
  have Z := Lib.hid hz
  clear t1 t2 hz
  have k0 := Lib.hid (clamp_any (a := 0) (b := 65535) (v := c 0) (w := w0.drew) (by omega))
  have k1 := Lib.hid (clamp_any (a := 0) (b := 65535) (v := c 1) (w := w0.drew) (by omega))
  have k2 := Lib.hid (clamp_any (a := 0) (b := 65535) (v := c 2) (w := w0.drew) (by omega))
  unfold col
  go_enter Try.func71, Try.ntmps71
  go_wp2
  refine wp_region_still_tail 10 (by kernel_rfl) (by kernel_rfl) ?_
  simp only [List.take_succ_cons, List.take_zero, List.drop_succ_cons, List.drop_zero]
  change wpStill _ _ w0.drew _ _ _
  clear h0
  still_step; still_step; still_call k0.out
  still_step; still_step; still_call k1.out
  still_step; still_step; still_call k2.out
  still_step
  refine wpStill_nil ?_
  change wpList _ _ _ _ _ w0.drew
  go_wp2
  refine bodyPost_ret (v := .agg #[.int .i64 (clm 0 65535 (c 0)), .int .i64 (clm 0 65535 (c 1)), .int .i64 (clm 0 65535 (c 2))]) (by simp [results, Try.results71, go_sem, *]) rfl ?_
  exact ⟨rfl, below_drewN (set3_below hb (by simp) _ _ _) 1⟩

set_option maxRecDepth 100000 in
set_option maxHeartbeats 1000000 in
theorem refBound_any {c : Nat → Int} {w : World} :
    Calls Try.prog 70 #[col c] w fun e w' => e = .returned (col (bnd c)) ∧ Below w.heap.size w w' := by
  obtain ⟨w0, h0, hb, hz, t1, t2⟩ := gamut_new w c 28
  have d0 := t1.c0
  have d1 := t1.c1
  have d2 := t1.c2
  have x0 := t2.c0
  have x1 := t2.c1
  have x2 := t2.c2
  have y0 := t2.free 0
  have y1 := t2.free 1
  have y2 := t2.free 2
  have Z := Lib.hid hz
  clear t1 t2 hz
  have k0 := Lib.hid (clamp_any (a := -16777216) (b := 16777216) (v := c 0) (w := w0.drew) (by omega))
  have k1 := Lib.hid (clamp_any (a := -16777216) (b := 16777216) (v := c 1) (w := w0.drew) (by omega))
  have k2 := Lib.hid (clamp_any (a := -16777216) (b := 16777216) (v := c 2) (w := w0.drew) (by omega))
  unfold col
  go_enter Try.func70, Try.ntmps70
  go_wp2
  refine wp_region_still_tail 19 (by kernel_rfl) (by kernel_rfl) ?_
  simp only [List.take_succ_cons, List.take_zero, List.drop_succ_cons, List.drop_zero]
  change wpStill _ _ w0.drew _ _ _
  clear h0
  iterate 5 still_step
  still_call k0.out
  iterate 5 still_step
  still_call k1.out
  iterate 5 still_step
  still_call k2.out
  still_step
  refine wpStill_nil ?_
  change wpList _ _ _ _ _ w0.drew
  go_wp2
  refine bodyPost_ret (v := .agg #[.int .i64 (clm (-16777216) 16777216 (c 0)), .int .i64 (clm (-16777216) 16777216 (c 1)), .int .i64 (clm (-16777216) 16777216 (c 2))]) (by simp [results, Try.results70, go_sem, *]) rfl ?_
  exact ⟨rfl, below_drewN (set3_below hb (by simp) _ _ _) 1⟩

theorem floor_pos {x y : Int} (hx : 0 ≤ x) : x.tdiv y = x / y ∧ x.tmod y = x % y := ⟨Int.tdiv_eq_ediv_of_nonneg hx, Int.tmod_eq_emod_of_nonneg hx⟩
theorem floor_neg {x y : Int} (hy : 0 < y) (hx : x < 0) : (x.tmod y = 0 → x.tdiv y = x / y) ∧ (x.tmod y ≠ 0 → x.tdiv y - 1 = x / y) := by
  have h1 := (Int.mul_tdiv_add_tmod x y).symm
  have h2 : -y < x.tmod y := by have := Int.tmod_lt_of_pos (-x) hy; rw [Int.neg_tmod] at this; omega
  have h3 : x.tmod y ≤ 0 := by have := Int.tmod_nonneg y (a := -x) (by omega); rw [Int.neg_tmod] at this; omega
  generalize x.tmod y = r at *
  generalize x.tdiv y = q at *
  constructor
  · intro h
    subst h
    rw [h1, Int.add_zero, Int.mul_ediv_cancel_left _ (by omega)]
  · intro h
    rw [h1, show y * q + r = (r + y) + y * (q - 1) by rw [Int.mul_sub]; omega, Int.add_mul_ediv_left _ _ (by omega), Int.ediv_eq_zero_of_lt (by omega) (by omega)]
    omega

theorem floor_bd {x y : Int} (hy : 0 < y) (hx : x < 0) (hx' : -4611686018427387904 ≤ x) : -4611686018427387904 ≤ x.tdiv y ∧ x.tdiv y ≤ 0 := by
  have h1 : (-x).tdiv y = - x.tdiv y := Int.neg_tdiv x y
  have h2 : (-x).tdiv y = (-x) / y := Int.tdiv_eq_ediv_of_nonneg (by omega)
  have h3 := Int.ediv_nonneg (a := -x) (b := y) (by omega) (by omega)
  have h4 := Int.ediv_le_self (a := -x) y (by omega)
  omega

set_option maxHeartbeats 400000 in
theorem floor_any {x y : Int} {w : World} (hy : 0 < y) (hy' : y ≤ 4096) (hx : -4611686018427387904 ≤ x) (hx' : x ≤ 4611686018427387904) :
    Calls Try.prog 57 #[.int .i64 x, .int .i64 y] w fun e w' => e = .returned (.int .i64 (x / y)) ∧ w' = w := by
  have hy0 : (y == 0) = false := by simp; omega
  by_cases h : 0 ≤ x
  · have g1 : ¬ x < 0 := by omega
    have g2 : ¬ y < 0 := by omega
    have g3 : decide (x < 0) = false := decide_eq_false g1
    have g4 : decide (y < 0) = false := decide_eq_false g2
    by_cases hr : x % y = 0
    · have hr' : (x % y != 0) = false := by simp [hr]
      go_enter Try.func57, Try.ntmps57
      go_wp2
      go_ret
      exact ⟨rfl, rfl⟩
    · have hr' : (x % y != 0) = true := by simp [hr]
      go_enter Try.func57, Try.ntmps57
      go_wp2
      go_ret
      exact ⟨rfl, rfl⟩
  · have g1 : x < 0 := by omega
    have g2 : ¬ y < 0 := by omega
    have g3 : decide (x < 0) = true := decide_eq_true g1
    have g4 : decide (y < 0) = false := decide_eq_false g2
    obtain ⟨f1, f2⟩ := floor_neg hy g1
    obtain ⟨q1, q2⟩ := floor_bd hy g1 hx
    by_cases hr : x.tmod y = 0
    · have hr' : (x.tmod y != 0) = false := by simp [hr]
      have E := Lib.hid (f1 hr)
      clear f1 f2 hr
      go_enter Try.func57, Try.ntmps57
      go_wp2
      go_ret
      exact ⟨ret_int E.out, rfl⟩
    · have hr' : (x.tmod y != 0) = true := by simp [hr]
      have E := Lib.hid (f2 hr)
      clear f1 f2 hr
      go_enter Try.func57, Try.ntmps57
      go_wp2
      go_ret
      exact ⟨ret_int E.out, rfl⟩

set_option maxHeartbeats 400000 in
theorem refFloor_any {x y : Int} {w : World} (hy : 0 < y) (hy' : y ≤ 4096) (hx : -4611686018427387904 ≤ x) (hx' : x ≤ 4611686018427387904) :
    Calls Try.prog 73 #[.int .i64 x, .int .i64 y] w fun e w' => e = .returned (.int .i64 (x / y)) ∧ w' = w := by
  have hy0 : (y == 0) = false := by simp; omega
  by_cases h : 0 ≤ x
  · have g1 : ¬ x < 0 := by omega
    have g2 : ¬ y < 0 := by omega
    have g3 : decide (x < 0) = false := decide_eq_false g1
    have g4 : decide (y < 0) = false := decide_eq_false g2
    by_cases hr : x % y = 0
    · have hr' : (x % y != 0) = false := by simp [hr]
      go_enter Try.func73, Try.ntmps73
      go_wp2
      go_ret
      exact ⟨rfl, rfl⟩
    · have hr' : (x % y != 0) = true := by simp [hr]
      go_enter Try.func73, Try.ntmps73
      go_wp2
      go_ret
      exact ⟨rfl, rfl⟩
  · have g1 : x < 0 := by omega
    have g2 : ¬ y < 0 := by omega
    have g3 : decide (x < 0) = true := decide_eq_true g1
    have g4 : decide (y < 0) = false := decide_eq_false g2
    obtain ⟨f1, f2⟩ := floor_neg hy g1
    obtain ⟨q1, q2⟩ := floor_bd hy g1 hx
    by_cases hr : x.tmod y = 0
    · have hr' : (x.tmod y != 0) = false := by simp [hr]
      have E := Lib.hid (f1 hr)
      clear f1 f2 hr
      go_enter Try.func73, Try.ntmps73
      go_wp2
      go_ret
      exact ⟨ret_int E.out, rfl⟩
    · have hr' : (x.tmod y != 0) = true := by simp [hr]
      have E := Lib.hid (f2 hr)
      clear f1 f2 hr
      go_enter Try.func73, Try.ntmps73
      go_wp2
      go_ret
      exact ⟨ret_int E.out, rfl⟩

end Go.Proofs.Ytmilljlkcbljpaa
