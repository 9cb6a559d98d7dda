/- The statements CurveSolve and CurveGalois, walked. -/
import Derived.Test.YtphcianmgpbjmaaSolve
namespace Go.Proofs.Ytphcianmgpbjmaa
open Go.RowKit

set_option maxHeartbeats 2000000 in
theorem curveSolve_walk {f g : Nat → Int} {n m : Nat} {v u : Value} {y : Int} {w : World} (hn : n ≤ 9223372036854775807) (hm : m ≤ 9223372036854775807) (hs : Sl w w.heap.size v n f) (ht : Sl w w.heap.size u m g) :
    Calls Try.prog 6 #[v, u, .int .i64 y] w fun e w' => e = .returned (.bool true) ∧ Below w.heap.size w w' := by
  obtain ⟨Y, hY⟩ : ∃ Y, bits .and .i64 y 65535 = Y := ⟨_, rfl⟩
  have hd := madeN_bd m
  go_enter Try.func6, Try.ntmps6
  go_wp2_with fail
  refine (sanity_any w).mono ?_
  rintro e w1 ⟨rfl, b1⟩
  replace hs := hs.on b1
  replace ht := ht.on b1
  go_wp2_with fail
  refine (some_sl hn hs (Nat.le_refl _)).mono ?_
  rintro e w2 ⟨c, rfl, hc, b2⟩
  replace ht := ht.on b2
  replace b2 := b1.trans (b2.mono b1.size)
  clear b1 hs
  go_wp2_with fail
  refine (made_sl hm ht (Nat.le_refl _)).mono ?_
  rintro e w3 ⟨d, rfl, hd', b3⟩
  replace hc := hc.on b3
  replace b3 := b2.trans (b3.mono b2.size)
  clear b2 ht
  go_wp2_with fail
  refine (solve_any (by omega) (Nat.le_refl _) hc).mono ?_
  rintro e w4 ⟨rfl, b4⟩
  replace hc := hc.on b4
  replace hd' := hd'.on b4
  replace b4 := b3.trans (b4.mono b3.size)
  clear b3
  go_wp2_with fail
  refine (refSolve_any (by omega) (Nat.le_refl _) hc).mono ?_
  rintro e w5 ⟨rfl, b5⟩
  replace hd' := hd'.on b5
  replace b5 := b4.trans (b5.mono b4.size)
  clear b4 hc
  obtain ⟨w5', h5⟩ : ∃ w5', w5.alloc (.cells #[.int .i64 (slvX (min n 260) f y : Nat), .bool (slvOk (min n 260) f y)] 37) = w5' := ⟨_, rfl⟩
  have b5' : Below w5.heap.size w5 w5' := by rw [← h5]; exact (Below.refl _ w5).alloc (Nat.le_refl _) _
  have g0 : w5'.cell? ⟨w5.heap.size, 0, none⟩ = some (.int .i64 (slvX (min n 260) f y : Nat)) := by rw [← h5, World.cell?_alloc_at _ _ _ _ rfl]; rfl
  have g1 : w5'.cell? ⟨w5.heap.size, 1, none⟩ = some (.bool (slvOk (min n 260) f y)) := by rw [← h5, World.cell?_alloc_at _ _ _ _ rfl]; rfl
  have z5 : w5'.heap.size = w5.heap.size + 1 := by rw [← h5]; simp
  replace hd' := hd'.on b5'
  have b5'' := b5.trans (b5'.mono b5.size)
  clear b5 b5'
  go_wp2_with fail
  refine (solve_any (by omega) (Nat.le_refl _) hd').mono ?_
  rintro e w6 ⟨rfl, b6⟩
  replace hd' := hd'.on b6
  rw [← b6.cell (p := ⟨w5.heap.size, 0, none⟩) (by simp; omega)] at g0
  rw [← b6.cell (p := ⟨w5.heap.size, 1, none⟩) (by simp; omega)] at g1
  have z6 : w5.heap.size < w6.heap.size := by have := b6.size; omega
  replace b6 := b5''.trans (b6.mono b5''.size)
  clear b5'' h5 z5
  go_wp2_with fail
  refine (refSolve_any (by omega) (Nat.le_refl _) hd').mono ?_
  rintro e w7 ⟨rfl, b7⟩
  rw [← b7.cell (p := ⟨w5.heap.size, 0, none⟩) z6] at g0
  rw [← b7.cell (p := ⟨w5.heap.size, 1, none⟩) z6] at g1
  have z7 : w5.heap.size < w7.heap.size := by have := b7.size; omega
  replace b7 := b6.trans (b7.mono b6.size)
  clear b6 hd' z6
  go_wp2_with fail
  go_ret
  exact ⟨rfl, b7.alloc b7.size _⟩

set_option maxHeartbeats 2000000 in
theorem curveGalois_walk {g : Nat → Int} {m : Nat} {u : Value} {x y : Int} {w : World} (hm : m ≤ 9223372036854775807) (ht : Sl w w.heap.size u m g) :
    Calls Try.prog 7 #[u, .int .i64 x, .int .i64 y] w fun e w' => e = .returned (.bool true) ∧ Below w.heap.size w w' := by
  obtain ⟨X, hX⟩ : ∃ X, bits .and .i64 x 65535 = X := ⟨_, rfl⟩
  obtain ⟨Y, hY⟩ : ∃ Y, bits .and .i64 y 131071 = Y := ⟨_, rfl⟩
  obtain ⟨hX0, hX1⟩ : 0 ≤ X ∧ X ≤ 65535 := by rw [← hX, and_ffff]; omega
  have hd := madeN_bd m
  have hv := made_vld m g
  obtain ⟨F, hF⟩ : ∃ F, madeV m g = F := ⟨_, rfl⟩
  obtain ⟨N, hN⟩ : ∃ N, madeN m = N := ⟨_, rfl⟩
  rw [hN] at hd hv
  rw [hF] at hv
  have HF := Lib.hid hF
  have HN := Lib.hid hN
  clear hF hN
  go_enter Try.func7, Try.ntmps7
  go_wp2_with fail
  refine (sanity_any w).mono ?_
  rintro e w1 ⟨rfl, b1⟩
  replace ht := ht.on b1
  go_wp2_with fail
  refine (made_sl hm ht (Nat.le_refl _)).mono ?_
  rintro e w3 ⟨d, rfl, hc, b3⟩
  rw [HF.out, HN.out] at hc
  replace b3 := b1.trans (b3.mono b1.size)
  clear b1 ht
  obtain ⟨V, hV⟩ : ∃ V, AtV N F X = V := ⟨_, rfl⟩
  have HV := Lib.hid hV
  rw [AtV_in hv hX0 hX1] at hV
  by_cases hy : Y ≤ F (N - 1)
  · obtain ⟨Z, hZ⟩ : ∃ Z, slv N F Y = Z := ⟨_, rfl⟩
    obtain ⟨z1, z2, z3⟩ := slv_is hv hy
    rw [hZ] at z1 z2 z3
    have z4 : Y ≤ V ↔ (Z : Int) ≤ X := by
      rw [← hV]
      refine ⟨fun h => ?_, fun h => Int.le_trans z2 (atV_mono hv (by omega) h hX1)⟩
      refine Classical.not_not.1 fun hlt => ?_
      have := z3 X.toNat (by omega)
      rw [Int.toNat_of_nonneg hX0] at this
      omega
    obtain ⟨A, hA⟩ : ∃ A, AtV N F Z = A := ⟨_, rfl⟩
    have HA := Lib.hid hA
    rw [AtV_in hv (by omega) (by omega)] at hA
    rw [hA] at z2
    have dA : decide (Y ≤ A) = true := decide_eq_true z2
    have dZ : decide ((Z : Int) ≤ 65535) = true := decide_eq_true (by omega)
    go_wp2_with fail
    refine (solve_val (Nat.le_refl _) hc hv hy).mono ?_
    rw [hZ]
    have HZ := Lib.hid hZ
    have HV' := Lib.hid hV
    clear hZ hV hA
    rintro e w4 ⟨rfl, b4⟩
    replace hc := hc.on b4
    replace b4 := b3.trans (b4.mono b3.size)
    clear b3
    go_wp2_with fail
    refine (At_is (by omega) hc HV.out).mono ?_
    rintro e w5 ⟨rfl, q⟩
    replace hc := hc.on (q.below _)
    have b5 := b4.trans (q.below _)
    clear b4 q
    go_wp2_with fail
    refine (At_is (by omega) hc HA.out).mono ?_
    rintro e w6 ⟨rfl, q⟩
    replace hc := hc.on (q.below _)
    have b6 := b5.trans (q.below _)
    clear b5 q
    by_cases hz0 : Z = 0
    · have d1 : decide (Y ≤ V) = true := decide_eq_true (z4.2 (by omega))
      subst hz0
      clear z3 z4
      go_wp2_with fail
      go_ret
      exact ⟨rfl, b6⟩
    · obtain ⟨C, hC⟩ : ∃ C, AtV N F ((Z : Int) - 1) = C := ⟨_, rfl⟩
      have hCy : C < Y := by
        rw [← hC, AtV_in hv (by omega) (by omega)]
        have := z3 (Z - 1) (by omega)
        rwa [show ((Z - 1 : Nat) : Int) = (Z : Int) - 1 by omega] at this
      have d2 : decide (C < Y) = true := decide_eq_true hCy
      have HC := Lib.hid hC
      clear hC z3
      by_cases hzx : (Z : Int) ≤ X
      · have d1 : decide (Y ≤ V) = true := decide_eq_true (z4.2 hzx)
        have d3 : decide ((Z : Int) ≤ X) = true := decide_eq_true hzx
        clear z4
        go_wp2_with fail
        refine (At_is (by omega) hc HC.out).mono ?_
        rintro e w7 ⟨rfl, q⟩
        have b7 := b6.trans (q.below _)
        clear b6 q hc
        go_wp2_with fail
        go_ret
        exact ⟨rfl, b7⟩
      · have d1 : decide (Y ≤ V) = false := decide_eq_false (fun h => hzx (z4.1 h))
        have d3 : decide ((Z : Int) ≤ X) = false := decide_eq_false hzx
        clear z4
        go_wp2_with fail
        refine (At_is (by omega) hc HC.out).mono ?_
        rintro e w7 ⟨rfl, q⟩
        have b7 := b6.trans (q.below _)
        clear b6 q hc
        go_wp2_with fail
        go_ret
        exact ⟨rfl, b7⟩
  · have hV2 := (atV_bd hv hX0 hX1).2
    rw [hV] at hV2
    have d1 : decide (Y ≤ V) = false := decide_eq_false (by omega)
    have z5 := (atV_bd hv (Int.le_refl 0) (by omega)).2
    obtain ⟨A, hA⟩ : ∃ A, AtV N F 0 = A := ⟨_, rfl⟩
    have HA := Lib.hid hA
    rw [AtV_in hv (by omega) (by omega)] at hA
    rw [hA] at z5
    have dA : decide (Y ≤ A) = false := decide_eq_false (by omega)
    have hvy : ¬ (Vld N F ∧ Y ≤ F (N - 1)) := fun h => hy h.2
    have HV' := Lib.hid hV
    clear hV hA hV2 z5
    go_wp2_with fail
    refine (solve_no (by omega) (Nat.le_refl _) hc hvy).mono ?_
    rintro e w4 ⟨rfl, b4⟩
    replace hc := hc.on b4
    replace b4 := b3.trans (b4.mono b3.size)
    clear b3
    go_wp2_with fail
    refine (At_is (by omega) hc HV.out).mono ?_
    rintro e w5 ⟨rfl, q⟩
    replace hc := hc.on (q.below _)
    have b5 := b4.trans (q.below _)
    clear b4 q
    go_wp2_with fail
    refine (At_is (by omega) hc HA.out).mono ?_
    rintro e w6 ⟨rfl, q⟩
    have b6 := b5.trans (q.below _)
    clear b5 q hc
    go_wp2_with fail
    go_ret
    exact ⟨rfl, b6⟩

end Go.Proofs.Ytphcianmgpbjmaa
