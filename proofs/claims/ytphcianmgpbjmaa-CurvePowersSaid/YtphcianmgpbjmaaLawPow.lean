/- The statement CurvePowers, walked. -/
import Derived.Test.YtphcianmgpbjmaaPow
namespace Go.Proofs.Ytphcianmgpbjmaa
open Go.RowKit

theorem and_3 (x : Int) : bits .and .i64 x 3 = x % 4 := and_mask 2 x (by omega)

set_option maxHeartbeats 4000000 in
set_option maxRecDepth 100000 in
theorem curvePowers_walk (num den n : Int) (w : World) :
    Calls Try.prog 9 #[.int .i64 num, .int .i64 den, .int .i64 n] w fun e w' => e = .returned (.bool true) ∧ Below w.heap.size w w' := by
  have a3 := and_3
  obtain ⟨Y, hY⟩ : ∃ Y, bits .and .i64 n 65535 = Y := ⟨_, rfl⟩
  obtain ⟨hY0, hY1⟩ : 0 ≤ Y ∧ Y ≤ 65535 := by rw [← hY, and_ffff]; omega
  obtain ⟨K, hK, hK1, hK2⟩ : ∃ K : Nat, 2 + Y % 40 = (K : Int) ∧ 2 ≤ K ∧ K ≤ 41 := ⟨(2 + Y % 40).toNat, by omega, by omega, by omega⟩
  obtain ⟨A, hA, hA1, hA2⟩ : ∃ A : Nat, 1 + num % 4 = (A : Int) ∧ 1 ≤ A ∧ A ≤ 4 := ⟨(1 + num % 4).toNat, by omega, by omega, by omega⟩
  obtain ⟨D, hD, hD1, hD2⟩ : ∃ D : Nat, 1 + den % 4 = (D : Int) ∧ 1 ≤ D ∧ D ≤ 4 := ⟨(1 + den % 4).toNat, by omega, by omega, by omega⟩
  have e2A := Lib.hid (show (2 : Int) * A = ((2 * A : Nat) : Int) by omega)
  have e2D := Lib.hid (show (2 : Int) * D = ((2 * D : Nat) : Int) by omega)
  have eA1 := Lib.hid (show (A : Int) + 1 = ((A + 1 : Nat) : Int) by omega)
  go_enter Try.func9, Try.ntmps9
  go_wp2_with fail
  refine (sanity_any w).mono ?_
  rintro e w1 ⟨rfl, b1⟩
  go_wp2_with fail
  refine (gamma_yes A D K w1 (by omega) (by omega) (by omega) (by omega) (by omega) (by omega)).mono ?_
  rintro e w2 ⟨a, rfl, ha, b2⟩
  have A2 : Sl w2 w2.heap.size a K (gamV A D K) := Sl.own ha
  replace b2 := b1.trans (b2.mono b1.size)
  clear b1 ha
  go_wp2_with fail
  rw [e2A.out, e2D.out]
  refine (gamma_yes (2 * A) (2 * D) K w2 (by omega) (by omega) (by omega) (by omega) (by omega) (by omega)).mono ?_
  rintro e w3 ⟨b, rfl, hb, b3⟩
  have B3 : Sl w3 w3.heap.size b K (gamV (2 * A) (2 * D) K) := Sl.own hb
  rw [gamV_double] at B3
  replace A2 := A2.on b3
  replace b3 := b2.trans (b3.mono b2.size)
  clear b2 hb
  go_wp2_with fail
  rw [eA1.out]
  refine (gamma_yes (A + 1) D K w3 (by omega) (by omega) (by omega) (by omega) (by omega) (by omega)).mono ?_
  rintro e w4 ⟨c, rfl, hc, b4⟩
  have C4 : Sl w4 w4.heap.size c K (gamV (A + 1) D K) := Sl.own hc
  replace A2 := A2.on b4
  replace B3 := B3.on b4
  replace b4 := b3.trans (b4.mono b3.size)
  clear b3 hc
  go_wp2_with fail
  refine (gamma_yes A A K w4 (by omega) (by omega) (by omega) (by omega) (by omega) (by omega)).mono ?_
  rintro e w5 ⟨d, rfl, hd, b5⟩
  have D5 : Sl w5 w5.heap.size d K (gamV A A K) := Sl.own hd
  replace A2 := A2.on b5
  replace B3 := B3.on b5
  replace C4 := C4.on b5
  replace b5 := b4.trans (b5.mono b4.size)
  clear b4 hd
  have VA := gamV_vld (num := A) (den := D) hA1 hK1 (by omega)
  have z0 := Lib.hid (gamV_zero (num := A) (den := D) hA1 hK1)
  have z1 := Lib.hid (gamV_top (num := A) (den := D) (n := K))
  have z2 := Lib.hid (fun i (hi : i ≤ K - 1) => gamV_num (num := A) (den := D) hK1 hi)
  have z3 := Lib.hid (fun i (hi : i ≤ K - 1) => gamV_same (num := A) hA1 hK1 hi)
  obtain ⟨FA, hFA⟩ : ∃ F, gamV A D K = F := ⟨_, rfl⟩
  obtain ⟨FC, hFC⟩ : ∃ F, gamV (A + 1) D K = F := ⟨_, rfl⟩
  obtain ⟨FD, hFD⟩ : ∃ F, gamV A A K = F := ⟨_, rfl⟩
  rw [hFA] at A2 B3 VA z0 z1 z2
  rw [hFC] at C4 z2
  rw [hFD] at D5 z3
  clear hFA hFC hFD
  obtain ⟨bA, oA, pA, rfl, lA, cA⟩ := A2.at (by omega)
  obtain ⟨bB, oB, pB, rfl, lB, cB⟩ := B3.at (by omega)
  obtain ⟨bC, oC, pC, rfl, lC, cC⟩ := C4.at (by omega)
  obtain ⟨bD, oD, pD, rfl, lD, cD⟩ := D5.at (by omega)
  clear hY hK
  go_wp2
  go_loopw [16] (fun i wr => ∃ k : Nat, k ≤ K ∧ i = .int .i64 k ∧ ∃ q : Nat, wr = w5.drewN q) (fun i _ => K - (intOf i).toNat)
  case atStart => exact ⟨0, by omega, rfl, 0, rfl⟩
  case round =>
    obtain ⟨k, hk, rfl, q, rfl⟩ := hrel
    by_cases hlt : k < K
    · have c1 := cC k hlt
      have c2 := cA k hlt
      have c3 := cD k hlt
      have i1 : 0 ≤ (k : Int) ∧ (k : Int) < K := by omega
      have t1 : decide (FA k < FC k) = false := decide_eq_false (by have := z2.out k (by omega); omega)
      have t2 : (65535 : Int) * (k : Int) / ((K : Int) - 1) = FD k := by
        rw [z3.out k (by omega), show (K : Int) - 1 = ((K - 1 : Nat) : Int) by omega]
        simp
      have t3 : ((K : Int) - 1 == 0) = false := by simp; omega
      go_wp2
      go_quiet (fail)
      go_wp2
      go_roundw
      case rel => exact ⟨k + 1, by omega, by go_num, _, rfl⟩
      case measure => simp [intOf]; omega
    · obtain rfl : k = K := by omega
      obtain ⟨M, rfl⟩ : ∃ M, k = M + 1 := ⟨k - 1, by omega⟩
      have c1 := cA.zero (by omega)
      have c2 := cA M (by omega)
      rw [z0.out] at c1
      have z1' := z1.out
      rw [Nat.add_sub_cancel] at z1'
      rw [z1'] at c2
      have i1 : 0 ≤ (M : Int) ∧ (M : Int) < (M : Int) + 1 := by omega
      have i2 : 0 ≤ (0 : Int) ∧ (0 : Int) < (M : Int) + 1 := by omega
      have A5 := A2.drawnN q
      have B5 := B3.drawnN q
      go_wp2_with fail
      refine (valid_any (by omega) A5).mono ?_
      rintro e w6 ⟨rfl, dq⟩
      obtain ⟨j, rfl⟩ := dq
      rw [vldB_t VA]
      have A6 := A2.drawnN (q + j)
      have B6 := B3.drawnN (q + j)
      go_wp2_with fail
      refine (same_eq (by omega) A6 B6).mono ?_
      rintro e w7 ⟨rfl, dq⟩
      rw [sameB_t fun _ _ => rfl]
      have b7 := (below_drewN b5 (q + j)).trans (dq.below _)
      go_wp2_with fail
      go_ret
      exact ⟨rfl, b7⟩

end Go.Proofs.Ytphcianmgpbjmaa
