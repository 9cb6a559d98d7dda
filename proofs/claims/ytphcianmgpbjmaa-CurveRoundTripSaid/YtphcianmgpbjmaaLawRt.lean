/- The statement CurveRoundTrip, walked. -/
import Derived.Test.YtphcianmgpbjmaaPair
namespace Go.Proofs.Ytphcianmgpbjmaa
open Go.RowKit

theorem inv_facts {F : Nat → Int} {M K k : Nat} (hv : Vld M F) (h1 : 2 ≤ K) (h2 : K ≤ 257) (hk : k < K) {X L : Int} (hX : invF F M K k = X) (hL : argV k K = L) :
    (0 ≤ X ∧ X ≤ 65535) ∧ (¬ AtV M F X < L ∨ (AtV M F X < L ∧ ¬ L ≤ AtV M F 65535 ∧ 0 < X)) ∧ (0 < X → ¬ L ≤ AtV M F (X - 1)) ∧ (0 < k → ¬ X < invF F M K (k - 1)) := by
  have hI := invF_vld hv h1 h2
  have hb := hI.bd k hk
  rw [hX] at hb
  refine ⟨hb, ?_, ?_, ?_⟩
  · by_cases hy : L ≤ F (M - 1)
    · left
      obtain ⟨z1, z2, _⟩ := slv_is hv hy
      have hX' : X = (slv M F L : Nat) := by rw [← hX]; unfold invF; rw [hL, slvOk_t ⟨hv, hy⟩]; rfl
      rw [hX', AtV_in hv (by omega) (by omega)]
      omega
    · right
      rw [AtV_in hv hb.1 hb.2, AtV_high hv (Int.le_refl _)]
      have := (atV_bd hv hb.1 hb.2).2
      have hX' : X = 65535 := by rw [← hX]; unfold invF; rw [hL, slvOk_f fun q => hy q.2]; rfl
      omega
  · intro h0
    rw [AtV_in hv (by omega) (by omega)]
    by_cases hy : L ≤ F (M - 1)
    · obtain ⟨z1, z2, z3⟩ := slv_is hv hy
      have hX' : X = (slv M F L : Nat) := by rw [← hX]; unfold invF; rw [hL, slvOk_t ⟨hv, hy⟩]; rfl
      have := z3 (slv M F L - 1) (by omega)
      rw [show ((slv M F L - 1 : Nat) : Int) = X - 1 by omega] at this
      omega
    · have := (atV_bd hv (x := X - 1) (by omega) (by omega)).2
      omega
  · intro h0
    have := hI.2.2.2.2 (k - 1) (by omega)
    rw [show k - 1 + 1 = k by omega, hX] at this
    omega

theorem inv_first {F : Nat → Int} {M K : Nat} (hv : Vld M F) (h1 : 2 ≤ K) : invF F M K 0 = 0 ∧ argV 0 K = 0 ∧ 0 ≤ AtV M F 0 := by
  have e : argV 0 K = 0 := by
    have := argV_two 0 K h1
    have a := (argV_bd (i := 0) h1 (by omega)).1
    have b := Int.mul_nonneg (show (0 : Int) ≤ (K : Int) - 1 by omega) a
    refine Classical.not_not.1 fun hn => ?_
    have c := Int.mul_le_mul_of_nonneg_left (show (1 : Int) ≤ argV 0 K by omega) (show (0 : Int) ≤ (K : Int) - 1 by omega)
    omega
  have h0 : 0 ≤ AtV M F 0 := by rw [AtV_low hv (Int.le_refl _)]; exact hv.2.2.1
  have hy : (0 : Int) ≤ F (M - 1) := (hv.bd (M - 1) (by have := hv.1; omega)).1
  refine ⟨?_, e, h0⟩
  unfold invF
  rw [e, slvOk_t ⟨hv, hy⟩]
  obtain ⟨_, _, z3⟩ := slv_is hv hy
  refine Classical.not_not.1 fun hn => ?_
  have := z3 0 (by simp at hn; omega)
  have := (atV_range hv (x := 0) (by omega) (by omega)).1
  simp at *
  omega

set_option maxHeartbeats 4000000 in
set_option maxRecDepth 100000 in
theorem curveRoundTrip_walk {g : Nat → Int} {m : Nat} {u : Value} {N : Int} {w : World} (hm : m ≤ 9223372036854775807) (ht : Sl w w.heap.size u m g) :
    Calls Try.prog 12 #[u, .int .i64 N] w fun e w' => e = .returned (.bool true) ∧ Below w.heap.size w w' := by
  obtain ⟨Y, hY⟩ : ∃ Y, bits .and .i64 N 65535 = Y := ⟨_, rfl⟩
  obtain ⟨hY0, hY1⟩ : 0 ≤ Y ∧ Y ≤ 65535 := by rw [← hY, and_ffff]; omega
  obtain ⟨K, hK, hK1, hK2⟩ : ∃ K : Nat, 2 + Y % 256 = (K : Int) ∧ 2 ≤ K ∧ K ≤ 257 := ⟨(2 + Y % 256).toNat, by omega, by omega, by omega⟩
  have hd := madeN_bd m
  have hv := made_vld m g
  obtain ⟨F, hF⟩ : ∃ F, madeV m g = F := ⟨_, rfl⟩
  obtain ⟨M, hM⟩ : ∃ M, madeN m = M := ⟨_, rfl⟩
  rw [hM] at hd hv
  rw [hF] at hv
  have HF := Lib.hid hF
  have HM := Lib.hid hM
  clear hF hM
  go_enter Try.func12, Try.ntmps12
  go_wp2_with fail
  refine (sanity_any w).mono ?_
  rintro e w1 ⟨rfl, b1⟩
  replace ht := ht.on b1
  go_wp2_with fail
  refine (made_sl hm ht (Nat.le_refl _)).mono ?_
  rintro e w3 ⟨d, rfl, hc, b3⟩
  rw [HF.out, HM.out] at hc
  replace b3 := b1.trans (b3.mono b1.size)
  clear b1 ht
  go_wp2_with fail
  refine (inverse_yes hv hK1 hK2 hc).mono ?_
  rintro e w4 ⟨x, rfl, hx, b4⟩
  have hi : Sl w4 w4.heap.size x K (invF F M K) := Sl.own hx
  replace hc := hc.on b4
  replace b4 := b3.trans (b4.mono b3.size)
  clear b3 hx
  go_wp2_with fail
  refine (line_yes K w4 hK1 hK2).mono ?_
  rintro e w5 ⟨y, rfl, hy, b5⟩
  have hl : Sl w5 w5.heap.size y K (fun i => argV i K) := Sl.own hy
  replace hc := hc.on b5
  replace hi := hi.on b5
  replace b5 := b4.trans (b5.mono b4.size)
  clear b4 hy
  obtain ⟨bi, oi, pi, rfl, li, ci⟩ := hi.at (by omega)
  obtain ⟨bl, ol, pl, rfl, ll, cl⟩ := hl.at (by omega)
  obtain ⟨bc, oc, pc, rfl, lc, cc⟩ := hc.at (by omega)
  clear hY hK
  go_wp2
  go_loopw [10] (fun i wr => ∃ k : Nat, k ≤ K ∧ i = .int .i64 k ∧ Drawn w5 wr) (fun i _ => K - (intOf i).toNat)
  case atStart => exact ⟨0, by omega, rfl, .refl _⟩
  case round =>
    obtain ⟨k, hk, rfl, hq⟩ := hrel
    by_cases hlt : k < K
    · obtain ⟨X, hX⟩ : ∃ X, invF F M K k = X := ⟨_, rfl⟩
      obtain ⟨L, hL⟩ : ∃ L, argV k K = L := ⟨_, rfl⟩
      obtain ⟨⟨x0, x1⟩, f1, f2, f3⟩ := inv_facts hv hK1 hK2 hlt hX hL
      have ci' := ci.drawn hq
      have c1 := ci' k hlt
      have c2 := (cl.drawn hq) k hlt
      simp only [] at c2
      rw [hX] at c1
      rw [hL] at c2
      have i1 : 0 ≤ (k : Int) ∧ (k : Int) < K := by omega
      have T1 : decide (AtV M F X < L) = false ∨ (decide (AtV M F X < L) = true ∧ decide (L ≤ AtV M F 65535) = false ∧ 0 < X) := by simpa using f1
      have T2 : decide (0 < X) = false ∨ (decide (0 < X) = true ∧ decide (L ≤ AtV M F (X - 1)) = false) := by
        by_cases h0 : 0 < X
        · exact .inr ⟨decide_eq_true h0, decide_eq_false (f2 h0)⟩
        · exact .inl (decide_eq_false h0)
      have T3 : decide (0 < k) = false ∨ (decide (0 < k) = true ∧ ∃ j : Nat, (k : Int) - 1 = (j : Int) ∧ (0 ≤ (j : Int) ∧ (j : Int) < K) ∧ ∃ X', (wr.cell? ⟨bi, oi + j, none⟩ = some (.int .i64 X')) ∧ decide (X < X') = false) := by
        by_cases h0 : 0 < k
        · exact .inr ⟨decide_eq_true (by omega), k - 1, by omega, by omega, _, ci' (k - 1) (by omega), decide_eq_false (f3 h0)⟩
        · exact .inl (decide_eq_false (by omega))
      clear f1 f2 f3
      have hcq := hc.drawn hq
      have HT : (decide (AtV M F X < L) = false ∧ decide (0 < X) = false ∧ decide (0 < k) = false) ∨ (decide (0 < k) = true ∧ ∃ j : Nat, (k : Int) - 1 = (j : Int) ∧ (0 ≤ (j : Int) ∧ (j : Int) < K) ∧ ∃ X', (wr.cell? ⟨bi, oi + j, none⟩ = some (.int .i64 X')) ∧ decide (X < X') = false ∧
          ((decide (AtV M F X < L) = false ∧ decide (0 < X) = false) ∨ (decide (AtV M F X < L) = false ∧ decide (0 < X) = true ∧ decide (L ≤ AtV M F (X - 1)) = false) ∨ (decide (AtV M F X < L) = true ∧ decide (L ≤ AtV M F 65535) = false ∧ decide (0 < X) = true ∧ decide (L ≤ AtV M F (X - 1)) = false))) := by
        rcases T3 with t3 | ⟨t3, j, ej, ij, X', c3, t3'⟩
        · left
          obtain rfl : k = 0 := by simp at t3; omega
          obtain ⟨e1, e2, e3⟩ := inv_first hv hK1
          rw [hX] at e1
          rw [hL] at e2
          subst e1 e2
          exact ⟨decide_eq_false (by omega), decide_eq_false (by omega), t3⟩
        · right
          refine ⟨t3, j, ej, ij, X', c3, t3', ?_⟩
          rcases T1 with t1 | ⟨t1, t1', t1x⟩ <;> rcases T2 with t2 | ⟨t2, t2'⟩
          · exact .inl ⟨t1, t2⟩
          · exact .inr (.inl ⟨t1, t2, t2'⟩)
          · simp at t2; omega
          · exact .inr (.inr ⟨t1, t1', t2, t2'⟩)
      clear T1 T2 T3 hX hL
      rcases HT with ⟨t1, t2, t3⟩ | ⟨t3, j, ej, ij, X', c3, t3', (⟨t1, t2⟩ | ⟨t1, t2, t2'⟩ | ⟨t1, t1', t2, t2'⟩)⟩
      all_goals (
        go_wp2
        go_quiet ((go_at_call 20; exact Calls.quiet_of (At_any (by omega) (hcq.drawnN _))))
        go_wp2
        go_roundw
        case rel => exact ⟨k + 1, by omega, by go_num, hq.on _⟩
        case measure => simp [intOf]; omega)
    · obtain rfl : k = K := by omega
      go_wp2
      go_ret
      exact ⟨rfl, b5.trans (hq.below _)⟩

end Go.Proofs.Ytphcianmgpbjmaa
