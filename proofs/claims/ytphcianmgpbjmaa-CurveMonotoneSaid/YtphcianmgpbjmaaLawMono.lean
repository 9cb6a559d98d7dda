/- The statement CurveMonotone: At is monotone, its values lie between those of the neighbouring points, and arguments out of range are clamped. -/
import Derived.Test.YtphcianmgpbjmaaS
namespace Go.Proofs.Ytphcianmgpbjmaa
open Go.RowKit

set_option maxHeartbeats 2000000 in
theorem curveMonotone_walk {g : Nat → Int} {m : Nat} {u : Value} {x y : Int} {w : World} (hm : m ≤ 9223372036854775807) (ht : Sl w w.heap.size u m g) :
    Calls Try.prog 4 #[u, .int .i64 x, .int .i64 y] w fun e w' => e = .returned (.bool true) ∧ Below w.heap.size w w' := by
  obtain ⟨X, hX⟩ : ∃ X, bits .and .i64 x 65535 = X := ⟨_, rfl⟩
  obtain ⟨Y, hY⟩ : ∃ Y, bits .and .i64 y 65535 = Y := ⟨_, rfl⟩
  have hX0 : 0 ≤ X ∧ X ≤ 65535 := by rw [← hX, and_ffff]; omega
  have hY0 : 0 ≤ Y ∧ Y ≤ 65535 := by rw [← hY, and_ffff]; omega
  obtain ⟨hX0, hX1⟩ := hX0
  obtain ⟨hY0, hY1⟩ := hY0
  have hd := madeN_bd m
  have hv := made_vld m g
  obtain ⟨F, hF⟩ : ∃ F, madeV m g = F := ⟨_, rfl⟩
  obtain ⟨N, hN⟩ : ∃ N, madeN m = N + 1 := ⟨madeN m - 1, by omega⟩
  rw [hN] at hd hv
  rw [hF] at hv
  have HF := Lib.hid hF
  have HN := Lib.hid hN
  clear hF hN
  go_enter Try.func4, Try.ntmps4
  go_wp2_with fail
  refine (sanity_any w).mono ?_
  rintro e w1 ⟨rfl, b1⟩
  replace ht := ht.on b1
  go_wp2_with fail
  refine (made_sl hm ht (Nat.le_refl _)).mono ?_
  rintro e w3 ⟨d, rfl, hc, b3⟩
  rw [HF.out, HN.out] at hc
  replace b3 := b1.trans (b3.mono b1.size)
  clear b1 ht
  obtain ⟨b, off, cap, rfl, hbB, hcell⟩ := hc.at (by omega)
  rcases Int.lt_trichotomy X Y with hxy | hxy | hxy
  · obtain ⟨P, hP⟩ : ∃ P, AtV (N + 1) F X = P := ⟨_, rfl⟩
    obtain ⟨Q, hQ⟩ : ∃ Q, AtV (N + 1) F Y = Q := ⟨_, rfl⟩
    have hmn : P ≤ Q := by rw [← hP, ← hQ]; exact AtV_mono hv (by omega)
    have HP := Lib.hid hP
    have HQ := Lib.hid hQ
    clear hP hQ
    go_wp2_with fail
    refine (At_is (by omega) hc HP.out).mono ?_
    rintro e w4 ⟨rfl, q⟩
    replace hc := hc.on (q.below _)
    replace hcell := hcell.drawn q
    have b4 := b3.trans (q.below _)
    clear b3 q
    go_wp2_with fail
    refine (At_is (by omega) hc HQ.out).mono ?_
    rintro e w5 ⟨rfl, q⟩
    replace hc := hc.on (q.below _)
    replace hcell := hcell.drawn q
    have b5 := b4.trans (q.below _)
    clear b4 q
    obtain ⟨i, hi, hiN, hb1, hb2⟩ := between_place hv hX0 hX1
    obtain ⟨V, hV⟩ : ∃ V, AtV (N + 1) F X = V := ⟨_, rfl⟩
    rw [show atV F N X = V from (AtV_in hv hX0 hX1).symm.trans hV] at hb1 hb2
    have HV := Lib.hid hV
    obtain ⟨⟨z0, z1⟩, _⟩ := at_place N X (by omega) hX0 hX1
    clear hV
    go_wp2_with fail
    refine (At_is (by omega) hc HV.out).mono ?_
    rintro e w6 ⟨rfl, q⟩
    replace hc := hc.on (q.below _)
    replace hcell := hcell.drawn q
    have b6 := b5.trans (q.below _)
    clear b5 q
    have hic := hcell i (by omega)
    have hc0 := hcell.zero (by omega)
    have hcN := hcell N (by omega)
    have e1 : AtV (N + 1) F 0 = F 0 := AtV_low hv (by omega)
    have e2 : AtV (N + 1) F 65535 = F N := AtV_high hv (by omega)
    have e3 : AtV (N + 1) F (-1 - X) = F 0 := AtV_low hv (by omega)
    have e4 : AtV (N + 1) F (65536 + X) = F N := AtV_high hv (by omega)
    have dPQ : decide (P ≤ Q) = true := decide_eq_true hmn
    have dV1 : decide (F i ≤ V) = true := decide_eq_true hb1
    by_cases htop : i + 1 ≤ N
    · have hB2 : V ≤ F (i + 1) := by rw [Nat.min_eq_left (by omega)] at hb2; exact hb2
      have hj : ¬ (N : Int) < (i : Int) + 1 := by omega
      have c3 := hcell (i + 1) (by omega)
      have d3 : decide (V ≤ F (i + 1)) = true := decide_eq_true hB2
      have ii : 0 ≤ (i : Int) ∧ (i : Int) < (N : Int) + 1 := by omega
      have ij : 0 ≤ ((i + 1 : Nat) : Int) ∧ ((i + 1 : Nat) : Int) < (N : Int) + 1 := by omega
      have ij2 : 0 ≤ (i : Int) + 1 ∧ (i : Int) + 1 < (N : Int) + 1 := by omega
      clear hb2 hB2
      go_wp2
      go_quiet ((go_at_call 20; exact Calls.quiet_of (At_any (by omega) (hc.drawnN _))))
      go_wp2
      go_ret
      exact ⟨rfl, below_drewN b6 _⟩
    · have hB2 : V ≤ F (N) := by rw [Nat.min_eq_right (by omega)] at hb2; exact hb2
      have hj : (N : Int) < (i : Int) + 1 := by omega
      have c3 := hcell (N) (by omega)
      have d3 : decide (V ≤ F (N)) = true := decide_eq_true hB2
      have ii : 0 ≤ (i : Int) ∧ (i : Int) < (N : Int) + 1 := by omega
      have ij : 0 ≤ ((N : Nat) : Int) ∧ ((N : Nat) : Int) < (N : Int) + 1 := by omega

      clear hb2 hB2
      go_wp2
      go_quiet ((go_at_call 20; exact Calls.quiet_of (At_any (by omega) (hc.drawnN _))))
      go_wp2
      go_ret
      exact ⟨rfl, below_drewN b6 _⟩
  · subst hxy
    obtain ⟨P, hP⟩ : ∃ P, AtV (N + 1) F X = P := ⟨_, rfl⟩
    obtain ⟨Q, hQ⟩ : ∃ Q, AtV (N + 1) F X = Q := ⟨_, rfl⟩
    have hmn : P ≤ Q := by rw [← hP, ← hQ]; exact AtV_mono hv (by omega)
    have HP := Lib.hid hP
    have HQ := Lib.hid hQ
    clear hP hQ
    go_wp2_with fail
    refine (At_is (by omega) hc HP.out).mono ?_
    rintro e w4 ⟨rfl, q⟩
    replace hc := hc.on (q.below _)
    replace hcell := hcell.drawn q
    have b4 := b3.trans (q.below _)
    clear b3 q
    go_wp2_with fail
    refine (At_is (by omega) hc HQ.out).mono ?_
    rintro e w5 ⟨rfl, q⟩
    replace hc := hc.on (q.below _)
    replace hcell := hcell.drawn q
    have b5 := b4.trans (q.below _)
    clear b4 q
    obtain ⟨i, hi, hiN, hb1, hb2⟩ := between_place hv hX0 hX1
    obtain ⟨V, hV⟩ : ∃ V, AtV (N + 1) F X = V := ⟨_, rfl⟩
    rw [show atV F N X = V from (AtV_in hv hX0 hX1).symm.trans hV] at hb1 hb2
    have HV := Lib.hid hV
    obtain ⟨⟨z0, z1⟩, _⟩ := at_place N X (by omega) hX0 hX1
    clear hV
    go_wp2_with fail
    refine (At_is (by omega) hc HV.out).mono ?_
    rintro e w6 ⟨rfl, q⟩
    replace hc := hc.on (q.below _)
    replace hcell := hcell.drawn q
    have b6 := b5.trans (q.below _)
    clear b5 q
    have hic := hcell i (by omega)
    have hc0 := hcell.zero (by omega)
    have hcN := hcell N (by omega)
    have e1 : AtV (N + 1) F 0 = F 0 := AtV_low hv (by omega)
    have e2 : AtV (N + 1) F 65535 = F N := AtV_high hv (by omega)
    have e3 : AtV (N + 1) F (-1 - X) = F 0 := AtV_low hv (by omega)
    have e4 : AtV (N + 1) F (65536 + X) = F N := AtV_high hv (by omega)
    have dPQ : decide (P ≤ Q) = true := decide_eq_true hmn
    have dV1 : decide (F i ≤ V) = true := decide_eq_true hb1
    by_cases htop : i + 1 ≤ N
    · have hB2 : V ≤ F (i + 1) := by rw [Nat.min_eq_left (by omega)] at hb2; exact hb2
      have hj : ¬ (N : Int) < (i : Int) + 1 := by omega
      have c3 := hcell (i + 1) (by omega)
      have d3 : decide (V ≤ F (i + 1)) = true := decide_eq_true hB2
      have ii : 0 ≤ (i : Int) ∧ (i : Int) < (N : Int) + 1 := by omega
      have ij : 0 ≤ ((i + 1 : Nat) : Int) ∧ ((i + 1 : Nat) : Int) < (N : Int) + 1 := by omega
      have ij2 : 0 ≤ (i : Int) + 1 ∧ (i : Int) + 1 < (N : Int) + 1 := by omega
      clear hb2 hB2
      go_wp2
      go_quiet ((go_at_call 20; exact Calls.quiet_of (At_any (by omega) (hc.drawnN _))))
      go_wp2
      go_ret
      exact ⟨rfl, below_drewN b6 _⟩
    · have hB2 : V ≤ F (N) := by rw [Nat.min_eq_right (by omega)] at hb2; exact hb2
      have hj : (N : Int) < (i : Int) + 1 := by omega
      have c3 := hcell (N) (by omega)
      have d3 : decide (V ≤ F (N)) = true := decide_eq_true hB2
      have ii : 0 ≤ (i : Int) ∧ (i : Int) < (N : Int) + 1 := by omega
      have ij : 0 ≤ ((N : Nat) : Int) ∧ ((N : Nat) : Int) < (N : Int) + 1 := by omega

      clear hb2 hB2
      go_wp2
      go_quiet ((go_at_call 20; exact Calls.quiet_of (At_any (by omega) (hc.drawnN _))))
      go_wp2
      go_ret
      exact ⟨rfl, below_drewN b6 _⟩
  · obtain ⟨P, hP⟩ : ∃ P, AtV (N + 1) F Y = P := ⟨_, rfl⟩
    obtain ⟨Q, hQ⟩ : ∃ Q, AtV (N + 1) F X = Q := ⟨_, rfl⟩
    have hmn : P ≤ Q := by rw [← hP, ← hQ]; exact AtV_mono hv (by omega)
    have HP := Lib.hid hP
    have HQ := Lib.hid hQ
    clear hP hQ
    go_wp2_with fail
    refine (At_is (by omega) hc HP.out).mono ?_
    rintro e w4 ⟨rfl, q⟩
    replace hc := hc.on (q.below _)
    replace hcell := hcell.drawn q
    have b4 := b3.trans (q.below _)
    clear b3 q
    go_wp2_with fail
    refine (At_is (by omega) hc HQ.out).mono ?_
    rintro e w5 ⟨rfl, q⟩
    replace hc := hc.on (q.below _)
    replace hcell := hcell.drawn q
    have b5 := b4.trans (q.below _)
    clear b4 q
    obtain ⟨i, hi, hiN, hb1, hb2⟩ := between_place hv hX0 hX1
    obtain ⟨V, hV⟩ : ∃ V, AtV (N + 1) F X = V := ⟨_, rfl⟩
    rw [show atV F N X = V from (AtV_in hv hX0 hX1).symm.trans hV] at hb1 hb2
    have HV := Lib.hid hV
    obtain ⟨⟨z0, z1⟩, _⟩ := at_place N X (by omega) hX0 hX1
    clear hV
    go_wp2_with fail
    refine (At_is (by omega) hc HV.out).mono ?_
    rintro e w6 ⟨rfl, q⟩
    replace hc := hc.on (q.below _)
    replace hcell := hcell.drawn q
    have b6 := b5.trans (q.below _)
    clear b5 q
    have hic := hcell i (by omega)
    have hc0 := hcell.zero (by omega)
    have hcN := hcell N (by omega)
    have e1 : AtV (N + 1) F 0 = F 0 := AtV_low hv (by omega)
    have e2 : AtV (N + 1) F 65535 = F N := AtV_high hv (by omega)
    have e3 : AtV (N + 1) F (-1 - X) = F 0 := AtV_low hv (by omega)
    have e4 : AtV (N + 1) F (65536 + X) = F N := AtV_high hv (by omega)
    have dPQ : decide (P ≤ Q) = true := decide_eq_true hmn
    have dV1 : decide (F i ≤ V) = true := decide_eq_true hb1
    by_cases htop : i + 1 ≤ N
    · have hB2 : V ≤ F (i + 1) := by rw [Nat.min_eq_left (by omega)] at hb2; exact hb2
      have hj : ¬ (N : Int) < (i : Int) + 1 := by omega
      have c3 := hcell (i + 1) (by omega)
      have d3 : decide (V ≤ F (i + 1)) = true := decide_eq_true hB2
      have ii : 0 ≤ (i : Int) ∧ (i : Int) < (N : Int) + 1 := by omega
      have ij : 0 ≤ ((i + 1 : Nat) : Int) ∧ ((i + 1 : Nat) : Int) < (N : Int) + 1 := by omega
      have ij2 : 0 ≤ (i : Int) + 1 ∧ (i : Int) + 1 < (N : Int) + 1 := by omega
      clear hb2 hB2
      go_wp2
      go_quiet ((go_at_call 20; exact Calls.quiet_of (At_any (by omega) (hc.drawnN _))))
      go_wp2
      go_ret
      exact ⟨rfl, below_drewN b6 _⟩
    · have hB2 : V ≤ F (N) := by rw [Nat.min_eq_right (by omega)] at hb2; exact hb2
      have hj : (N : Int) < (i : Int) + 1 := by omega
      have c3 := hcell (N) (by omega)
      have d3 : decide (V ≤ F (N)) = true := decide_eq_true hB2
      have ii : 0 ≤ (i : Int) ∧ (i : Int) < (N : Int) + 1 := by omega
      have ij : 0 ≤ ((N : Nat) : Int) ∧ ((N : Nat) : Int) < (N : Int) + 1 := by omega

      clear hb2 hB2
      go_wp2
      go_quiet ((go_at_call 20; exact Calls.quiet_of (At_any (by omega) (hc.drawnN _))))
      go_wp2
      go_ret
      exact ⟨rfl, below_drewN b6 _⟩

end Go.Proofs.Ytphcianmgpbjmaa
