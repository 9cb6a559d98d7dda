/- The statement CurveLine. -/
import Derived.Test.YtphcianmgpbjmaaLine
namespace Go.Proofs.Ytphcianmgpbjmaa
open Go.RowKit

set_option maxHeartbeats 2000000 in
theorem curveLine_walk (n x : Int) (w : World) :
    Calls Try.prog 5 #[.int .i64 n, .int .i64 x] w fun e w' => e = .returned (.bool true) ∧ Below w.heap.size w w' := by
  obtain ⟨X, hX⟩ : ∃ X, bits .and .i64 x 65535 = X := ⟨_, rfl⟩
  obtain ⟨Y, hY⟩ : ∃ Y, bits .and .i64 n 65535 = Y := ⟨_, rfl⟩
  obtain ⟨hX0, hX1⟩ : 0 ≤ X ∧ X ≤ 65535 := by rw [← hX, and_ffff]; omega
  obtain ⟨hY0, hY1⟩ : 0 ≤ Y ∧ Y ≤ 65535 := by rw [← hY, and_ffff]; omega
  obtain ⟨k, hk, hk1, hk2⟩ : ∃ k : Nat, 2 + Y % 256 = (k : Int) ∧ 2 ≤ k ∧ k ≤ 257 := ⟨(2 + Y % 256).toNat, by omega, by omega, by omega⟩
  go_enter Try.func5, Try.ntmps5
  go_wp2_with fail
  refine (sanity_any w).mono ?_
  rintro e w1 ⟨rfl, b1⟩
  go_wp2_with fail
  have HK := Lib.hid hk
  clear hk
  refine (line_yes k w1 hk1 hk2).mono ?_
  rintro e w2 ⟨c, rfl, ho, b2⟩
  have hc : Sl w2 w2.heap.size c k (fun i => argV i k) := Sl.own ho
  replace b2 := b1.trans (b2.mono b1.size)
  clear b1 ho
  obtain ⟨V, hV⟩ : ∃ V, AtV k (fun i => argV i k) X = V := ⟨_, rfl⟩
  have hv := line_vld k hk1 hk2
  have HV := Lib.hid hV
  obtain ⟨n1, n2⟩ : V - X ≤ 1 ∧ X - V ≤ 1 := by rw [← hV, AtV_in hv hX0 hX1]; exact line_near k hk1 hX0 hX1
  have hVb : 0 ≤ V ∧ V ≤ 65535 := by rw [← hV, AtV_in hv hX0 hX1]; exact atV_range hv hX0 hX1
  clear hV
  go_wp2_with fail
  refine (At_is (by omega) hc HV.out).mono ?_
  rintro e w3 ⟨rfl, q⟩
  replace hc := hc.on (q.below _)
  have b3 := b2.trans (q.below _)
  clear b2 q
  by_cases hn : 2 ≤ n ∧ n ≤ 257
  · obtain ⟨j, rfl⟩ := Int.eq_ofNat_of_zero_le (show 0 ≤ n by omega)
    have hj1 : 2 ≤ j := by omega
    have hj2 : j ≤ 257 := by omega
    clear hn
    go_wp2_with fail
    refine (line_yes j w3 hj1 hj2).mono ?_
    rintro e w4 ⟨u, rfl, ho, b4⟩
    have hu : Sl w4 w4.heap.size u j (fun i => argV i j) := Sl.own ho
    replace hc := hc.on b4
    replace b4 := b3.trans (b4.mono b3.size)
    clear b3 ho
    go_wp2_with fail
    refine (refLine_yes j w4 hj1 hj2).mono ?_
    rintro e w5 ⟨u', rfl, ho, b5⟩
    have hu' : Sl w5 w5.heap.size u' j (fun i => argV i j) := Sl.own ho
    replace hu := hu.on b5
    replace hc := hc.on b5
    replace b5 := b4.trans (b5.mono b4.size)
    clear b4 ho
    go_wp2_with fail
    refine (same_eq (by omega) hu hu').mono ?_
    rintro e w6 ⟨rfl, q⟩
    rw [sameB_t fun _ _ => rfl]
    replace hc := hc.on (q.below _)
    have b6 := b5.trans (q.below _)
    clear b5 q hu hu'
    go_wp2_with fail
    refine (refLine_yes k w6 hk1 hk2).mono ?_
    rintro e w7 ⟨c', rfl, ho, b7⟩
    have hc' : Sl w7 w7.heap.size c' k (fun i => argV i k) := Sl.own ho
    replace hc := hc.on b7
    replace b7 := b6.trans (b7.mono b6.size)
    clear b6 ho
    go_wp2_with fail
    refine (same_eq (by omega) hc hc').mono ?_
    rintro e w8 ⟨rfl, q⟩
    rw [sameB_t fun _ _ => rfl]
    replace hc := hc.on (q.below _)
    have b8 := b7.trans (q.below _)
    clear b7 q hc'
    go_wp2_with fail
    refine (valid_any (by omega) hc).mono ?_
    rintro e w9 ⟨rfl, q⟩
    rw [vldB_t hv]
    have b9 := b8.trans (q.below _)
    clear b8 q
    go_wp2_with fail
    go_ret
    exact ⟨rfl, b9⟩
  · go_wp2_with fail
    refine (line_no n w3 hn).mono ?_
    rintro e w4 ⟨rfl, b4⟩
    replace hc := hc.on b4
    replace b4 := b3.trans (b4.mono b3.size)
    clear b3
    go_wp2_with fail
    refine (refLine_no n w4 hn).mono ?_
    rintro e w5 ⟨rfl, b5⟩
    have hu : Sl w5 w5.heap.size (.slice none 0 0) 0 (fun _ => 0) := .inl ⟨rfl, _, _, rfl, fun _ => rfl⟩
    replace hc := hc.on b5
    replace b5 := b4.trans (b5.mono b4.size)
    clear b4 hn
    go_wp2_with fail
    refine (same_eq (by omega) hu hu).mono ?_
    rintro e w6 ⟨rfl, q⟩
    rw [sameB_t fun _ _ => rfl]
    replace hc := hc.on (q.below _)
    have b6 := b5.trans (q.below _)
    clear b5 q hu
    go_wp2_with fail
    refine (refLine_yes k w6 hk1 hk2).mono ?_
    rintro e w7 ⟨c', rfl, ho, b7⟩
    have hc' : Sl w7 w7.heap.size c' k (fun i => argV i k) := Sl.own ho
    replace hc := hc.on b7
    replace b7 := b6.trans (b7.mono b6.size)
    clear b6 ho
    go_wp2_with fail
    refine (same_eq (by omega) hc hc').mono ?_
    rintro e w8 ⟨rfl, q⟩
    rw [sameB_t fun _ _ => rfl]
    replace hc := hc.on (q.below _)
    have b8 := b7.trans (q.below _)
    clear b7 q hc'
    go_wp2_with fail
    refine (valid_any (by omega) hc).mono ?_
    rintro e w9 ⟨rfl, q⟩
    rw [vldB_t hv]
    have b9 := b8.trans (q.below _)
    clear b8 q
    go_wp2_with fail
    go_ret
    exact ⟨rfl, b9⟩

end Go.Proofs.Ytphcianmgpbjmaa
