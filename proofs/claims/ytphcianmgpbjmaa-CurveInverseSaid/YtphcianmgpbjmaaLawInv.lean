/- The statement CurveInverse, walked. -/
import Derived.Test.YtphcianmgpbjmaaPair
namespace Go.Proofs.Ytphcianmgpbjmaa
open Go.RowKit

set_option maxHeartbeats 4000000 in
set_option maxRecDepth 100000 in
theorem curveInverse_walk {f g : Nat → Int} {n m : Nat} {v u : Value} {N : Int} {w : World} (hn : n ≤ 9223372036854775807) (hm : m ≤ 9223372036854775807) (hs : Sl w w.heap.size v n f) (ht : Sl w w.heap.size u m g) :
    Calls Try.prog 11 #[v, u, .int .i64 N] w fun e w' => e = .returned (.bool true) ∧ Below w.heap.size w w' := by
  obtain ⟨Y, hY⟩ : ∃ Y, bits .and .i64 N 65535 = Y := ⟨_, rfl⟩
  obtain ⟨hY0, hY1⟩ : 0 ≤ Y ∧ Y ≤ 65535 := by rw [← hY, and_ffff]; omega
  obtain ⟨K, hK, hK1, hK2⟩ : ∃ K : Nat, 2 + Y % 256 = (K : Int) ∧ 2 ≤ K ∧ K ≤ 257 := ⟨(2 + Y % 256).toNat, by omega, by omega, by omega⟩
  have hd := madeN_bd m
  have hv := made_vld m g
  obtain ⟨F, hF⟩ : ∃ F, madeV m g = F := ⟨_, rfl⟩
  obtain ⟨M, hM⟩ : ∃ M, madeN m = M := ⟨_, rfl⟩
  rw [hM] at hd hv
  rw [hF] at hv
  have HF := Lib.hid hF
  have HM := Lib.hid hM
  clear hF hM
  obtain ⟨P, hP⟩ : ∃ P, min n 260 = P := ⟨_, rfl⟩
  have hP' : P ≤ 260 := by omega
  have HP := Lib.hid hP
  clear hP
  have hle := okN_le (v := vldB P f) (n := N)
  obtain ⟨Q, hQ⟩ : ∃ Q, okN (vldB P f) (pts N) N = Q := ⟨_, rfl⟩
  obtain ⟨E, hE⟩ : ∃ E, okE (vldB P f) (pts N) = E := ⟨_, rfl⟩
  rw [hQ] at hle
  have HQ := Lib.hid hQ
  have HE := Lib.hid hE
  clear hQ hE
  go_enter Try.func11, Try.ntmps11
  go_wp2_with fail
  refine (sanity_any w).mono ?_
  rintro e w1 ⟨rfl, b1⟩
  replace hs := hs.on b1
  replace ht := ht.on b1
  go_wp2_with fail
  refine (some_sl hn hs (Nat.le_refl _)).mono ?_
  rintro e w2 ⟨c, rfl, hc, b2⟩
  rw [HP.out] at hc
  replace ht := ht.on b2
  replace b2 := b1.trans (b2.mono b1.size)
  clear b1 hs
  go_wp2_with fail
  refine (made_sl hm ht (Nat.le_refl _)).mono ?_
  rintro e w3 ⟨d, rfl, hd', b3⟩
  rw [HF.out, HM.out] at hd'
  replace hc := hc.on b3
  replace b3 := b2.trans (b3.mono b2.size)
  clear b2 ht
  go_wp2_with fail
  refine (inverse_any (by omega) hc).mono ?_
  rintro e w4 ⟨x, rfl, hx, b4⟩
  rw [HQ.out] at hx
  rw [HE.out]
  obtain ⟨xa, xc, rfl⟩ := own_shape hx
  have X4 : Sl w4 w4.heap.size (.slice xa Q xc) Q (invF f P N.toNat) := Sl.own hx
  replace hc := hc.on b4
  replace hd' := hd'.on b4
  replace b4 := b3.trans (b4.mono b3.size)
  clear b3 hx
  go_wp2_with fail
  refine (refInverse_any (by omega) hc).mono ?_
  rintro e w5 ⟨y, rfl, hy, b5⟩
  rw [HQ.out] at hy
  rw [HE.out]
  obtain ⟨ya, yc, rfl⟩ := own_shape hy
  have Y5 : Sl w5 w5.heap.size (.slice ya Q yc) Q (invF f P N.toNat) := Sl.own hy
  replace X4 := X4.on b5
  replace hd' := hd'.on b5
  replace b5 := b4.trans (b5.mono b4.size)
  clear b4 hy hc
  have G6 := Pair.new w5 (.slice ya Q yc) E 43
  have q6 : Below w5.heap.size w5 (w5.alloc (.cells #[.slice ya Q yc, .int .i64 E] 43)) := (Below.refl _ w5).alloc (Nat.le_refl _) _
  obtain ⟨w6, h6⟩ : ∃ w6, w5.alloc (.cells #[.slice ya Q yc, .int .i64 E] 43) = w6 := ⟨_, rfl⟩
  rw [h6] at G6 q6
  have X6 := X4.on q6
  have Y6 := Y5.on q6
  replace hd' := hd'.on q6
  have b6 := b5.trans (q6.mono b5.size)
  clear b5 q6 X4 Y5
  go_wp2_with fail
  refine (inverse_yes hv hK1 hK2 hd').mono ?_
  rintro e w7 ⟨z, rfl, hz, b7⟩
  obtain ⟨za, zc, rfl⟩ := own_shape hz
  have Z7 : Sl w7 w7.heap.size (.slice za K zc) K (invF F M K) := Sl.own hz
  replace X6 := X6.on b7
  replace Y6 := Y6.on b7
  replace G6 := G6.on b7
  replace hd' := hd'.on b7
  replace b7 := b6.trans (b7.mono b6.size)
  clear b6 hz
  go_wp2_with fail
  refine (refInverse_yes hv hK1 hK2 hd').mono ?_
  rintro e w8 ⟨t, rfl, ht, b8⟩
  obtain ⟨ta, tc, rfl⟩ := own_shape ht
  have T8 : Sl w8 w8.heap.size (.slice ta K tc) K (invF F M K) := Sl.own ht
  have G9 := Pair.new w8 (.slice ta K tc) 0 43
  have q9 : Below w8.heap.size w8 (w8.alloc (.cells #[.slice ta K tc, .int .i64 0] 43)) := (Below.refl _ w8).alloc (Nat.le_refl _) _
  obtain ⟨w9, h9⟩ : ∃ w9, w8.alloc (.cells #[.slice ta K tc, .int .i64 0] 43) = w9 := ⟨_, rfl⟩
  have hset : w9.setCell ⟨w8.heap.size, 1, none⟩ (.int .i64 0) = w9 := by rw [← h9]; simp [go_sem]
  rw [h9] at G9 q9
  have X9 := (X6.on b8).on q9
  have Y9 := (Y6.on b8).on q9
  have Z9 := (Z7.on b8).on q9
  have T9 := T8.on q9
  have P9 := (G6.on b8).on q9
  have b89 := b8.trans (q9.mono b8.size)
  have b9 := b7.trans (b89.mono b7.size)
  obtain ⟨p0, p1, p2, p3, p4⟩ := P9
  obtain ⟨g0, g1, g2, g3, g4⟩ := G9
  clear b7 b8 b89 q9 X6 Y6 Z7 T8 G6 ht hd'
  go_wp2_with fail
  refine (same_eq (by omega) X9 Y9).mono ?_
  rintro e w10 ⟨rfl, q⟩
  obtain ⟨j, rfl⟩ := q
  rw [sameB_t fun _ _ => rfl]
  go_wp2_with fail
  refine (same_eq (by omega) (Z9.drawnN j) (T9.drawnN j)).mono ?_
  rintro e w10 ⟨rfl, q⟩
  obtain ⟨j', rfl⟩ := q
  rw [sameB_t fun _ _ => rfl]
  go_wp2_with fail
  refine (valid_any (by omega) (Z9.drawnN (j + j'))).mono ?_
  rintro e w10 ⟨rfl, q⟩
  rw [vldB_t (invF_vld hv hK1 hK2)]
  have b10 := (below_drewN b9 (j + j')).trans (q.below _)
  go_wp2_with fail
  go_ret
  exact ⟨rfl, b10⟩

end Go.Proofs.Ytphcianmgpbjmaa
