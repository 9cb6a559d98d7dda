/- The statements CurveError and CurveBound, walked. -/
import Derived.Test.YtphcianmgpbjmaaErr
namespace Go.Proofs.Ytphcianmgpbjmaa
open Go.RowKit

/-- The box of two slices. -/
def Two (w : World) (b : Nat) (v u : Value) : Prop := b < w.heap.size ∧ w.cell? ⟨b, 0, none⟩ = some v ∧ w.cell? ⟨b, 1, none⟩ = some u
theorem Two.new (w : World) (v u : Value) (t : TypeId) : Two (w.alloc (.cells #[v, u] t)) w.heap.size v u :=
  ⟨by simp, by rw [World.cell?_alloc_at _ _ _ _ rfl]; rfl, by rw [World.cell?_alloc_at _ _ _ _ rfl]; rfl⟩
theorem Two.on {w w' : World} {b : Nat} {v u : Value} (h : Two w b v u) (hb : Below w.heap.size w w') : Two w' b v u :=
  ⟨Nat.lt_of_lt_of_le h.1 hb.size, (hb.cell (p := ⟨b, 0, none⟩) h.1).trans h.2.1, (hb.cell (p := ⟨b, 1, none⟩) h.1).trans h.2.2⟩

set_option maxHeartbeats 4000000 in
theorem curveBound_walk {f g : Nat → Int} {n m : Nat} {v u : Value} {x : Int} {w : World} (hn : n ≤ 9223372036854775807) (hm : m ≤ 9223372036854775807) (hs : Sl w w.heap.size v n f) (ht : Sl w w.heap.size u m g) :
    Calls Try.prog 14 #[.agg #[v, u], .int .i64 x] w fun e w' => e = .returned (.bool true) ∧ Below w.heap.size w w' := by
  obtain ⟨X, hX⟩ : ∃ X, bits .and .i64 x 65535 = X := ⟨_, rfl⟩
  obtain ⟨hX0, hX1⟩ : 0 ≤ X ∧ X ≤ 65535 := by rw [← hX, and_ffff]; omega
  have hd1 := madeN_bd n
  have hv1 := made_vld n f
  have hd2 := madeN_bd m
  have hv2 := made_vld m g
  obtain ⟨F, hF⟩ : ∃ F, madeV n f = F := ⟨_, rfl⟩
  obtain ⟨N, hN⟩ : ∃ N, madeN n = N := ⟨_, rfl⟩
  obtain ⟨G, hG⟩ : ∃ G, madeV m g = G := ⟨_, rfl⟩
  obtain ⟨M, hM⟩ : ∃ M, madeN m = M := ⟨_, rfl⟩
  rw [hN] at hd1 hv1
  rw [hF] at hv1
  rw [hM] at hd2 hv2
  rw [hG] at hv2
  have HF := Lib.hid hF
  have HN := Lib.hid hN
  have HG := Lib.hid hG
  have HM := Lib.hid hM
  clear hF hN hG hM
  obtain ⟨D, hD⟩ : ∃ D, worst N F M G 65536 = D := ⟨_, rfl⟩
  obtain ⟨A, hA⟩ : ∃ A, AtV N F X = A := ⟨_, rfl⟩
  obtain ⟨B, hB⟩ : ∃ B, AtV M G X = B := ⟨_, rfl⟩
  obtain ⟨V, hV⟩ : ∃ V, A - B = V := ⟨_, rfl⟩
  have hbd := worst_bd N F M G 65536 (by omega)
  obtain ⟨hge1, hge2⟩ := worst_ge N F M G (k := X.toNat) (K := 65536) (by omega)
  rw [vv_t (vldB_t hv1), vv_t (vldB_t hv2), Int.toNat_of_nonneg hX0, ← AtV_in hv1 hX0 hX1, ← AtV_in hv2 hX0 hX1, hA, hB, hD] at hge1 hge2
  rw [hD] at hbd
  have ra : 0 ≤ A ∧ A ≤ 65535 := by rw [← hA, AtV_in hv1 hX0 hX1]; exact atV_range hv1 hX0 hX1
  have rb : 0 ≤ B ∧ B ≤ 65535 := by rw [← hB, AtV_in hv2 hX0 hX1]; exact atV_range hv2 hX0 hX1
  obtain ⟨a0, a1⟩ := ra
  obtain ⟨b0, b1⟩ := rb
  have v0 : -65535 ≤ V ∧ V ≤ 65535 := by omega
  obtain ⟨v0, v1⟩ := v0
  have d1 : decide (V ≤ D) = true := decide_eq_true (by omega)
  have d2 : decide (-V ≤ D) = true := decide_eq_true (by omega)
  have d3 : decide (0 ≤ D) = true := decide_eq_true (by omega)
  have d4 : decide (D ≤ 65535) = true := decide_eq_true (by omega)
  have HD := Lib.hid hD
  have HA := Lib.hid hA
  have HB := Lib.hid hB
  clear hD hA hB hge1 hge2 hbd
  obtain ⟨a, cap, rfl⟩ := hs.shape
  obtain ⟨a', cap', rfl⟩ := ht.shape
  obtain ⟨w0, h0⟩ : ∃ w0, w.alloc (.cells #[.slice a n cap, .slice a' m cap'] 47) = w0 := ⟨_, rfl⟩
  have T0 := Two.new w (.slice a n cap) (.slice a' m cap') 47
  have B0 : Below w.heap.size w (w.alloc (.cells #[.slice a n cap, .slice a' m cap'] 47)) := (Below.refl _ w).alloc (Nat.le_refl _) _
  rw [h0] at T0 B0
  replace hs := hs.on B0
  replace ht := ht.on B0
  go_enter Try.func14, Try.ntmps14
  go_wp2_with fail
  refine (sanity_any w0).mono ?_
  rintro e w1 ⟨rfl, b1⟩
  replace hs := hs.on b1
  replace ht := ht.on b1
  replace T0 := T0.on b1
  replace b1 := B0.trans (b1.mono B0.size)
  clear B0
  obtain ⟨t0, t1, t2⟩ := T0
  go_wp2_with fail
  refine (made_sl hn hs (Nat.le_refl _)).mono ?_
  rintro e w2 ⟨p, rfl, hp, b2⟩
  rw [HF.out, HN.out] at hp
  have T2 := Two.on ⟨t0, t1, t2⟩ b2
  replace ht := ht.on b2
  replace b2 := b1.trans (b2.mono b1.size)
  clear b1 hs t0 t1 t2
  obtain ⟨t0, t1, t2⟩ := T2
  go_wp2_with fail
  refine (made_sl hm ht (Nat.le_refl _)).mono ?_
  rintro e w3 ⟨q, rfl, hq, b3⟩
  rw [HG.out, HM.out] at hq
  replace hp := hp.on b3
  replace b3 := b2.trans (b3.mono b2.size)
  clear b2 ht t0 t1 t2
  go_wp2_with fail
  refine (error_any (by omega) (by omega) hp hq).mono ?_
  rintro e w4 ⟨rfl, q4⟩
  rw [HD.out]
  replace hp := hp.on (q4.below _)
  replace hq := hq.on (q4.below _)
  have b4 := b3.trans (q4.below _)
  clear b3 q4
  go_wp2_with fail
  refine (At_is (by omega) hp HA.out).mono ?_
  rintro e w5 ⟨rfl, q5⟩
  replace hq := hq.on (q5.below _)
  have b5 := b4.trans (q5.below _)
  clear b4 q5 hp
  go_wp2_with fail
  refine (At_is (by omega) hq HB.out).mono ?_
  rintro e w6 ⟨rfl, q6⟩
  have b6 := b5.trans (q6.below _)
  clear b5 q6 hq
  go_wp2_with fail
  go_ret
  exact ⟨rfl, b6⟩

set_option maxHeartbeats 4000000 in
theorem curveError_walk {f g h : Nat → Int} {n m k : Nat} {c v u : Value} {w : World} (hk : k ≤ 9223372036854775807) (hn : n ≤ 9223372036854775807) (hm : m ≤ 9223372036854775807) (hr : Sl w w.heap.size c k h) (hs : Sl w w.heap.size v n f) (ht : Sl w w.heap.size u m g) :
    Calls Try.prog 13 #[c, .agg #[v, u]] w fun e w' => e = .returned (.bool true) ∧ Below w.heap.size w w' := by
  have hd1 := madeN_bd n
  have hd2 := madeN_bd m
  obtain ⟨F, hF⟩ : ∃ F, madeV n f = F := ⟨_, rfl⟩
  obtain ⟨N, hN⟩ : ∃ N, madeN n = N := ⟨_, rfl⟩
  obtain ⟨G, hG⟩ : ∃ G, madeV m g = G := ⟨_, rfl⟩
  obtain ⟨M, hM⟩ : ∃ M, madeN m = M := ⟨_, rfl⟩
  rw [hN] at hd1
  rw [hM] at hd2
  have HF := Lib.hid hF
  have HN := Lib.hid hN
  have HG := Lib.hid hG
  have HM := Lib.hid hM
  clear hF hN hG hM
  obtain ⟨D, hD⟩ : ∃ D, worst N F M G 65536 = D := ⟨_, rfl⟩
  have HD := Lib.hid hD
  have HD' := Lib.hid ((worst_sym N F M G 65536).trans hD)
  have HZ := Lib.hid (worst_self N F 65536)
  clear hD
  obtain ⟨a, cap, rfl⟩ := hs.shape
  obtain ⟨a', cap', rfl⟩ := ht.shape
  obtain ⟨w0, h0⟩ : ∃ w0, w.alloc (.cells #[.slice a n cap, .slice a' m cap'] 47) = w0 := ⟨_, rfl⟩
  have T0 := Two.new w (.slice a n cap) (.slice a' m cap') 47
  have B0 : Below w.heap.size w (w.alloc (.cells #[.slice a n cap, .slice a' m cap'] 47)) := (Below.refl _ w).alloc (Nat.le_refl _) _
  rw [h0] at T0 B0
  replace hr := hr.on B0
  replace hs := hs.on B0
  replace ht := ht.on B0
  go_enter Try.func13, Try.ntmps13
  go_wp2_with fail
  refine (sanity_any w0).mono ?_
  rintro e w1 ⟨rfl, b1⟩
  replace hr := hr.on b1
  replace hs := hs.on b1
  replace ht := ht.on b1
  replace T0 := T0.on b1
  replace b1 := B0.trans (b1.mono B0.size)
  clear B0
  go_wp2_with fail
  refine (some_sl hk hr (Nat.le_refl _)).mono ?_
  rintro e w1' ⟨c', rfl, hc, b1'⟩
  replace hs := hs.on b1'
  replace ht := ht.on b1'
  replace T0 := T0.on b1'
  replace b1' := b1.trans (b1'.mono b1.size)
  clear b1 hr
  obtain ⟨t0, t1, t2⟩ := T0
  go_wp2_with fail
  refine (made_sl hn hs (Nat.le_refl _)).mono ?_
  rintro e w2 ⟨p, rfl, hp, b2⟩
  rw [HF.out, HN.out] at hp
  have T2 := Two.on ⟨t0, t1, t2⟩ b2
  replace hc := hc.on b2
  replace ht := ht.on b2
  replace b2 := b1'.trans (b2.mono b1'.size)
  clear b1' hs t0 t1 t2
  obtain ⟨t0, t1, t2⟩ := T2
  go_wp2_with fail
  refine (made_sl hm ht (Nat.le_refl _)).mono ?_
  rintro e w3 ⟨q, rfl, hq, b3⟩
  rw [HG.out, HM.out] at hq
  replace hc := hc.on b3
  replace hp := hp.on b3
  replace b3 := b2.trans (b3.mono b2.size)
  clear b2 ht t0 t1 t2
  go_wp2_with fail
  refine (error_any (by omega) (by omega) hp hq).mono ?_
  rintro e w4 ⟨rfl, q4⟩
  rw [HD.out]
  replace hc := hc.on (q4.below _)
  replace hp := hp.on (q4.below _)
  replace hq := hq.on (q4.below _)
  have b4 := b3.trans (q4.below _)
  clear b3 q4
  go_wp2_with fail
  refine (error_any (by omega) (by omega) hc hp).mono ?_
  rintro e w5 ⟨rfl, q5⟩
  replace hc := hc.on (q5.below _)
  replace hp := hp.on (q5.below _)
  replace hq := hq.on (q5.below _)
  have b5 := b4.trans (q5.below _)
  clear b4 q5
  go_wp2_with fail
  refine (refError_any (by omega) (by omega) hc hp).mono ?_
  rintro e w6 ⟨rfl, q6⟩
  replace hp := hp.on (q6.below _)
  replace hq := hq.on (q6.below _)
  have b6 := b5.trans (q6.below _)
  clear b5 q6 hc
  go_wp2_with fail
  refine (refError_any (by omega) (by omega) hp hq).mono ?_
  rintro e w7 ⟨rfl, q7⟩
  rw [HD.out]
  replace hp := hp.on (q7.below _)
  replace hq := hq.on (q7.below _)
  have b7 := b6.trans (q7.below _)
  clear b6 q7
  go_wp2_with fail
  refine (error_any (by omega) (by omega) hq hp).mono ?_
  rintro e w8 ⟨rfl, q8⟩
  rw [HD'.out]
  replace hp := hp.on (q8.below _)
  have b8 := b7.trans (q8.below _)
  clear b7 q8 hq
  go_wp2_with fail
  refine (error_any (by omega) (by omega) hp hp).mono ?_
  rintro e w9 ⟨rfl, q9⟩
  rw [HZ.out]
  have b9 := b8.trans (q9.below _)
  clear b8 q9 hp
  go_wp2_with fail
  go_ret
  exact ⟨rfl, b9⟩

end Go.Proofs.Ytphcianmgpbjmaa
