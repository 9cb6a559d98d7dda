/- The statement CurveThen, walked. -/
import Derived.Test.YtphcianmgpbjmaaPair
import Derived.Test.YtphcianmgpbjmaaArr
namespace Go.Proofs.Ytphcianmgpbjmaa
open Go.RowKit

/-- The box of two slices. -/
def Two (w : World) (b : Nat) (v u : Value) : Prop := b < w.heap.size ∧ w.cell? ⟨b, 0, none⟩ = some v ∧ w.cell? ⟨b, 1, none⟩ = some u
theorem Two.new (w : World) (v u : Value) (t : TypeId) : Two (w.alloc (.cells #[v, u] t)) w.heap.size v u :=
  ⟨by simp, by rw [World.cell?_alloc_at _ _ _ _ rfl]; rfl, by rw [World.cell?_alloc_at _ _ _ _ rfl]; rfl⟩
theorem Two.on {w w' : World} {b : Nat} {v u : Value} (h : Two w b v u) (hb : Below w.heap.size w w') : Two w' b v u :=
  ⟨Nat.lt_of_lt_of_le h.1 hb.size, (hb.cell (p := ⟨b, 0, none⟩) h.1).trans h.2.1, (hb.cell (p := ⟨b, 1, none⟩) h.1).trans h.2.2⟩

/-- The identity with two points. -/
theorem atV_id {x : Int} (h0 : 0 ≤ x) (h1 : x ≤ 65535) : atV (ofL [0, 65535]) (2 - 1) x = x := by
  obtain ⟨y, rfl⟩ := Int.eq_ofNat_of_zero_le h0
  by_cases ht : y = 65535
  · subst ht
    exact atV_top
  · rw [atV_raw (by omega)]
    unfold rawV
    rw [show (2 - 1) * y / 65535 = 0 by omega, show (2 - 1) * y % 65535 = y by omega]
    simp [ofL]
    omega
theorem thenF_id {g : Nat → Int} {m N i : Nat} (h : 2 ≤ N) (hi : i < N) : thenF (ofL [0, 65535]) g 2 m N i = atV g (m - 1) (argV i N) := by
  have A := argV_bd h hi
  unfold thenF
  rw [atV_id A.1 A.2]

theorem arg_dr (i n : Nat) (w : World) (hn : 2 ≤ n) (hn' : n ≤ 1000) (hi : i ≤ 1000) :
    Calls Try.prog 31 #[.int .i64 i, .int .i64 n] w fun e w' => e = .returned (.int .i64 (argV i n)) ∧ Drawn w w' :=
  (arg_any i n w hn hn' hi).mono fun _ _ ⟨he, hw⟩ => ⟨he, hw ▸ .refl _⟩

set_option maxHeartbeats 8000000 in
set_option maxRecDepth 100000 in
theorem curveThen_walk {f0 f1 g0 g1 : Nat → Int} {n0 n1 m0 m1 : Nat} {v0 v1 u0 u1 : Value} {N : Int} {w : World} (hn0 : n0 ≤ 9223372036854775807) (hn1 : n1 ≤ 9223372036854775807) (hm0 : m0 ≤ 9223372036854775807) (hm1 : m1 ≤ 9223372036854775807)
    (hs0 : Sl w w.heap.size v0 n0 f0) (hs1 : Sl w w.heap.size v1 n1 f1) (ht0 : Sl w w.heap.size u0 m0 g0) (ht1 : Sl w w.heap.size u1 m1 g1) :
    Calls Try.prog 10 #[.agg #[v0, v1], .agg #[u0, u1], .int .i64 N] w fun e w' => e = .returned (.bool true) ∧ Below w.heap.size w w' := by
  obtain ⟨Y, hY⟩ : ∃ Y, bits .and .i64 N 65535 = Y := ⟨_, rfl⟩
  obtain ⟨hY0, hY1⟩ : 0 ≤ Y ∧ Y ≤ 65535 := by rw [← hY, and_ffff]; omega
  obtain ⟨K, hK, hK1, hK2⟩ : ∃ K : Nat, 2 + Y % 256 = (K : Int) ∧ 2 ≤ K ∧ K ≤ 257 := ⟨(2 + Y % 256).toNat, by omega, by omega, by omega⟩
  have hd0 := madeN_bd m0
  have hd1 := madeN_bd m1
  have hv0 := made_vld m0 g0
  have hv1 := made_vld m1 g1
  obtain ⟨F, hF⟩ : ∃ F, madeV m0 g0 = F := ⟨_, rfl⟩
  obtain ⟨M, hM⟩ : ∃ M, madeN m0 = M := ⟨_, rfl⟩
  obtain ⟨G, hG⟩ : ∃ G, madeV m1 g1 = G := ⟨_, rfl⟩
  obtain ⟨L, hL⟩ : ∃ L, madeN m1 = L := ⟨_, rfl⟩
  rw [hM] at hd0 hv0
  rw [hF] at hv0
  rw [hL] at hd1 hv1
  rw [hG] at hv1
  have HF := Lib.hid hF
  have HM := Lib.hid hM
  have HG := Lib.hid hG
  have HL := Lib.hid hL
  clear hF hM hG hL
  obtain ⟨A, hA⟩ : ∃ A, min n0 260 = A := ⟨_, rfl⟩
  obtain ⟨B, hB⟩ : ∃ B, min n1 260 = B := ⟨_, rfl⟩
  have hA' : A ≤ 260 := by omega
  have hB' : B ≤ 260 := by omega
  have HA := Lib.hid hA
  have HB := Lib.hid hB
  clear hA hB
  have hle := okN_le (v := vldB A f0 && vldB B f1) (n := N)
  obtain ⟨Q, hQ⟩ : ∃ Q, okN (vldB A f0 && vldB B f1) (pts N) N = Q := ⟨_, rfl⟩
  obtain ⟨E, hE⟩ : ∃ E, okE (vldB A f0 && vldB B f1) (pts N) = E := ⟨_, rfl⟩
  rw [hQ] at hle
  have HQ := Lib.hid hQ
  have HE := Lib.hid hE
  clear hQ hE
  obtain ⟨a0, p0, rfl⟩ := hs0.shape
  obtain ⟨a1, p1, rfl⟩ := hs1.shape
  obtain ⟨e0, r0, rfl⟩ := ht0.shape
  obtain ⟨e1, r1, rfl⟩ := ht1.shape
  have T0 := Two.new w (.slice a0 n0 p0) (.slice a1 n1 p1) 46
  have B0 : Below w.heap.size w (w.alloc (.cells #[.slice a0 n0 p0, .slice a1 n1 p1] 46)) := (Below.refl _ w).alloc (Nat.le_refl _) _
  obtain ⟨wa, ha⟩ : ∃ wa, w.alloc (.cells #[.slice a0 n0 p0, .slice a1 n1 p1] 46) = wa := ⟨_, rfl⟩
  rw [ha] at T0 B0
  have S0 := Two.new wa (.slice e0 m0 r0) (.slice e1 m1 r1) 47
  have B1 : Below wa.heap.size wa (wa.alloc (.cells #[.slice e0 m0 r0, .slice e1 m1 r1] 47)) := (Below.refl _ wa).alloc (Nat.le_refl _) _
  obtain ⟨wb, hb⟩ : ∃ wb, wa.alloc (.cells #[.slice e0 m0 r0, .slice e1 m1 r1] 47) = wb := ⟨_, rfl⟩
  rw [hb] at S0 B1
  have hza : wa.heap.size = w.heap.size + 1 := by rw [← ha]; simp
  rw [hza] at S0
  replace T0 := T0.on B1
  replace B1 := B0.trans (B1.mono B0.size)
  replace hs0 := hs0.on B1
  replace hs1 := hs1.on B1
  replace ht0 := ht0.on B1
  replace ht1 := ht1.on B1
  clear B0
  go_enter Try.func10, Try.ntmps10
  go_wp2_with fail
  refine (sanity_any wb).mono ?_
  rintro e w1 ⟨rfl, b1⟩
  replace hs0 := hs0.on b1
  replace hs1 := hs1.on b1
  replace ht0 := ht0.on b1
  replace ht1 := ht1.on b1
  replace T0 := T0.on b1
  replace S0 := S0.on b1
  replace b1 := B1.trans (b1.mono B1.size)
  clear B1 ha hb hza
  obtain ⟨x0, x1, x2⟩ := T0
  go_wp2_with fail
  refine (some_sl hn0 hs0 (Nat.le_refl _)).mono ?_
  rintro e w2 ⟨c, rfl, hc, b2⟩
  rw [HA.out] at hc
  replace hs1 := hs1.on b2
  replace ht0 := ht0.on b2
  replace ht1 := ht1.on b2
  have T0 := Two.on ⟨x0, x1, x2⟩ b2
  replace S0 := S0.on b2
  replace b2 := b1.trans (b2.mono b1.size)
  clear b1 hs0 x0 x1 x2
  obtain ⟨x0, x1, x2⟩ := T0
  go_wp2_with fail
  refine (some_sl hn1 hs1 (Nat.le_refl _)).mono ?_
  rintro e w3 ⟨d, rfl, hd, b3⟩
  rw [HB.out] at hd
  replace hc := hc.on b3
  replace ht0 := ht0.on b3
  replace ht1 := ht1.on b3
  replace S0 := S0.on b3
  replace b3 := b2.trans (b3.mono b2.size)
  clear b2 hs1 x0 x1 x2
  obtain ⟨x0, x1, x2⟩ := S0
  go_wp2_with fail
  refine (made_sl hm0 ht0 (Nat.le_refl _)).mono ?_
  rintro e w4 ⟨p, rfl, hp, b4⟩
  rw [HF.out, HM.out] at hp
  replace hc := hc.on b4
  replace hd := hd.on b4
  replace ht1 := ht1.on b4
  have S0 := Two.on ⟨x0, x1, x2⟩ b4
  replace b4 := b3.trans (b4.mono b3.size)
  clear b3 ht0 x0 x1 x2
  obtain ⟨x0, x1, x2⟩ := S0
  go_wp2_with fail
  refine (made_sl hm1 ht1 (Nat.le_refl _)).mono ?_
  rintro e w5 ⟨q, rfl, hq, b5⟩
  rw [HG.out, HL.out] at hq
  replace hc := hc.on b5
  replace hd := hd.on b5
  replace hp := hp.on b5
  replace b5 := b4.trans (b5.mono b4.size)
  clear b4 ht1 x0 x1 x2
  go_wp2_with fail
  refine (then_any (by omega) (by omega) hc hd).mono ?_
  rintro e w6 ⟨x, rfl, hx, b6⟩
  rw [HQ.out] at hx
  rw [HE.out]
  obtain ⟨xa, xc, rfl⟩ := own_shape hx
  have X : Sl w6 w6.heap.size (.slice xa Q xc) Q (thenF f0 f1 A B N.toNat) := Sl.own hx
  replace hc := hc.on b6
  replace hd := hd.on b6
  replace hp := hp.on b6
  replace hq := hq.on b6
  replace b6 := b5.trans (b6.mono b5.size)
  clear b5 hx
  go_wp2_with fail
  refine (refThen_any (by omega) (by omega) hc hd).mono ?_
  rintro e w7 ⟨y, rfl, hy, b7⟩
  rw [HQ.out] at hy
  rw [HE.out]
  obtain ⟨ya, yc, rfl⟩ := own_shape hy
  have Y' : Sl w7 w7.heap.size (.slice ya Q yc) Q (thenF f0 f1 A B N.toNat) := Sl.own hy
  replace X := X.on b7
  replace hp := hp.on b7
  replace hq := hq.on b7
  replace b7 := b6.trans (b7.mono b6.size)
  clear b6 hy hc hd
  have G8 := Pair.new w7 (.slice ya Q yc) E 43
  have q8 : Below w7.heap.size w7 (w7.alloc (.cells #[.slice ya Q yc, .int .i64 E] 43)) := (Below.refl _ w7).alloc (Nat.le_refl _) _
  obtain ⟨w8, h8⟩ : ∃ w8, w7.alloc (.cells #[.slice ya Q yc, .int .i64 E] 43) = w8 := ⟨_, rfl⟩
  rw [h8] at G8 q8
  replace X := X.on q8
  replace Y' := Y'.on q8
  replace hp := hp.on q8
  replace hq := hq.on q8
  have b8 := b7.trans (q8.mono b7.size)
  clear b7 q8
  go_wp2_with fail
  refine (then_yes hv0 hv1 hK1 hK2 hp hq).mono ?_
  rintro e w9 ⟨z, rfl, hz, b9⟩
  obtain ⟨za, zc, rfl⟩ := own_shape hz
  have Z : Sl w9 w9.heap.size (.slice za K zc) K (thenF F G M L K) := Sl.own hz
  replace X := X.on b9
  replace Y' := Y'.on b9
  replace G8 := G8.on b9
  replace hp := hp.on b9
  replace hq := hq.on b9
  replace b9 := b8.trans (b9.mono b8.size)
  clear b8 hz
  go_wp2_with fail
  refine (refThen_yes hv0 hv1 hK1 hK2 hp hq).mono ?_
  rintro e w10 ⟨t, rfl, ht, b10⟩
  obtain ⟨ta, tc, rfl⟩ := own_shape ht
  have T : Sl w10 w10.heap.size (.slice ta K tc) K (thenF F G M L K) := Sl.own ht
  have G11 := Pair.new w10 (.slice ta K tc) 0 43
  have q11 : Below w10.heap.size w10 (w10.alloc (.cells #[.slice ta K tc, .int .i64 0] 43)) := (Below.refl _ w10).alloc (Nat.le_refl _) _
  obtain ⟨w11, h11⟩ : ∃ w11, w10.alloc (.cells #[.slice ta K tc, .int .i64 0] 43) = w11 := ⟨_, rfl⟩
  have hset : w11.setCell ⟨w10.heap.size, 1, none⟩ (.int .i64 0) = w11 := by rw [← h11]; simp [go_sem]
  rw [h11] at G11 q11
  replace X := (X.on b10).on q11
  replace Y' := (Y'.on b10).on q11
  replace Z := (Z.on b10).on q11
  replace T := T.on q11
  replace G8 := (G8.on b10).on q11
  replace hp := (hp.on b10).on q11
  replace b10 := b10.trans (q11.mono b10.size)
  have b11 := b9.trans (b10.mono b9.size)
  clear b9 b10 q11 ht hq
  obtain ⟨pa, pc, rfl⟩ := hp.shape
  have G11' := G11
  obtain ⟨y0, y1, y2, y3, y4⟩ := G11'
  go_wp2_with fail
  have I : Sl (w11.alloc (.cells #[.int .i64 0, .int .i64 65535] 3)) (w11.alloc (.cells #[.int .i64 0, .int .i64 65535] 3)).heap.size (.slice (some ⟨w11.heap.size, 0, none⟩) 2 2) 2 (ofL [0, 65535]) := (Sl.lit (l := [0, 65535]) rfl).mono (by simp)
  have q12 : Below w11.heap.size w11 (w11.alloc (.cells #[.int .i64 0, .int .i64 65535] 3)) := (Below.refl _ w11).alloc (Nat.le_refl _) _
  replace X := X.on q12
  replace Y' := Y'.on q12
  replace Z := Z.on q12
  replace T := T.on q12
  replace G8 := G8.on q12
  replace G11 := G11.on q12
  replace hp := hp.on q12
  have b12 := b11.trans (q12.mono b11.size)
  clear b11 q12 y0 y1 y2 y3 y4 hset h11
  refine (then_yes fB hv0 hd0.1 hd0.2 I hp).mono ?_
  rintro e w13 ⟨s, rfl, hs, b13⟩
  have SS : Sl w13 w13.heap.size s M (thenF (ofL [0, 65535]) F 2 M M) := Sl.own hs
  replace X := X.on b13
  replace Y' := Y'.on b13
  replace Z := Z.on b13
  replace T := T.on b13
  replace G8 := G8.on b13
  replace G11 := G11.on b13
  replace hp := hp.on b13
  replace b13 := b12.trans (b13.mono b12.size)
  clear b12 I hs
  obtain ⟨sb, so, sc, rfl, _, cs⟩ := SS.at (by omega)
  go_wp2
  go_loopw [21] (fun i wr => ∃ k : Nat, k ≤ M ∧ i = .int .i64 k ∧ Drawn w13 wr) (fun i _ => M - (intOf i).toNat)
  case atStart => exact ⟨0, by omega, rfl, .refl _⟩
  case round =>
    obtain ⟨k, hk, rfl, hq⟩ := hrel
    by_cases hlt : k < M
    · have c1 := (cs.drawn hq) k hlt
      have Av := argV_bd hd0.1 hlt
      rw [thenF_id hd0.1 hlt, ← AtV_in hv0 Av.1 Av.2] at c1
      have hpq := hp.drawn hq
      have i1 : 0 ≤ (k : Int) ∧ (k : Int) < M := by omega
      go_wp2
      go_quiet ((first | (go_at_call 31; exact Calls.quiet_of (arg_dr k M _ (by omega) (by omega) (by omega))) | (go_at_call 20; exact Calls.quiet_of (At_any (by omega) (hpq.drawnN _)))))
      go_wp2
      go_roundw
      case rel => exact ⟨k + 1, by omega, by go_num, hq.on _⟩
      case measure => simp [intOf]; omega
    · obtain rfl : k = M := by omega
      replace X := X.drawn hq
      replace Y' := Y'.drawn hq
      replace Z := Z.drawn hq
      replace T := T.drawn hq
      replace G8 := G8.on (hq.below _)
      replace G11 := G11.on (hq.below _)
      have b14 := b13.trans (hq.below _)
      clear b13 hp SS cs
      obtain ⟨x0, x1, x2, x3, x4⟩ := G8
      obtain ⟨y0, y1, y2, y3, y4⟩ := G11
      go_wp2_with fail
      refine (same_eq (by omega) X Y').mono ?_
      rintro e w15 ⟨rfl, q⟩
      obtain ⟨j, rfl⟩ := q
      rw [sameB_t fun _ _ => rfl]
      go_wp2_with fail
      refine (same_eq (by omega) (Z.drawnN j) (T.drawnN j)).mono ?_
      rintro e w15 ⟨rfl, q⟩
      obtain ⟨j', rfl⟩ := q
      rw [sameB_t fun _ _ => rfl]
      go_wp2_with fail
      refine (valid_any (by omega) (Z.drawnN (j + j'))).mono ?_
      rintro e w15 ⟨rfl, q⟩
      rw [vldB_t (thenF_vld hv0 hv1 hK1 hK2)]
      have b15 := (below_drewN b14 (j + j')).trans (q.below _)
      go_wp2_with fail
      go_ret
      exact ⟨rfl, b15⟩

end Go.Proofs.Ytphcianmgpbjmaa
