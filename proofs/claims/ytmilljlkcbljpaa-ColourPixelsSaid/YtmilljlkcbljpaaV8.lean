/- Texts of this proof, one behind another: Ya Yb Yc Yd Ye. -/
import Derived.Test.YtmilljlkcbljpaaV7
import Derived.Deep.CutRange
/- apply and to of the reference. -/
namespace Go.Proofs.Ytmilljlkcbljpaa
open Go.RowKit Go.Sort

theorem Mat.exc {t : TypeId} {w w' : World} {b b' : Nat} {m : Nat → Int} (h : Mat t w b' m) (k : Exc b w w') (hb : b' ≠ b) : Mat t w' b' m := (k.2.2 b' h.lt hb).trans h
set_option maxRecDepth 100000 in
set_option maxHeartbeats 4000000 in
theorem refApply_any {m c : Nat → Int} {w : World} (hm : Ent m) (hc : InB c) :
    Calls Try.prog 97 #[mat m, col c] w fun e w' => e = .returned (col (apV m c)) ∧ Below w.heap.size w w' := by
  obtain ⟨w0, h0, hb, hz, t1, t2, t3⟩ := apply_new w m c 61 28
  obtain ⟨w1, h1⟩ : ∃ w1, w0.alloc (.cells #[.int .i64 0, .int .i64 0, .int .i64 0] 28) = w1 := ⟨_, rfl⟩
  have hb1 : Below w0.heap.size w0 w1 := by rw [← h1]; exact (Below.refl _ _).alloc (Nat.le_refl _) _
  have t4 : Tri 28 w1 w0.heap.size (fun _ => 0) := by rw [← h1]; exact Tri.new w0 (fun _ => 0) _
  have T1 := Lib.hid (t1.on hb1)
  have T2 := Lib.hid (t2.on hb1)
  have T3 := Lib.hid (t3.on hb1)
  have T4 : Hid (Tri 28 w1 w0.heap.size (upto (apV m c) 0)) := Lib.hid (t4.congr rfl rfl rfl)
  have HM := Lib.hid hm
  have HC := Lib.hid hc
  have hq1 := hb.trans (hb1.mono hb.size)
  have l0 : w.heap.size + 3 ≤ w0.heap.size := by omega
  clear t1 t2 t3 t4 hm hc hb1 hz
  unfold col mat
  go_enter Try.func97, Try.ntmps97
  go_wp2
  clear h0 h1
  go_loopw [6] (fun i wr => ∃ k : Nat, k ≤ 3 ∧ i = .int .i64 k ∧ Mat 61 wr w.heap.size m ∧ Tri 28 wr (w.heap.size + 1) c ∧ Tri 28 wr (w.heap.size + 1 + 1) (fun _ => 0) ∧ Tri 28 wr w0.heap.size (upto (apV m c) k) ∧ Below w.heap.size w wr) (fun i _ => 3 - (intOf i).toNat)
  case atStart => exact ⟨0, by omega, rfl, T1.out, T2.out, T3.out, T4.out, hq1⟩
  case round =>
    obtain ⟨k, hk, rfl, t1, t2, t3, t4, hq⟩ := hrel
    by_cases hlt : k < 3
    · have e0 := cell_regrown (t1.cell (3 * k) (by omega))
      have e1 := cell_regrown (t1.cell (3 * k + 1) (by omega))
      have e2 := cell_regrown (t1.cell (3 * k + 2) (by omega))
      have d0 := cell_regrown t2.c0
      have d1 := cell_regrown t2.c1
      have d2 := cell_regrown t2.c2
      obtain ⟨p1, p2⟩ := mul_both (HM.out (3 * k) (by omega)).1 (HM.out (3 * k) (by omega)).2 (HC.out 0 (by omega)).1 (HC.out 0 (by omega)).2
      obtain ⟨p3, p4⟩ := mul_both (HM.out (3 * k + 1) (by omega)).1 (HM.out (3 * k + 1) (by omega)).2 (HC.out 1 (by omega)).1 (HC.out 1 (by omega)).2
      obtain ⟨p5, p6⟩ := mul_both (HM.out (3 * k + 2) (by omega)).1 (HM.out (3 * k + 2) (by omega)).2 (HC.out 2 (by omega)).1 (HC.out 2 (by omega)).2
      have E := Lib.hid (show apV m c k = (m (3 * k) * c 0 + m (3 * k + 1) * c 1 + m (3 * k + 2) * c 2 + 2048) / 4096 from rfl)
      have P1 := Lib.hid t1
      have P2 := Lib.hid t2
      have P3 := Lib.hid t3
      have P4 := Lib.hid t4
      clear t1 t2 t3 t4
      generalize m (3 * k) = x0 at *
      generalize m (3 * k + 1) = x1 at *
      generalize m (3 * k + 2) = x2 at *
      have i0 : 0 ≤ (k : Int) ∧ (k : Int) < 3 := by omega
      have n0 : (3 * (k : Int)).toNat = 3 * k := by omega
      have n1 : (3 * (k : Int) + 1).toNat = 3 * k + 1 := by omega
      have n2 : (3 * (k : Int) + 2).toNat = 3 * k + 2 := by omega
      have kf := Lib.hid (Calls.grown_of (w := wr) (f := 73) (args := #[.int .i64 (x0 * c 0 + x1 * c 1 + x2 * c 2 + 2048), .int .i64 4096]) fun W _ => (refFloor_any (w := W) (by omega) (by omega) (by omega) (by omega)).mono fun e w' ⟨he, hw⟩ => ⟨he, by rw [hw]; exact Below.refl _ _⟩)
      go_wp2
      refine region_below_tail 29 (by kernel_rfl) (by kernel_rfl) ?_
      simp only [List.take_succ_cons, List.take_zero, List.drop_succ_cons, List.drop_zero]
      repeat (go_big_quiet_step (exact kf.out _ _))
      refine wpQuiet_nil ?_
      intro w3 hw3
      replace hw3 := below_of_regrown hw3
      have t4 := P4.out.on hw3
      have c5 := t4.cell k hlt
      have f5 := t4.free k
      have Q1 := Lib.hid (P1.out.on hw3)
      have Q2 := Lib.hid (P2.out.on hw3)
      have Q3 := Lib.hid (P3.out.on hw3)
      have Q4 := Lib.hid (upto_step t4 hlt)
      have hq3 := hq.trans (hw3.mono hq.size)
      clear t4 e0 e1 e2 d0 d1 d2 hw3
      go_wp2
      go_roundw
      case rel => exact ⟨k + 1, by omega, by go_num, Q1.out.exc ((Exc.refl _ _).set _) (by omega), Q2.out.keep (by omega), Q3.out.keep (by omega), by rw [← E.out]; exact Q4.out, hq3.setCell (by simp; omega) _⟩
      case measure => simp [intOf]; omega
    · obtain rfl : k = 3 := by omega
      have t4 := upto_3 t4
      have x0 := t3.c0
      have x1 := t3.c1
      have x2 := t3.c2
      have y0 := t3.free 0
      have y1 := t3.free 1
      have y2 := t3.free 2
      have z0 := t4.c0
      have z1 := t4.c1
      have z2 := t4.c2
      clear t1 t2 t3 t4
      go_wp2
      refine bodyPost_ret (v := .agg #[.int .i64 (apV m c 0), .int .i64 (apV m c 1), .int .i64 (apV m c 2)]) (by simp [results, Try.results97, go_sem, *]) rfl ?_
      exact ⟨rfl, set3_below hq (by omega) _ _ _⟩

theorem bnd_bnd (c : Nat → Int) : bnd (bnd c) = bnd c := by funext i; exact clm_clm (by omega)

set_option maxRecDepth 100000 in
set_option maxHeartbeats 4000000 in
theorem refTo_any {v : Nat → Value} {n : Nat → Nat} {f : Nat → Nat → Int} {t m c : Nat → Int} {w : World} (hc : Crv w w.heap.size v n f) (ht : Ent t) :
    Calls Try.prog 67 #[spc v t m, col c] w fun e w' => e = .returned (col (toV n f t c)) ∧ Below w.heap.size w w' := by
  obtain ⟨w0, h0, hb, hz, t1, t2, t3⟩ := to_new w v t m c 63 28
  have T1 := Lib.hid t1
  have T2 := Lib.hid t2
  have T3 := Lib.hid t3
  have Z := Lib.hid hz
  have HT := Lib.hid ht
  have HC := Lib.hid hc
  have d0 := t2.c0
  have d1 := t2.c1
  have d2 := t2.c2
  have kb := Lib.hid (refBound_any (c := c) (w := w0))
  clear t1 t2 t3 hz ht hc
  unfold spA at h0
  unfold col spc spA at *
  go_enter Try.func67, Try.ntmps67
  go_wp2_with fail
  refine kb.out.mono ?_
  rintro e w1 ⟨rfl, hb1⟩
  have hq1 := hb.trans (hb1.mono hb.size)
  have t2 := T2.out.on hb1
  have x0 := t2.c0
  have x1 := t2.c1
  have x2 := t2.c2
  have y0 := t2.free 0
  have y1 := t2.free 1
  have y2 := t2.free 2
  obtain ⟨w2, h2⟩ : ∃ w2, ((w1.setCell ⟨w.heap.size + 1, 0, none⟩ (.int .i64 (bnd c 0))).setCell ⟨w.heap.size + 1, 1, none⟩ (.int .i64 (bnd c 1))).setCell ⟨w.heap.size + 1, 2, none⟩ (.int .i64 (bnd c 2)) = w2 := ⟨_, rfl⟩
  have hx : Exc (w.heap.size + 1) w1 w2 := by rw [← h2]; exact (((Exc.refl _ _).set _).set _).set _
  have s1 : Spb 63 w2 w.heap.size v t m := (hx.2.2 _ (T1.out.on hb1).lt (by omega)).trans (T1.out.on hb1)
  have s2 : Tri 28 w2 (w.heap.size + 1) (bnd c) := by rw [← h2]; exact t2.set3 (bnd c)
  have s3 : Tri 28 w2 (w.heap.size + 1 + 1) (fun _ => 0) := (T3.out.on hb1).exc hx (by omega)
  have hq2 : Below w.heap.size w w2 := by rw [← h2]; exact set3_below hq1 (by omega) _ _ _
  have S3 := Lib.hid s3
  have hl2 : w.heap.size + 1 + 1 < w2.heap.size := s3.lt
  have HC2 := Lib.hid (HC.out.below hq2 (Nat.le_refl _))
  have hAt : ∀ i, i < 3 → Hid (∀ (d : Nat) (os : Array Obj), Calls Try.prog 98 #[v i, .int .i64 (bnd c i)] (grow (redrawn w2 d) os) fun e w'' => e = .returned (.int .i64 (AtV (n i) (f i) (bnd c i))) ∧ ∃ p : Regrown, w'' = grow (redrawn w2 p.d) p.os) := fun i hi => Lib.hid (Calls.grown_of (w := w2) fun W hW => (refAt_any (HC2.out i hi).1 ((HC2.out i hi).2.below hW hq2.size)).mono fun e w' ⟨he, hd⟩ => ⟨he, hd.below _⟩)
  have k0 := hAt 0 (by omega)
  have k1 := hAt 1 (by omega)
  have k2 := hAt 2 (by omega)
  have ka := Lib.hid (Calls.grown_of (w := w2) (f := 97) fun W _ => refApply_any (m := t) (c := fun i => AtV (n i) (f i) (bnd c i)) (w := W) HT.out (lin_bd n f (bnd c)))
  unfold col mat at ka
  have g0 := cell_regrown s2.c0
  have g1 := cell_regrown s2.c1
  have g2 := cell_regrown s2.c2
  have c0 := cell_regrown (s1.curve 0 (by omega))
  have c1 := cell_regrown (s1.curve 1 (by omega))
  have c2 := cell_regrown (s1.curve 2 (by omega))
  have e0 := cell_regrown (s1.to 0 (by omega))
  have e1 := cell_regrown (s1.to 1 (by omega))
  have e2 := cell_regrown (s1.to 2 (by omega))
  have e3 := cell_regrown (s1.to 3 (by omega))
  have e4 := cell_regrown (s1.to 4 (by omega))
  have e5 := cell_regrown (s1.to 5 (by omega))
  have e6 := cell_regrown (s1.to 6 (by omega))
  have e7 := cell_regrown (s1.to 7 (by omega))
  have e8 := cell_regrown (s1.to 8 (by omega))
  have hE : Hid (toV n f t c = apV t fun i => AtV (n i) (f i) (bnd c i)) := Lib.hid rfl
  obtain ⟨O, hO⟩ : ∃ O, (apV t fun i => AtV (n i) (f i) (bnd c i)) = O := ⟨_, rfl⟩
  rw [hO] at ka hE
  clear d0 d1 d2 t2 hb1 hx s1 s2 s3 hAt hO h0
  go_wp2
  clear h2 x0 x1 x2 y0 y1 y2
  refine region_below_tail 22 (by kernel_rfl) (by kernel_rfl) ?_
  simp only [List.take_succ_cons, List.take_zero, List.drop_succ_cons, List.drop_zero]
  repeat (go_big_quiet_step ((first | with_reducible exact k0.out _ _ | with_reducible exact k1.out _ _ | with_reducible exact k2.out _ _ | with_reducible exact ka.out _ _)))
  refine wpQuiet_nil ?_
  intro w3 hw3
  replace hw3 := below_of_regrown hw3
  have t3 := S3.out.on hw3
  have x0 := t3.c0
  have x1 := t3.c1
  have x2 := t3.c2
  have y0 := t3.free 0
  have y1 := t3.free 1
  have y2 := t3.free 2
  have hq3 := hq2.trans (hw3.mono hq2.size)
  clear t3 g0 g1 g2 c0 c1 c2 e0 e1 e2 e3 e4 e5 e6 e7 e8 hw3
  go_wp2
  refine bodyPost_ret (v := .agg #[.int .i64 (O 0), .int .i64 (O 1), .int .i64 (O 2)]) (by simp [results, Try.results67, go_sem, *]) rfl ?_
  exact ⟨by rw [hE.out], set3_below hq3 (by omega) _ _ _⟩

end Go.Proofs.Ytmilljlkcbljpaa

/- Clip of the reference. -/
namespace Go.Proofs.Ytmilljlkcbljpaa
open Go.RowKit Go.Sort

set_option maxRecDepth 100000 in
set_option maxHeartbeats 4000000 in
theorem refClip_any {c : Nat → Int} {w : World} :
    Calls Try.prog 34 #[col c] w fun e w' => e = .returned (col (clpV c)) ∧ Below w.heap.size w w' := by
  obtain ⟨w0, h0, hb, hz, t1, t2⟩ := gamut_new w c 28
  have d0 := t1.c0
  have d1 := t1.c1
  have d2 := t1.c2
  have T1 := Lib.hid t1
  have T2 := Lib.hid t2
  have Z := Lib.hid hz
  clear t1 t2 hz
  have hcl := Lib.hid (fun W => refBound_any (c := c) (w := W))
  have hgm := Lib.hid (fun W => refGamut_any (c := bnd c) (w := W))
  have hw2 := Lib.hid (fun W (h : Tri 28 W w.heap.size c) => h.set3 (bnd c))
  have heq := eql_col (bnd c) (gam (bnd c))
  have HQ := Lib.hid (col_congr (c := clpV c) (d := bnd c))
  have HB := Lib.hid (InB.of c)
  unfold col at *
  go_enter Try.func34, Try.ntmps34
  go_wp2_with fail
  refine (hcl.out _).mono ?_
  rintro e w1 ⟨rfl, hb1⟩
  have t1 := T1.out.on hb1
  have c0 := t1.c0
  have c1 := t1.c1
  have c2 := t1.c2
  have f0 := t1.free 0
  have f1 := t1.free 1
  have f2 := t1.free 2
  have T2' := Lib.hid (T2.out.on hb1)
  have T3 := Lib.hid (hw2.out w1 t1)
  have B1 := hb.trans (hb1.mono (by have := Z.out; omega))
  clear t1
  obtain ⟨w2, h2⟩ : ∃ w2, ((w1.setCell ⟨w.heap.size, 0, none⟩ (.int .i64 (bnd c 0))).setCell ⟨w.heap.size, 1, none⟩ (.int .i64 (bnd c 1))).setCell ⟨w.heap.size, 2, none⟩ (.int .i64 (bnd c 2)) = w2 := ⟨_, rfl⟩
  go_wp2
  rw [h2] at T3
  have B2 := set3_below B1 (Nat.le_refl w.heap.size) (.int .i64 (bnd c 0)) (.int .i64 (bnd c 1)) (.int .i64 (bnd c 2))
  have T4 := Lib.hid (((T2'.out.keep (b' := w.heap.size) (j := 0) (v := .int .i64 (bnd c 0)) (by omega)).keep (b' := w.heap.size) (j := 1) (v := .int .i64 (bnd c 1)) (by omega)).keep (b' := w.heap.size) (j := 2) (v := .int .i64 (bnd c 2)) (by omega))
  rw [h2] at B2 T4
  have a0 := cell_regrown T3.out.c0
  have a1 := cell_regrown T3.out.c1
  have a2 := cell_regrown T3.out.c2
  have kg := Calls.grown_of (w := w2) (fun W _ => hgm.out W)
  clear h2 c0 c1 c2 f0 f1 f2 B1 hb1 hb h0 T1 T2 T2' hw2 Z d0 d1 d2
  by_cases hin : InG (bnd c)
  · rw [eq_gam_t hin] at heq
    refine wp_region_quiet_below (by kernel_rfl) (by kernel_rfl) ?_
    repeat (go_big_quiet_step (exact kg _ _))
    refine wpQuiet_nil ?_
    intro w3 hw3
    replace hw3 := below_of_regrown hw3
    have t3 := T3.out.on hw3
    have t4 := T4.out.on hw3
    have c0 := t3.c0
    have c1 := t3.c1
    have c2 := t3.c2
    have x0 := t4.c0
    have x1 := t4.c1
    have x2 := t4.c2
    have y0 := t4.free 0
    have y1 := t4.free 1
    have y2 := t4.free 2
    have B3 := B2.trans (hw3.mono B2.size)
    have E := Lib.hid (HQ.out (fun i _ => clpV_in hin i))
    clear t3 t4 a0 a1 a2 kg
    go_wp2
    refine bodyPost_ret (v := .agg #[.int .i64 (bnd c 0), .int .i64 (bnd c 1), .int .i64 (bnd c 2)]) (by simp [results, Try.results34, go_sem, *]) rfl ?_
    exact ⟨congrArg Ending.returned E.out.symm, set3_below B3 (by simp) _ _ _⟩
  · rw [eq_gam_f hin] at heq
    refine wp_region_quiet_below (by kernel_rfl) (by kernel_rfl) ?_
    repeat (go_big_quiet_step (exact kg _ _))
    refine wpQuiet_nil ?_
    intro w3 hw3
    replace hw3 := below_of_regrown hw3
    have t3 := T3.out.on hw3
    have T33 := Lib.hid t3
    have T43 := Lib.hid (T4.out.on hw3)
    have c0 := t3.c0
    have c1 := t3.c1
    have c2 := t3.c2
    have B3 := B2.trans (hw3.mono B2.size)
    have E := Lib.hid (col_congr (c := clpV c) (d := clpO (bnd c)) fun i _ => clpV_out hin i)
    unfold col at E
    clear a0 a1 a2 kg t3
    have b0 := HB.out 0 (by omega)
    have b1 := HB.out 1 (by omega)
    have b2 := HB.out 2 (by omega)
    obtain ⟨G, hG⟩ : ∃ G, gry (bnd c) = G := ⟨_, rfl⟩
    have kc := Lib.hid (clamp_any (a := 0) (b := 65535) (v := (bnd c 0 + bnd c 1 + bnd c 2 + 1) / 3) (w := w3) (by omega))
    rw [show clm 0 65535 ((bnd c 0 + bnd c 1 + bnd c 2 + 1) / 3) = G from hG] at kc
    obtain ⟨g0, g1⟩ := gry_bd (bnd c)
    rw [hG] at g0 g1
    have HG := Lib.hid hG
    clear hG
    go_wp2_with fail
    refine (refFloor_any (by omega) (by omega) (by omega) (by omega)).mono ?_
    rintro e w4 ⟨rfl, hw4⟩
    subst hw4
    go_wp2_with fail
    refine kc.out.mono ?_
    rintro e w4 ⟨rfl, hw4⟩
    subst hw4
    clear c0 c1 c2 heq b0 b1 b2 hw3 kc
    go_wp2
    go_loopw [4, 5, 6] (fun n d i wr => ∃ k : Nat, k ≤ 3 ∧ i = .int .i64 k ∧ n = .int .i64 (minS G (bnd c) k).1 ∧ d = .int .i64 (minS G (bnd c) k).2 ∧ wr = w4) (fun _ _ i _ => 3 - (intOf i).toNat)
    case atStart => exact ⟨0, by omega, rfl, rfl, rfl, rfl⟩
    case round =>
      obtain ⟨k, hk, rfl, rfl, rfl, rfl⟩ := hrel
      have hc3 := HB.out
      have hm := minS_bd (g := G) (c := bnd c) g0 g1 hc3 k hk
      by_cases hlt : k < 3
      · have hcl := hc3 k hlt
        have ck := T33.out.cell k hlt
        obtain ⟨V, hV⟩ : ∃ V, bnd c k = V := ⟨_, rfl⟩
        obtain ⟨N, hN⟩ : ∃ N, (minS G (bnd c) k).1 = N := ⟨_, rfl⟩
        obtain ⟨D, hD⟩ : ∃ D, (minS G (bnd c) k).2 = D := ⟨_, rfl⟩
        have hlt' : shN G V * D < N * shD G V → minS G (bnd c) (k + 1) = (shN G V, shD G V) := fun h => by rw [minS_lt (by rw [hV, hN, hD]; exact h), hV]
        have hge' : ¬ shN G V * D < N * shD G V → minS G (bnd c) (k + 1) = minS G (bnd c) k := fun h => minS_ge (by rw [hV, hN, hD]; exact h)
        rw [hV] at hcl ck
        rw [hN, hD] at hm
        rw [hN, hD]
        obtain ⟨m1, m2, m3, m4, m5⟩ := hm
        have HN := Lib.hid hN
        have HD := Lib.hid hD
        have i1 : 0 ≤ (k : Int) ∧ (k : Int) < 3 := by omega
        clear hV hN hD hc3
        by_cases v1 : V < 0
        · have s1 : shN G V = G := if_pos v1
          have s2 : shD G V = G - V := if_pos v1
          rw [s1, s2] at hlt' hge'
          clear s1 s2
          have d1 : decide (V < 0) = true := decide_eq_true v1
          have d1' : decide (65535 < V) = false := decide_eq_false (by omega)
          have x1 := mul_bd g0 g1 (show 0 ≤ D by omega) m5
          have x2 := mul_bd m1 m2 (b := G - V) (B := 16842751) (by omega) (by omega)
          by_cases hc : G * D < N * (G - V)
          · have HM := Lib.hid (hlt' hc)
            have d2 : decide (G * D < N * (G - V)) = true := decide_eq_true hc
            clear hlt' hge'
            go_wp2
            exact ⟨⟨k + 1, by omega, by go_num, by rw [HM.out], by rw [HM.out], trivial⟩, by simp [intOf]; omega⟩
          · have HM := Lib.hid (hge' hc)
            have d2 : decide (G * D < N * (G - V)) = false := decide_eq_false hc
            clear hlt' hge'
            go_wp2
            exact ⟨⟨k + 1, by omega, by go_num, by rw [HM.out, HN.out], by rw [HM.out, HD.out], trivial⟩, by simp [intOf]; omega⟩
        · by_cases v2 : 65535 < V
          · have s1 : shN G V = 65535 - G := by unfold shN; rw [if_neg v1, if_pos v2]
            have s2 : shD G V = V - G := by unfold shD; rw [if_neg v1, if_pos v2]
            rw [s1, s2] at hlt' hge'
            clear s1 s2
            have d1 : decide (V < 0) = false := decide_eq_false v1
            have d1' : decide (65535 < V) = true := decide_eq_true v2
            have x1 := mul_bd (a := 65535 - G) (A := 65535) (by omega) (by omega) (show 0 ≤ D by omega) m5
            have x2 := mul_bd m1 m2 (b := V - G) (B := 16842751) (by omega) (by omega)
            by_cases hc : (65535 - G) * D < N * (V - G)
            · have HM := Lib.hid (hlt' hc)
              have d2 : decide ((65535 - G) * D < N * (V - G)) = true := decide_eq_true hc
              clear hlt' hge'
              go_wp2
              exact ⟨⟨k + 1, by omega, by go_num, by rw [HM.out], by rw [HM.out], trivial⟩, by simp [intOf]; omega⟩
            · have HM := Lib.hid (hge' hc)
              have d2 : decide ((65535 - G) * D < N * (V - G)) = false := decide_eq_false hc
              clear hlt' hge'
              go_wp2
              exact ⟨⟨k + 1, by omega, by go_num, by rw [HM.out, HN.out], by rw [HM.out, HD.out], trivial⟩, by simp [intOf]; omega⟩
          · have s1 : shN G V = 1 := by unfold shN; rw [if_neg v1, if_neg v2]
            have s2 : shD G V = 1 := by unfold shD; rw [if_neg v1, if_neg v2]
            rw [s1, s2, Int.one_mul, Int.mul_one] at hlt' hge'
            clear s1 s2
            have d1 : decide (V < 0) = false := decide_eq_false v1
            have d1' : decide (65535 < V) = false := decide_eq_false v2
            have HM := Lib.hid (hge' (by omega))
            have d2 : decide (D < N) = false := decide_eq_false (by omega)
            clear hlt' hge'
            go_wp2
            exact ⟨⟨k + 1, by omega, by go_num, by rw [HM.out, HN.out], by rw [HM.out, HD.out], trivial⟩, by simp [intOf]; omega⟩
      · obtain rfl : k = 3 := by omega
        obtain ⟨N, hN⟩ : ∃ N, (minS G (bnd c) 3).1 = N := ⟨_, rfl⟩
        obtain ⟨D, hD⟩ : ∃ D, (minS G (bnd c) 3).2 = D := ⟨_, rfl⟩
        have hO : Hid (∀ i, clpO (bnd c) i = G + ((bnd c i - G) * N).tdiv D) := Lib.hid (fun i => by unfold clpO; rw [HG.out, hN, hD])
        rw [hN, hD] at hm
        rw [hN, hD]
        obtain ⟨m1, m2, m3, m4, m5⟩ := hm
        have hm0 : (D == 0) = false := by simp; omega
        obtain ⟨w5, h5⟩ : ∃ w5, wr.alloc (.cells #[.int .i64 0, .int .i64 0, .int .i64 0] 28) = w5 := ⟨_, rfl⟩
        have hb5 : Below wr.heap.size wr w5 := by rw [← h5]; exact (Below.refl _ _).alloc (Nat.le_refl _) _
        have t5 : Tri 28 w5 wr.heap.size (fun _ => 0) := by rw [← h5]; exact Tri.new wr (fun _ => 0) _
        have T5 : Hid (Tri 28 w5 wr.heap.size (upto (clpO (bnd c)) 0)) := Lib.hid (t5.congr rfl rfl rfl)
        have T35 := Lib.hid (T33.out.on hb5)
        have T45 := Lib.hid (T43.out.on hb5)
        have B5 := B3.trans (hb5.mono B3.size)
        have l4 : w.heap.size + 1 < wr.heap.size := T43.out.lt
        clear hN hD t5 hb5 hc3
        go_wp2
        clear h5
        go_loopw [10] (fun i wr' => ∃ k : Nat, k ≤ 3 ∧ i = .int .i64 k ∧ Tri 28 wr' w.heap.size (bnd c) ∧ Tri 28 wr' (w.heap.size + 1) (fun _ => 0) ∧ Tri 28 wr' wr.heap.size (upto (clpO (bnd c)) k) ∧ Below w.heap.size w wr') (fun i _ => 3 - (intOf i).toNat)
        case atStart => exact ⟨0, by omega, rfl, T35.out, T45.out, T5.out, B5⟩
        case round =>
          obtain ⟨k, hk, rfl, t3, t4, t5, hq⟩ := hrel
          by_cases hlt2 : k < 3
          · have ck := t3.cell k hlt2
            have c5 := t5.cell k hlt2
            have f5 := t5.free k
            have hcl := HB.out k hlt2
            have ek := hO.out k
            have P3 := Lib.hid t3
            have P4 := Lib.hid t4
            have P5 := Lib.hid (upto_step t5 hlt2)
            obtain ⟨V, hV⟩ : ∃ V, bnd c k = V := ⟨_, rfl⟩
            rw [hV] at ck hcl ek
            obtain ⟨p1, p2⟩ := mul_abs (a := V - G) (A := 16842751) (b := N) (B := 65535) (by omega) (by omega) m1 m2
            obtain ⟨q1, q2⟩ : -16842751 ≤ ((V - G) * N).tdiv D ∧ ((V - G) * N).tdiv D ≤ 16842751 := by
              by_cases h : 0 ≤ V - G
              · have := share_pos (u := V - G) (n := N) (m := D) (t := 0) h m1 m3 m4; omega
              · have := share_neg (u := V - G) (n := N) (m := D) (t := 0) (by omega) m1 m3 m4; omega
            have i1 : 0 ≤ (k : Int) ∧ (k : Int) < 3 := by omega
            have EK := Lib.hid ek
            clear t3 t4 t5 ek hV
            go_wp2
            exact ⟨⟨k + 1, by omega, by go_num, P3.out.keep (by omega), P4.out.keep (by omega), by rw [← EK.out]; exact P5.out, hq.setCell (by simp; omega) _⟩, by simp [intOf]; omega⟩
          · obtain rfl : k = 3 := by omega
            have t5 := upto_3 t5
            have x0 := t4.c0
            have x1 := t4.c1
            have x2 := t4.c2
            have y0 := t4.free 0
            have y1 := t4.free 1
            have y2 := t4.free 2
            have z0 := t5.c0
            have z1 := t5.c1
            have z2 := t5.c2
            clear t3 t4 t5
            go_wp2
            refine bodyPost_ret (v := .agg #[.int .i64 (clpO (bnd c) 0), .int .i64 (clpO (bnd c) 1), .int .i64 (clpO (bnd c) 2)]) (by simp [results, Try.results34, go_sem, *]) rfl ?_
            exact ⟨congrArg Ending.returned E.out.symm, set3_below hq (by omega) _ _ _⟩

end Go.Proofs.Ytmilljlkcbljpaa

/- from of the reference. -/
namespace Go.Proofs.Ytmilljlkcbljpaa
open Go.RowKit Go.Sort

theorem Spb.exc {ty : TypeId} {w w' : World} {b b' : Nat} {v : Nat → Value} {t m : Nat → Int} (h : Spb ty w b' v t m) (k : Exc b w w') (hb : b' ≠ b) : Spb ty w' b' v t m := (k.2.2 b' h.lt hb).trans h

set_option maxRecDepth 100000 in
set_option maxHeartbeats 8000000 in
theorem refFrom_any {v : Nat → Value} {n : Nat → Nat} {f : Nat → Nat → Int} {t m c : Nat → Int} {w : World} (hc : Crv w w.heap.size v n f) (hm : Ent m) :
    Calls Try.prog 69 #[spc v t m, col c] w fun e w' => e = .returned (col (fromV n f m c)) ∧ Below w.heap.size w w' := by
  obtain ⟨w0, h0, hb, hz, t1, t2, t3⟩ := to_new w v t m c 63 28
  have T1 := Lib.hid t1
  have T3 := Lib.hid t3
  have HC := Lib.hid hc
  have l0 : w.heap.size + 3 ≤ w0.heap.size := by omega
  have g0 := cell_regrown t2.c0
  have g1 := cell_regrown t2.c1
  have g2 := cell_regrown t2.c2
  have e0 := cell_regrown (t1.fr 0 (by omega))
  have e1 := cell_regrown (t1.fr 1 (by omega))
  have e2 := cell_regrown (t1.fr 2 (by omega))
  have e3 := cell_regrown (t1.fr 3 (by omega))
  have e4 := cell_regrown (t1.fr 4 (by omega))
  have e5 := cell_regrown (t1.fr 5 (by omega))
  have e6 := cell_regrown (t1.fr 6 (by omega))
  have e7 := cell_regrown (t1.fr 7 (by omega))
  have e8 := cell_regrown (t1.fr 8 (by omega))
  obtain ⟨X, hX⟩ : ∃ X, clpV (apV m (bnd c)) = X := ⟨_, rfl⟩
  have hF : Hid (∀ i, fromV n f m c i = solV (n i) (f i) (X i)) := Lib.hid (fun i => by rw [← hX]; rfl)
  have kb := Lib.hid (fun W (_ : Below w0.heap.size w0 W) => refBound_any (c := c) (w := W))
  have ka := Lib.hid (fun W (_ : Below w0.heap.size w0 W) => refApply_any (m := m) (c := bnd c) (w := W) hm (InB.of c))
  have kc := Lib.hid (fun W (_ : Below w0.heap.size w0 W) => refClip_any (c := apV m (bnd c)) (w := W))
  rw [hX] at kc
  clear t1 t2 t3 hz hc hm hX
  unfold spA at h0
  unfold col at kb ka kc
  unfold mat at ka
  unfold col spc spA
  go_enter Try.func69, Try.ntmps69
  go_upto_region 1 with fail
  clear h0
  go_cut [5] from 9 to 14 (fun p wx => ∃ xb : Nat, p = .pointer (some ⟨xb, 0, none⟩) ∧ Tri 28 wx xb X ∧ w0.heap.size ≤ xb ∧ Below w0.heap.size w0 wx)
  case first =>
    refine region_free [0, 1, 2] [3, 4, 5] [] 6 7 [] (by kernel_rfl) rfl rfl (by kernel_rfl) (by kernel_rfl) (by kernel_rfl) (by kernel_rfl) (by kernel_rfl) (by kernel_rfl) (fun _ _ d _ _ h => by cases d <;> exact h) ?_
    simp only [selL, List.filterMap_cons, List.filterMap_nil, List.getElem?_cons_zero, List.getElem?_cons_succ]
    refine pureW_step (.pointer (some ⟨w.heap.size, 12, none⟩)) rfl (fun w' _ => ?_) (fun K' hK' => ?_)
    · go_simp
    go_simp
    refine hK' _ ?_
    clear hK' K'
    refine pureW_step (.agg #[.int .i64 (m 0), .int .i64 (m 1), .int .i64 (m 2), .int .i64 (m 3), .int .i64 (m 4), .int .i64 (m 5), .int .i64 (m 6), .int .i64 (m 7), .int .i64 (m 8)]) rfl (fun w' hw' => ?_) (fun K' hK' => ?_)
    · obtain ⟨p, rfl⟩ := hw'
      go_simp
    go_simp
    refine hK' _ ?_
    clear hK' K'
    refine pureW_step (.agg #[.int .i64 (c 0), .int .i64 (c 1), .int .i64 (c 2)]) rfl (fun w' hw' => ?_) (fun K' hK' => ?_)
    · obtain ⟨p, rfl⟩ := hw'
      go_simp
    go_simp
    refine hK' _ ?_
    clear hK' K'
    refine pureW_nil ?_
    intro ws hws
    have hbs := hws.below
    clear hws g0 g1 g2 e0 e1 e2 e3 e4 e5 e6 e7 e8
    refine ⟨?_, ?_⟩
    · obtain ⟨W2, hW2⟩ : ∃ W2, ws.alloc (.cells #[.int .i64 0, .int .i64 0, .int .i64 0] 28) = W2 := ⟨_, rfl⟩
      have hb2' : Below ws.heap.size ws W2 := by rw [← hW2]; exact (Below.refl _ _).alloc (Nat.le_refl _) _
      have tz : Tri 28 W2 ws.heap.size (fun _ => 0) := by rw [← hW2]; exact Tri.new ws (fun _ => 0) _
      have hbW := hbs.trans (hb2'.mono hbs.size)
      have kq0 := Lib.hid (Calls.grown_of (w := W2) fun W hW => kb.out W (hbW.trans (hW.mono hbW.size)))
      have kq1 := Lib.hid (Calls.grown_of (w := W2) fun W hW => ka.out W (hbW.trans (hW.mono hbW.size)))
      have kq2 := Lib.hid (Calls.grown_of (w := W2) fun W hW => kc.out W (hbW.trans (hW.mono hbW.size)))
      have TZ := Lib.hid tz
      clear tz
      go_wp2
      show _ ∧ _
      refine ⟨.of hbW, ?_⟩
      clear hW2
      simp only [List.append_nil]
      change wpQuiet _ _ (fun w' => ∃ p : Regrown, w' = grow (redrawn W2 p.d) p.os) _ (_ :: _ :: _ :: []) _
      repeat (go_big_quiet_step ((first | with_reducible exact kq0.out _ _ | with_reducible exact kq1.out _ _ | with_reducible exact kq2.out _ _)))
      refine wpQuiet_nil ?_
      intro w9 hw9
      replace hw9 := Cw.below hw9
      have tz := TZ.out.on hw9
      have hb9' := hbW.trans (hw9.mono hbW.size)
      have x0 := tz.c0
      have x1 := tz.c1
      have x2 := tz.c2
      have y0 := tz.free 0
      have y1 := tz.free 1
      have y2 := tz.free 2
      have TZ9 := Lib.hid (tz.set3 X)
      clear tz
      go_wp2
      go_meet
      exact ⟨_, rfl, TZ9.out, hbs.size, set3_below hb9' (by have := hbs.size; simpa using this) _ _ _⟩
    · go_wp2_with fail
      refine (kb.out ws hbs).mono ?_
      rintro e wc0 ⟨rfl, hbc0⟩
      have hbd0 := hbs.trans (hbc0.mono hbs.size)
      go_wp2
      show _ ∧ _
      refine ⟨.of hbd0, ?_⟩
      refine ⟨?_, ?_⟩
      · obtain ⟨W2, hW2⟩ : ∃ W2, wc0.alloc (.cells #[.int .i64 0, .int .i64 0, .int .i64 0] 28) = W2 := ⟨_, rfl⟩
        have hb2' : Below wc0.heap.size wc0 W2 := by rw [← hW2]; exact (Below.refl _ _).alloc (Nat.le_refl _) _
        have tz : Tri 28 W2 wc0.heap.size (fun _ => 0) := by rw [← hW2]; exact Tri.new wc0 (fun _ => 0) _
        have hbW := hbd0.trans (hb2'.mono hbd0.size)
        have kq0 := Lib.hid (Calls.grown_of (w := W2) fun W hW => ka.out W (hbW.trans (hW.mono hbW.size)))
        have kq1 := Lib.hid (Calls.grown_of (w := W2) fun W hW => kc.out W (hbW.trans (hW.mono hbW.size)))
        have TZ := Lib.hid tz
        clear tz
        go_wp2
        show _ ∧ _
        refine ⟨.of hbW, ?_⟩
        clear hW2
        simp only [List.append_nil]
        change wpQuiet _ _ (fun w' => ∃ p : Regrown, w' = grow (redrawn W2 p.d) p.os) _ (_ :: _ :: []) _
        repeat (go_big_quiet_step ((first | with_reducible exact kq0.out _ _ | with_reducible exact kq1.out _ _)))
        refine wpQuiet_nil ?_
        intro w9 hw9
        replace hw9 := Cw.below hw9
        have tz := TZ.out.on hw9
        have hb9' := hbW.trans (hw9.mono hbW.size)
        have x0 := tz.c0
        have x1 := tz.c1
        have x2 := tz.c2
        have y0 := tz.free 0
        have y1 := tz.free 1
        have y2 := tz.free 2
        have TZ9 := Lib.hid (tz.set3 X)
        clear tz
        go_wp2
        go_meet
        exact ⟨_, rfl, TZ9.out, hbd0.size, set3_below hb9' (by have := hbd0.size; simpa using this) _ _ _⟩
      · go_wp2_with fail
        refine (ka.out wc0 hbd0).mono ?_
        rintro e wc1 ⟨rfl, hbc1⟩
        have hbd1 := hbd0.trans (hbc1.mono hbd0.size)
        go_wp2
        show _ ∧ _
        refine ⟨.of hbd1, ?_⟩
        refine ⟨?_, ?_⟩
        · obtain ⟨W2, hW2⟩ : ∃ W2, wc1.alloc (.cells #[.int .i64 0, .int .i64 0, .int .i64 0] 28) = W2 := ⟨_, rfl⟩
          have hb2' : Below wc1.heap.size wc1 W2 := by rw [← hW2]; exact (Below.refl _ _).alloc (Nat.le_refl _) _
          have tz : Tri 28 W2 wc1.heap.size (fun _ => 0) := by rw [← hW2]; exact Tri.new wc1 (fun _ => 0) _
          have hbW := hbd1.trans (hb2'.mono hbd1.size)
          have kq0 := Lib.hid (Calls.grown_of (w := W2) fun W hW => kc.out W (hbW.trans (hW.mono hbW.size)))
          have TZ := Lib.hid tz
          clear tz
          go_wp2
          show _ ∧ _
          refine ⟨.of hbW, ?_⟩
          clear hW2
          simp only [List.append_nil]
          change wpQuiet _ _ (fun w' => ∃ p : Regrown, w' = grow (redrawn W2 p.d) p.os) _ (_ :: []) _
          repeat (go_big_quiet_step ((first | with_reducible exact kq0.out _ _)))
          refine wpQuiet_nil ?_
          intro w9 hw9
          replace hw9 := Cw.below hw9
          have tz := TZ.out.on hw9
          have hb9' := hbW.trans (hw9.mono hbW.size)
          have x0 := tz.c0
          have x1 := tz.c1
          have x2 := tz.c2
          have y0 := tz.free 0
          have y1 := tz.free 1
          have y2 := tz.free 2
          have TZ9 := Lib.hid (tz.set3 X)
          clear tz
          go_wp2
          go_meet
          exact ⟨_, rfl, TZ9.out, hbd1.size, set3_below hb9' (by have := hbd1.size; simpa using this) _ _ _⟩
        · go_wp2_with fail
          refine (kc.out wc1 hbd1).mono ?_
          rintro e wc2 ⟨rfl, hbc2⟩
          have hbd2 := hbd1.trans (hbc2.mono hbd1.size)
          go_wp2
          show _ ∧ _
          refine ⟨.of hbd2, ?_⟩
          refine pureW_nil ?_
          intro wt hwt
          have hbt := hwt.below
          obtain ⟨W2, hW2⟩ : ∃ W2, wt.alloc (.cells #[.int .i64 0, .int .i64 0, .int .i64 0] 28) = W2 := ⟨_, rfl⟩
          have hb2' : Below wt.heap.size wt W2 := by rw [← hW2]; exact (Below.refl _ _).alloc (Nat.le_refl _) _
          have tz : Tri 28 W2 wt.heap.size (fun _ => 0) := by rw [← hW2]; exact Tri.new wt (fun _ => 0) _
          have hbW := hbt.trans (hb2'.mono hbt.size)
          go_wp2
          show _ ∧ _
          refine ⟨.of hbW, ?_⟩
          clear hW2
          have x0 := tz.c0
          have x1 := tz.c1
          have x2 := tz.c2
          have y0 := tz.free 0
          have y1 := tz.free 1
          have y2 := tz.free 2
          have TZ9 := Lib.hid (tz.set3 X)
          clear tz
          go_wp2
          go_meet
          exact ⟨_, rfl, TZ9.out, hbt.size, set3_below hbW (by have := hbt.size; simpa using this) _ _ _⟩
  case rest =>
    obtain ⟨xb, rfl, tx, lx, hbx⟩ := hcut
    obtain ⟨wo, rfl⟩ : ∃ wo : World, wo = wc := ⟨_, rfl⟩
    have hqx := hb.trans (hbx.mono hb.size)
    obtain ⟨w1, h1⟩ : ∃ w1, wo.alloc (.cells #[.int .i64 0, .int .i64 0, .int .i64 0] 28) = w1 := ⟨_, rfl⟩
    have hb1 : Below wo.heap.size wo w1 := by rw [← h1]; exact (Below.refl _ _).alloc (Nat.le_refl _) _
    have t6 : Tri 28 w1 wo.heap.size (fun _ => 0) := by rw [← h1]; exact Tri.new wo (fun _ => 0) _
    have U1 := Lib.hid ((T1.out.on hbx).on hb1)
    have U3 := Lib.hid ((T3.out.on hbx).on hb1)
    have UX := Lib.hid (tx.on hb1)
    have lxw := tx.lt
    obtain ⟨F, hFF⟩ : ∃ F, fromV n f m c = F := ⟨_, rfl⟩
    have U6 : Hid (Tri 28 w1 wo.heap.size (upto F 0)) := Lib.hid (t6.congr rfl rfl rfl)
    have hq1 := hqx.trans (hb1.mono hqx.size)
    have HFF := Lib.hid hFF
    clear tx t6 hb1 hbx hFF kb ka kc g0 g1 g2 e0 e1 e2 e3 e4 e5 e6 e7 e8
    go_wp2
    clear h1
    go_loopw [7] (fun i wr => ∃ k : Nat, k ≤ 3 ∧ i = .int .i64 k ∧ Spb 63 wr w.heap.size v t m ∧ Tri 28 wr xb X ∧ Tri 28 wr (w.heap.size + 1 + 1) (fun _ => 0) ∧ Tri 28 wr wo.heap.size (upto F k) ∧ Below w.heap.size w wr) (fun i _ => 3 - (intOf i).toNat)
    case atStart => exact ⟨0, by omega, rfl, U1.out, UX.out, U3.out, U6.out, hq1⟩
    case round =>
      obtain ⟨k, hk, rfl, t1, tx, t3, t6, hq⟩ := hrel
      by_cases hlt : k < 3
      · have r0 := cell_regrown (t1.curve k hlt)
        have r1 := cell_regrown (tx.cell k hlt)
        obtain ⟨n1, n2⟩ := HC.out k hlt
        have hqs := hq.size
        have ks := Lib.hid (fun W (hW : Below wr.heap.size wr W) => refSolve_any (y := X k) (w := W) n1 (Nat.le_trans hqs hW.size) (n2.below (hq.trans (hW.mono hqs)) (Nat.le_refl _)))
        have hFk := hF.out k
        rw [HFF.out] at hFk
        have P1 := Lib.hid t1
        have PX := Lib.hid tx
        have P3 := Lib.hid t3
        have P6 := Lib.hid t6
        have l6 := t6.lt
        have i1 : 0 ≤ (k : Int) ∧ (k : Int) < 3 := by omega
        have HFk := Lib.hid hFk
        clear t1 tx t3 t6 n1 n2 hFk
        go_upto_region 6 with fail
        go_cut [8] from 15 to 35 (fun p wx => ∃ b : Nat, p = .pointer (some ⟨b, 0, none⟩) ∧ Two 107 wx b (.int .i64 (slvX (n k) (f k) (X k) : Nat)) (.bool (slvOk (n k) (f k) (X k))) ∧ wr.heap.size ≤ b ∧ Below wr.heap.size wr wx)
        case first =>
          refine region_free [0, 1, 2, 3, 4, 5, 6] [7] [] 8 9 [] (by kernel_rfl) rfl rfl (by kernel_rfl) (by kernel_rfl) (by kernel_rfl) (by kernel_rfl) (by kernel_rfl) (by kernel_rfl) (fun _ _ d _ _ h => by cases d <;> exact h) ?_
          simp only [selL, List.filterMap_cons, List.filterMap_nil, List.getElem?_cons_zero, List.getElem?_cons_succ]
          refine pureW_step (.int .i64 (k : Int)) rfl (fun w' _ => ?_) (fun K' hK' => ?_)
          · go_simp
          go_simp
          refine hK' _ ?_
          clear hK' K'
          refine pureW_step (.pointer (some ⟨w.heap.size, 0, none⟩)) rfl (fun w' _ => ?_) (fun K' hK' => ?_)
          · go_simp
          go_simp
          refine hK' _ ?_
          clear hK' K'
          refine pureW_step (.pointer (some ⟨w.heap.size, k, none⟩)) rfl (fun w' _ => ?_) (fun K' hK' => ?_)
          · go_simp
          go_simp
          refine hK' _ ?_
          clear hK' K'
          refine pureW_step (v k) rfl (fun w' hw' => ?_) (fun K' hK' => ?_)
          · obtain ⟨p, rfl⟩ := hw'
            go_simp
          go_simp
          refine hK' _ ?_
          clear hK' K'
          refine pureW_step (.int .i64 (k : Int)) rfl (fun w' _ => ?_) (fun K' hK' => ?_)
          · go_simp
          go_simp
          refine hK' _ ?_
          clear hK' K'
          refine pureW_step (.pointer (some ⟨xb, k, none⟩)) rfl (fun w' _ => ?_) (fun K' hK' => ?_)
          · go_simp
          go_simp
          refine hK' _ ?_
          clear hK' K'
          refine pureW_step (.int .i64 (X k)) rfl (fun w' hw' => ?_) (fun K' hK' => ?_)
          · obtain ⟨p, rfl⟩ := hw'
            go_simp
          go_simp
          refine hK' _ ?_
          clear hK' K'
          refine pureW_nil ?_
          intro ws hws
          have hbs := hws.below
          clear hws r0 r1
          refine ⟨?_, ?_⟩
          · obtain ⟨W2, hW2⟩ : ∃ W2, ws.alloc (.cells #[.int .i64 0, .bool false] 107) = W2 := ⟨_, rfl⟩
            have hb2' : Below ws.heap.size ws W2 := by rw [← hW2]; exact (Below.refl _ _).alloc (Nat.le_refl _) _
            have tz : Two 107 W2 ws.heap.size (.int .i64 0) (.bool false) := by rw [← hW2]; exact Two.new ws _ _ _
            have hbW := hbs.trans (hb2'.mono hbs.size)
            have kq0 := Lib.hid (Calls.grown_of (w := W2) fun W hW => ks.out W (hbW.trans (hW.mono hbW.size)))
            have TZ := Lib.hid tz
            clear tz
            go_wp2
            show _ ∧ _
            refine ⟨.of hbW, ?_⟩
            clear hW2
            simp only [List.append_nil]
            change wpQuiet _ _ (fun w' => ∃ p : Regrown, w' = grow (redrawn W2 p.d) p.os) _ (_ :: []) _
            repeat (go_big_quiet_step ((first | with_reducible exact kq0.out _ _)))
            refine wpQuiet_nil ?_
            intro w9 hw9
            replace hw9 := Cw.below hw9
            have tz := TZ.out.on hw9
            have hb9' := hbW.trans (hw9.mono hbW.size)
            have x0 := tz.c0
            have x1 := tz.c1
            have y0 := tz.free 0
            have y1 := tz.free 1
            have TZ9 := Lib.hid ((tz.set0 (.int .i64 (slvX (n k) (f k) (X k) : Nat))).set1 (.bool (slvOk (n k) (f k) (X k))))
            clear tz
            go_wp2
            go_meet
            exact ⟨_, rfl, TZ9.out, hbs.size, set2_below hb9' (by have := hbs.size; simpa using this) _ _⟩
          · go_wp2_with fail
            refine (ks.out ws hbs).mono ?_
            rintro e wc0 ⟨rfl, hbc0⟩
            have hbd0 := hbs.trans (hbc0.mono hbs.size)
            go_wp2
            show _ ∧ _
            refine ⟨.of hbd0, ?_⟩
            refine pureW_nil ?_
            intro wt hwt
            have hbt := hwt.below
            obtain ⟨W2, hW2⟩ : ∃ W2, wt.alloc (.cells #[.int .i64 0, .bool false] 107) = W2 := ⟨_, rfl⟩
            have hb2' : Below wt.heap.size wt W2 := by rw [← hW2]; exact (Below.refl _ _).alloc (Nat.le_refl _) _
            have tz : Two 107 W2 wt.heap.size (.int .i64 0) (.bool false) := by rw [← hW2]; exact Two.new wt _ _ _
            have hbW := hbt.trans (hb2'.mono hbt.size)
            go_wp2
            show _ ∧ _
            refine ⟨.of hbW, ?_⟩
            clear hW2
            have x0 := tz.c0
            have x1 := tz.c1
            have y0 := tz.free 0
            have y1 := tz.free 1
            have TZ9 := Lib.hid ((tz.set0 (.int .i64 (slvX (n k) (f k) (X k) : Nat))).set1 (.bool (slvOk (n k) (f k) (X k))))
            clear tz
            go_wp2
            go_meet
            exact ⟨_, rfl, TZ9.out, hbt.size, set2_below hbW (by have := hbt.size; simpa using this) _ _⟩
        case rest =>
          obtain ⟨b, rfl, t8, lb, hbc⟩ := hcut
          have g0 := t8.c0
          have t6 := P6.out.on hbc
          have c6 := t6.cell k hlt
          have f6 := t6.free k
          have Q1 := Lib.hid (P1.out.on hbc)
          have QX := Lib.hid (PX.out.on hbc)
          have Q3 := Lib.hid (P3.out.on hbc)
          have hqc := hq.trans (hbc.mono hq.size)
          obtain ⟨Y, hY⟩ : ∃ Y : Int, ((slvX (n k) (f k) (X k) : Nat) : Int) = Y := ⟨_, rfl⟩
          rw [hY] at g0
          obtain ⟨w7, h7⟩ : ∃ w7, wc.setCell ⟨wo.heap.size, k, none⟩ (.int .i64 Y) = w7 := ⟨_, rfl⟩
          have hx7 : Exc wo.heap.size wc w7 := by rw [← h7]; exact (Exc.refl _ _).set _
          have t87 : Two 107 w7 b (.int .i64 (slvX (n k) (f k) (X k) : Nat)) (.bool (slvOk (n k) (f k) (X k))) := by rw [← h7]; exact t8.keep (by omega)
          have R1 := Lib.hid (Q1.out.exc hx7 (by omega))
          have RX := Lib.hid (QX.out.exc hx7 (by omega))
          have R3 := Lib.hid (Q3.out.exc hx7 (by omega))
          have hq7 : Below w.heap.size w w7 := by rw [← h7]; exact hqc.setCell (by simp; omega) _
          have g1 := t87.c1
          cases hok : slvOk (n k) (f k) (X k) with
          | true =>
            have hFY : F k = Y := by rw [HFk.out, solV_t hok, hY]
            have T7 : Hid (Tri 28 w7 wo.heap.size (upto F (k + 1))) := Lib.hid (by rw [← h7, ← hFY]; exact upto_step t6 hlt)
            rw [hok] at g1
            clear hok t8 t87 t6 hY hFY hx7
            go_wp2
            clear h7
            go_roundw
            case rel => exact ⟨k + 1, by omega, by go_num, R1.out, RX.out, R3.out, T7.out, hq7⟩
            case measure => simp [intOf]; omega
          | false =>
            have hFY : F k = 65535 := by rw [HFk.out, solV_f hok]
            have t7 : Tri 28 w7 wo.heap.size (fun i => if i = k then Y else upto F k i) := by rw [← h7]; exact t6.set hlt (by simp) (fun i hi => by simp [hi])
            have c7 := t7.cell k hlt
            have f7 := t7.free k
            have T8 : Hid (Tri 28 (w7.setCell ⟨wo.heap.size, k, none⟩ (.int .i64 65535)) wo.heap.size (upto F (k + 1))) := Lib.hid (t7.set hlt (by unfold upto; rw [if_pos (by omega)]; exact hFY) (fun i hi => by unfold upto; by_cases h : i < k <;> simp [h, hi] <;> omega))
            rw [hok] at g1
            simp only [if_true] at c7
            clear hok t8 t87 t6 hY hFY hx7 t7
            go_wp2
            go_roundw
            case rel => exact ⟨k + 1, by omega, by go_num, R1.out.exc ((Exc.refl _ _).set _) (by omega), RX.out.keep (by omega), R3.out.keep (by omega), T8.out, hq7.setCell (by simp; omega) _⟩
            case measure => simp [intOf]; omega
      · obtain rfl : k = 3 := by omega
        have t6 := upto_3 t6
        have x0 := t3.c0
        have x1 := t3.c1
        have x2 := t3.c2
        have y0 := t3.free 0
        have y1 := t3.free 1
        have y2 := t3.free 2
        have z0 := t6.c0
        have z1 := t6.c1
        have z2 := t6.c2
        clear t1 tx t3 t6
        go_wp2
        refine bodyPost_ret (v := .agg #[.int .i64 (F 0), .int .i64 (F 1), .int .i64 (F 2)]) (by simp [results, Try.results69, go_sem, *]) rfl ?_
        exact ⟨by rw [HFF.out], set3_below hq (by omega) _ _ _⟩

end Go.Proofs.Ytmilljlkcbljpaa

/- Valid of the reference. -/
namespace Go.Proofs.Ytmilljlkcbljpaa
open Go.RowKit Go.Sort

/-- A sum over the first j entries of a row and a column. -/
def pS (m t : Nat → Int) (r c : Nat) : Nat → Int
  | 0 => 0
  | j + 1 => pS m t r c j + m (3 * r + j) * t (3 * j + c)
theorem pS_3 (m t : Nat → Int) (r c : Nat) : pS m t r c 3 = prdV m t r c := by
  show 0 + m (3 * r + 0) * t (3 * 0 + c) + m (3 * r + 1) * t (3 * 1 + c) + m (3 * r + 2) * t (3 * 2 + c) = _
  unfold prdV
  rw [Nat.add_zero, Nat.mul_zero, Nat.zero_add, Int.zero_add]
theorem pS_bd {m t : Nat → Int} (hm : Ent m) (ht : Ent t) {r c : Nat} (hr : r < 3) (hc : c < 3) : ∀ j : Nat, j ≤ 3 → -(4294967296 * (j : Int)) ≤ pS m t r c j ∧ pS m t r c j ≤ 4294967296 * (j : Int)
  | 0, _ => by show -(4294967296 * ((0 : Nat) : Int)) ≤ 0 ∧ 0 ≤ 4294967296 * ((0 : Nat) : Int); omega
  | j + 1, hj => by
    have ih := pS_bd hm ht hr hc j (by omega)
    have := mul_both (hm (3 * r + j) (by omega)).1 (hm (3 * r + j) (by omega)).2 (ht (3 * j + c) (by omega)).1 (ht (3 * j + c) (by omega)).2
    show -(4294967296 * ((j + 1 : Nat) : Int)) ≤ pS m t r c j + m (3 * r + j) * t (3 * j + c) ∧ pS m t r c j + m (3 * r + j) * t (3 * j + c) ≤ 4294967296 * ((j + 1 : Nat) : Int)
    omega

set_option maxRecDepth 100000 in
set_option maxHeartbeats 8000000 in
theorem refValid6_any {v : Nat → Value} {n : Nat → Nat} {f : Nat → Nat → Int} {t m : Nat → Int} {B : Nat} {w : World} (hB : B ≤ w.heap.size) (hc : Crv w B v n f) :
    Calls Try.prog 29 #[spc v t m] w fun e w' => e = .returned (.bool (spB n f t m)) ∧ Below w.heap.size w w' := by
  have t1 := Spb.new w v t m 63
  have hb := (Below.refl w.heap.size w).alloc (Nat.le_refl _) (.cells (spA v t m) 63)
  obtain ⟨w0, h0⟩ : ∃ w0, w.alloc (.cells (spA v t m) 63) = w0 := ⟨_, rfl⟩
  rw [h0] at t1 hb
  have T1 := Lib.hid t1
  have HC := Lib.hid (hc.below hb hB)
  clear t1 hc
  unfold spA at h0
  unfold spc spA
  go_enter Try.func29, Try.ntmps29
  go_wp2
  clear h0
  go_loopw [3] (fun i wr => ∃ k : Nat, k ≤ 3 ∧ i = .int .i64 k ∧ Hid (∀ j, j < k → Vld (n j) (f j)) ∧ Drawn w0 wr) (fun i _ => 3 - (intOf i).toNat)
  case atStart => exact ⟨0, by omega, rfl, Lib.hid (fun j hj => by omega), .refl _⟩
  case round =>
    obtain ⟨k, hk, rfl, hs, hd⟩ := hrel
    by_cases hlt : k < 3
    · have ck := (T1.out.on (hd.below _)).curve k hlt
      have i1 : 0 ≤ (k : Int) ∧ (k : Int) < 3 := by omega
      have kv := Lib.hid (refValid_any (HC.out k hlt).1 ((HC.out k hlt).2.drawn hd))
      have HD := Lib.hid hd
      clear hd
      go_wp2_with fail
      refine kv.out.mono ?_
      rintro e w1 ⟨rfl, hd1⟩
      have HD1 := Lib.hid (HD.out.trans hd1)
      clear hd1 ck
      cases hV : vldB (n k) (f k) with
      | true =>
        have E := Lib.hid (of_vldB hV)
        clear hV
        go_wp2
        go_roundw
        case rel => exact ⟨k + 1, by omega, by go_num, Lib.hid (fun j hj => by
          by_cases e : j = k
          · subst e; exact E.out
          · exact hs.out j (by omega)), HD1.out⟩
        case measure => simp [intOf]; omega
      | false =>
        have E := Lib.hid (spB_f (n := n) (f := f) (t := t) (m := m) fun h => by rw [vldB_t (h.1 k hlt)] at hV; cases hV)
        clear hV
        go_wp2
        go_ret
        exact ⟨ret_bool E.out.symm, hb.trans ((HD1.out.below _).mono hb.size)⟩
    · obtain rfl : k = 3 := by omega
      have HVL := hs
      have HD := Lib.hid hd
      clear hs hd
      go_wp2
      go_loopw [5] (fun i wr => ∃ k : Nat, k ≤ 9 ∧ i = .int .i64 k ∧ Hid (∀ j, j < k → (-65536 ≤ t j ∧ t j ≤ 65536) ∧ (-65536 ≤ m j ∧ m j ≤ 65536)) ∧ Drawn w0 wr) (fun i _ => 9 - (intOf i).toNat)
      case atStart => exact ⟨0, by omega, rfl, Lib.hid (fun j hj => by omega), HD.out⟩
      case round =>
        clear HD
        obtain ⟨k, hk, rfl, hs, hd⟩ := hrel
        have T2 := Lib.hid (T1.out.on (hd.below _))
        have HD := Lib.hid hd
        clear hd
        by_cases hlt : k < 9
        · have ct := T2.out.to k hlt
          have cm := T2.out.fr k hlt
          obtain ⟨TK, hT⟩ : ∃ TK, Hid (t k = TK) := ⟨_, Lib.hid rfl⟩
          obtain ⟨MK, hM⟩ : ∃ MK, Hid (m k = MK) := ⟨_, Lib.hid rfl⟩
          rw [hT.out] at ct
          rw [hM.out] at cm
          have ct' := ct
          have cm' := cm
          clear ct cm
          have i1 : 0 ≤ (k : Int) ∧ (k : Int) < 9 := by omega
          by_cases q0 : TK < -65536
          · have d0 : decide (TK < -65536) = true := decide_eq_true q0
            have E := Lib.hid (spB_f (n := n) (f := f) (t := t) (m := m) fun h => by
              have h1 := h.2.1 k hlt
              have h2 := h.2.2.1 k hlt
              rw [hT.out] at h1
              rw [hM.out] at h2
              omega)
            go_wp2
            go_ret
            exact ⟨ret_bool E.out.symm, hb.trans ((HD.out.below _).mono hb.size)⟩
          · have d0 : decide (TK < -65536) = false := decide_eq_false q0
            by_cases q1 : 65536 < TK
            · have d1 : decide (65536 < TK) = true := decide_eq_true q1
              have E := Lib.hid (spB_f (n := n) (f := f) (t := t) (m := m) fun h => by
                have h1 := h.2.1 k hlt
                have h2 := h.2.2.1 k hlt
                rw [hT.out] at h1
                rw [hM.out] at h2
                omega)
              go_wp2
              go_ret
              exact ⟨ret_bool E.out.symm, hb.trans ((HD.out.below _).mono hb.size)⟩
            · have d1 : decide (65536 < TK) = false := decide_eq_false q1
              by_cases q2 : MK < -65536
              · have d2 : decide (MK < -65536) = true := decide_eq_true q2
                have E := Lib.hid (spB_f (n := n) (f := f) (t := t) (m := m) fun h => by
                  have h1 := h.2.1 k hlt
                  have h2 := h.2.2.1 k hlt
                  rw [hT.out] at h1
                  rw [hM.out] at h2
                  omega)
                go_wp2
                go_ret
                exact ⟨ret_bool E.out.symm, hb.trans ((HD.out.below _).mono hb.size)⟩
              · have d2 : decide (MK < -65536) = false := decide_eq_false q2
                by_cases q3 : 65536 < MK
                · have d3 : decide (65536 < MK) = true := decide_eq_true q3
                  have E := Lib.hid (spB_f (n := n) (f := f) (t := t) (m := m) fun h => by
                    have h1 := h.2.1 k hlt
                    have h2 := h.2.2.1 k hlt
                    rw [hT.out] at h1
                    rw [hM.out] at h2
                    omega)
                  go_wp2
                  go_ret
                  exact ⟨ret_bool E.out.symm, hb.trans ((HD.out.below _).mono hb.size)⟩
                · have d3 : decide (65536 < MK) = false := decide_eq_false q3
                  have HS2 : Hid (∀ j, j < k + 1 → (-65536 ≤ t j ∧ t j ≤ 65536) ∧ (-65536 ≤ m j ∧ m j ≤ 65536)) := Lib.hid (fun j hj => by
                    by_cases e : j = k
                    · subst e; rw [hT.out, hM.out]; omega
                    · exact hs.out j (by omega))
                  go_wp2
                  exact ⟨⟨k + 1, by omega, by go_num, HS2, HD.out⟩, by simp [intOf]; omega⟩
        · obtain rfl : k = 9 := by omega
          have HE1 : Hid (Ent t) := Lib.hid (fun j hj => (hs.out j hj).1)
          have HE2 : Hid (Ent m) := Lib.hid (fun j hj => (hs.out j hj).2)
          clear hs
          go_wp2
          go_loopw [6] (fun i wr => ∃ r : Nat, r ≤ 3 ∧ i = .int .i64 r ∧ Hid (∀ q, q < 3 * r → nearV m t (q / 3) (q % 3)) ∧ Drawn w0 wr) (fun i _ => 3 - (intOf i).toNat)
          case atStart => exact ⟨0, by omega, rfl, Lib.hid (fun j hj => by omega), HD.out⟩
          case round =>
            clear HD T2
            obtain ⟨r, hr, rfl, hs, hd⟩ := hrel
            have HD := Lib.hid hd
            clear hd
            by_cases hr3 : r < 3
            · go_wp2
              go_loopw [7] (fun i wr => ∃ c : Nat, c ≤ 3 ∧ i = .int .i64 c ∧ Hid (∀ q, q < 3 * r + c → nearV m t (q / 3) (q % 3)) ∧ Drawn w0 wr) (fun i _ => 3 - (intOf i).toNat)
              case atStart => exact ⟨0, by omega, rfl, hs, HD.out⟩
              case round =>
                clear HD hs
                obtain ⟨c, hc', rfl, hs, hd⟩ := hrel
                have HD := Lib.hid hd
                clear hd
                by_cases hc3 : c < 3
                · go_wp2
                  go_loopw [8, 9] (fun s i wr => ∃ j : Nat, j ≤ 3 ∧ i = .int .i64 j ∧ s = .int .i64 (pS m t r c j) ∧ Drawn w0 wr) (fun _ i _ => 3 - (intOf i).toNat)
                  case atStart => exact ⟨0, by omega, rfl, rfl, HD.out⟩
                  case round =>
                    clear HD
                    obtain ⟨j, hj, rfl, rfl, hd⟩ := hrel
                    have HD := Lib.hid hd
                    have T2 := T1.out.on (hd.below _)
                    clear hd
                    by_cases hj3 : j < 3
                    · have cm := T2.fr (3 * r + j) (by omega)
                      have ct := T2.to (3 * j + c) (by omega)
                      have b0 := pS_bd HE2.out HE1.out hr3 hc3 j hj
                      obtain ⟨b1, b2⟩ := mul_both (HE2.out (3 * r + j) (by omega)).1 (HE2.out (3 * r + j) (by omega)).2 (HE1.out (3 * j + c) (by omega)).1 (HE1.out (3 * j + c) (by omega)).2
                      have HS := Lib.hid (show pS m t r c (j + 1) = pS m t r c j + m (3 * r + j) * t (3 * j + c) from rfl)
                      have n1 : (3 * (r : Int) + (j : Int)).toNat = 3 * r + j := by omega
                      have n2 : (3 * (j : Int) + (c : Int)).toNat = 3 * j + c := by omega
                      have i1 : 0 ≤ 3 * (r : Int) + (j : Int) ∧ 3 * (r : Int) + (j : Int) < 9 := by omega
                      have i2 : 0 ≤ 3 * (j : Int) + (c : Int) ∧ 3 * (j : Int) + (c : Int) < 9 := by omega
                      have i3 : (r : Int) < 3 ∧ (j : Int) < 3 := by omega
                      generalize pS m t r c j = Pj at *
                      generalize m (3 * r + j) = Mj at *
                      generalize t (3 * j + c) = Tj at *
                      have b3 : -12884901888 ≤ Pj ∧ Pj ≤ 12884901888 := by omega
                      clear T2 b0
                      go_wp2
                      go_quiet (fail)
                      go_wp2
                      exact ⟨⟨j + 1, by omega, by go_num, by rw [HS.out], HD.out.on _⟩, by simp [intOf]; omega⟩
                    · obtain rfl : j = 3 := by omega
                      have b0 := pS_bd HE2.out HE1.out hr3 hc3 3 (Nat.le_refl _)
                      rw [pS_3] at b0 ⊢
                      have HN := Lib.hid (show nearV m t r c ↔ -32768 ≤ prdV m t r c - (if r = c then 16777216 else 0) ∧ prdV m t r c - (if r = c then 16777216 else 0) ≤ 32768 from Iff.rfl)
                      have hq : (3 * r + c) / 3 = r ∧ (3 * r + c) % 3 = c := by omega
                      have HNQ := Lib.hid (fun h : nearV m t r c => (fun q (hq' : q < 3 * r + (c + 1)) => by
                        by_cases e : q = 3 * r + c
                        · subst e; rw [hq.1, hq.2]; exact h
                        · exact hs.out q (by omega) : ∀ q, q < 3 * r + (c + 1) → nearV m t (q / 3) (q % 3)))
                      have HNF := Lib.hid (fun h : ¬ nearV m t r c => spB_f (n := n) (f := f) (t := t) (m := m) fun hh => h (by
                        have := hh.2.2.2 (3 * r + c) (by omega)
                        rw [hq.1, hq.2] at this
                        exact this))
                      generalize prdV m t r c = Pv at *
                      have b3 : -12884901888 ≤ Pv ∧ Pv ≤ 12884901888 := by omega
                      clear T2 b0 hq
                      by_cases hrc : r = c
                      · subst hrc
                        have er : ((r : Int) == (r : Int)) = true := by simp
                        have HN' := Lib.hid (show nearV m t r r ↔ -32768 ≤ Pv - 16777216 ∧ Pv - 16777216 ≤ 32768 by rw [HN.out, if_pos rfl])
                        by_cases q1 : Pv - 16777216 < -32768
                        · have d1 : decide (Pv - 16777216 < -32768) = true := decide_eq_true q1
                          have E := Lib.hid (HNF.out (fun h => by rw [HN'.out] at h; omega))
                          clear HNF HNQ
                          go_wp2
                          go_ret
                          exact ⟨ret_bool E.out.symm, hb.trans ((HD.out.below _).mono hb.size)⟩
                        · have d1 : decide (Pv - 16777216 < -32768) = false := decide_eq_false q1
                          by_cases q2 : 32768 < Pv - 16777216
                          · have d2 : decide (32768 < Pv - 16777216) = true := decide_eq_true q2
                            have E := Lib.hid (HNF.out (fun h => by rw [HN'.out] at h; omega))
                            clear HNF HNQ
                            go_wp2
                            go_ret
                            exact ⟨ret_bool E.out.symm, hb.trans ((HD.out.below _).mono hb.size)⟩
                          · have d2 : decide (32768 < Pv - 16777216) = false := decide_eq_false q2
                            have E := Lib.hid (HNQ.out (HN'.out.2 (by omega)))
                            clear HNF HNQ
                            go_wp2
                            exact ⟨⟨r + 1, by omega, by go_num, E, HD.out⟩, by simp [intOf]; omega⟩
                      · have er : ((r : Int) == (c : Int)) = false := by simp; omega
                        have HN' := Lib.hid (show nearV m t r c ↔ -32768 ≤ Pv ∧ Pv ≤ 32768 by rw [HN.out, if_neg hrc]; simp)
                        by_cases q1 : Pv < -32768
                        · have d1 : decide (Pv < -32768) = true := decide_eq_true q1
                          have E := Lib.hid (HNF.out (fun h => by rw [HN'.out] at h; omega))
                          clear HNF HNQ
                          go_wp2
                          go_ret
                          exact ⟨ret_bool E.out.symm, hb.trans ((HD.out.below _).mono hb.size)⟩
                        · have d1 : decide (Pv < -32768) = false := decide_eq_false q1
                          by_cases q2 : 32768 < Pv
                          · have d2 : decide (32768 < Pv) = true := decide_eq_true q2
                            have E := Lib.hid (HNF.out (fun h => by rw [HN'.out] at h; omega))
                            clear HNF HNQ
                            go_wp2
                            go_ret
                            exact ⟨ret_bool E.out.symm, hb.trans ((HD.out.below _).mono hb.size)⟩
                          · have d2 : decide (32768 < Pv) = false := decide_eq_false q2
                            have E := Lib.hid (HNQ.out (HN'.out.2 (by omega)))
                            clear HNF HNQ
                            go_wp2
                            exact ⟨⟨c + 1, by omega, by go_num, E, HD.out⟩, by simp [intOf]; omega⟩
                · obtain rfl : c = 3 := by omega
                  go_wp2
                  exact ⟨⟨r + 1, by omega, by go_num, hs, HD.out⟩, by simp [intOf]; omega⟩
            · obtain rfl : r = 3 := by omega
              have E := Lib.hid (spB_t (n := n) (f := f) (t := t) (m := m) ⟨HVL.out, HE1.out, HE2.out, fun q hq => hs.out q (by omega)⟩)
              go_wp2
              go_ret
              exact ⟨ret_bool E.out.symm, hb.trans ((HD.out.below _).mono hb.size)⟩

end Go.Proofs.Ytmilljlkcbljpaa

/- Check, convert, To and From of the reference. -/
namespace Go.Proofs.Ytmilljlkcbljpaa
open Go.RowKit Go.Sort

theorem Sp.refTo {s : Sp} {c : Nat → Int} {B : Nat} {w : World} (hB : B ≤ w.heap.size) (hs : s.ok w B) (hv : s.val = true) :
    Calls Try.prog 67 #[.agg s.cells, col c] w fun e w' => e = .returned (col (s.to c)) ∧ Below w.heap.size w w' :=
  refTo_any (v := s.v) (m := s.m) (Crv.mono hs hB) (Sp.spv hv).2.1
theorem Sp.refFrom {s : Sp} {c : Nat → Int} {B : Nat} {w : World} (hB : B ≤ w.heap.size) (hs : s.ok w B) (hv : s.val = true) :
    Calls Try.prog 69 #[.agg s.cells, col c] w fun e w' => e = .returned (col (s.fr c)) ∧ Below w.heap.size w w' :=
  refFrom_any (v := s.v) (t := s.t) (Crv.mono hs hB) (Sp.spv hv).2.2.1
theorem Sp.refValid {s : Sp} {B : Nat} {w : World} (hB : B ≤ w.heap.size) (hs : s.ok w B) :
    Calls Try.prog 29 #[.agg s.cells] w fun e w' => e = .returned (.bool s.val) ∧ Below w.heap.size w w' :=
  refValid6_any (v := s.v) (t := s.t) (m := s.m) hB hs

set_option maxRecDepth 100000 in
set_option maxHeartbeats 2000000 in
theorem refCheck_any {n B : Nat} {v : Value} {S : Nat → Sp} {w : World} (hn : n ≤ 9223372036854775807) (hB : B ≤ w.heap.size) (hc : Chn w B v n S) :
    Calls Try.prog 44 #[v] w fun e w' => e = .returned (.int .i64 (chkV n S)) ∧ Below w.heap.size w w' := by
  by_cases h0 : n = 0
  · obtain ⟨a, cap, rfl⟩ := hc.shape
    subst h0
    have E := Lib.hid (chkV_0 (S := S) rfl)
    clear hc
    go_enter Try.func44, Try.ntmps44
    go_wp2
    go_ret
    exact ⟨ret_int E.out.symm, Below.refl _ _⟩
  by_cases h8 : 8 < n
  · obtain ⟨a, cap, rfl⟩ := hc.shape
    have E := Lib.hid (chkV_8 (S := S) h8)
    have d0 : ((n : Int) == 0) = false := by simp; omega
    have d1 : decide (8 < (n : Int)) = true := decide_eq_true (by omega)
    clear hc
    go_enter Try.func44, Try.ntmps44
    go_wp2
    go_ret
    exact ⟨ret_int E.out.symm, Below.refl _ _⟩
  obtain ⟨b, off, cap, rfl, hb, hcs⟩ := hc.at (by omega)
  have HOK := Lib.hid hc.1
  have HC := Lib.hid hcs
  have d0 : ((n : Int) == 0) = false := by simp; omega
  have d1 : decide (8 < (n : Int)) = false := decide_eq_false (by omega)
  clear hc hcs
  go_enter Try.func44, Try.ntmps44
  go_wp2
  go_loopw [3] (fun i wr => ∃ k : Nat, k ≤ n ∧ i = .int .i64 k ∧ Hid (∀ j, j < k → (!(S j).val) = false) ∧ Below w.heap.size w wr) (fun i _ => n - (intOf i).toNat)
  case atStart => exact ⟨0, by omega, rfl, Lib.hid (fun j hj => by omega), Below.refl _ _⟩
  case round =>
    obtain ⟨k, hk, rfl, hs, hq⟩ := hrel
    by_cases hlt : k < n
    · have hck := HC.out.below hq (by omega) k hlt
      have i1 : 0 ≤ (k : Int) ∧ (k : Int) < n := by omega
      have kc := Lib.hid (Sp.refValid (s := S k) (w := wr) (Nat.le_trans hB hq.size) ((HOK.out k hlt).below hq hB))
      have hl := Sp.load (s := S k) (w := wr) (b := b) (off := off + k * 21) hck
      clear hck
      go_wp2_with (refine list_load rfl _ _ rfl rfl hl ?_)
      refine kc.out.mono ?_
      rintro e w' ⟨rfl, hd⟩
      have hq' := hq.trans (hd.mono hq.size)
      clear hd hl
      cases hV : (S k).val with
      | false =>
        have E := Lib.hid (chkV_t h0 (by omega) (anyB_t (p := fun i => !(S i).val) hlt (by simp [hV])))
        clear hV
        go_wp2
        go_ret
        exact ⟨ret_int E.out.symm, hq'⟩
      | true =>
        have E := Lib.hid (show (!(S k).val) = false by rw [hV]; rfl)
        clear hV
        go_wp2
        go_roundw
        case rel => exact ⟨k + 1, by omega, by go_num, Lib.hid (fun j hj => by
          by_cases e : j = k
          · subst e; exact E.out
          · exact hs.out j (by omega)), hq'⟩
        case measure => simp [intOf]; omega
    · obtain rfl : k = n := by omega
      have E := Lib.hid (chkV_f h0 (by omega) (anyB_f (p := fun i => !(S i).val) hs.out))
      go_wp2
      go_ret
      exact ⟨ret_int E.out.symm, hq⟩

set_option maxRecDepth 100000 in
set_option maxHeartbeats 4000000 in
theorem refConvert_some {n b off cap B : Nat} {S : Nat → Sp} {c : Nat → Int} {w : World} (hn1 : 1 ≤ n) (hn : n ≤ 4096) (hB : B ≤ w.heap.size) (hb : b < B) (hc : SpCells w b off n S) (hok : ∀ k, k < n → (S k).ok w B) (hv : ∀ k, k < n → (S k).val = true) :
    Calls Try.prog 75 #[.slice (some ⟨b, off, none⟩) n cap, col c] w fun e w' => e = .returned (col (cnv S c (n - 1))) ∧ Below w.heap.size w w' := by
  obtain ⟨w0, h0, hb0, hz, t1, t2⟩ := gamut_new w c 28
  have T1 := Lib.hid t1
  have T2 := Lib.hid t2
  have Z := Lib.hid hz
  have HC := Lib.hid hc
  have HOK := Lib.hid hok
  have HV := Lib.hid hv
  clear t1 t2 hz hc hok hv
  unfold col
  go_enter Try.func75, Try.ntmps75
  go_wp2
  clear h0
  go_loopw [5] (fun i wr => ∃ k : Nat, k < n ∧ i = .int .i64 ((k : Int) + 1) ∧ Tri 28 wr w.heap.size (cnv S c k) ∧ Tri 28 wr (w.heap.size + 1) (fun _ => 0) ∧ Below w.heap.size w wr) (fun i _ => n - (intOf i).toNat)
  case atStart => exact ⟨0, by omega, rfl, T1.out, T2.out, hb0⟩
  case round =>
    obtain ⟨k, hk, rfl, t1, t2, hq⟩ := hrel
    by_cases hlt : k + 1 < n
    · have hBw := Nat.le_trans hB hq.size
      have kt := Lib.hid (Calls.grown_of (w := wr) (f := 67) fun W hW => Sp.refTo (s := S k) (c := cnv S c k) (w := W) (Nat.le_trans hBw hW.size) ((HOK.out k hk).below (hq.trans (hW.mono hq.size)) hB) (HV.out k hk))
      have kf := Lib.hid (Calls.grown_of (w := wr) (f := 69) fun W hW => Sp.refFrom (s := S (k + 1)) (c := (S k).to (cnv S c k)) (w := W) (Nat.le_trans hBw hW.size) ((HOK.out (k + 1) hlt).below (hq.trans (hW.mono hq.size)) hB) (HV.out (k + 1) hlt))
      have hl1 : ∀ w', (∃ p : Regrown, w' = grow (redrawn wr p.d) p.os) → (loadVar 63 ⟨b, off + k * 21, none⟩).run Try.prog w' = .ok (.agg (S k).cells) w' := fun w' hw' => Sp.load (s := S k) (HC.out.below (hq.trans ((below_of_regrown hw').mono hq.size)) (by omega) k hk)
      have hl2 : ∀ w', (∃ p : Regrown, w' = grow (redrawn wr p.d) p.os) → (loadVar 63 ⟨b, off + (k + 1) * 21, none⟩).run Try.prog w' = .ok (.agg (S (k + 1)).cells) w' := fun w' hw' => Sp.load (s := S (k + 1)) (HC.out.below (hq.trans ((below_of_regrown hw').mono hq.size)) (by omega) (k + 1) hlt)
      have L1 := Lib.hid hl1
      have L2 := Lib.hid hl2
      have d0 := cell_regrown t1.c0
      have d1 := cell_regrown t1.c1
      have d2 := cell_regrown t1.c2
      have P1 := Lib.hid t1
      have P2 := Lib.hid t2
      have i1 : 0 ≤ (k : Int) ∧ (k : Int) < n := by omega
      have i2 : 0 ≤ (k : Int) + 1 ∧ (k : Int) + 1 < n := by omega
      have w1 : IntKind.i64.wrap (k : Int) = k := IntWalk.i64_in _ (by omega)
      have dl : decide ((k : Int) + 1 < n) = true := decide_eq_true (by omega)
      unfold col at kt kf
      clear hl1 hl2 t1 t2
      go_wp2
      refine region_below_tail 12 (by kernel_rfl) (by kernel_rfl) ?_
      simp only [List.take_succ_cons, List.take_zero, List.drop_succ_cons, List.drop_zero]
      repeat (first | (go_big_quiet_want; refine quiet_load _ rfl rfl L1.out ?_; go_simp; go_big_quiet_on) | (go_big_quiet_want; refine quiet_load _ rfl rfl L2.out ?_; go_simp; go_big_quiet_on) | go_big_quiet_step ((first | exact kt.out _ _ | exact kf.out _ _)))
      refine wpQuiet_nil ?_
      intro w2 hw2
      replace hw2 := below_of_regrown hw2
      have u1 := P1.out.on hw2
      have x0 := u1.c0
      have x1 := u1.c1
      have x2 := u1.c2
      have y0 := u1.free 0
      have y1 := u1.free 1
      have y2 := u1.free 2
      have U1 := Lib.hid (u1.set3 ((S (k + 1)).fr ((S k).to (cnv S c k))))
      have U2 := Lib.hid (P2.out.on hw2)
      have hq2 := hq.trans (hw2.mono hq.size)
      clear u1 hw2 d0 d1 d2 w1 dl
      go_wp2
      go_roundw
      case rel => exact ⟨k + 1, hlt, by go_num, U1.out, ((U2.out.keep (by omega)).keep (by omega)).keep (by omega), set3_below hq2 (by omega) _ _ _⟩
      case measure => simp [intOf]; omega
    · obtain rfl : n = k + 1 := by omega
      have x0 := t1.c0
      have x1 := t1.c1
      have x2 := t1.c2
      have z0 := t2.c0
      have z1 := t2.c1
      have z2 := t2.c2
      have y0 := t2.free 0
      have y1 := t2.free 1
      have y2 := t2.free 2
      clear t1 t2
      go_wp2
      refine bodyPost_ret (v := .agg #[.int .i64 (cnv S c k 0), .int .i64 (cnv S c k 1), .int .i64 (cnv S c k 2)]) (by simp [results, Try.results75, go_sem, *]) rfl ?_
      exact ⟨rfl, set3_below hq (by simp) _ _ _⟩

theorem refConvert_any {n B : Nat} {v : Value} {S : Nat → Sp} {c : Nat → Int} {w : World} (hn1 : 1 ≤ n) (hn : n ≤ 4096) (hB : B ≤ w.heap.size) (hc : Chn w B v n S) (hv : ∀ k, k < n → (S k).val = true) :
    Calls Try.prog 75 #[v, col c] w fun e w' => e = .returned (col (cnv S c (n - 1))) ∧ Below w.heap.size w w' := by
  obtain ⟨b, off, cap, rfl, hb, hcs⟩ := hc.at hn1
  exact refConvert_some hn1 hn hB hb hcs hc.1 hv

set_option maxRecDepth 100000 in
set_option maxHeartbeats 2000000 in
theorem refTo6_any {v : Nat → Value} {n : Nat → Nat} {f : Nat → Nat → Int} {t m c : Nat → Int} {B : Nat} {w : World} (hB : B ≤ w.heap.size) (hc : Crv w B v n f) :
    Calls Try.prog 31 #[spc v t m, col c] w fun e w' => e = .returned (col (ToV n f t m c)) ∧ Below w.heap.size w w' := by
  obtain ⟨w0, h0, hb0, hz, t1, t2, t3⟩ := to_new w v t m c 63 28
  have T1 := Lib.hid t1
  have T2 := Lib.hid t2
  have T3 := Lib.hid t3
  have HC := Lib.hid hc
  have hl : Hid ((loadVar 63 ⟨w.heap.size, 0, none⟩).run Try.prog w0 = .ok (.agg (spA v t m)) w0) := Lib.hid (Sp.load0 (s := ⟨v, n, f, t, m⟩) t1)
  have kv := Lib.hid (refValid6_any (v := v) (t := t) (m := m) (Nat.le_trans hB hb0.size) (hc.below hb0 hB))
  unfold spc at kv
  clear t1 t2 t3 hc
  unfold col spc
  unfold spA at h0
  have HV0 := Lib.hid (show (#[v 0, v 1, v 2, .int .i64 (t 0), .int .i64 (t 1), .int .i64 (t 2), .int .i64 (t 3), .int .i64 (t 4), .int .i64 (t 5), .int .i64 (t 6), .int .i64 (t 7), .int .i64 (t 8), .int .i64 (m 0), .int .i64 (m 1), .int .i64 (m 2), .int .i64 (m 3), .int .i64 (m 4), .int .i64 (m 5), .int .i64 (m 6), .int .i64 (m 7), .int .i64 (m 8)] : Array Value) = spA v t m from rfl)
  rw [← HV0.out]
  rw [← HV0.out] at kv hl
  go_enter Try.func31, Try.ntmps31
  go_wp2_with (refine list_load rfl 63 (.tmp 2) rfl rfl hl.out ?_)
  refine kv.out.mono ?_
  rintro e w1 ⟨rfl, hb1⟩
  have t2 := T2.out.on hb1
  have T3' := Lib.hid (T3.out.on hb1)
  have T1' := Lib.hid (T1.out.on hb1)
  have hq := hb0.trans (hb1.mono hb0.size)
  have d0 := t2.c0
  have d1 := t2.c1
  have d2 := t2.c2
  have hl1 : Hid ((loadVar 63 ⟨w.heap.size, 0, none⟩).run Try.prog w1 = .ok (.agg (spA v t m)) w1) := Lib.hid (Sp.load0 (s := ⟨v, n, f, t, m⟩) T1'.out)
  clear h0 kv t2 hb1 hl
  cases hV : spB n f t m with
  | true =>
    have ks := Lib.hid (refTo_any (c := c) (w := w1) (v := v) (m := m) (Crv.mono (HC.out.below hq hB) (Nat.le_trans hB hq.size)) (of_spB hV).2.1)
    have hR := Lib.hid (show col (ToV n f t m c) = col (toV n f t c) from col_congr fun i _ => by unfold ToV; rw [hV]; rfl)
    unfold col spc at ks
    unfold col at hR
    clear hV
    go_wp2_with (refine list_load rfl 63 (.tmp 2) rfl rfl hl1.out ?_)
    refine ks.out.mono ?_
    rintro e w2 ⟨rfl, hb2⟩
    have t3 := T3'.out.on hb2
    have x0 := t3.c0
    have x1 := t3.c1
    have x2 := t3.c2
    have y0 := t3.free 0
    have y1 := t3.free 1
    have y2 := t3.free 2
    have hq2 := hq.trans (hb2.mono hq.size)
    clear t3 d0 d1 d2
    go_wp2
    refine bodyPost_ret (v := .agg #[.int .i64 (toV n f t c 0), .int .i64 (toV n f t c 1), .int .i64 (toV n f t c 2)]) (by simp [results, Try.results31, go_sem, *]) rfl ?_
    exact ⟨by rw [hR.out], set3_below hq2 (by omega) _ _ _⟩
  | false =>
    have hR := Lib.hid (show col (ToV n f t m c) = col (fun _ => 0) from col_congr fun i _ => by unfold ToV; rw [hV]; rfl)
    unfold col at hR
    have t3 := T3'.out
    have x0 := t3.c0
    have x1 := t3.c1
    have x2 := t3.c2
    have y0 := t3.free 0
    have y1 := t3.free 1
    have y2 := t3.free 2
    clear t3 d0 d1 d2 hV
    go_wp2
    refine bodyPost_ret (v := .agg #[.int .i64 0, .int .i64 0, .int .i64 0]) (by simp [results, Try.results31, go_sem, *]) rfl ?_
    exact ⟨by rw [hR.out], set3_below hq (by omega) _ _ _⟩

set_option maxRecDepth 100000 in
set_option maxHeartbeats 2000000 in
theorem refFrom6_any {v : Nat → Value} {n : Nat → Nat} {f : Nat → Nat → Int} {t m c : Nat → Int} {B : Nat} {w : World} (hB : B ≤ w.heap.size) (hc : Crv w B v n f) :
    Calls Try.prog 33 #[spc v t m, col c] w fun e w' => e = .returned (col (FromV n f t m c)) ∧ Below w.heap.size w w' := by
  obtain ⟨w0, h0, hb0, hz, t1, t2, t3⟩ := to_new w v t m c 63 28
  have T1 := Lib.hid t1
  have T2 := Lib.hid t2
  have T3 := Lib.hid t3
  have HC := Lib.hid hc
  have hl : Hid ((loadVar 63 ⟨w.heap.size, 0, none⟩).run Try.prog w0 = .ok (.agg (spA v t m)) w0) := Lib.hid (Sp.load0 (s := ⟨v, n, f, t, m⟩) t1)
  have kv := Lib.hid (refValid6_any (v := v) (t := t) (m := m) (Nat.le_trans hB hb0.size) (hc.below hb0 hB))
  unfold spc at kv
  clear t1 t2 t3 hc
  unfold col spc
  unfold spA at h0
  have HV0 := Lib.hid (show (#[v 0, v 1, v 2, .int .i64 (t 0), .int .i64 (t 1), .int .i64 (t 2), .int .i64 (t 3), .int .i64 (t 4), .int .i64 (t 5), .int .i64 (t 6), .int .i64 (t 7), .int .i64 (t 8), .int .i64 (m 0), .int .i64 (m 1), .int .i64 (m 2), .int .i64 (m 3), .int .i64 (m 4), .int .i64 (m 5), .int .i64 (m 6), .int .i64 (m 7), .int .i64 (m 8)] : Array Value) = spA v t m from rfl)
  rw [← HV0.out]
  rw [← HV0.out] at kv hl
  go_enter Try.func33, Try.ntmps33
  go_wp2_with (refine list_load rfl 63 (.tmp 2) rfl rfl hl.out ?_)
  refine kv.out.mono ?_
  rintro e w1 ⟨rfl, hb1⟩
  have t2 := T2.out.on hb1
  have T3' := Lib.hid (T3.out.on hb1)
  have T1' := Lib.hid (T1.out.on hb1)
  have hq := hb0.trans (hb1.mono hb0.size)
  have d0 := t2.c0
  have d1 := t2.c1
  have d2 := t2.c2
  have hl1 : Hid ((loadVar 63 ⟨w.heap.size, 0, none⟩).run Try.prog w1 = .ok (.agg (spA v t m)) w1) := Lib.hid (Sp.load0 (s := ⟨v, n, f, t, m⟩) T1'.out)
  clear h0 kv t2 hb1 hl
  cases hV : spB n f t m with
  | true =>
    have ks := Lib.hid (refFrom_any (c := c) (w := w1) (v := v) (t := t) (Crv.mono (HC.out.below hq hB) (Nat.le_trans hB hq.size)) (of_spB hV).2.2.1)
    have hR := Lib.hid (show col (FromV n f t m c) = col (fromV n f m c) from col_congr fun i _ => by unfold FromV; rw [hV]; rfl)
    unfold col spc at ks
    unfold col at hR
    clear hV
    go_wp2_with (refine list_load rfl 63 (.tmp 2) rfl rfl hl1.out ?_)
    refine ks.out.mono ?_
    rintro e w2 ⟨rfl, hb2⟩
    have t3 := T3'.out.on hb2
    have x0 := t3.c0
    have x1 := t3.c1
    have x2 := t3.c2
    have y0 := t3.free 0
    have y1 := t3.free 1
    have y2 := t3.free 2
    have hq2 := hq.trans (hb2.mono hq.size)
    clear t3 d0 d1 d2
    go_wp2
    refine bodyPost_ret (v := .agg #[.int .i64 (fromV n f m c 0), .int .i64 (fromV n f m c 1), .int .i64 (fromV n f m c 2)]) (by simp [results, Try.results33, go_sem, *]) rfl ?_
    exact ⟨by rw [hR.out], set3_below hq2 (by omega) _ _ _⟩
  | false =>
    have hR := Lib.hid (show col (FromV n f t m c) = col (fun _ => 0) from col_congr fun i _ => by unfold FromV; rw [hV]; rfl)
    unfold col at hR
    have t3 := T3'.out
    have x0 := t3.c0
    have x1 := t3.c1
    have x2 := t3.c2
    have y0 := t3.free 0
    have y1 := t3.free 1
    have y2 := t3.free 2
    clear t3 d0 d1 d2 hV
    go_wp2
    refine bodyPost_ret (v := .agg #[.int .i64 0, .int .i64 0, .int .i64 0]) (by simp [results, Try.results33, go_sem, *]) rfl ?_
    exact ⟨by rw [hR.out], set3_below hq (by omega) _ _ _⟩

end Go.Proofs.Ytmilljlkcbljpaa
