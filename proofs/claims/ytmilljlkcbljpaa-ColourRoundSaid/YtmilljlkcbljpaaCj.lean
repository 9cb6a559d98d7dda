/- Clip. -/
import Derived.Test.YtmilljlkcbljpaaCi
import Derived.Test.YtmilljlkcbljpaaEa
import Derived.Test.YtmilljlkcbljpaaEq
namespace Go.Proofs.Ytmilljlkcbljpaa
open Go.RowKit Go.Sort

theorem col_congr {c d : Nat → Int} (h : ∀ i, i < 3 → c i = d i) : col c = col d := by unfold col; rw [h 0 (by omega), h 1 (by omega), h 2 (by omega)]

/-- Three stores. -/
theorem Tri.set3 {t : TypeId} {w : World} {b : Nat} {c : Nat → Int} (h : Tri t w b c) (d : Nat → Int) :
    Tri t (((w.setCell ⟨b, 0, none⟩ (.int .i64 (d 0))).setCell ⟨b, 1, none⟩ (.int .i64 (d 1))).setCell ⟨b, 2, none⟩ (.int .i64 (d 2))) b d := by
  have h1 := heap_setCell_same w b 0 _ _ (.int .i64 (d 0)) h
  have h2 := heap_setCell_same _ b 1 _ _ (.int .i64 (d 1)) h1
  have h3 := heap_setCell_same _ b 2 _ _ (.int .i64 (d 2)) h2
  unfold Tri
  rw [h3]
  simp

theorem clamped_bnd {c : Nat → Int} {w : World} :
    Calls Try.prog 55 #[col c, .int .i64 (-16777216), .int .i64 16777216] w fun e w' => e = .returned (col (bnd c)) ∧ Below w.heap.size w w' := clamped_any (by omega)

/-- The lesser of s and 65535. -/
def mnV (s : Int) : Int := if 65535 < s then 65535 else s
theorem clamp_mn (s : Int) (ts : Array TypeId) (t : TypeId) (w : World) : (Builtin.min_ ts t #[.int .i64 s, .int .i64 65535]).run Try.prog w = .ok (.int .i64 (mnV s)) w := run_min_int2 w ts t .i64 .i64 s 65535
theorem clamp_mx (s : Int) (ts : Array TypeId) (t : TypeId) (w : World) : (Builtin.max_ ts t #[.int .i64 0, .int .i64 (mnV s)]).run Try.prog w = .ok (.int .i64 (clm 0 65535 s)) w := by
  rw [run_max_int2]
  congr 2
  unfold mnV clm
  split <;> split <;> (try split) <;> omega

theorem below_two {B b b' : Nat} {w w0 : World} (h : Below B w w0) (hb : B ≤ b) (hb' : B ≤ b') (x y : Value) (n : Nat) : Below B w (((w0.setCell ⟨b, 0, none⟩ x).setCell ⟨b', 0, none⟩ y).drewN n) :=
  below_drewN ((h.setCell (p := ⟨b, 0, none⟩) hb _).setCell (p := ⟨b', 0, none⟩) hb' _) n

theorem eq_gam_t {c : Nat → Int} (h : InG c) : eqB c (gam c) = true := eqB_t fun i hi => (h.gam i hi).symm
theorem eq_gam_f {c : Nat → Int} (h : ¬ InG c) : eqB c (gam c) = false := by
  cases e : eqB c (gam c) with
  | false => rfl
  | true => exact absurd (fun i hi => by rw [of_eqB e i hi]; exact InG.of c i hi) h

set_option maxRecDepth 100000 in
set_option maxHeartbeats 4000000 in
theorem clip_any {c : Nat → Int} {w : World} :
    Calls Try.prog 25 #[col c] w fun e w' => e = .returned (col (clpV c)) ∧ Below w.heap.size w w' := by
  obtain ⟨w0, h0, hb, hz, t1, t2⟩ := gamut_new w c 28
  have d0 := t1.c0
  have d1 := t1.c1
  have d2 := t1.c2
  have T1 := Lib.hid t1
  have T2 := Lib.hid t2
  have Z := Lib.hid hz
  clear t1 t2 hz
  have hcl := Lib.hid (fun W => clamped_bnd (c := c) (w := W))
  have hgm := Lib.hid (fun W => gamut_any (c := bnd c) (w := W))
  have hw2 := Lib.hid (fun W (h : Tri 28 W w.heap.size c) => h.set3 (bnd c))
  have heq := eql_col (bnd c) (gam (bnd c))
  have HQ := Lib.hid (col_congr (c := clpV c) (d := bnd c))
  have HB := Lib.hid (InB.of c)
  unfold col at *
  go_enter Try.func25, Try.ntmps25
  go_wp2_with fail
  refine (hcl.out _).mono ?_
  rintro e w1 ⟨rfl, hb1⟩
  have t1 := T1.out.on hb1
  have c0 := t1.c0
  have c1 := t1.c1
  have c2 := t1.c2
  have f0 := t1.free 0
  have f1 := t1.free 1
  have f2 := t1.free 2
  have T2' := Lib.hid (T2.out.on hb1)
  have T3 := Lib.hid (hw2.out w1 t1)
  have B1 := hb.trans (hb1.mono (by have := Z.out; omega))
  clear t1
  obtain ⟨w2, h2⟩ : ∃ w2, ((w1.setCell ⟨w.heap.size, 0, none⟩ (.int .i64 (bnd c 0))).setCell ⟨w.heap.size, 1, none⟩ (.int .i64 (bnd c 1))).setCell ⟨w.heap.size, 2, none⟩ (.int .i64 (bnd c 2)) = w2 := ⟨_, rfl⟩
  go_wp2
  rw [h2] at T3
  have B2 := set3_below B1 (Nat.le_refl w.heap.size) (.int .i64 (bnd c 0)) (.int .i64 (bnd c 1)) (.int .i64 (bnd c 2))
  have T4 := Lib.hid (((T2'.out.keep (b' := w.heap.size) (j := 0) (v := .int .i64 (bnd c 0)) (by omega)).keep (b' := w.heap.size) (j := 1) (v := .int .i64 (bnd c 1)) (by omega)).keep (b' := w.heap.size) (j := 2) (v := .int .i64 (bnd c 2)) (by omega))
  rw [h2] at B2 T4
  have a0 := cell_regrown T3.out.c0
  have a1 := cell_regrown T3.out.c1
  have a2 := cell_regrown T3.out.c2
  have kg := Calls.grown_of (w := w2) (fun W _ => hgm.out W)
  clear h2 c0 c1 c2 f0 f1 f2 B1 hb1 hb h0 T1 T2 T2' hw2 Z d0 d1 d2
  by_cases hin : InG (bnd c)
  · rw [eq_gam_t hin] at heq
    refine wp_region_quiet_below (by kernel_rfl) (by kernel_rfl) ?_
    repeat (go_big_quiet_step (exact kg _ _))
    refine wpQuiet_nil ?_
    intro w3 hw3
    replace hw3 := below_of_regrown hw3
    have t3 := T3.out.on hw3
    have t4 := T4.out.on hw3
    have c0 := t3.c0
    have c1 := t3.c1
    have c2 := t3.c2
    have x0 := t4.c0
    have x1 := t4.c1
    have x2 := t4.c2
    have y0 := t4.free 0
    have y1 := t4.free 1
    have y2 := t4.free 2
    have B3 := B2.trans (hw3.mono B2.size)
    have E := Lib.hid (HQ.out (fun i _ => clpV_in hin i))
    clear t3 t4 a0 a1 a2 kg
    go_wp2
    refine bodyPost_ret (v := .agg #[.int .i64 (bnd c 0), .int .i64 (bnd c 1), .int .i64 (bnd c 2)]) (by simp [results, Try.results25, go_sem, *]) rfl ?_
    exact ⟨congrArg Ending.returned E.out.symm, set3_below B3 (by simp) _ _ _⟩
  · rw [eq_gam_f hin] at heq
    refine wp_region_quiet_below (by kernel_rfl) (by kernel_rfl) ?_
    repeat (go_big_quiet_step (exact kg _ _))
    refine wpQuiet_nil ?_
    intro w3 hw3
    replace hw3 := below_of_regrown hw3
    have t3 := T3.out.on hw3
    have c0 := t3.c0
    have c1 := t3.c1
    have c2 := t3.c2
    have B3 := B2.trans (hw3.mono B2.size)
    clear a0 a1 a2 kg
    have b0 := HB.out 0 (by omega)
    have b1 := HB.out 1 (by omega)
    have b2 := HB.out 2 (by omega)
    obtain ⟨G, hG⟩ : ∃ G, gry (bnd c) = G := ⟨_, rfl⟩
    have HG := Lib.hid hG
    have hmx := clamp_mx ((bnd c 0 + bnd c 1 + bnd c 2 + 1) / 3)
    have hmn := clamp_mn ((bnd c 0 + bnd c 1 + bnd c 2 + 1) / 3)
    rw [show clm 0 65535 ((bnd c 0 + bnd c 1 + bnd c 2 + 1) / 3) = G from hG] at hmx
    obtain ⟨g0, g1⟩ := gry_bd (bnd c)
    rw [hG] at g0 g1
    clear hG
    go_wp2_with fail
    refine (floor_any (by omega) (by omega) (by omega) (by omega)).mono ?_
    rintro e w4 ⟨rfl, rfl⟩
    obtain ⟨w5, h5, b5, z5, o1, o2, o3⟩ := boxes3 w4 (.int .i64 G) (.int .i64 1) (.int .i64 1) 3
    have t5 := t3.on b5
    have T5 := Lib.hid t5
    have T6 := Lib.hid ((T4.out.on hw3).on b5)
    have O1 := Lib.hid o1
    have O2 := Lib.hid o2
    have O3 := Lib.hid o3
    have z4 := B3.size
    have Z5 := Lib.hid z5
    have Z2 := Lib.hid ((T4.out.on hw3).lt)
    have B5 := B3.trans (b5.mono z4)
    have q0 := t5.c0
    have q1 := t5.c1
    have q2 := t5.c2
    clear c0 c1 c2 t3 t5 o1 o2 o3 z5 hw3 b5 heq b0 b1 b2
    go_wp2
    clear hmx hmn
    go_loopw [30] (fun i wr => ∃ k : Nat, k ≤ 3 ∧ i = .int .i64 k ∧ One 3 wr w4.heap.size (.int .i64 G) ∧ One 3 wr (w4.heap.size + 1) (.int .i64 (minS G (bnd c) k).1) ∧ One 3 wr (w4.heap.size + 1 + 1) (.int .i64 (minS G (bnd c) k).2) ∧ Tri 28 wr w.heap.size (bnd c) ∧ Tri 28 wr (w.heap.size + 1) (fun _ => 0) ∧ Below w.heap.size w wr) (fun i _ => 3 - (intOf i).toNat)
    case atStart => exact ⟨0, by omega, rfl, O1.out, O2.out, O3.out, T5.out, T6.out, B5⟩
    case round =>
      obtain ⟨k, hk, rfl, o1, o2, o3, t5, t6, hb⟩ := hrel
      have hc3 := HB.out
      have hm := minS_bd (g := G) (c := bnd c) g0 g1 hc3 k hk
      by_cases hlt : k < 3
      · have hcl := hc3 k hlt
        have hix := index_col (bnd c) k hlt
        obtain ⟨V, hV⟩ : ∃ V, bnd c k = V := ⟨_, rfl⟩
        obtain ⟨N, hN⟩ : ∃ N, (minS G (bnd c) k).1 = N := ⟨_, rfl⟩
        obtain ⟨D, hD⟩ : ∃ D, (minS G (bnd c) k).2 = D := ⟨_, rfl⟩
        have hlt' : shN G V * D < N * shD G V → minS G (bnd c) (k + 1) = (shN G V, shD G V) := fun h => by rw [minS_lt (by rw [hV, hN, hD]; exact h), hV]
        have hge' : ¬ shN G V * D < N * shD G V → minS G (bnd c) (k + 1) = minS G (bnd c) k := fun h => minS_ge (by rw [hV, hN, hD]; exact h)
        rw [hV] at hcl hix
        rw [hN, hD] at hm
        rw [hN] at o2
        rw [hD] at o3
        obtain ⟨m1, m2, m3, m4, m5⟩ := hm
        have HV := Lib.hid hV
        have HN := Lib.hid hN
        have HD := Lib.hid hD
        have q1 := o1.cell
        have q2 := o2.cell
        have q3 := o3.cell
        have f2 := o2.free 0
        have f3 := o3.free 0
        have P1 := Lib.hid o1
        have P2 := Lib.hid o2
        have P3 := Lib.hid o3
        have P5 := Lib.hid t5
        have P6 := Lib.hid t6
        have wl : w.heap.size + 1 < w4.heap.size := by have := Z2.out; omega
        clear hV hN hD o1 o2 o3 t5 t6
        by_cases v1 : V < 0
        · have s1 : shN G V = G := if_pos v1
          have s2 : shD G V = G - V := if_pos v1
          rw [s1, s2] at hlt' hge'
          clear s1 s2
          have d1 : decide (V < 0) = true := decide_eq_true v1
          have x1 := mul_bd g0 g1 (show 0 ≤ D by omega) m5
          have x2 := mul_bd m1 m2 (b := G - V) (B := 16842751) (by omega) (by omega)
          by_cases hc : G * D < N * (G - V)
          · have HM := Lib.hid (hlt' hc)
            have d2 : decide (G * D < N * (G - V)) = true := decide_eq_true hc
            clear hlt' hge'
            go_wp2
            go_quiet (fail)
            go_wp2
            go_roundw
            case rel => exact ⟨k + 1, by omega, by go_num, (P1.out.keep (by omega)).keep (by omega), by rw [HM.out]; exact (P2.out.set _).keep (by omega), by rw [HM.out]; exact (P3.out.keep (by omega)).set _, (P5.out.keep (by omega)).keep (by omega), (P6.out.keep (by omega)).keep (by omega), below_two hb (by omega) (by omega) _ _ _⟩
            case measure => simp [intOf]; omega
          · have HM := Lib.hid (hge' hc)
            have d2 : decide (G * D < N * (G - V)) = false := decide_eq_false hc
            clear hlt' hge'
            go_wp2
            go_quiet (fail)
            go_wp2
            go_roundw
            case rel => exact ⟨k + 1, by omega, by go_num, P1.out, by rw [HM.out, HN.out]; exact P2.out, by rw [HM.out, HD.out]; exact P3.out, P5.out, P6.out, below_drewN hb _⟩
            case measure => simp [intOf]; omega
        · by_cases v2 : 65535 < V
          · have s1 : shN G V = 65535 - G := by unfold shN; rw [if_neg v1, if_pos v2]
            have s2 : shD G V = V - G := by unfold shD; rw [if_neg v1, if_pos v2]
            rw [s1, s2] at hlt' hge'
            clear s1 s2
            have d1 : decide (V < 0) = false := decide_eq_false v1
            have d1' : decide (65535 < V) = true := decide_eq_true v2
            have x1 := mul_bd (a := 65535 - G) (A := 65535) (by omega) (by omega) (show 0 ≤ D by omega) m5
            have x2 := mul_bd m1 m2 (b := V - G) (B := 16842751) (by omega) (by omega)
            by_cases hc : (65535 - G) * D < N * (V - G)
            · have HM := Lib.hid (hlt' hc)
              have d2 : decide ((65535 - G) * D < N * (V - G)) = true := decide_eq_true hc
              clear hlt' hge'
              go_wp2
              go_quiet (fail)
              go_wp2
              go_roundw
              case rel => exact ⟨k + 1, by omega, by go_num, (P1.out.keep (by omega)).keep (by omega), by rw [HM.out]; exact (P2.out.set _).keep (by omega), by rw [HM.out]; exact (P3.out.keep (by omega)).set _, (P5.out.keep (by omega)).keep (by omega), (P6.out.keep (by omega)).keep (by omega), below_two hb (by omega) (by omega) _ _ _⟩
              case measure => simp [intOf]; omega
            · have HM := Lib.hid (hge' hc)
              have d2 : decide ((65535 - G) * D < N * (V - G)) = false := decide_eq_false hc
              clear hlt' hge'
              go_wp2
              go_quiet (fail)
              go_wp2
              go_roundw
              case rel => exact ⟨k + 1, by omega, by go_num, P1.out, by rw [HM.out, HN.out]; exact P2.out, by rw [HM.out, HD.out]; exact P3.out, P5.out, P6.out, below_drewN hb _⟩
              case measure => simp [intOf]; omega
          · have s1 : shN G V = 1 := by unfold shN; rw [if_neg v1, if_neg v2]
            have s2 : shD G V = 1 := by unfold shD; rw [if_neg v1, if_neg v2]
            rw [s1, s2, Int.one_mul, Int.mul_one] at hlt' hge'
            clear s1 s2
            have d1 : decide (V < 0) = false := decide_eq_false v1
            have d1' : decide (65535 < V) = false := decide_eq_false v2
            have HM := Lib.hid (hge' (by omega))
            have d2 : decide (D < N) = false := decide_eq_false (by omega)
            clear hlt' hge'
            go_wp2
            go_roundw
            case rel => exact ⟨k + 1, by omega, by go_num, P1.out, by rw [HM.out, HN.out]; exact P2.out, by rw [HM.out, HD.out]; exact P3.out, P5.out, P6.out, hb⟩
            case measure => simp [intOf]; omega
      · obtain rfl : k = 3 := by omega
        have q0 := t5.c0
        have q1 := t5.c1
        have q2 := t5.c2
        have r0 := o1.cell
        have r1 := o2.cell
        have r2 := o3.cell
        have l1 := o3.lt
        have P5 := Lib.hid t5
        have P6 := Lib.hid t6
        have HR := Lib.hid (fun i => (clpV_out hin i).trans (by unfold clpO; rw [HG.out] : clpO (bnd c) i = G + ((bnd c i - G) * (minS G (bnd c) 3).1).tdiv (minS G (bnd c) 3).2))
        go_wp2_with fail
        refine (each_clip (c := bnd c) (r := clpV c) fun i hi W hbW => ?_).mono ?_
        · rw [HR.out i]
          refine (clip1_any (g := G) (n := (minS G (bnd c) 3).1) (m := (minS G (bnd c) 3).2) g0 g1 (hc3 i hi).1 (hc3 i hi).2 hm.1 hm.2.1 hm.2.2.1 hm.2.2.2.1 hm.2.2.2.2 ?_ ?_ ?_).mono ?_
          · exact (o1.on hbW).cell
          · exact (o2.on hbW).cell
          · exact (o3.on hbW).cell
          · rintro e w' ⟨he, hd⟩
            exact ⟨he, hd.below _⟩
        · unfold col
          rintro e w6 ⟨rfl, hb6⟩
          have t7 := P6.out.on hb6
          have y0 := t7.c0
          have y1 := t7.c1
          have y2 := t7.c2
          have z0 := t7.free 0
          have z1 := t7.free 1
          have z2 := t7.free 2
          have b7 := hb.trans (hb6.mono hb.size)
          clear t7 q0 q1 q2 r0 r1 r2 o1 o2 o3 t5 t6 hm
          go_wp2
          refine bodyPost_ret (v := .agg #[.int .i64 (clpV c 0), .int .i64 (clpV c 1), .int .i64 (clpV c 2)]) (by simp [results, Try.results25, go_sem, *]) rfl ?_
          exact ⟨rfl, set3_below b7 (by simp) _ _ _⟩

end Go.Proofs.Ytmilljlkcbljpaa
