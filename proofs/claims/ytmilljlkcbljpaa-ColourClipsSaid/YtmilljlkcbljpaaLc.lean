/- The statement ColourClips, walked. -/
import Derived.Test.YtmilljlkcbljpaaSn
namespace Go.Proofs.Ytmilljlkcbljpaa
open Go.RowKit Go.Sort

theorem tmod_bd (x : Int) : -300000 < x.tmod 300000 ∧ x.tmod 300000 < 300000 := by
  have h1 := Int.tmod_lt_of_pos x (b := 300000) (by omega)
  have h2 := Int.tmod_lt_of_pos (-x) (b := 300000) (by omega)
  rw [Int.neg_tmod] at h2
  omega

theorem gry_bnd {c : Nat → Int} (h : InB c) : gry (bnd c) = gry c := by
  unfold gry; rw [h.bnd 0 (by omega), h.bnd 1 (by omega), h.bnd 2 (by omega)]
theorem clpV_between {c : Nat → Int} (h : InB c) {i : Nat} (hi : i < 3) : min (gry c) (c i) ≤ clpV c i ∧ clpV c i ≤ max (gry c) (c i) := by
  by_cases hg : InG (bnd c)
  · rw [clpV_in hg, h.bnd i hi]; omega
  · rw [clpV_out hg]
    have := clpO_is (InB.of c) hi
    rw [gry_bnd h, h.bnd i hi] at this
    omega
open Classical in
/-- Whether the first k channels are in gamut. -/
noncomputable def upB (c : Nat → Int) (k : Nat) : Bool := decide (∀ j, j < k → 0 ≤ c j ∧ c j ≤ 65535)
theorem upB_0 (c : Nat → Int) : upB c 0 = true := by simp [upB]
theorem upB_f {c : Nat → Int} {k : Nat} (h : upB c k = false) : upB c (k + 1) = false := by
  simp only [upB, decide_eq_false_iff_not] at h ⊢
  exact fun hh => h fun j hj => hh j (by omega)
theorem upB_t {c : Nat → Int} {k : Nat} (h : upB c k = true) (h1 : 0 ≤ c k) (h2 : c k ≤ 65535) : upB c (k + 1) = true := by
  simp only [upB, decide_eq_true_eq] at h ⊢
  intro j hj
  by_cases e : j = k
  · subst e; exact ⟨h1, h2⟩
  · exact h j (by omega)
theorem upB_n {c : Nat → Int} {k : Nat} (h : ¬ (0 ≤ c k ∧ c k ≤ 65535)) : upB c (k + 1) = false := by
  simp only [upB, decide_eq_false_iff_not]
  exact fun hh => h (hh k (by omega))
theorem upB_3 {c : Nat → Int} (h : upB c 3 = true) : InG c := by simp only [upB, decide_eq_true_eq] at h; exact h
theorem mnmx (x y : Int) : ∃ m M : Int, (m = min x y ∧ M = max x y) ∧ (∀ (ts : Array TypeId) (t : TypeId) (w : World), (Builtin.min_ ts t #[.int .i64 x, .int .i64 y]).run Try.prog w = .ok (.int .i64 m) w) ∧ ∀ (ts : Array TypeId) (t : TypeId) (w : World), (Builtin.max_ ts t #[.int .i64 x, .int .i64 y]).run Try.prog w = .ok (.int .i64 M) w := by
  refine ⟨min x y, max x y, ⟨rfl, rfl⟩, fun ts t w => ?_, fun ts t w => ?_⟩
  · rw [run_min_int2]; congr 2; split <;> omega
  · rw [run_max_int2]; congr 2; split <;> omega

set_option maxRecDepth 100000 in
set_option maxHeartbeats 8000000 in
theorem colourClips_walk {c : Nat → Int} {w : World} (hc : ∀ i, i < 3 → -9223372036854775808 ≤ c i ∧ c i ≤ 9223372036854775807) :
    Calls Try.prog 7 #[col c] w fun e w' => e = .returned (.bool true) ∧ Below w.heap.size w w' := by
  have t1 := Tri.new w c 28
  have hb0 := (Below.refl w.heap.size w).alloc (Nat.le_refl _) (.cells #[.int .i64 (c 0), .int .i64 (c 1), .int .i64 (c 2)] 28)
  obtain ⟨w0, h0⟩ : ∃ w0, w.alloc (.cells #[.int .i64 (c 0), .int .i64 (c 1), .int .i64 (c 2)] 28) = w0 := ⟨_, rfl⟩
  rw [h0] at t1 hb0
  have T1 := Lib.hid t1
  have HC := Lib.hid hc
  clear t1 hc
  unfold col
  go_enter Try.func7, Try.ntmps7
  go_wp2_with fail
  refine (sanity_any w0).mono ?_
  rintro e w1 ⟨rfl, hb1⟩
  have t1 := T1.out.on hb1
  have x0 := t1.c0
  have x1 := t1.c1
  have x2 := t1.c2
  have hq1 := hb0.trans (hb1.mono hb0.size)
  have b0 := HC.out 0 (by omega)
  have b1 := HC.out 1 (by omega)
  have b2 := HC.out 2 (by omega)
  clear t1 h0 hb1
  obtain ⟨F, hF⟩ : ∃ F : Nat → Int, F = fun i => (c i).tmod 300000 := ⟨_, rfl⟩
  have e0 : (c 0).tmod 300000 = F 0 := by rw [hF]
  have e1 : (c 1).tmod 300000 = F 1 := by rw [hF]
  have e2 : (c 2).tmod 300000 = F 2 := by rw [hF]
  have hFb : ∀ i, -300000 < F i ∧ F i < 300000 := fun i => by rw [hF]; exact tmod_bd (c i)
  have HB : Hid (InB F) := Lib.hid (fun i _ => by have := hFb i; omega)
  have HFb := Lib.hid hFb
  obtain ⟨w2, h2⟩ : ∃ w2, w1.alloc (.cells #[.int .i64 (F 0), .int .i64 (F 1), .int .i64 (F 2)] 28) = w2 := ⟨_, rfl⟩
  have t2 : Tri 28 w2 w1.heap.size F := by rw [← h2]; exact Tri.new w1 F _
  have hb2 : Below w1.heap.size w1 w2 := by rw [← h2]; exact (Below.refl _ _).alloc (Nat.le_refl _) _
  have hq2 := hq1.trans (hb2.mono hq1.size)
  have T2 := Lib.hid t2
  have d0 := t2.c0
  have d1 := t2.c1
  have d2 := t2.c2
  have kc := Lib.hid (fun (c : Nat → Int) W => clip_any (c := c) (w := W))
  unfold col at kc
  clear hF hFb t2 hb2
  go_wp2_with fail
  refine (kc.out F _).mono ?_
  rintro e w3 ⟨rfl, hb3⟩
  obtain ⟨G, hG⟩ : ∃ G, clpV F = G := ⟨_, rfl⟩
  have HG : Hid (InG G) := Lib.hid (by rw [← hG]; exact clpV_gam F)
  have HW : Hid (∀ i, i < 3 → min (gry F) (F i) ≤ G i ∧ G i ≤ max (gry F) (F i)) := Lib.hid (fun i hi => by rw [← hG]; exact clpV_between HB.out hi)
  have HE : Hid (InG F → ∀ i, i < 3 → G i = F i) := Lib.hid (fun h i hi => by rw [← hG]; exact clpV_id h hi)
  rw [hG]
  obtain ⟨w4, h4⟩ : ∃ w4, w3.alloc (.cells #[.int .i64 (G 0), .int .i64 (G 1), .int .i64 (G 2)] 28) = w4 := ⟨_, rfl⟩
  have t5 : Tri 28 w4 w3.heap.size G := by rw [← h4]; exact Tri.new w3 G _
  have hb4 : Below w3.heap.size w3 w4 := by rw [← h4]; exact (Below.refl _ _).alloc (Nat.le_refl _) _
  have t4 := (T2.out.on hb3).on hb4
  have hq4 := (hq2.trans (hb3.mono hq2.size)).trans (hb4.mono (Nat.le_trans hq2.size hb3.size))
  have U4 := Lib.hid t4
  have U5 := Lib.hid t5
  clear d0 d1 d2 e0 e1 e2 x0 x1 x2 hb3 hb4 hG h2
  have d0 := t4.c0
  have d1 := t4.c1
  have d2 := t4.c2
  have f0 := HFb.out 0
  have f1 := HFb.out 1
  have f2 := HFb.out 2
  obtain ⟨R, hR⟩ : ∃ R, gry F = R := ⟨_, rfl⟩
  have hR' : clm 0 65535 ((F 0 + F 1 + F 2 + 1) / 3) = R := hR
  have hR01 := gry_bd F
  rw [hR] at HW hR01
  clear t4 t5 hR
  by_cases hs : F 0 + F 1 + F 2 + 1 < 0
  · have dS : decide (F 0 + F 1 + F 2 + 1 < 0) = true := decide_eq_true hs
    have hR0 : R = 0 := by rw [← hR', clm_lo (by omega)]
    subst hR0
    clear hR'
    go_wp2
    clear h4 d0 d1 d2 dS
    go_loopw [8, 9] (fun b i wr => ∃ k : Nat, k ≤ 3 ∧ i = .int .i64 k ∧ b = .bool (upB F k) ∧ Tri 28 wr w1.heap.size F ∧ Tri 28 wr w3.heap.size G ∧ Below w.heap.size w wr) (fun _ i _ => 3 - (intOf i).toNat)
    case atStart => exact ⟨0, by omega, rfl, by rw [upB_0], U4.out, U5.out, hq4⟩
    case round =>
      obtain ⟨k, hk, rfl, rfl, t4, t5, hq⟩ := hrel
      by_cases hlt : k < 3
      · have cF := t4.cell k hlt
        have cG := t5.cell k hlt
        have hW := HW.out k hlt
        have hG := HG.out k hlt
        have T4 := Lib.hid t4
        have T5 := Lib.hid t5
        have uT := fun h : upB F k = true => upB_t h
        have uN := upB_n (c := F) (k := k)
        generalize F k = FK at *
        generalize G k = GK at *
        obtain ⟨m, M, ⟨hm, hM⟩, hmn, hmx⟩ := mnmx (0) FK
        have g0 : decide (GK < 0) = false := decide_eq_false (by omega)
        have g1 : decide (65535 < GK) = false := decide_eq_false (by omega)
        have g2 : decide (GK < m) = false := decide_eq_false (by omega)
        have g3 : decide (M < GK) = false := decide_eq_false (by omega)
        have i1 : 0 ≤ (k : Int) ∧ (k : Int) < 3 := by omega
        clear t4 t5 hW hG hm hM
        cases hU : upB F k with
        | false =>
          have E := Lib.hid (upB_f hU)
          clear hU uT uN
          go_wp2
          go_quiet (fail)
          go_wp2
          go_roundw
          case rel => exact ⟨k + 1, by omega, by go_num, by rw [E.out], T4.out.on ((Drawn.of _).below _), T5.out.on ((Drawn.of _).below _), below_drewN hq _⟩
          case measure => simp [intOf]; omega
        | true =>
          by_cases h1 : 0 ≤ FK
          · have d1' : decide (0 ≤ FK) = true := decide_eq_true h1
            by_cases h2 : FK ≤ 65535
            · have d2' : decide (FK ≤ 65535) = true := decide_eq_true h2
              have E := Lib.hid (uT hU h1 h2)
              clear hU uT uN
              go_wp2
              go_quiet (fail)
              go_wp2
              go_roundw
              case rel => exact ⟨k + 1, by omega, by go_num, by rw [E.out], T4.out.on ((Drawn.of _).below _), T5.out.on ((Drawn.of _).below _), below_drewN hq _⟩
              case measure => simp [intOf]; omega
            · have d2' : decide (FK ≤ 65535) = false := decide_eq_false h2
              have E := Lib.hid (uN (fun h => h2 h.2))
              clear hU uT uN
              go_wp2
              go_quiet (fail)
              go_wp2
              go_roundw
              case rel => exact ⟨k + 1, by omega, by go_num, by rw [E.out], T4.out.on ((Drawn.of _).below _), T5.out.on ((Drawn.of _).below _), below_drewN hq _⟩
              case measure => simp [intOf]; omega
          · have d1' : decide (0 ≤ FK) = false := decide_eq_false h1
            have E := Lib.hid (uN (fun h => h1 h.1))
            clear hU uT uN
            go_wp2
            go_quiet (fail)
            go_wp2
            go_roundw
            case rel => exact ⟨k + 1, by omega, by go_num, by rw [E.out], T4.out.on ((Drawn.of _).below _), T5.out.on ((Drawn.of _).below _), below_drewN hq _⟩
            case measure => simp [intOf]; omega
      · obtain rfl : k = 3 := by omega
        have a0 := cell_regrown t4.c0
        have a1 := cell_regrown t4.c1
        have a2 := cell_regrown t4.c2
        have r0 := cell_regrown t5.c0
        have r1 := cell_regrown t5.c1
        have r2 := cell_regrown t5.c2
        have kg := Lib.hid (Calls.grown_of (w := wr) (f := 25) (args := #[.agg #[.int .i64 (G 0), .int .i64 (G 1), .int .i64 (G 2)]]) fun W _ => kc.out G W)
        have q2 : ∀ w, (binOp .eql 28 (.agg #[.int .i64 (clpV G 0), .int .i64 (clpV G 1), .int .i64 (clpV G 2)]) (.agg #[.int .i64 (G 0), .int .i64 (G 1), .int .i64 (G 2)])).run Try.prog w = .ok (.bool true) w := fun w => by
          have := eql_col (clpV G) G w
          rw [eqB_t (fun i hi => clpV_id HG.out hi)] at this
          exact this
        clear t4 t5
        cases hU : upB F 3 with
        | false =>
          clear hU
          go_wp2
          refine wp_region_quiet_below (by kernel_rfl) (by kernel_rfl) ?_
          repeat (go_big_quiet_step (exact kg.out _ _))
          refine wpQuiet_nil ?_
          intro w9 hw9
          replace hw9 := below_of_regrown hw9
          clear a0 a1 a2 r0 r1 r2
          go_wp2
          go_ret
          exact ⟨rfl, hq.trans (hw9.mono hq.size)⟩
        | true =>
          have q1 : ∀ w, (binOp .eql 28 (.agg #[.int .i64 (G 0), .int .i64 (G 1), .int .i64 (G 2)]) (.agg #[.int .i64 (F 0), .int .i64 (F 1), .int .i64 (F 2)])).run Try.prog w = .ok (.bool true) w := fun w => by
            have := eql_col G F w
            rw [eqB_t (HE.out (upB_3 hU))] at this
            exact this
          clear hU
          go_wp2
          refine wp_region_quiet_below (by kernel_rfl) (by kernel_rfl) ?_
          repeat (go_big_quiet_step (exact kg.out _ _))
          refine wpQuiet_nil ?_
          intro w9 hw9
          replace hw9 := below_of_regrown hw9
          clear a0 a1 a2 r0 r1 r2
          go_wp2
          go_ret
          exact ⟨rfl, hq.trans (hw9.mono hq.size)⟩
  · have dS : decide (F 0 + F 1 + F 2 + 1 < 0) = false := decide_eq_false hs
    have hmn : ∀ (ts : Array TypeId) (t : TypeId) (w : World), (Builtin.min_ ts t #[.int .i64 ((F 0 + F 1 + F 2 + 1) / 3), .int .i64 65535]).run Try.prog w = .ok (.int .i64 R) w := fun ts t w => by
      rw [run_min_int2, ← hR']
      congr 2
      unfold clm
      rw [if_neg (show ¬ (F 0 + F 1 + F 2 + 1) / 3 < 0 by omega)]
    have hs' : 0 ≤ F 0 + F 1 + F 2 + 1 := by omega
    clear hR'
    go_wp2
    clear h4 d0 d1 d2 dS hmn
    go_loopw [8, 9] (fun b i wr => ∃ k : Nat, k ≤ 3 ∧ i = .int .i64 k ∧ b = .bool (upB F k) ∧ Tri 28 wr w1.heap.size F ∧ Tri 28 wr w3.heap.size G ∧ Below w.heap.size w wr) (fun _ i _ => 3 - (intOf i).toNat)
    case atStart => exact ⟨0, by omega, rfl, by rw [upB_0], U4.out, U5.out, hq4⟩
    case round =>
      obtain ⟨k, hk, rfl, rfl, t4, t5, hq⟩ := hrel
      by_cases hlt : k < 3
      · have cF := t4.cell k hlt
        have cG := t5.cell k hlt
        have hW := HW.out k hlt
        have hG := HG.out k hlt
        have T4 := Lib.hid t4
        have T5 := Lib.hid t5
        have uT := fun h : upB F k = true => upB_t h
        have uN := upB_n (c := F) (k := k)
        generalize F k = FK at *
        generalize G k = GK at *
        obtain ⟨m, M, ⟨hm, hM⟩, hmn, hmx⟩ := mnmx (R) FK
        have g0 : decide (GK < 0) = false := decide_eq_false (by omega)
        have g1 : decide (65535 < GK) = false := decide_eq_false (by omega)
        have g2 : decide (GK < m) = false := decide_eq_false (by omega)
        have g3 : decide (M < GK) = false := decide_eq_false (by omega)
        have i1 : 0 ≤ (k : Int) ∧ (k : Int) < 3 := by omega
        clear t4 t5 hW hG hm hM
        cases hU : upB F k with
        | false =>
          have E := Lib.hid (upB_f hU)
          clear hU uT uN
          go_wp2
          go_quiet (fail)
          go_wp2
          go_roundw
          case rel => exact ⟨k + 1, by omega, by go_num, by rw [E.out], T4.out.on ((Drawn.of _).below _), T5.out.on ((Drawn.of _).below _), below_drewN hq _⟩
          case measure => simp [intOf]; omega
        | true =>
          by_cases h1 : 0 ≤ FK
          · have d1' : decide (0 ≤ FK) = true := decide_eq_true h1
            by_cases h2 : FK ≤ 65535
            · have d2' : decide (FK ≤ 65535) = true := decide_eq_true h2
              have E := Lib.hid (uT hU h1 h2)
              clear hU uT uN
              go_wp2
              go_quiet (fail)
              go_wp2
              go_roundw
              case rel => exact ⟨k + 1, by omega, by go_num, by rw [E.out], T4.out.on ((Drawn.of _).below _), T5.out.on ((Drawn.of _).below _), below_drewN hq _⟩
              case measure => simp [intOf]; omega
            · have d2' : decide (FK ≤ 65535) = false := decide_eq_false h2
              have E := Lib.hid (uN (fun h => h2 h.2))
              clear hU uT uN
              go_wp2
              go_quiet (fail)
              go_wp2
              go_roundw
              case rel => exact ⟨k + 1, by omega, by go_num, by rw [E.out], T4.out.on ((Drawn.of _).below _), T5.out.on ((Drawn.of _).below _), below_drewN hq _⟩
              case measure => simp [intOf]; omega
          · have d1' : decide (0 ≤ FK) = false := decide_eq_false h1
            have E := Lib.hid (uN (fun h => h1 h.1))
            clear hU uT uN
            go_wp2
            go_quiet (fail)
            go_wp2
            go_roundw
            case rel => exact ⟨k + 1, by omega, by go_num, by rw [E.out], T4.out.on ((Drawn.of _).below _), T5.out.on ((Drawn.of _).below _), below_drewN hq _⟩
            case measure => simp [intOf]; omega
      · obtain rfl : k = 3 := by omega
        have a0 := cell_regrown t4.c0
        have a1 := cell_regrown t4.c1
        have a2 := cell_regrown t4.c2
        have r0 := cell_regrown t5.c0
        have r1 := cell_regrown t5.c1
        have r2 := cell_regrown t5.c2
        have kg := Lib.hid (Calls.grown_of (w := wr) (f := 25) (args := #[.agg #[.int .i64 (G 0), .int .i64 (G 1), .int .i64 (G 2)]]) fun W _ => kc.out G W)
        have q2 : ∀ w, (binOp .eql 28 (.agg #[.int .i64 (clpV G 0), .int .i64 (clpV G 1), .int .i64 (clpV G 2)]) (.agg #[.int .i64 (G 0), .int .i64 (G 1), .int .i64 (G 2)])).run Try.prog w = .ok (.bool true) w := fun w => by
          have := eql_col (clpV G) G w
          rw [eqB_t (fun i hi => clpV_id HG.out hi)] at this
          exact this
        clear t4 t5
        cases hU : upB F 3 with
        | false =>
          clear hU
          go_wp2
          refine wp_region_quiet_below (by kernel_rfl) (by kernel_rfl) ?_
          repeat (go_big_quiet_step (exact kg.out _ _))
          refine wpQuiet_nil ?_
          intro w9 hw9
          replace hw9 := below_of_regrown hw9
          clear a0 a1 a2 r0 r1 r2
          go_wp2
          go_ret
          exact ⟨rfl, hq.trans (hw9.mono hq.size)⟩
        | true =>
          have q1 : ∀ w, (binOp .eql 28 (.agg #[.int .i64 (G 0), .int .i64 (G 1), .int .i64 (G 2)]) (.agg #[.int .i64 (F 0), .int .i64 (F 1), .int .i64 (F 2)])).run Try.prog w = .ok (.bool true) w := fun w => by
            have := eql_col G F w
            rw [eqB_t (HE.out (upB_3 hU))] at this
            exact this
          clear hU
          go_wp2
          refine wp_region_quiet_below (by kernel_rfl) (by kernel_rfl) ?_
          repeat (go_big_quiet_step (exact kg.out _ _))
          refine wpQuiet_nil ?_
          intro w9 hw9
          replace hw9 := below_of_regrown hw9
          clear a0 a1 a2 r0 r1 r2
          go_wp2
          go_ret
          exact ⟨rfl, hq.trans (hw9.mono hq.size)⟩

end Go.Proofs.Ytmilljlkcbljpaa
