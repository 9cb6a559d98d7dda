/- The statement ColourBetween, walked. -/
import Derived.Test.YtmilljlkcbljpaaBt
namespace Go.Proofs.Ytmilljlkcbljpaa
open Go.RowKit Go.Sort

theorem index_i0 (x0 x1 x2 : Value) (w : World) : (Instr.index 27 (.agg #[x0, x1, x2]) (.int .i64 0)).run Try.prog w = .ok x0 w := by kernel_rfl
theorem index_i1 (x0 x1 x2 : Value) (w : World) : (Instr.index 27 (.agg #[x0, x1, x2]) (.int .i64 1)).run Try.prog w = .ok x1 w := by kernel_rfl
theorem index_i2 (x0 x1 x2 : Value) (w : World) : (Instr.index 27 (.agg #[x0, x1, x2]) (.int .i64 2)).run Try.prog w = .ok x2 w := by kernel_rfl
theorem pick_size (k : Nat) (hk : k < 3) : ∃ K s : Nat, (2 ≤ K ∧ K ≤ 6) ∧ s * (K - 1) = 65535 ∧ (65535 : Int) / ((K : Int) - 1) = (s : Int) ∧ s ≤ 65535 ∧ ∀ w, (Instr.index 27 (.agg #[.int .i64 2, .int .i64 4, .int .i64 6]) (.int .i64 k)).run Try.prog w = .ok (.int .i64 (K : Int)) w := by
  obtain rfl | rfl | rfl : k = 0 ∨ k = 1 ∨ k = 2 := by omega
  · exact ⟨2, 65535, by omega, by omega, by omega, by omega, fun w => index_i0 _ _ _ w⟩
  · exact ⟨4, 21845, by omega, by omega, by omega, by omega, fun w => index_i1 _ _ _ w⟩
  · exact ⟨6, 13107, by omega, by omega, by omega, by omega, fun w => index_i2 _ _ _ w⟩

theorem mnmxB (x y : Int) : ∃ m M : Int, (m = min x y ∧ M = max x y) ∧ (∀ (ts : Array TypeId) (t : TypeId) (w : World), (Builtin.min_ ts t #[.int .i64 x, .int .i64 y]).run Try.prog w = .ok (.int .i64 m) w) ∧ ∀ (ts : Array TypeId) (t : TypeId) (w : World), (Builtin.max_ ts t #[.int .i64 x, .int .i64 y]).run Try.prog w = .ok (.int .i64 M) w := by
  refine ⟨min x y, max x y, ⟨rfl, rfl⟩, fun ts t w => ?_, fun ts t w => ?_⟩
  · rw [run_min_int2]; congr 2; split <;> omega
  · rw [run_max_int2]; congr 2; split <;> omega

theorem wrap_bd (x : Int) : -9223372036854775808 ≤ IntKind.i64.wrap x ∧ IntKind.i64.wrap x ≤ 9223372036854775807 := by
  rw [IntWalk.i64_left]; unfold wrap64; omega

theorem vals3_congr {g h : Nat → Nat → Int} : ∀ n, (∀ j, j < n → g j = h j) → vals3 g n = vals3 h n
  | 0, _ => rfl
  | n + 1, e => by rw [vals3_snoc, vals3_snoc, vals3_congr n (fun j hj => e j (by omega)), e n (by omega)]

/-- One colour more. -/
theorem vals3_more {g : Nat → Nat → Int} {k : Nat} (x y z : Int) (hg : ∀ j, j < k → InG (g j)) (hx : 0 ≤ x ∧ x ≤ 65535) (hy : 0 ≤ y ∧ y ≤ 65535) (hz : 0 ≤ z ∧ z ≤ 65535) :
    ∃ g', vals3 g' (k + 1) = vals3 g k ++ [.int .i64 x, .int .i64 y, .int .i64 z] ∧ ∀ j, j < k + 1 → InG (g' j) := by
  refine ⟨fun j => if j = k then c3 x y z else g j, ?_, fun j hj => ?_⟩
  · rw [vals3_snoc]
    have h1 : vals3 (fun j => if j = k then c3 x y z else g j) k = vals3 g k := by
      exact vals3_congr k fun j hj => if_neg (by omega)
    rw [h1]
    simp only [if_true]
    rfl
  · show InG (if j = k then c3 x y z else g j)
    by_cases e : j = k
    · rw [if_pos e]
      intro i hi
      obtain rfl | rfl | rfl : i = 0 ∨ i = 1 ∨ i = 2 := by omega
      · exact hx
      · exact hy
      · exact hz
    · rw [if_neg e]; exact hg j (by omega)

set_option maxRecDepth 100000 in
set_option maxHeartbeats 8000000 in
theorem colourBetween_walk {a : Int} {v : Value} {n : Nat} {f c : Nat → Int} {w : World} (hn : n ≤ 9223372036854775807) (hs : Sl w w.heap.size v n f) :
    Calls Try.prog 8 #[.int .i64 a, v, col c] w fun e w' => e = .returned (.bool true) ∧ Below w.heap.size w w' := by
  have t1 := Tri.new w c 28
  have hb0 := (Below.refl w.heap.size w).alloc (Nat.le_refl _) (.cells #[.int .i64 (c 0), .int .i64 (c 1), .int .i64 (c 2)] 28)
  obtain ⟨w0, h0⟩ : ∃ w0, w.alloc (.cells #[.int .i64 (c 0), .int .i64 (c 1), .int .i64 (c 2)] 28) = w0 := ⟨_, rfl⟩
  rw [h0] at t1 hb0
  obtain ⟨i0, hi, hz0, hz1, hz2⟩ := info_parts Try.info3
  have T1 := Lib.hid t1
  have HS := Lib.hid hs
  have am := and_ffff
  clear t1 hs
  unfold col
  go_enter Try.func8, Try.ntmps8
  go_wp2_with fail
  refine (sanity_any w0).mono ?_
  rintro e w1 ⟨rfl, hb1⟩
  have T1' := Lib.hid (T1.out.on hb1)
  have hq1 := hb0.trans (hb1.mono hb0.size)
  clear h0 hb1
  go_wp2_with fail
  refine (rest_any (n := 3) (by omega) (by omega)).mono ?_
  rintro e w1' ⟨⟨k, hk3, hke, rfl⟩, rfl⟩
  clear hke
  obtain ⟨K, s, ⟨hK, hK'⟩, hsK, hdiv, hs1, hix⟩ := pick_size k hk3
  obtain ⟨q1, q2, q3, q4⟩ := cube_bd (m := K) (by omega) (by omega)
  obtain ⟨M, hM⟩ : ∃ M, M = K * K * K := ⟨_, rfl⟩
  have HM := Lib.hid hM
  have n1 : (K : Int) * (K : Int) * (K : Int) = (M : Int) := by rw [hM]; simp
  have n2 : 4 ≤ (K : Int) * (K : Int) ∧ (K : Int) * (K : Int) ≤ 289 := by
    have : (K : Int) * (K : Int) = ((K * K : Nat) : Int) := by simp
    omega
  rw [← hM] at q1 q2
  obtain ⟨w2, h2⟩ : ∃ w2, w1.alloc (.cells #[.int .i64 (K : Int), .slice none 0 0] 31) = w2 := ⟨_, rfl⟩
  have hb2 : Below w1.heap.size w1 w2 := by rw [← h2]; exact (Below.refl _ _).alloc (Nat.le_refl _) _
  have t9 : Two 31 w2 w1.heap.size (.int .i64 (K : Int)) (.slice none 0 0) := by rw [← h2]; exact Two.new _ _ _ _
  have hq2 := hq1.trans (hb2.mono hq1.size)
  have x0 := t9.c1
  have y0 := t9.free 1
  have l01 := T1'.out.lt
  obtain ⟨w3, h3⟩ : ∃ w3, w2.setCell ⟨w1.heap.size, 1, none⟩ (.slice none 0 0) = w3 := ⟨_, rfl⟩
  have U9 : Hid (Two 31 w3 w1.heap.size (.int .i64 (K : Int)) (.slice none 0 0)) := Lib.hid (by rw [← h3]; exact t9.set1 _)
  have U1 : Hid (Tri 28 w3 w.heap.size c) := Lib.hid (by rw [← h3]; exact (T1'.out.on hb2).keep (by omega))
  have hq3 : Below w.heap.size w w3 := by rw [← h3]; exact hq2.setCell (by have := hq1.size; simpa using this) _
  clear hM t9 hb2 hq2
  go_wp2
  clear h2 h3 x0 y0
  go_loopw [10] (fun i wr => ∃ (j : Nat) (g : Nat → Nat → Int) (x : Value), j ≤ M ∧ i = .int .i64 j ∧ Tri 28 wr w.heap.size c ∧ Two 31 wr w1.heap.size (.int .i64 (K : Int)) x ∧ wr.ownsRow (w1.heap.size + 1) 28 3 x j (vals3 g j) ∧ Hid (∀ i, i < j → InG (g i)) ∧ Below w.heap.size w wr) (fun i _ => M - (intOf i).toNat)
  case atStart => exact ⟨0, fun _ _ => 0, _, by omega, rfl, U1.out, U9.out, World.ownsRow_nil _ _ _ _, Lib.hid (fun i hi => by omega), hq3⟩
  case round =>
    obtain ⟨j, g, x, hj, rfl, t1, t9, hown, hgG, hq⟩ := hrel
    have c9 := t9.c1
    have hl9 := t9.lt
    by_cases hlt : j < M
    · have P1 := Lib.hid t1
      have P9 := Lib.hid t9
      have HO := Lib.hid hown
      have hsl := HS.out.below hq (Nat.le_refl _)
      clear t1 t9 hown
      by_cases hn0 : n = 0
      · 
        obtain ⟨a', cap, rfl⟩ := hsl.shape
        subst hn0
        clear hsl
        obtain ⟨g', hg', hgG'⟩ := vals3_more (37 * (j : Int) % 65536) (37 * (j : Int) / 2 % 65536) (37 * (j : Int) / 5 % 65536) hgG.out (by omega) (by omega) (by omega)
        have HG' := Lib.hid hg'
        have HGG := Lib.hid hgG'
        clear hg' hgG'
        have Q1 := Lib.hid (P1.out.alloc (.cells #[.int .i64 (37 * (j : Int) % 65536), .int .i64 (37 * (j : Int) / 2 % 65536), .int .i64 (37 * (j : Int) / 5 % 65536)] 28))
        have Q9 := Lib.hid (P9.out.alloc (.cells #[.int .i64 (37 * (j : Int) % 65536), .int .i64 (37 * (j : Int) / 2 % 65536), .int .i64 (37 * (j : Int) / 5 % 65536)] 28))
        go_wp2_with (at_builtin; refine wpList_append_own _ rfl _ _ 29 rfl (w1.heap.size + 1) 28 i0 (.agg #[.int .i64 0, .int .i64 0, .int .i64 0]) 3 24 Try.underlying29 hi hz0 hz1 hz2 rfl (by decide) _ j (vals3 g j) rfl (HO.out.alloc _) ⟨wr.heap.size, 0, none⟩ 1 1 [.int .i64 (37 * (j : Int) % 65536), .int .i64 (37 * (j : Int) / 2 % 65536), .int .i64 (37 * (j : Int) / 5 % 65536)] rfl rfl (cells_new3 _ _ _ _ _) (by simp [Value.oneCell']) (by unfold maxLen; omega) (by omega) (by simp; omega) ?_; intro x' w6 hown' hgrow _; obtain ⟨gb, cap', rfl⟩ := own_succ hown'; have hB6 := (Below.refl (w1.heap.size + 1) _).grown hgrow (by simp; omega) (fun j hj => (HO.out.lt j hj).1); have R1 := Lib.hid (Q1.out.below hB6 (by omega)); have r3 := Q9.out.below hB6 (by omega); have c1' := r3.c1; have f1' := r3.free 1; have R3 := Lib.hid r3; have HO3 := Lib.hid hown'; clear r3 hown' hgrow)
        have hq6 := (hq.alloc hq.size (.cells #[.int .i64 (37 * (j : Int) % 65536), .int .i64 (37 * (j : Int) / 2 % 65536), .int .i64 (37 * (j : Int) / 5 % 65536)] 28)).trans (below_le hB6 (by omega))
        go_roundw
        case rel => exact ⟨j + 1, g', _, by omega, by go_num, R1.out.keep (by omega), R3.out.set1 _, by rw [HG'.out]; exact own_keep HO3.out (by omega), HGG, hq6.setCell (by simp; omega) _⟩
        case measure => simp [intOf]; omega
      · obtain ⟨b', off', cap, rfl, _, hcl⟩ := hsl.at (by omega)
        have d0 : decide ((0 : Int) < (n : Int)) = true := decide_eq_true (by omega)
        have hr : j % n < n := Nat.mod_lt _ (by omega)
        have er : (j : Int) % (n : Int) = ((j % n : Nat) : Int) := by simp
        have cr := hcl (j % n) hr
        have d1 : ((n : Int) == 0) = false := by simp; omega
        generalize j % n = r at *
        have ir : 0 ≤ (r : Int) ∧ (r : Int) < n := by omega
        obtain ⟨V, hV⟩ : ∃ V, IntKind.i64.wrap (f r + 911 * (j : Int)) = V := ⟨_, rfl⟩
        have bV : -9223372036854775808 ≤ V ∧ V ≤ 9223372036854775807 := by rw [← hV]; exact wrap_bd _
        clear hsl hcl hr
        obtain ⟨g', hg', hgG'⟩ := vals3_more (V % 65536) (V.tdiv 2 % 65536) (V.tdiv 5 % 65536) hgG.out (by omega) (by omega) (by omega)
        have HG' := Lib.hid hg'
        have HGG := Lib.hid hgG'
        clear hg' hgG'
        have Q1 := Lib.hid (P1.out.alloc (.cells #[.int .i64 (V % 65536), .int .i64 (V.tdiv 2 % 65536), .int .i64 (V.tdiv 5 % 65536)] 28))
        have Q9 := Lib.hid (P9.out.alloc (.cells #[.int .i64 (V % 65536), .int .i64 (V.tdiv 2 % 65536), .int .i64 (V.tdiv 5 % 65536)] 28))
        go_wp2_with (at_builtin; refine wpList_append_own _ rfl _ _ 29 rfl (w1.heap.size + 1) 28 i0 (.agg #[.int .i64 0, .int .i64 0, .int .i64 0]) 3 24 Try.underlying29 hi hz0 hz1 hz2 rfl (by decide) _ j (vals3 g j) rfl (HO.out.alloc _) ⟨wr.heap.size, 0, none⟩ 1 1 [.int .i64 (V % 65536), .int .i64 (V.tdiv 2 % 65536), .int .i64 (V.tdiv 5 % 65536)] rfl rfl (cells_new3 _ _ _ _ _) (by simp [Value.oneCell']) (by unfold maxLen; omega) (by omega) (by simp; omega) ?_; intro x' w6 hown' hgrow _; obtain ⟨gb, cap', rfl⟩ := own_succ hown'; have hB6 := (Below.refl (w1.heap.size + 1) _).grown hgrow (by simp; omega) (fun j hj => (HO.out.lt j hj).1); have R1 := Lib.hid (Q1.out.below hB6 (by omega)); have r3 := Q9.out.below hB6 (by omega); have c1' := r3.c1; have f1' := r3.free 1; have R3 := Lib.hid r3; have HO3 := Lib.hid hown'; clear r3 hown' hgrow)
        have hq6 := (hq.alloc hq.size (.cells #[.int .i64 (V % 65536), .int .i64 (V.tdiv 2 % 65536), .int .i64 (V.tdiv 5 % 65536)] 28)).trans (below_le hB6 (by omega))
        go_roundw
        case rel => exact ⟨j + 1, g', _, by omega, by go_num, R1.out.keep (by omega), R3.out.set1 _, by rw [HG'.out]; exact own_keep HO3.out (by omega), HGG, hq6.setCell (by simp; omega) _⟩
        case measure => simp [intOf]; omega
    · have hjM : j = M := by omega
      subst hjM
      obtain ⟨wo, rfl⟩ : ∃ wo : World, wo = wr := ⟨_, rfl⟩
      have hG : GrV K j g := ⟨hK, by omega, HM.out, hgG.out⟩
      have hcl : Cls wo wo.heap.size x j g := Cls.of_own hown (Nat.le_refl _)
      obtain ⟨gb, cap', rfl⟩ := own_pos hown (by omega)
      obtain ⟨F, hF⟩ : ∃ F : Nat → Int, F = fun i => c i % 65536 := ⟨_, rfl⟩
      have e0 : c 0 % 65536 = F 0 := by rw [hF]
      have e1 : c 1 % 65536 = F 1 := by rw [hF]
      have e2 : c 2 % 65536 = F 2 := by rw [hF]
      have hFG : InG F := fun i _ => by rw [hF]; show 0 ≤ c i % 65536 ∧ c i % 65536 ≤ 65535; omega
      have HFG := Lib.hid hFG
      obtain ⟨w4, h4⟩ : ∃ w4, wo.alloc (.cells #[.int .i64 (F 0), .int .i64 (F 1), .int .i64 (F 2)] 28) = w4 := ⟨_, rfl⟩
      have t2 : Tri 28 w4 wo.heap.size F := by rw [← h4]; exact Tri.new wo F _
      have hb4 : Below wo.heap.size wo w4 := by rw [← h4]; exact (Below.refl _ _).alloc (Nat.le_refl _) _
      have hq4 := hq.trans (hb4.mono hq.size)
      have t9' := t9.on hb4
      have hcl4 := hcl.on hb4
      have x0 := t1.c0
      have x1 := t1.c1
      have x2 := t1.c2
      have z0 := t9'.c0
      have z1 := t9'.c1
      have d0 := t2.c0
      have d1 := t2.c1
      have d2 := t2.c2
      have kl := Lib.hid (Look_yes (c := F) (w := w4) (Nat.le_refl _) hcl4 hG)
      have P2 := Lib.hid t2
      have P9 := Lib.hid t9'
      have PC := Lib.hid hcl4
      have HG := Lib.hid hG
      unfold col at kl
      clear t1 t2 t9 t9' hcl hcl4 hown hF hFG hG c9 hl9 hb4 hgG
      go_wp2_with fail
      refine kl.out.mono ?_
      rintro e w5 ⟨rfl, hb5⟩
      obtain ⟨Y, hY⟩ : ∃ Y, lkV K g F = Y := ⟨_, rfl⟩
      rw [hY]
      have HY := Lib.hid hY
      have hq5 := hq4.trans (hb5.mono hq4.size)
      obtain ⟨w6, h6⟩ : ∃ w6, w5.alloc (.cells #[.int .i64 (Y 0), .int .i64 (Y 1), .int .i64 (Y 2)] 28) = w6 := ⟨_, rfl⟩
      have t3 : Tri 28 w6 w5.heap.size Y := by rw [← h6]; exact Tri.new w5 Y _
      have hb6 : Below w5.heap.size w5 w6 := by rw [← h6]; exact (Below.refl _ _).alloc (Nat.le_refl _) _
      obtain ⟨w7, h7⟩ : ∃ w7, w6.alloc (.cells #[.int .i64 0, .int .i64 0, .int .i64 0] 27) = w7 := ⟨_, rfl⟩
      have t4 : Tri 27 w7 w6.heap.size (fun _ => 0) := by rw [← h7]; exact Tri.new w6 (fun _ => 0) _
      have hb7 : Below w6.heap.size w6 w7 := by rw [← h7]; exact (Below.refl _ _).alloc (Nat.le_refl _) _
      have hb67 : Below w5.heap.size w5 w7 := hb6.trans (hb7.mono hb6.size)
      have hb47 : Below w4.heap.size w4 w7 := hb5.trans (hb67.mono hb5.size)
      have hq7 := hq4.trans (hb47.mono hq4.size)
      have l45 := hb5.size
      have l56 := t3.lt
      have l2 := P2.out.lt
      have l9 := P9.out.lt
      have l49 : w1.heap.size < w6.heap.size := by omega
      have l42 : wo.heap.size < w6.heap.size := by omega
      have l46 : w4.heap.size ≤ w6.heap.size := by omega
      have l00 : w.heap.size ≤ w6.heap.size := by have := hq4.size; omega
      have R2 := Lib.hid (P2.out.on hb47)
      have R9 := Lib.hid (P9.out.on hb47)
      have RC := Lib.hid (PC.out.below hb47 (Nat.le_refl _))
      have R3 := Lib.hid (t3.on hb7)
      have R4 := Lib.hid t4
      clear hY h4 t3 t4 hb6 hb7 hb67 hb47 hb5 l45 l2 l9 x0 x1 x2 z0 z1 d0 d1 d2 e0 e1 e2 P2 P9 PC kl
      go_wp2
      clear h6 h7
      go_loopw [16] (fun i wr => ∃ k : Nat, k ≤ 3 ∧ i = .int .i64 k ∧ Tri 27 wr w6.heap.size (upto (fun i => (lkA K F i : Int)) k) ∧ Below w6.heap.size w7 wr) (fun i _ => 3 - (intOf i).toNat)
      case atStart => exact ⟨0, by omega, rfl, R4.out, Below.refl _ _⟩
      case round =>
        obtain ⟨k, hk, rfl, t4, hb⟩ := hrel
        by_cases hlt : k < 3
        · have t2 := R2.out.below hb l42
          have hA0 := lkA_int hK F k
          rw [HFG.out.gam k hlt] at hA0
          have hg := HFG.out k hlt
          have hA1 : lkA K F k ≤ K - 2 := (lk_bd hK (by omega) F k).1
          have c2 := t2.cell k hlt
          have c4 := t4.cell k hlt
          have f4 := t4.free k
          have t4' := upto_step t4 hlt
          obtain ⟨V, hV⟩ : ∃ V, F k = V := ⟨_, rfl⟩
          obtain ⟨A, hA⟩ : ∃ A : Nat, lkA K F k = A := ⟨_, rfl⟩
          rw [hV] at hA0 hg c2
          rw [hA] at hA0 hA1
          simp only [hA] at t4'
          have hmn : ∀ (ts : Array TypeId) (t : TypeId) (w : World), (Builtin.min_ ts t #[.int .i64 (V * ((K : Int) - 1) / 65535), .int .i64 ((K : Int) - 2)]).run Try.prog w = .ok (.int .i64 (A : Int)) w := fun ts t w => by rw [run_min_int2 w ts t, hA0]
          obtain ⟨p1, p2⟩ := mul_bd (a := V) (A := 65535) (b := (K : Int) - 1) (B := 16) hg.1 hg.2 (by omega) (by omega)
          have i1 : 0 ≤ (k : Int) ∧ (k : Int) < 3 := by omega
          have T4 := Lib.hid t4'
          clear t2 t4 t4' hA0 hA hV
          go_wp2
          go_roundw
          case rel => exact ⟨k + 1, by omega, by go_num, T4.out, hb.setCell (p := ⟨w6.heap.size, k, none⟩) (Nat.le_refl _) _⟩
          case measure => simp [intOf]; omega
        · obtain rfl : k = 3 := by omega
          obtain ⟨wa, rfl⟩ : ∃ wa : World, wa = wr := ⟨_, rfl⟩
          have q3 := R3.out.below hb l56
          have q4 : Tri 27 wa w6.heap.size (fun i => (lkA K F i : Int)) := t4.congr rfl rfl rfl
          have q9 := R9.out.below hb l49
          obtain ⟨b', off', cap2, hv, hgb, hcc⟩ := (RC.out.below hb l46).at (by omega)
          cases hv
          have hqa := hq7.trans (hb.mono (by have := hq7.size; omega))
          have hA : ∀ i, i < 3 → lkA K F i ≤ K - 2 := fun i _ => (lk_bd hK (by omega) F i).1
          have hcor : ∀ (L H : Int) (m : Nat), (∀ q, q < 8 → L ≤ g (cix K (lkA K F) q) m ∧ g (cix K (lkA K F) q) m ≤ H) → L ≤ Y m ∧ Y m ≤ H := fun L H m h => by rw [← HY.out]; exact lkV_corners hK (by omega) h
          obtain ⟨A, hAe⟩ : ∃ A, lkA K F = A := ⟨_, rfl⟩
          have HAe := Lib.hid hAe
          rw [hAe] at hA hcor
          simp only [hAe] at q4
          have a0 := hA 0 (by omega)
          have a1 := hA 1 (by omega)
          have a2 := hA 2 (by omega)
          have HX : Hid (∀ q, q < 8 → cix K A q < j) := Lib.hid (fun q hq => by rw [HM.out]; exact cix_lt hK hA hq)
          have HB := Lib.hid hcor
          have HAle := Lib.hid hA
          have Q3 := Lib.hid q3
          have Q4 := Lib.hid q4
          have Q9 := Lib.hid q9
          have QC := Lib.hid hcc
          have l3' := q3.lt
          have l4' := q4.lt
          have l9' := q9.lt
          have am1 : ∀ x : Int, bits .and .i64 x 1 = x % 2 := fun x => and_mask 1 x (by omega)
          have hgb' : gb < wa.heap.size := by omega
          have hqw := hqa.size
          clear hAe hA hcor q3 q4 q9 hcc t4 hgb
          go_wp2
          go_loopw [17] (fun i wr => ∃ m : Nat, m ≤ 3 ∧ i = .int .i64 m ∧ Below wa.heap.size wa wr) (fun i _ => 3 - (intOf i).toNat)
          case atStart => exact ⟨0, by omega, rfl, Below.refl _ _⟩
          case round =>
            obtain ⟨m, hm, rfl, hb1⟩ := hrel
            by_cases hlt : m < 3
            · obtain ⟨wm, rfl⟩ : ∃ wm : World, wm = wr := ⟨_, rfl⟩
              go_wp2
              go_loopw [18, 19, 20] (fun lo hi i wr => ∃ (q : Nat) (L H : Int), q ≤ 8 ∧ i = .int .i64 q ∧ lo = .int .i64 L ∧ hi = .int .i64 H ∧ Hid (∀ p, p < q → L ≤ g (cix K A p) m ∧ g (cix K A p) m ≤ H) ∧ Below wa.heap.size wa wr) (fun _ _ i _ => 8 - (intOf i).toNat)
              case atStart => exact ⟨0, _, _, by omega, rfl, rfl, rfl, Lib.hid (fun p hp => by omega), hb1⟩
              case round =>
                obtain ⟨q, L, H, hq8, rfl, rfl, rfl, hco, hb2⟩ := hrel
                by_cases hl8 : q < 8
                · have t4 := Q4.out.below hb2 l4'
                  have t9 := Q9.out.below hb2 l9'
                  have z1 := t9.c1
                  have c0 := t4.c0
                  have c1 := t4.c1
                  have c2 := t4.c2
                  have hr := HX.out q hl8
                  have hcell := (QC.out.below hb2 hgb') (cix K A q) hr m hlt
                  rw [Nat.zero_add] at hcell
                  obtain ⟨p1, p2⟩ := mul_bd (a := (A 0 : Int) + (q : Int) % 2) (A := 5) (b := (K : Int)) (B := 6) (by omega) (by omega) (by omega) (by omega)
                  obtain ⟨p3, p4⟩ := mul_bd (a := ((A 0 : Int) + (q : Int) % 2) * (K : Int) + (A 1 : Int) + (q : Int) / 2 % 2) (A := 50) (b := (K : Int)) (B := 6) (by omega) (by omega) (by omega) (by omega)
                  have eix : (((A 0 : Int) + (q : Int) % 2) * (K : Int) + (A 1 : Int) + (q : Int) / 2 % 2) * (K : Int) + (A 2 : Int) + (q : Int) / 4 = ((cix K A q : Nat) : Int) := by unfold cix; simp
                  have hco' : ∀ (m1 M1 : Int), m1 = min L (g (cix K A q) m) → M1 = max H (g (cix K A q) m) → ∀ p, p < q + 1 → m1 ≤ g (cix K A p) m ∧ g (cix K A p) m ≤ M1 := fun m1 M1 h1 h2 p hp => by
                    by_cases e : p = q
                    · subst e; omega
                    · have := hco.out p (by omega); omega
                  have HCO := Lib.hid hco'
                  generalize cix K A q = r at hr hcell eix HCO
                  obtain ⟨V, hV⟩ : ∃ V, g r m = V := ⟨_, rfl⟩
                  rw [hV] at hcell HCO
                  obtain ⟨m1, M', ⟨hm1, _⟩, hmn, _⟩ := mnmxB L V
                  obtain ⟨m', M1, ⟨_, hM1⟩, _, hmx⟩ := mnmxB H V
                  have HCO' := Lib.hid (HCO.out m1 M1 hm1 hM1)
                  have i1 : 0 ≤ (r : Int) ∧ (r : Int) < j := by omega
                  have i2 : 0 ≤ (m : Int) ∧ (m : Int) < 3 := by omega
                  clear t4 t9 hco' hco HCO hV hm1 hM1 hr
                  go_wp2
                  go_roundw
                  case rel => exact ⟨q + 1, _, _, by omega, by go_num, rfl, rfl, HCO', hb2⟩
                  case measure => simp [intOf]; omega
                · obtain rfl : q = 8 := by omega
                  have hYm := HB.out L H m (fun p hp => hco.out p hp)
                  have cY := (Q3.out.below hb2 l3').cell m hlt
                  have i2 : 0 ≤ (m : Int) ∧ (m : Int) < 3 := by omega
                  obtain ⟨V, hV⟩ : ∃ V, Y m = V := ⟨_, rfl⟩
                  rw [hV] at hYm cY
                  have g1 : decide (V < L) = false := decide_eq_false (by omega)
                  have g2 : decide (H < V) = false := decide_eq_false (by omega)
                  clear hYm hV
                  go_wp2
                  go_roundw
                  case rel => exact ⟨m + 1, by omega, by go_num, hb2⟩
                  case measure => simp [intOf]; omega
            · obtain rfl : m = 3 := by omega
              obtain ⟨wb, rfl⟩ : ∃ wb : World, wb = wr := ⟨_, rfl⟩
              have t4 := Q4.out.below hb1 l4'
              have t9 := Q9.out.below hb1 l9'
              have hwb := hb1.size
              have hla : w4.heap.size ≤ wa.heap.size := by omega
              have hsA : ∀ i, i < 3 → s * A i ≤ 65535 := fun i hi => by
                have : s * A i ≤ s * (K - 1) := Nat.mul_le_mul_left s (by have := HAle.out i hi; omega)
                omega
              obtain ⟨D, hD⟩ : ∃ D : Nat → Int, D = fun i => ((s * A i : Nat) : Int) := ⟨_, rfl⟩
              have HD := Lib.hid hD
              have e0 : (s : Int) * (A 0 : Int) = D 0 := by rw [hD]; simp
              have e1 : (s : Int) * (A 1 : Int) = D 1 := by rw [hD]; simp
              have e2 : (s : Int) * (A 2 : Int) = D 2 := by rw [hD]; simp
              have d0 : 0 ≤ D 0 ∧ D 0 ≤ 65535 := by have := hsA 0 (by omega); rw [hD]; show 0 ≤ ((s * A 0 : Nat) : Int) ∧ ((s * A 0 : Nat) : Int) ≤ 65535; omega
              have d1 : 0 ≤ D 1 ∧ D 1 ≤ 65535 := by have := hsA 1 (by omega); rw [hD]; show 0 ≤ ((s * A 1 : Nat) : Int) ∧ ((s * A 1 : Nat) : Int) ≤ 65535; omega
              have d2 : 0 ≤ D 2 ∧ D 2 ≤ 65535 := by have := hsA 2 (by omega); rw [hD]; show 0 ≤ ((s * A 2 : Nat) : Int) ∧ ((s * A 2 : Nat) : Int) ≤ 65535; omega
              have kl := Lib.hid (Look_yes (c := D) (w := wb) (Nat.le_trans hla hwb) ((RC.out.below hb l46).below hb1 hla) HG.out)
              have E2 : Hid (eqB (lkV K g D) (g (ixN K A)) = true) := Lib.hid (eqB_t fun i hi => lkV_exact hK hsK HAle.out (fun i _ => by rw [HD.out]))
              have z0 := t9.c0
              have z1 := t9.c1
              have c0 := t4.c0
              have c1 := t4.c1
              have c2 := t4.c2
              have P4 := Lib.hid t4
              have P9 := Lib.hid t9
              unfold col at kl
              clear t4 t9 hsA hD
              go_wp2_with fail
              refine kl.out.mono ?_
              rintro e w9 ⟨rfl, hb9⟩
              obtain ⟨Z, hZ⟩ : ∃ Z, lkV K g D = Z := ⟨_, rfl⟩
              rw [hZ] at E2 ⊢
              obtain ⟨w10, h10⟩ : ∃ w10, w9.alloc (.cells #[.int .i64 (Z 0), .int .i64 (Z 1), .int .i64 (Z 2)] 28) = w10 := ⟨_, rfl⟩
              have t5 : Tri 28 w10 w9.heap.size Z := by rw [← h10]; exact Tri.new w9 Z _
              have hb10 : Below w9.heap.size w9 w10 := by rw [← h10]; exact (Below.refl _ _).alloc (Nat.le_refl _) _
              have hbz : Below wb.heap.size wb w10 := hb9.trans (hb10.mono hb9.size)
              have hbw := hb1.trans (hbz.mono hwb)
              have hqz := hqa.trans (hbw.mono hqw)
              have t4 := P4.out.on hbz
              have t9 := P9.out.on hbz
              have hr : ixN K A < j := by rw [HM.out]; exact ixN_lt (fun i hi => by have := HAle.out i hi; omega) (by omega)
              have hcell := (QC.out.below hbw hgb') (ixN K A) hr
              have s0 := hcell 0 (by omega)
              have s1 := hcell 1 (by omega)
              have s2 := hcell 2 (by omega)
              rw [Nat.zero_add] at s0 s1 s2
              rw [Nat.add_zero] at s0
              obtain ⟨p1, p2⟩ := mul_bd (a := (A 0 : Int)) (A := 5) (b := (K : Int)) (B := 6) (by omega) (by omega) (by omega) (by omega)
              obtain ⟨p3, p4⟩ := mul_bd (a := (A 0 : Int) * (K : Int) + (A 1 : Int)) (A := 50) (b := (K : Int)) (B := 6) (by omega) (by omega) (by omega) (by omega)
              have eix : ((A 0 : Int) * (K : Int) + (A 1 : Int)) * (K : Int) + (A 2 : Int) = ((ixN K A : Nat) : Int) := by unfold ixN; simp
              generalize ixN K A = r at hr s0 s1 s2 eix E2
              have i1 : 0 ≤ (r : Int) ∧ (r : Int) < j := by omega
              have qe : ∀ w, (binOp .eql 28 (.agg #[.int .i64 (Z 0), .int .i64 (Z 1), .int .i64 (Z 2)]) (.agg #[.int .i64 (g r 0), .int .i64 (g r 1), .int .i64 (g r 2)])).run Try.prog w = .ok (.bool true) w := fun w => by
                have := eql_col Z (g r) w
                rw [E2.out] at this
                exact this
              clear c0 c1 c2 z0 z1 hb9 hb10 hbz hcell e0 e1 e2 hr
              have c0 := t4.c0
              have c1 := t4.c1
              have c2 := t4.c2
              have z1 := t9.c1
              have u0 := t5.c0
              have u1 := t5.c1
              have u2 := t5.c2
              clear t4 t5 t9 hZ
              go_wp2
              clear h10
              go_quiet (fail)
              go_wp2
              go_ret
              exact ⟨rfl, below_drewN hqz _⟩

end Go.Proofs.Ytmilljlkcbljpaa
