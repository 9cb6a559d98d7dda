/- The statement ColourLooks, walked. -/
import Derived.Test.YtmilljlkcbljpaaGq
import Derived.Test.YtmilljlkcbljpaaBw
namespace Go.Proofs.Ytmilljlkcbljpaa
open Go.RowKit Go.Sort

/-- Look and its reference answer alike. -/
theorem looks_both (K n : Nat) (g : Nat → Nat → Int) : ∃ (lv : (Nat → Int) → Nat → Int) (E : Int), ∀ {v : Value} {B : Nat} {c : Nat → Int} {w : World}, K ≤ 1000000 → B ≤ w.heap.size → Cls w B v n g →
    (Calls Try.prog 22 #[.agg #[.int .i64 K, v], col c] w fun e w' => e = .returned (.tuple #[col (lv c), .int .i64 E]) ∧ Below w.heap.size w w') ∧
    Calls Try.prog 24 #[.agg #[.int .i64 K, v], col c] w fun e w' => e = .returned (.agg (gotC (lv c) E)) ∧ Below w.heap.size w w' := by
  by_cases h : GrV K n g
  · exact ⟨fun c => lkV K g c, 0, fun _ hB hv => ⟨Look_yes hB hv h, refLook_yes hB hv h⟩⟩
  · exact ⟨fun _ _ => 0, 1, fun hN hB hv => ⟨Look_no hN hB hv h, refLook_no hN hB hv h⟩⟩

theorem Gotb.cells {w : World} {b : Nat} {c : Nat → Int} {e : Int} (h : Gotb w b c e) : w.cell? ⟨b, 0, none⟩ = some (.int .i64 (c 0)) ∧ w.cell? ⟨b, 1, none⟩ = some (.int .i64 (c 1)) ∧ w.cell? ⟨b, 2, none⟩ = some (.int .i64 (c 2)) ∧ w.cell? ⟨b, 10, none⟩ = some (.int .i64 e) := by
  have h' : w.heap[b]? = _ := h
  simp [World.cell?, h', gotC]
theorem Gotb.new (w : World) : Gotb (w.alloc (.cells #[.int .i64 0, .int .i64 0, .int .i64 0, .int .i64 0, .slice none 0 0, .int .i64 0, .int .u8 0, .int .u8 0, .int .u8 0, .int .u8 0, .int .i64 0] 36)) w.heap.size (fun _ => 0) 0 := heap_alloc_new w _

theorem vals3_any (g : Nat → Nat → Int) (k : Nat) (x y z : Int) : ∃ g', vals3 g' (k + 1) = vals3 g k ++ [.int .i64 x, .int .i64 y, .int .i64 z] := by
  refine ⟨fun j => if j = k then c3 x y z else g j, ?_⟩
  rw [vals3_snoc]
  have h1 : vals3 (fun j => if j = k then c3 x y z else g j) k = vals3 g k := vals3_congr k fun j hj => if_neg (by omega)
  rw [h1]
  simp only [if_true]
  rfl

theorem looksB_new (w : World) (x y : Int) (c : Nat → Int) (tp t : TypeId) : ∃ w0, (w.alloc (.cells #[.int .i64 x, .int .i64 y] tp)).alloc (.cells #[.int .i64 (c 0), .int .i64 (c 1), .int .i64 (c 2)] t) = w0 ∧
    Below w.heap.size w w0 ∧ w0.heap.size = w.heap.size + 2 ∧ Two tp w0 w.heap.size (.int .i64 x) (.int .i64 y) ∧ Tri t w0 (w.heap.size + 1) c := by
  refine ⟨_, rfl, ((Below.refl _ w).alloc (Nat.le_refl _) _).alloc (by simp) _, by simp, (Two.new w _ _ tp).alloc _, ?_⟩
  have h := Tri.new (w.alloc (.cells #[.int .i64 x, .int .i64 y] tp)) c t
  simp only [World.size_alloc] at h
  exact h

theorem rest_two (x : Int) : ∃ D : Int, 0 ≤ D ∧ D ≤ 1 ∧ ∀ w, Calls Try.prog 15 #[.int .i64 x, .int .i64 (2 : Nat)] w fun e w' => e = .returned (.int .i64 D) ∧ Drawn w w' := by
  refine ⟨(x.tmod (2 : Nat) + (2 : Nat)) % (2 : Nat), by omega, by omega, fun w => (rest_any (n := 2) (by omega) (by omega)).mono ?_⟩
  rintro e w' ⟨⟨k, _, hk, rfl⟩, rfl⟩
  exact ⟨by rw [hk], .refl _⟩

set_option maxRecDepth 100000 in
set_option maxHeartbeats 8000000 in
theorem colourLooks_walk {a0 a1 : Int} {v : Value} {n : Nat} {f c : Nat → Int} {w : World} (hn : n ≤ 9223372036854775807) (hs : Sl w w.heap.size v n f) (hfb : ∀ k, k < n → -9223372036854775808 ≤ f k ∧ f k ≤ 9223372036854775807) :
    Calls Try.prog 6 #[.agg #[.int .i64 a0, .int .i64 a1], v, col c] w fun e w' => e = .returned (.bool true) ∧ Below w.heap.size w w' := by
  obtain ⟨w0, h0, hb0, hz, t0, t1⟩ := looksB_new w a0 a1 c 51 28
  obtain ⟨i0, hi, hz0, hz1, hz2⟩ := info_parts Try.info3
  have T0 := Lib.hid t0
  have T1 := Lib.hid t1
  have HS := Lib.hid hs
  have HF := Lib.hid hfb
  have Z := Lib.hid hz
  have am := and_ffff
  obtain ⟨D, hD0, hD1, hR⟩ := rest_two a1
  have HR := Lib.hid hR
  clear t0 t1 hs hz hfb hR
  unfold col
  go_enter Try.func6, Try.ntmps6
  go_wp2_with fail
  refine (sanity_any w0).mono ?_
  rintro e w1 ⟨rfl, hb1⟩
  have hq1 := hb0.trans (hb1.mono hb0.size)
  have hz1' : w.heap.size + 2 ≤ w1.heap.size := by have := Z.out; have := hb1.size; omega
  have t0 := T0.out.on hb1
  have T1' := Lib.hid (T1.out.on hb1)
  have x0 := t0.c0
  have x1 := t0.c1
  clear h0 hb1 t0
  go_wp2_with fail
  refine (rest_any (n := 6) (by omega) (by omega)).mono ?_
  rintro e w1' ⟨⟨K, hK6, hke, rfl⟩, rfl⟩
  clear hke x0 x1
  obtain ⟨M, hM⟩ : ∃ M, M = K * K * K := ⟨_, rfl⟩
  have hM125 : M ≤ 125 := by
    rw [hM]
    have h1 : K * K ≤ 5 * 5 := Nat.mul_le_mul (by omega) (by omega)
    have h2 : K * K * K ≤ 5 * 5 * 5 := Nat.mul_le_mul h1 (by omega)
    omega
  have n1 : (K : Int) * (K : Int) * (K : Int) = (M : Int) := by rw [hM]; simp
  have n2 : 0 ≤ (K : Int) * (K : Int) ∧ (K : Int) * (K : Int) ≤ 25 := by
    have h1 : K * K ≤ 5 * 5 := Nat.mul_le_mul (by omega) (by omega)
    have : (K : Int) * (K : Int) = ((K * K : Nat) : Int) := by simp
    omega
  obtain ⟨m, hm⟩ : ∃ m : Nat, m = ((M : Int) - D).toNat := ⟨_, rfl⟩
  have hm125 : m ≤ 125 := by omega
  have hmd : ∀ j : Nat, ((j : Int) < (M : Int) - D ↔ j < m) := fun j => by omega
  have HMD := Lib.hid hmd
  obtain ⟨w2, h2⟩ : ∃ w2, w1.alloc (.cells #[.int .i64 (K : Int), .slice none 0 0] 31) = w2 := ⟨_, rfl⟩
  have hb2 : Below w1.heap.size w1 w2 := by rw [← h2]; exact (Below.refl _ _).alloc (Nat.le_refl _) _
  have t9 : Two 31 w2 w1.heap.size (.int .i64 (K : Int)) (.slice none 0 0) := by rw [← h2]; exact Two.new _ _ _ _
  have hq2 := hq1.trans (hb2.mono hq1.size)
  have x0 := t9.c1
  have y0 := t9.free 1
  obtain ⟨w3, h3⟩ : ∃ w3, w2.setCell ⟨w1.heap.size, 1, none⟩ (.slice none 0 0) = w3 := ⟨_, rfl⟩
  have U9 : Hid (Two 31 w3 w1.heap.size (.int .i64 (K : Int)) (.slice none 0 0)) := Lib.hid (by rw [← h3]; exact t9.set1 _)
  have U1 : Hid (Tri 28 w3 (w.heap.size + 1) c) := Lib.hid (by rw [← h3]; exact (T1'.out.on hb2).keep (by omega))
  have hq3 : Below w.heap.size w w3 := by rw [← h3]; exact hq2.setCell (by have := hq1.size; simpa using this) _
  clear hM t9 hb2 hq2 hm hmd
  go_wp2
  clear h2 h3 x0 y0
  go_loopw [11] (fun i wr => ∃ (j : Nat) (g : Nat → Nat → Int) (x : Value), j ≤ m ∧ i = .int .i64 j ∧ Tri 28 wr (w.heap.size + 1) c ∧ Two 31 wr w1.heap.size (.int .i64 (K : Int)) x ∧ wr.ownsRow (w1.heap.size + 1) 28 3 x j (vals3 g j) ∧ Below w.heap.size w wr) (fun i _ => m - (intOf i).toNat)
  case atStart => exact ⟨0, fun _ _ => 0, _, by omega, rfl, U1.out, U9.out, World.ownsRow_nil _ _ _ _, hq3⟩
  case round =>
    obtain ⟨j, g, x, hj, rfl, t1, t9, hown, hq⟩ := hrel
    have c90 := t9.c0
    have c91 := t9.c1
    have hl9 := t9.lt
    have P1 := Lib.hid t1
    have P9 := Lib.hid t9
    have HO := Lib.hid hown
    have hsl := Lib.hid (HS.out.below hq (Nat.le_refl _))
    clear t1 t9 hown
    by_cases hlt : j < m
    · have dl : decide ((j : Int) < (M : Int) - D) = true := decide_eq_true ((HMD.out j).2 hlt)
      go_wp2
      go_quiet ((go_at_call 15; exact Calls.quiet_of (HR.out _)))
      clear c90 c91
      have Bd : Below wr.heap.size wr (wr.drewN nq) := (Drawn.of _).below _
      have P1 := Lib.hid (P1.out.on Bd)
      have P9 := Lib.hid (P9.out.on Bd)
      have HO := Lib.hid (own_below HO.out Bd)
      have hsl := Lib.hid (HS.out.below (hq.trans (Bd.mono hq.size)) (Nat.le_refl _))
      have hq := hq.trans (Bd.mono hq.size)
      have hl9 := P9.out.lt
      clear Bd
      generalize wr.drewN nq = wd at P1 P9 HO hsl hq hl9 ⊢
      obtain ⟨A1, A9, AO, hqd⟩ := And.intro P1 (And.intro P9 (And.intro HO hq))
      clear P1 P9 HO hsl hq
      obtain ⟨w5, h5⟩ : ∃ w5, wd.alloc (.cells #[.int .i64 (257 * (j : Int)), .int .i64 (65535 - 400 * (j : Int)), .int .i64 30000] 28) = w5 := ⟨_, rfl⟩
      have tv : Tri 28 w5 wd.heap.size (c3 (257 * (j : Int)) (65535 - 400 * (j : Int)) 30000) := by rw [← h5]; exact Tri.new wd (c3 (257 * (j : Int)) (65535 - 400 * (j : Int)) 30000) _
      have hb5 : Below wd.heap.size wd w5 := by rw [← h5]; exact (Below.refl _ _).alloc (Nat.le_refl _) _
      have TV := Lib.hid tv
      have hq5 := hqd.trans (hb5.mono hqd.size)
      by_cases hjn : j < n
      · obtain ⟨b', off', cap, rfl, hbw, hcl⟩ := HS.out.at (by omega)
        have HCQ : Hid (∀ W, Below w.heap.size w W → W.cell? ⟨b', off' + j, none⟩ = some (.int .i64 (f j))) := Lib.hid (fun W h => (h.cell (p := ⟨b', off' + j, none⟩) hbw).trans (hcl j hjn))
        have hV := HF.out j hjn
        have di : decide ((j : Int) < (n : Int)) = true := decide_eq_true (by omega)
        have i1 : 0 ≤ (j : Int) ∧ (j : Int) < n := by omega
        obtain ⟨V, hVe⟩ : ∃ V, f j = V := ⟨_, rfl⟩
        rw [hVe] at hV HCQ
        have eq := cell_regrown (HCQ.out w5 hq5)
        clear tv hcl hVe
        go_wp2
        clear h5
        refine region_below_tail 18 (by kernel_rfl) (by kernel_rfl) ?_
        simp only [List.take_succ_cons, List.take_zero, List.drop_succ_cons, List.drop_zero]
        repeat (go_big_quiet_step (fail))
        refine wpQuiet_nil ?_
        intro w6' hw6
        replace hw6 := below_of_regrown hw6
        have tv := TV.out.on hw6
        have v0 := tv.c0
        have v1 := tv.c1
        have v2 := tv.c2
        have y0 := tv.free 0
        have y1 := tv.free 1
        have y2 := tv.free 2
        obtain ⟨w7, h7⟩ : ∃ w7, ((w6'.setCell ⟨wd.heap.size, 0, none⟩ (.int .i64 (V % 65536))).setCell ⟨wd.heap.size, 1, none⟩ (.int .i64 (V.tdiv 3 % 65536))).setCell ⟨wd.heap.size, 2, none⟩ (.int .i64 (V.tdiv 7 % 65536)) = w7 := ⟨_, rfl⟩
        have tw : Tri 28 w7 wd.heap.size (c3 (V % 65536) (V.tdiv 3 % 65536) (V.tdiv 7 % 65536)) := by rw [← h7]; exact tv.set3 (c3 (V % 65536) (V.tdiv 3 % 65536) (V.tdiv 7 % 65536))
        have lvb := tv.lt
        have hk7 : Below wd.heap.size wd w7 := by rw [← h7]; exact set3_below (hb5.trans (hw6.mono hb5.size)) (Nat.le_refl _) _ _ _
        have hq7 := hqd.trans (hk7.mono hqd.size)
        have cq := HCQ.out w7 hq7
        have u0 : w7.cell? ⟨wd.heap.size, 0, none⟩ = some (.int .i64 (V % 65536)) := tw.c0
        have u1 : w7.cell? ⟨wd.heap.size, 1, none⟩ = some (.int .i64 (V.tdiv 3 % 65536)) := tw.c1
        have u2 : w7.cell? ⟨wd.heap.size, 2, none⟩ = some (.int .i64 (V.tdiv 7 % 65536)) := tw.c2
        have f0 := tw.free 0
        have hwd7 : wd.heap.size < w7.heap.size := tw.lt
        have TW := Lib.hid tw
        clear eq tv tw
        by_cases h97 : V.tmod 97 = 1
        · have d97 : (V.tmod 97 == 1) = true := by simp [h97]
          obtain ⟨w8, h8⟩ : ∃ w8, w7.setCell ⟨wd.heap.size, 0, none⟩ (.int .i64 V) = w8 := ⟨_, rfl⟩
          have hk8 : Below wd.heap.size wd w8 := by rw [← h8]; exact hk7.setCell (p := ⟨wd.heap.size, 0, none⟩) (Nat.le_refl _) _
          have t8 : Tri 28 w8 wd.heap.size (c3 V (V.tdiv 3 % 65536) (V.tdiv 7 % 65536)) := by
            rw [← h8]
            exact TW.out.set (j := 0) (by omega) rfl (fun i hi => by unfold c3; rw [if_neg hi, if_neg hi])
          have s0 : w8.cell? ⟨wd.heap.size, 0, none⟩ = some (.int .i64 V) := t8.c0
          have s1 : w8.cell? ⟨wd.heap.size, 1, none⟩ = some (.int .i64 (V.tdiv 3 % 65536)) := t8.c1
          have s2 : w8.cell? ⟨wd.heap.size, 2, none⟩ = some (.int .i64 (V.tdiv 7 % 65536)) := t8.c2
          have P1 := Lib.hid (A1.out.on hk8)
          have P9 := Lib.hid (A9.out.on hk8)
          have HO := Lib.hid (own_below AO.out hk8)
          have hq := hqd.trans (hk8.mono hqd.size)
          have hl9' := P9.out.lt
          have c9 := P9.out.c1
          clear t8 h97
          obtain ⟨g', hg'⟩ := vals3_any g j (V) (V.tdiv 3 % 65536) (V.tdiv 7 % 65536)
          have HG' := Lib.hid hg'
          clear hg'
          have Q1 := Lib.hid (P1.out.alloc (.cells #[.int .i64 (V), .int .i64 (V.tdiv 3 % 65536), .int .i64 (V.tdiv 7 % 65536)] 28))
          have Q9 := Lib.hid (P9.out.alloc (.cells #[.int .i64 (V), .int .i64 (V.tdiv 3 % 65536), .int .i64 (V.tdiv 7 % 65536)] 28))
          have lP := P1.out.lt
          go_wp2_with (at_builtin; refine wpList_append_own _ rfl _ _ 29 rfl (w1.heap.size + 1) 28 i0 (.agg #[.int .i64 0, .int .i64 0, .int .i64 0]) 3 24 Try.underlying29 hi hz0 hz1 hz2 rfl (by decide) _ j (vals3 g j) rfl (HO.out.alloc _) ⟨w8.heap.size, 0, none⟩ 1 1 [.int .i64 (V), .int .i64 (V.tdiv 3 % 65536), .int .i64 (V.tdiv 7 % 65536)] rfl rfl (cells_new3 _ _ _ _ _) (by simp [Value.oneCell']) (by unfold maxLen; omega) (by omega) (by simp; omega) ?_; intro x' w6 hown' hgrow _; obtain ⟨gb, cap', rfl⟩ := own_succ hown'; have hB6 := (Below.refl (w1.heap.size + 1) _).grown hgrow (by simp; omega) (fun j hj => (HO.out.lt j hj).1); have R1 := Lib.hid (Q1.out.below hB6 (by omega)); have r3 := Q9.out.below hB6 (by omega); have c1' := r3.c1; have f1' := r3.free 1; have R3 := Lib.hid r3; have HO3 := Lib.hid hown'; clear r3 hown' hgrow)
          have hq6 := (hq.alloc hq.size (.cells #[.int .i64 (V), .int .i64 (V.tdiv 3 % 65536), .int .i64 (V.tdiv 7 % 65536)] 28)).trans (below_le hB6 (by omega))
          go_roundw
          case rel => exact ⟨j + 1, g', _, by omega, by go_num, R1.out.keep (by omega), R3.out.set1 _, by rw [HG'.out]; exact own_keep HO3.out (by omega), hq6.setCell (by simp; omega) _⟩
          case measure => simp [intOf]; omega
        · have d97 : (V.tmod 97 == 1) = false := by simp [h97]
          have P1 := Lib.hid (A1.out.on hk7)
          have P9 := Lib.hid (A9.out.on hk7)
          have HO := Lib.hid (own_below AO.out hk7)
          have hq := hqd.trans (hk7.mono hqd.size)
          have hl9' := P9.out.lt
          have c9 := P9.out.c1
          clear h97
          obtain ⟨g', hg'⟩ := vals3_any g j (V % 65536) (V.tdiv 3 % 65536) (V.tdiv 7 % 65536)
          have HG' := Lib.hid hg'
          clear hg'
          have Q1 := Lib.hid (P1.out.alloc (.cells #[.int .i64 (V % 65536), .int .i64 (V.tdiv 3 % 65536), .int .i64 (V.tdiv 7 % 65536)] 28))
          have Q9 := Lib.hid (P9.out.alloc (.cells #[.int .i64 (V % 65536), .int .i64 (V.tdiv 3 % 65536), .int .i64 (V.tdiv 7 % 65536)] 28))
          have lP := P1.out.lt
          go_wp2_with (at_builtin; refine wpList_append_own _ rfl _ _ 29 rfl (w1.heap.size + 1) 28 i0 (.agg #[.int .i64 0, .int .i64 0, .int .i64 0]) 3 24 Try.underlying29 hi hz0 hz1 hz2 rfl (by decide) _ j (vals3 g j) rfl (HO.out.alloc _) ⟨w7.heap.size, 0, none⟩ 1 1 [.int .i64 (V % 65536), .int .i64 (V.tdiv 3 % 65536), .int .i64 (V.tdiv 7 % 65536)] rfl rfl (cells_new3 _ _ _ _ _) (by simp [Value.oneCell']) (by unfold maxLen; omega) (by omega) (by simp; omega) ?_; intro x' w6 hown' hgrow _; obtain ⟨gb, cap', rfl⟩ := own_succ hown'; have hB6 := (Below.refl (w1.heap.size + 1) _).grown hgrow (by simp; omega) (fun j hj => (HO.out.lt j hj).1); have R1 := Lib.hid (Q1.out.below hB6 (by omega)); have r3 := Q9.out.below hB6 (by omega); have c1' := r3.c1; have f1' := r3.free 1; have R3 := Lib.hid r3; have HO3 := Lib.hid hown'; clear r3 hown' hgrow)
          have hq6 := (hq.alloc hq.size (.cells #[.int .i64 (V % 65536), .int .i64 (V.tdiv 3 % 65536), .int .i64 (V.tdiv 7 % 65536)] 28)).trans (below_le hB6 (by omega))
          go_roundw
          case rel => exact ⟨j + 1, g', _, by omega, by go_num, R1.out.keep (by omega), R3.out.set1 _, by rw [HG'.out]; exact own_keep HO3.out (by omega), hq6.setCell (by simp; omega) _⟩
          case measure => simp [intOf]; omega
      · obtain ⟨a', cap, rfl⟩ := HS.out.shape
        have di : decide ((j : Int) < (n : Int)) = false := decide_eq_false (by omega)
        have v0 : w5.cell? ⟨wd.heap.size, 0, none⟩ = some (.int .i64 (257 * (j : Int))) := tv.c0
        have v1 : w5.cell? ⟨wd.heap.size, 1, none⟩ = some (.int .i64 (65535 - 400 * (j : Int))) := tv.c1
        have v2 : w5.cell? ⟨wd.heap.size, 2, none⟩ = some (.int .i64 30000) := tv.c2
        have P1 := Lib.hid (A1.out.on hb5)
        have P9 := Lib.hid (A9.out.on hb5)
        have HO := Lib.hid (own_below AO.out hb5)
        have hq := hqd.trans (hb5.mono hqd.size)
        have hl9' := P9.out.lt
        have c9 := P9.out.c1
        clear tv
        obtain ⟨g', hg'⟩ := vals3_any g j (257 * (j : Int)) (65535 - 400 * (j : Int)) (30000)
        have HG' := Lib.hid hg'
        clear hg'
        have Q1 := Lib.hid (P1.out.alloc (.cells #[.int .i64 (257 * (j : Int)), .int .i64 (65535 - 400 * (j : Int)), .int .i64 (30000)] 28))
        have Q9 := Lib.hid (P9.out.alloc (.cells #[.int .i64 (257 * (j : Int)), .int .i64 (65535 - 400 * (j : Int)), .int .i64 (30000)] 28))
        have lP := P1.out.lt
        go_wp2_with (at_builtin; refine wpList_append_own _ rfl _ _ 29 rfl (w1.heap.size + 1) 28 i0 (.agg #[.int .i64 0, .int .i64 0, .int .i64 0]) 3 24 Try.underlying29 hi hz0 hz1 hz2 rfl (by decide) _ j (vals3 g j) rfl (HO.out.alloc _) ⟨w5.heap.size, 0, none⟩ 1 1 [.int .i64 (257 * (j : Int)), .int .i64 (65535 - 400 * (j : Int)), .int .i64 (30000)] rfl rfl (cells_new3 _ _ _ _ _) (by simp [Value.oneCell']) (by unfold maxLen; omega) (by omega) (by simp; omega) ?_; intro x' w6 hown' hgrow _; obtain ⟨gb, cap', rfl⟩ := own_succ hown'; have hB6 := (Below.refl (w1.heap.size + 1) _).grown hgrow (by simp; omega) (fun j hj => (HO.out.lt j hj).1); have R1 := Lib.hid (Q1.out.below hB6 (by omega)); have r3 := Q9.out.below hB6 (by omega); have c1' := r3.c1; have f1' := r3.free 1; have R3 := Lib.hid r3; have HO3 := Lib.hid hown'; clear r3 hown' hgrow)
        have hq6 := (hq.alloc hq.size (.cells #[.int .i64 (257 * (j : Int)), .int .i64 (65535 - 400 * (j : Int)), .int .i64 (30000)] 28)).trans (below_le hB6 (by omega))
        go_roundw
        case rel => exact ⟨j + 1, g', _, by omega, by go_num, R1.out.keep (by omega), R3.out.set1 _, by rw [HG'.out]; exact own_keep HO3.out (by omega), hq6.setCell (by simp; omega) _⟩
        case measure => simp [intOf]; omega
    · obtain rfl : j = m := by omega
      have dl : decide ((j : Int) < (M : Int) - D) = false := decide_eq_false (fun h => hlt ((HMD.out j).1 h))
      go_wp2
      go_quiet ((go_at_call 15; exact Calls.quiet_of (HR.out _)))
      clear c90 c91
      have Bd : Below wr.heap.size wr (wr.drewN nq) := (Drawn.of _).below _
      have B1 := Lib.hid (P1.out.on Bd)
      have B9 := Lib.hid (P9.out.on Bd)
      have BO := Lib.hid (Cls.of_own (own_below HO.out Bd) (Nat.le_refl _))
      have hqd := hq.trans (Bd.mono hq.size)
      clear Bd hsl HO P1 P9 hq
      generalize wr.drewN nq = wd at B1 B9 BO hqd ⊢
      obtain ⟨a', cap, rfl⟩ := BO.out.shape
      obtain ⟨lv, E, hLB⟩ := looks_both K j g
      have HLB := Lib.hid (fun (c : Nat → Int) (w : World) (h : Cls w w.heap.size (.slice a' j cap) j g) => hLB (c := c) (w := w) (by omega) (Nat.le_refl _) h)
      clear hLB
      -- Look
      have kl := Lib.hid (HLB.out c wd BO.out).1
      have d0 := B1.out.c0
      have d1 := B1.out.c1
      have d2 := B1.out.c2
      have z0 := B9.out.c0
      have z1 := B9.out.c1
      obtain ⟨Y, hY⟩ : ∃ Y, lv c = Y := ⟨_, rfl⟩
      rw [hY] at kl
      unfold col at kl
      go_wp2_with fail
      refine kl.out.mono ?_
      rintro e w4 ⟨rfl, hb4⟩
      obtain ⟨w5, h5⟩ : ∃ w5, w4.alloc (.cells #[.int .i64 (Y 0), .int .i64 (Y 1), .int .i64 (Y 2)] 28) = w5 := ⟨_, rfl⟩
      have ta : Tri 28 w5 w4.heap.size Y := by rw [← h5]; exact Tri.new w4 Y _
      have hb5 : Below w4.heap.size w4 w5 := by rw [← h5]; exact (Below.refl _ _).alloc (Nat.le_refl _) _
      have hbd5 := hb4.trans (hb5.mono hb4.size)
      have C1 := Lib.hid (B1.out.on hbd5)
      have C9 := Lib.hid (B9.out.on hbd5)
      have CO := Lib.hid (BO.out.on hbd5)
      have CA := Lib.hid ta
      have hq5 := hqd.trans (hbd5.mono hqd.size)
      clear ta hb4 hb5 hbd5 d0 d1 d2 z0 z1 B1 B9 BO hqd kl
      have kr := Lib.hid (HLB.out c w5 CO.out).2
      rw [hY] at kr
      unfold col at kr
      have d0 := C1.out.c0
      have d1 := C1.out.c1
      have d2 := C1.out.c2
      have z0 := C9.out.c0
      have z1 := C9.out.c1
      go_wp2_with fail
      clear h5
      refine kr.out.mono ?_
      rintro e w6 ⟨rfl, hb6⟩
      obtain ⟨w7, h7⟩ : ∃ w7, w6.alloc (.cells #[.int .i64 0, .int .i64 0, .int .i64 0, .int .i64 0, .slice none 0 0, .int .i64 0, .int .u8 0, .int .u8 0, .int .u8 0, .int .u8 0, .int .i64 0] 36) = w7 := ⟨_, rfl⟩
      have TG : Hid (Gotb w7 w6.heap.size (fun _ => 0) 0) := Lib.hid (by rw [← h7]; exact Gotb.new w6)
      have hb7 : Below w6.heap.size w6 w7 := by rw [← h7]; exact (Below.refl _ _).alloc (Nat.le_refl _) _
      clear d0 d1 d2 z0 z1
      obtain ⟨F, hF⟩ : ∃ F : Nat → Int, F = fun i => c i % 65536 := ⟨_, rfl⟩
      have e0 : c 0 % 65536 = F 0 := by rw [hF]
      have e1 : c 1 % 65536 = F 1 := by rw [hF]
      have e2 : c 2 % 65536 = F 2 := by rw [hF]
      clear hF
      go_wp2_with (refine list_store (cs := gotC Y E) rfl 36 (.tmp 15) (.tmp 96) (by rfl) (by rfl) (by rfl) TG.out info_got rfl (got_one _ _) ?_; intro w8 h8 hx; have h8' : Hid (Gotb w8 w6.heap.size Y E) := Lib.hid h8; clear h8 h7; have hb68 := Exc.below (hb6.trans (hb7.mono hb6.size)) hx hb6.size (Nat.le_trans hb6.size hb7.size); have D1 := Lib.hid (C1.out.on hb68); have d0 := D1.out.c0; have d1 := D1.out.c1; have d2 := D1.out.c2; obtain ⟨w9, h9⟩ : ∃ w9, w8.alloc (.cells #[.int .i64 (F 0), .int .i64 (F 1), .int .i64 (F 2)] 28) = w9 := ⟨_, rfl⟩; have tf : Tri 28 w9 w8.heap.size F := (by rw [← h9]; exact Tri.new w8 F _); have hb9 : Below w8.heap.size w8 w9 := (by rw [← h9]; exact (Below.refl _ _).alloc (Nat.le_refl _) _); have hb59 := hb68.trans (hb9.mono hb68.size); have D9 := Lib.hid (C9.out.on hb59); have DO := Lib.hid (CO.out.on hb59); have DA := Lib.hid (CA.out.on hb59); have DG := Lib.hid (h8'.out.on hb9); have DF := Lib.hid tf; have z0 := D9.out.c0; have z1 := D9.out.c1; have t0 := tf.c0; have t1 := tf.c1; have t2 := tf.c2; have hq9 := hq5.trans (hb59.mono hq5.size); clear tf hb59 hb9 hb68 hx)
      clear e0 e1 e2 d0 d1 d2 h9
      have kl := Lib.hid (HLB.out F w9 DO.out).1
      obtain ⟨X, hX⟩ : ∃ X, lv F = X := ⟨_, rfl⟩
      rw [hX] at kl
      unfold col at kl
      refine kl.out.mono ?_
      rintro e w10 ⟨rfl, hb10⟩
      obtain ⟨w11, h11⟩ : ∃ w11, w10.alloc (.cells #[.int .i64 (X 0), .int .i64 (X 1), .int .i64 (X 2)] 28) = w11 := ⟨_, rfl⟩
      have tb : Tri 28 w11 w10.heap.size X := by rw [← h11]; exact Tri.new w10 X _
      have hb11 : Below w10.heap.size w10 w11 := by rw [← h11]; exact (Below.refl _ _).alloc (Nat.le_refl _) _
      have hbn := hb10.trans (hb11.mono hb10.size)
      have E9 := Lib.hid (D9.out.on hbn)
      have EO := Lib.hid (DO.out.on hbn)
      have EA := Lib.hid (DA.out.on hbn)
      have EG := Lib.hid (DG.out.on hbn)
      have EF := Lib.hid (DF.out.on hbn)
      have EB := Lib.hid tb
      have hq11 := hq9.trans (hbn.mono hq9.size)
      clear t0 t1 t2 z0 z1 kl kr tb hbn hb10 hb11 D1 D9 DO DA DG DF
      have kr := Lib.hid (HLB.out F w11 EO.out).2
      rw [hX] at kr
      unfold col at kr
      have t0 := EF.out.c0
      have t1 := EF.out.c1
      have t2 := EF.out.c2
      have z0 := E9.out.c0
      have z1 := E9.out.c1
      go_wp2_with fail
      clear h11
      refine kr.out.mono ?_
      rintro e w12 ⟨rfl, hb12⟩
      obtain ⟨w13, h13⟩ : ∃ w13, w12.alloc (.cells #[.int .i64 0, .int .i64 0, .int .i64 0, .int .i64 0, .slice none 0 0, .int .i64 0, .int .u8 0, .int .u8 0, .int .u8 0, .int .u8 0, .int .i64 0] 36) = w13 := ⟨_, rfl⟩
      have TG2 : Hid (Gotb w13 w12.heap.size (fun _ => 0) 0) := Lib.hid (by rw [← h13]; exact Gotb.new w12)
      have hb13 : Below w12.heap.size w12 w13 := by rw [← h13]; exact (Below.refl _ _).alloc (Nat.le_refl _) _
      have q1 : ∀ w, (binOp .eql 28 (.agg #[.int .i64 (Y 0), .int .i64 (Y 1), .int .i64 (Y 2)]) (.agg #[.int .i64 (Y 0), .int .i64 (Y 1), .int .i64 (Y 2)])).run Try.prog w = .ok (.bool true) w := fun w => by
        have := eql_col Y Y w
        rw [eqB_t fun _ _ => rfl] at this
        exact this
      have q2 : ∀ w, (binOp .eql 28 (.agg #[.int .i64 (X 0), .int .i64 (X 1), .int .i64 (X 2)]) (.agg #[.int .i64 (X 0), .int .i64 (X 1), .int .i64 (X 2)])).run Try.prog w = .ok (.bool true) w := fun w => by
        have := eql_col X X w
        rw [eqB_t fun _ _ => rfl] at this
        exact this
      clear t0 t1 t2 z0 z1
      go_wp2_with (refine list_store (cs := gotC X E) rfl 36 (.tmp 19) (.tmp 115) (by rfl) (by rfl) (by rfl) TG2.out info_got rfl (got_one _ _) ?_; intro w14 h14 hx; have G2 : Gotb w14 w12.heap.size X E := h14; clear h14 h13; have hbe := Exc.below (hb12.trans (hb13.mono hb12.size)) hx hb12.size (Nat.le_trans hb12.size hb13.size); have ta := EA.out.on hbe; have tb := EB.out.on hbe; have G1 := EG.out.on hbe; have a0' := ta.c0; have a1' := ta.c1; have a2' := ta.c2; have b0' := tb.c0; have b1' := tb.c1; have b2' := tb.c2; obtain ⟨m0, m1, m2, m3⟩ := G1.cells; obtain ⟨o0, o1, o2, o3⟩ := G2.cells; have hqe := hq11.trans (hbe.mono hq11.size); clear ta tb G1 G2 hbe hx)
      go_ret
      exact ⟨rfl, hqe⟩

end Go.Proofs.Ytmilljlkcbljpaa
