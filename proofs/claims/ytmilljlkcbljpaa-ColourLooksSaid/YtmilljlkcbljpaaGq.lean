/- The reference: Grid, look, Look. -/
import Derived.Test.YtmilljlkcbljpaaLo
import Derived.Test.YtmilljlkcbljpaaCh
import Derived.Test.YtmilljlkcbljpaaQs
import Derived.Test.YtmilljlkcbljpaaDv
namespace Go.Proofs.Ytmilljlkcbljpaa
open Go.RowKit Go.Sort

set_option maxRecDepth 100000 in
set_option maxHeartbeats 2000000 in
theorem refGrid_any {N n B : Nat} {v : Value} {g : Nat → Nat → Int} {w : World} (hN : N ≤ 1000000) (hB : B ≤ w.heap.size) (hv : Cls w B v n g) :
    Calls Try.prog 49 #[.agg #[.int .i64 N, v]] w fun e w' => e = .returned (.bool (grB N n g)) ∧ Below w.heap.size w w' := by
  obtain ⟨a, cap, rfl⟩ := hv.shape
  have hb := (Below.refl w.heap.size w).alloc (Nat.le_refl _) (.cells #[.int .i64 (N : Int), .slice a n cap] 31)
  have t1 := Two.new w (.int .i64 (N : Int)) (.slice a n cap) 31
  obtain ⟨w0, h0⟩ : ∃ w0, w.alloc (.cells #[.int .i64 (N : Int), .slice a n cap] 31) = w0 := ⟨_, rfl⟩
  rw [h0] at hb t1
  have T1 := Lib.hid t1
  have c0 := t1.c0
  have c1 := t1.c1
  clear t1
  by_cases h1 : N < 2
  · have d1 : decide ((N : Int) < 2) = true := decide_eq_true (by omega)
    have E := Lib.hid (grB_f (n := n) (g := g) fun h : GrV N n g => by have := h.1; omega)
    clear hv
    go_enter Try.func49, Try.ntmps49
    go_wp2
    go_ret
    exact ⟨ret_bool E.out.symm, hb⟩
  · have d1 : decide ((N : Int) < 2) = false := decide_eq_false (by omega)
    by_cases h2 : 17 < N
    · have d2 : decide (17 < (N : Int)) = true := decide_eq_true (by omega)
      have E := Lib.hid (grB_f (n := n) (g := g) fun h : GrV N n g => by have := h.2.1; omega)
      clear hv
      go_enter Try.func49, Try.ntmps49
      go_wp2
      go_ret
      exact ⟨ret_bool E.out.symm, hb⟩
    · have d2 : decide (17 < (N : Int)) = false := decide_eq_false (by omega)
      obtain ⟨q1, q2, q3, q4⟩ := cube_bd (m := N) (by omega) (by omega)
      obtain ⟨M, hM⟩ : ∃ M, M = N * N * N := ⟨_, rfl⟩
      have n1 : (N : Int) * (N : Int) * (N : Int) = (M : Int) := by rw [hM]; simp
      have n2 : 4 ≤ (N : Int) * (N : Int) ∧ (N : Int) * (N : Int) ≤ 289 := by
        have : (N : Int) * (N : Int) = ((N * N : Nat) : Int) := by simp
        omega
      rw [← hM] at q1 q2
      by_cases h3 : n = M
      · have d3 : ((n : Int) != (M : Int)) = false := by simp [h3]
        obtain ⟨b, off, cap', hs, hbB, hcs⟩ := hv.at (by omega)
        cases hs
        have E := Lib.hid (fun h : ∀ k, k < n → InG (g k) => grB_t (N := N) (n := n) (g := g) ⟨by omega, by omega, by rw [h3, hM], h⟩)
        have E' := Lib.hid (fun (h : ¬ ∀ k, k < n → InG (g k)) => grB_f (N := N) (n := n) (g := g) fun hG => h hG.2.2.2)
        have HC := Lib.hid (hcs.below hb (by omega))
        have hb0 : b < w0.heap.size := by have := hb.size; omega
        have hn' : n ≤ 4913 := by omega
        clear hv hcs hM h3
        go_enter Try.func49, Try.ntmps49
        go_wp2
        clear h0 c0 c1
        go_loopw [3] (fun i wr => ∃ k : Nat, k ≤ n ∧ i = .int .i64 k ∧ Hid (∀ j, j < k → InG (g j)) ∧ Below w0.heap.size w0 wr) (fun i _ => n - (intOf i).toNat)
        case atStart => exact ⟨0, by omega, rfl, Lib.hid (fun j hj => by omega), Below.refl _ _⟩
        case round =>
          obtain ⟨k, hk, rfl, hg, hq⟩ := hrel
          have t1 := T1.out.on hq
          by_cases hlt : k < n
          · have hck := HC.out.below hq hb0 k hlt
            have s0 : wr.cell? ⟨b, off + k * 3, none⟩ = some (.int .i64 (g k 0)) := hck 0 (by omega)
            have s1 := hck 1 (by omega)
            have s2 := hck 2 (by omega)
            have i1 : 0 ≤ (k : Int) ∧ (k : Int) < n := by omega
            have c1 := t1.c1
            have a0 := cell_regrown s0
            have a1 := cell_regrown s1
            have a2 := cell_regrown s2
            have a3 := cell_regrown t1.c1
            have kg := Lib.hid (Calls.grown_of (w := wr) (f := 71) fun W hW => refGamut_any (c := g k) (w := W))
            have heq := neq_col (g k) (gam (g k))
            cases hV : eqB (g k) (gam (g k)) with
            | true =>
              rw [hV] at heq
              have hg' : Hid (∀ j, j < k + 1 → InG (g j)) := Lib.hid (fun j hj => by
                by_cases e : j = k
                · subst e; exact of_eq_gam hV
                · exact hg.out j (by omega))
              unfold col at kg heq
              clear hV t1 s0 s1 s2 hck hg
              go_wp2
              refine wp_region_quiet_below (by kernel_rfl) (by kernel_rfl) ?_
              repeat (go_big_quiet_step (exact kg.out _ _))
              refine wpQuiet_nil ?_
              intro w1 hw1
              replace hw1 := below_of_regrown hw1
              clear a0 a1 a2 a3 c1
              go_wp2
              go_roundw
              case rel => exact ⟨k + 1, by omega, by go_num, hg', hq.trans (hw1.mono hq.size)⟩
              case measure => simp [intOf]; omega
            | false =>
              rw [hV] at heq
              have E2 := E'.out fun h => by rw [eq_gam_t (h k hlt)] at hV; cases hV
              have E3 := Lib.hid E2
              unfold col at kg heq
              clear hV t1 s0 s1 s2 hck hg E2
              go_wp2
              refine wp_region_quiet_below (by kernel_rfl) (by kernel_rfl) ?_
              repeat (go_big_quiet_step (exact kg.out _ _))
              refine wpQuiet_nil ?_
              intro w1 hw1
              replace hw1 := below_of_regrown hw1
              clear a0 a1 a2 a3 c1
              go_wp2
              go_ret
              exact ⟨ret_bool E3.out.symm, hb.trans ((hq.trans (hw1.mono hq.size)).mono hb.size)⟩
          · obtain rfl : k = n := by omega
            have c1 := t1.c1
            have E2 := Lib.hid (E.out hg.out)
            clear t1 hg
            go_wp2
            go_ret
            exact ⟨ret_bool E2.out.symm, hb.trans (hq.mono hb.size)⟩
      · have d3 : ((n : Int) != (M : Int)) = true := by simp; omega
        have E := Lib.hid (grB_f (n := n) (g := g) fun h : GrV N n g => h3 (by rw [h.2.2.1, hM]))
        clear hv hM h3
        go_enter Try.func49, Try.ntmps49
        go_wp2
        go_ret
        exact ⟨ret_bool E.out.symm, hb⟩


/-- One step of the bubble sort, and its steps. -/
def bst (o : Nat → Int) (p : Nat → Nat) (k : Nat) : Nat → Nat := if o (p k) < o (p (k + 1)) then swp p (k + 1) else p
def bub (o : Nat → Int) : Nat → (Nat → Nat)
  | 0 => fun k => k
  | n + 1 => bst o (bub o n) (n % 2)
theorem bst_t {o : Nat → Int} {p : Nat → Nat} {k : Nat} (h : o (p k) < o (p (k + 1))) : bst o p k = swp p (k + 1) := if_pos h
theorem bst_f {o : Nat → Int} {p : Nat → Nat} {k : Nat} (h : ¬ o (p k) < o (p (k + 1))) : bst o p k = p := if_neg h
theorem bub_ok (o : Nat → Int) : ∀ n, AxOk (bub o n)
  | 0 => fun _ h => h
  | n + 1 => by
    show AxOk (bst o (bub o n) (n % 2))
    by_cases h : o (bub o n (n % 2)) < o (bub o n (n % 2 + 1))
    · rw [bst_t h]; exact (bub_ok o n).swp (by omega)
    · rw [bst_f h]; exact bub_ok o n
theorem bub_axo (o : Nat → Int) : bub o 3 = axo o := by
  have e3 : bub o 3 = bst o (bst o (bub o 1) 1) 0 := rfl
  have ea : axo o = sft o (bub o 1) 2 := rfl
  have e1 : bub o 1 = bst o (fun k => k) 0 := rfl
  by_cases h : o (bub o 1 1) < o (bub o 1 2)
  · rw [e3, ea, bst_t h, sft_t h]; rfl
  · rw [e3, ea, bst_f h, sft_f h, bst_f]
    rw [e1]
    by_cases h1 : o 0 < o 1
    · rw [bst_t (p := fun k => k) (k := 0) h1]
      show ¬ o (swp (fun k => k) 1 0) < o (swp (fun k => k) 1 1)
      simp [swp]; omega
    · rw [bst_f (p := fun k => k) (k := 0) h1]; exact h1


theorem Tri.swap' {t : TypeId} {w : World} {b : Nat} {y : Nat → Nat} (h : Tri t w b (axs y)) {j : Nat} (hj : j + 1 < 3) :
    Tri t ((w.setCell ⟨b, j, none⟩ (.int .i64 (y (j + 1) : Nat))).setCell ⟨b, j + 1, none⟩ (.int .i64 (y j : Nat))) b (axs (swp y (j + 1))) := by
  have h1 := h.set (j := j) (d := fun k => if k = j then (y (j + 1) : Nat) else axs y k) (v := (y (j + 1) : Nat)) (by omega) (by simp) (fun i hi => by simp [hi])
  exact h1.set (j := j + 1) (d := axs (swp y (j + 1))) (v := (y j : Nat)) (by omega) (by simp [axs, swp]) (fun i hi => by
    by_cases e : i = j
    · subst e; simp [axs, swp]
    · simp [axs, swp, e, hi])

/-- The sum of the reference after k rounds. -/
def sx (N : Nat) (g : Nat → Nat → Int) (c : Nat → Int) (k i : Nat) : Int := if k = 4 then lkS N g c i else smV N (lkA N c) (lkO N c) g k i
def mixf (f h : Nat → Int) (q i : Nat) : Int := if i < q then h i else f i
theorem mixf_step {t : TypeId} {w : World} {b q : Nat} {f h : Nat → Int} {v : Int} (T : Tri t w b (mixf f h q)) (hq : q < 3) (hv : h q = v) : Tri t (w.setCell ⟨b, q, none⟩ (.int .i64 v)) b (mixf f h (q + 1)) :=
  T.set hq (by unfold mixf; rw [if_pos (by omega), hv]) (fun i hi => by unfold mixf; by_cases e : i < q <;> simp [e] <;> omega)

set_option maxRecDepth 100000 in
set_option maxHeartbeats 8000000 in
theorem refLook1_any {N n B : Nat} {v : Value} {g : Nat → Nat → Int} {c : Nat → Int} {w : World} (hG : GrV N n g) (hB : B ≤ w.heap.size) (hv : Cls w B v n g) :
    Calls Try.prog 54 #[.agg #[.int .i64 N, v], col c] w fun e w' => e = .returned (col (lkV N g c)) ∧ Below w.heap.size w w' := by
  have hn8 : 8 ≤ n := by rw [hG.2.2.1]; exact (cube_bd hG.1 hG.2.1).1
  have hn49 : n ≤ 4913 := by rw [hG.2.2.1]; exact (cube_bd hG.1 hG.2.1).2.1
  obtain ⟨gb, go, cap, rfl, hgb, hcc⟩ := hv.at (by omega)
  have HC := Lib.hid hcc
  have hgw : gb < w.heap.size := by omega
  obtain ⟨w0, h0, hb0, hz, t1, t2, t3⟩ := lookB_new w N (.slice (some ⟨gb, go, none⟩) n cap) c 31 28
  have T1 := Lib.hid t1
  have T2 := Lib.hid t2
  have T3 := Lib.hid t3
  have Z := Lib.hid hz
  have HG := Lib.hid hG
  have hN := hG.1
  have hN' := hG.2.1
  have d0 := t2.c0
  have d1 := t2.c1
  have d2 := t2.c2
  clear t1 t2 t3 hz hG hv hcc hgb
  unfold col
  go_enter Try.func54, Try.ntmps54
  go_wp2_with fail
  refine (refGamut_any (c := c)).mono ?_
  unfold col
  rintro e w1 ⟨rfl, hb1⟩
  have hq := hb0.trans (hb1.mono hb0.size)
  have hz1 : w.heap.size + 3 ≤ w1.heap.size := by have := hb1.size; have := Z.out; omega
  have t1 := T1.out.on hb1
  have t2 := T2.out.on hb1
  have t3 := T3.out.on hb1
  have x0 := t2.c0
  have x1 := t2.c1
  have x2 := t2.c2
  have y0 := t2.free 0
  have y1 := t2.free 1
  have y2 := t2.free 2
  obtain ⟨w2, h2⟩ : ∃ w2, ((w1.setCell ⟨w.heap.size + 1, 0, none⟩ (.int .i64 (gam c 0))).setCell ⟨w.heap.size + 1, 1, none⟩ (.int .i64 (gam c 1))).setCell ⟨w.heap.size + 1, 2, none⟩ (.int .i64 (gam c 2)) = w2 := ⟨_, rfl⟩
  have hz2 : w2.heap.size = w1.heap.size := by rw [← h2]; simp
  have U1 : Two 31 w2 w.heap.size (.int .i64 N) (.slice (some ⟨gb, go, none⟩) n cap) := by rw [← h2]; exact ((t1.keep (by omega)).keep (by omega)).keep (by omega)
  have U2 : Tri 28 w2 (w.heap.size + 1) (gam c) := by rw [← h2]; exact t2.set3 (gam c)
  have U3 : Tri 28 w2 (w.heap.size + 1 + 1) (fun _ => 0) := by rw [← h2]; exact ((t3.keep (by omega)).keep (by omega)).keep (by omega)
  have hq2 : Below w.heap.size w w2 := by rw [← h2]; exact set3_below hq (by omega) _ _ _
  obtain ⟨w3, h3⟩ : ∃ w3, w2.alloc (.cells #[.int .i64 0, .int .i64 0, .int .i64 0] 27) = w3 := ⟨_, rfl⟩
  have t4 : Tri 27 w3 w1.heap.size (fun _ => 0) := by rw [← h3, ← hz2]; exact Tri.new w2 (fun _ => 0) _
  have hb3 : Below w2.heap.size w2 w3 := by rw [← h3]; exact (Below.refl _ _).alloc (Nat.le_refl _) _
  obtain ⟨w4, h4⟩ : ∃ w4, w3.alloc (.cells #[.int .i64 0, .int .i64 0, .int .i64 0] 27) = w4 := ⟨_, rfl⟩
  have t5 : Tri 27 w4 w3.heap.size (fun _ => 0) := by rw [← h4]; exact Tri.new w3 (fun _ => 0) _
  have hb4 : Below w3.heap.size w3 w4 := by rw [← h4]; exact (Below.refl _ _).alloc (Nat.le_refl _) _
  have hb24 : Below w2.heap.size w2 w4 := hb3.trans (hb4.mono hb3.size)
  have hq4 := hq2.trans (hb24.mono hq2.size)
  have P1 := Lib.hid (U1.on hb24)
  have P2 := Lib.hid (U2.on hb24)
  have P3 := Lib.hid (U3.on hb24)
  have P4 : Hid (Tri 27 w4 w1.heap.size (upto (fun i => (lkA N c i : Int)) 0)) := Lib.hid ((t4.on hb4).congr rfl rfl rfl)
  have P5 : Hid (Tri 27 w4 w3.heap.size (upto (lkO N c) 0)) := Lib.hid (t5.congr rfl rfl rfl)
  have l1 : w.heap.size < w1.heap.size := by omega
  have l2 : w.heap.size + 1 < w1.heap.size := by omega
  have l3 : w.heap.size + 1 + 1 < w1.heap.size := by omega
  have l4 : w1.heap.size < w3.heap.size := t4.lt
  have hgam : ∀ k, k < 3 → 0 ≤ gam c k ∧ gam c k ≤ 65535 := fun k _ => clm_bd (by omega) (c k)
  clear t1 t2 t3 t4 t5 U1 U2 U3 d0 d1 d2 hb0 hb1 hb3 hb4 hb24 h0 hq hq2
  go_wp2
  clear h2 h3 h4 x0 x1 x2 y0 y1 y2 hz2
  go_loopw [7] (fun i wr => ∃ k : Nat, k ≤ 3 ∧ i = .int .i64 k ∧ Tri 27 wr w1.heap.size (upto (fun i => (lkA N c i : Int)) k) ∧ Tri 27 wr w3.heap.size (upto (lkO N c) k) ∧ Below w1.heap.size w4 wr) (fun i _ => 3 - (intOf i).toNat)
  case atStart => exact ⟨0, by omega, rfl, P4.out, P5.out, Below.refl _ _⟩
  case round =>
    obtain ⟨k, hk, rfl, t4, t5, hb⟩ := hrel
    by_cases hlt : k < 3
    · have t1 := P1.out.below hb l1
      have t2 := P2.out.below hb l2
      have hg := hgam k hlt
      have hA0 := lkA_int hN c k
      have hO0 : lkO N c k = gam c k * ((N : Int) - 1) - 65535 * (lkA N c k : Int) := rfl
      obtain ⟨g1, g2, g3⟩ := lk_bd hN hN' c k
      have c2 := t2.cell k hlt
      obtain ⟨V, hV⟩ : ∃ V, gam c k = V := ⟨_, rfl⟩
      obtain ⟨A, hA⟩ : ∃ A : Nat, lkA N c k = A := ⟨_, rfl⟩
      rw [hV] at hg hA0 hO0 c2
      rw [hA] at hA0 hO0 g1
      have hmn : ∀ (ts : Array TypeId) (t : TypeId) (w : World), (Builtin.min_ ts t #[.int .i64 (V * ((N : Int) - 1) / 65535), .int .i64 ((N : Int) - 2)]).run Try.prog w = .ok (.int .i64 (A : Int)) w := fun ts t w => by rw [run_min_int2 w ts t, hA0]
      obtain ⟨p1, p2⟩ := mul_bd (a := V) (A := 65535) (b := (N : Int) - 1) (B := 16) hg.1 hg.2 (by omega) (by omega)
      have i1 : 0 ≤ (k : Int) ∧ (k : Int) < 3 := by omega
      have r1 := cell_regrown t1.c0
      have r2 := cell_regrown c2
      have Q1 := Lib.hid t1
      have Q2 := Lib.hid t2
      have Q4 := Lib.hid t4
      have Q5 := Lib.hid t5
      have HO := Lib.hid hO0
      have HAk := Lib.hid hA
      have HVk := Lib.hid hV
      have hl23 : w1.heap.size < wr.heap.size := t4.lt
      clear t1 t2 t4 t5 hA0 hO0 hA hV c2
      go_wp2
      refine region_below_tail 14 (by kernel_rfl) (by kernel_rfl) ?_
      simp only [List.take_succ_cons, List.take_zero, List.drop_succ_cons, List.drop_zero]
      repeat (go_big_quiet_step (fail))
      refine wpQuiet_nil ?_
      intro w5 hw5
      replace hw5 := below_of_regrown hw5
      have t1 := Q1.out.on hw5
      have t2 := Q2.out.on hw5
      have t4 := Q4.out.on hw5
      have t5 := Q5.out.on hw5
      have c4 := t4.cell k hlt
      have f4 := t4.free k
      obtain ⟨w6, h6⟩ : ∃ w6, w5.setCell ⟨w1.heap.size, k, none⟩ (.int .i64 (A : Int)) = w6 := ⟨_, rfl⟩
      have u1 : Two 31 w6 w.heap.size (.int .i64 N) (.slice (some ⟨gb, go, none⟩) n cap) := by rw [← h6]; exact t1.keep (by omega)
      have u2 : Tri 28 w6 (w.heap.size + 1) (gam c) := by rw [← h6]; exact t2.keep (by omega)
      have u4 : Tri 27 w6 w1.heap.size (upto (fun i => (lkA N c i : Int)) (k + 1)) := by
        have := upto_step t4 hlt
        simp only [HAk.out] at this
        rw [h6] at this
        exact this
      have u5 : Tri 27 w6 w3.heap.size (upto (lkO N c) k) := by rw [← h6]; exact t5.keep (by omega)
      have e4 : w6.cell? ⟨w1.heap.size, k, none⟩ = some (.int .i64 (A : Int)) := by
        have := u4.cell k hlt
        rw [show upto (fun i => (lkA N c i : Int)) (k + 1) k = (A : Int) by unfold upto; rw [if_pos (by omega)]; exact congrArg (fun x : Nat => (x : Int)) HAk.out] at this
        exact this
      have e2 := u2.cell k hlt
      rw [HVk.out] at e2
      have hb6 : Below w1.heap.size w4 w6 := by rw [← h6]; exact (hb.trans (hw5.mono (by omega))).setCell (p := ⟨w1.heap.size, k, none⟩) (Nat.le_refl _) _
      have s1 := cell_regrown u1.c0
      have s2 := cell_regrown e2
      have s4 := cell_regrown e4
      have R4 := Lib.hid u4
      have R5 := Lib.hid u5
      have hl26 : w1.heap.size < w6.heap.size := u4.lt
      clear r1 r2 t1 t2 t4 t5 u1 u2 u4 u5 e2 e4
      go_wp2
      clear h6 c4 f4
      refine region_below_tail 14 (by kernel_rfl) (by kernel_rfl) ?_
      simp only [List.take_succ_cons, List.take_zero, List.drop_succ_cons, List.drop_zero]
      repeat (go_big_quiet_step (fail))
      refine wpQuiet_nil ?_
      intro w7 hw7
      replace hw7 := below_of_regrown hw7
      have t4 := R4.out.on hw7
      have t5 := R5.out.on hw7
      have c5 := t5.cell k hlt
      have f5 := t5.free k
      have S4 := Lib.hid t4
      have S5 := Lib.hid (upto_step t5 hlt)
      have hb7 := hb6.trans (hw7.mono (by omega))
      clear s1 s2 s4 t4 t5
      go_wp2
      go_roundw
      case rel => exact ⟨k + 1, by omega, by go_num, S4.out.keep (by omega), by rw [← HO.out]; exact S5.out, hb7.setCell (p := ⟨w3.heap.size, k, none⟩) (by simp; omega) _⟩
      case measure => simp [intOf]; omega
    · obtain rfl : k = 3 := by omega
      obtain ⟨wo, rfl⟩ : ∃ wo : World, wo = wr := ⟨_, rfl⟩
      have hqo := hq4.trans (hb.mono (by have := hq4.size; omega))
      have X1 := Lib.hid (P1.out.below hb l1)
      have X3 := Lib.hid (P3.out.below hb l3)
      have X4 := Lib.hid (upto_3 t4)
      have X5 := Lib.hid (upto_3 t5)
      have l5 : w3.heap.size < wo.heap.size := t5.lt
      obtain ⟨w6, h6⟩ : ∃ w6, wo.alloc (.cells #[.int .i64 0, .int .i64 1, .int .i64 2] 27) = w6 := ⟨_, rfl⟩
      have tx : Tri 27 w6 wo.heap.size (axs (bub (lkO N c) 0)) := by rw [← h6]; exact Tri.new wo (fun k => (k : Int)) 27
      have hb6 : Below wo.heap.size wo w6 := by rw [← h6]; exact (Below.refl _ _).alloc (Nat.le_refl _) _
      have hq6 := hqo.trans (hb6.mono hqo.size)
      have Y1 := Lib.hid (X1.out.on hb6)
      have Y3 := Lib.hid (X3.out.on hb6)
      have Y4 := Lib.hid (X4.out.on hb6)
      have Y5 := Lib.hid (X5.out.on hb6)
      have YX := Lib.hid tx
      clear t4 t5 tx hb hqo hb6 P1 P2 P3 P4 P5
      go_wp2
      clear h6
      go_loopw [9] (fun i wr => ∃ (j m : Nat), i = .int .i64 j ∧ ((j = 0 ∧ m = 0) ∨ (j = 1 ∧ m = 2) ∨ (j = 2 ∧ m = 3)) ∧ Tri 27 wr wo.heap.size (axs (bub (lkO N c) m)) ∧ Below wo.heap.size w6 wr) (fun i _ => 2 - (intOf i).toNat)
      case atStart => exact ⟨0, 0, rfl, by omega, YX.out, Below.refl _ _⟩
      case round =>
        obtain ⟨j, m, rfl, hjm, tx, hb⟩ := hrel
        by_cases hj : j < 2
        · obtain ⟨wm, rfl⟩ : ∃ wm : World, wm = wr := ⟨_, rfl⟩
          have TX := Lib.hid tx
          clear tx
          go_wp2
          go_loopw [10] (fun i wr => ∃ k : Nat, k ≤ 2 - j ∧ i = .int .i64 k ∧ Tri 27 wr wo.heap.size (axs (bub (lkO N c) (m + k))) ∧ Below wo.heap.size w6 wr) (fun i _ => 2 - (intOf i).toNat)
          case atStart => exact ⟨0, by omega, rfl, TX.out, hb⟩
          case round =>
            obtain ⟨k, hk, rfl, tx, hb2⟩ := hrel
            by_cases hl : k < 2 - j
            · have t5 := Y5.out.below hb2 l5
              have hmod : (m + k) % 2 = k := by omega
              have hstep : bub (lkO N c) (m + k + 1) = bst (lkO N c) (bub (lkO N c) (m + k)) k := by
                show bst _ _ ((m + k) % 2) = _
                rw [hmod]
              have hok := bub_ok (lkO N c) (m + k)
              obtain ⟨p, hp⟩ : ∃ p, bub (lkO N c) (m + k) = p := ⟨_, rfl⟩
              rw [hp] at hstep hok tx
              have HS := Lib.hid hstep
              have TX := Lib.hid tx
              have a3 := hok k (by omega)
              have b3 := hok (k + 1) (by omega)
              have cx : wr.cell? ⟨wo.heap.size, k, none⟩ = some (.int .i64 ((p k : Nat) : Int)) := tx.cell k (by omega)
              have cy : wr.cell? ⟨wo.heap.size, k + 1, none⟩ = some (.int .i64 ((p (k + 1) : Nat) : Int)) := tx.cell (k + 1) (by omega)
              have ca := t5.cell (p k) a3
              have cb := t5.cell (p (k + 1)) b3
              have hsw := fun (W : World) (h : Tri 27 W wo.heap.size (axs p)) => h.swap' (j := k) (by omega)
              have HSW := Lib.hid hsw
              have i1 : 0 ≤ (k : Int) ∧ (k : Int) + 1 < 3 := by omega
              have i2 : 0 ≤ ((p k : Nat) : Int) ∧ ((p k : Nat) : Int) < 3 := by omega
              have i3 : 0 ≤ ((p (k + 1) : Nat) : Int) ∧ ((p (k + 1) : Nat) : Int) < 3 := by omega
              have hgo : ∀ W : World, Tri 27 W wo.heap.size (axs p) → W.cell? ⟨wo.heap.size, k, none⟩ = some (.int .i64 ((p k : Nat) : Int)) ∧ W.cell? ⟨wo.heap.size, k + 1, none⟩ = some (.int .i64 ((p (k + 1) : Nat) : Int)) := fun W h => ⟨h.cell k (by omega), h.cell (k + 1) (by omega)⟩
              have HGO := Lib.hid hgo
              have f0 := tx.free k
              have f1 := tx.free (k + 1)
              clear tx t5 hok hstep hp hsw hmod hgo
              by_cases hc : lkO N c (p k) < lkO N c (p (k + 1))
              · have E := Lib.hid (HS.out.trans (bst_t hc))
                have dc : decide (lkO N c (p k) < lkO N c (p (k + 1))) = true := decide_eq_true hc
                clear hc
                go_wp2
                go_quiet (fail)
                go_wp2
                go_roundw
                case rel => exact ⟨k + 1, by omega, by go_num, by rw [← Nat.add_assoc, E.out]; exact HSW.out _ (TX.out.on ((Drawn.of _).below _)), ((below_drewN hb2 _).setCell (p := ⟨wo.heap.size, k, none⟩) (Nat.le_refl _) _).setCell (p := ⟨wo.heap.size, k + 1, none⟩) (Nat.le_refl _) _⟩
                case measure => simp [intOf]; omega
              · have E := Lib.hid (HS.out.trans (bst_f hc))
                have dc : decide (lkO N c (p k) < lkO N c (p (k + 1))) = false := decide_eq_false hc
                clear hc
                go_wp2
                go_quiet (fail)
                go_wp2
                go_roundw
                case rel => exact ⟨k + 1, by omega, by go_num, by rw [← Nat.add_assoc, E.out]; exact TX.out.on ((Drawn.of _).below _), below_drewN hb2 _⟩
                case measure => simp [intOf]; omega
            · obtain rfl : k = 2 - j := by omega
              have TX := Lib.hid tx
              clear tx
              go_wp2
              go_roundw
              case rel => exact ⟨j + 1, m + (2 - j), by go_num, by omega, TX.out, hb2⟩
              case measure => simp [intOf]; omega
        · obtain ⟨rfl, rfl⟩ : j = 2 ∧ m = 3 := by omega
          obtain ⟨wp, rfl⟩ : ∃ wp : World, wp = wr := ⟨_, rfl⟩
          have hqp := hq6.trans (hb.mono (by have := hq6.size; omega))
          rw [bub_axo] at tx
          obtain ⟨w7, h7⟩ : ∃ w7, wp.alloc (.cells #[.int .i64 0, .int .i64 0, .int .i64 0] 27) = w7 := ⟨_, rfl⟩
          have ts : Tri 27 w7 wp.heap.size (fun _ => 0) := by rw [← h7]; exact Tri.new wp (fun _ => 0) _
          have hb7 : Below wp.heap.size wp w7 := by rw [← h7]; exact (Below.refl _ _).alloc (Nat.le_refl _) _
          have hq7 := hqp.trans (hb7.mono hqp.size)
          have l6 : wo.heap.size < wp.heap.size := tx.lt
          have Z1 := Lib.hid ((Y1.out.below hb (by omega)).on hb7)
          have Z3 := Lib.hid ((Y3.out.below hb (by omega)).on hb7)
          have Z4 : Hid (Tri 27 w7 w1.heap.size (axs (psn (lkA N c) (lkO N c) 0))) := Lib.hid (((Y4.out.below hb (by omega)).on hb7).congr rfl rfl rfl)
          have Z5 := Lib.hid ((Y5.out.below hb l5).on hb7)
          have ZX := Lib.hid (tx.on hb7)
          have Z6 : Hid (Tri 27 w7 wp.heap.size (sx N g c 0)) := Lib.hid (ts.congr rfl rfl rfl)
          have hob : ∀ i, i < 3 → 0 ≤ lkO N c i ∧ lkO N c i ≤ 65535 := fun i _ => (lk_bd hN hN' c i).2
          clear tx ts hb hb7 hqp hjm hj
          go_wp2
          clear h7
          go_loopw [13, 14] (fun l i wr => ∃ k : Nat, k ≤ 4 ∧ i = .int .i64 k ∧ l = .int .i64 (lft (lkO N c) (min k 3)) ∧ Two 31 wr w.heap.size (.int .i64 N) (.slice (some ⟨gb, go, none⟩) n cap) ∧ Tri 28 wr (w.heap.size + 1 + 1) (fun _ => 0) ∧ Tri 27 wr w1.heap.size (axs (psn (lkA N c) (lkO N c) (min k 3))) ∧ Tri 27 wr w3.heap.size (lkO N c) ∧ Tri 27 wr wo.heap.size (axs (axo (lkO N c))) ∧ Tri 27 wr wp.heap.size (sx N g c k) ∧ Below w.heap.size w wr) (fun _ i _ => 4 - (intOf i).toNat)
          case atStart => exact ⟨0, by omega, rfl, rfl, Z1.out, Z3.out, Z4.out, Z5.out, ZX.out, Z6.out, hq7⟩
          case round =>
            obtain ⟨k, hk, rfl, rfl, t1, t3, t4, t5, tx, t6, hq⟩ := hrel
            obtain ⟨wr0, rfl⟩ : ∃ wr0 : World, wr0 = wr := ⟨_, rfl⟩
            by_cases hlt : k < 3
            · have hpk : ∀ i, i < 3 → psn (lkA N c) (lkO N c) k i ≤ N - 1 := fun i _ => by
                have h1 := psn_le (lkA N c) (lkO N c) k i (by omega)
                have h2 := (lk_bd hN hN' c i).1
                omega
              have hr : ixN N (psn (lkA N c) (lkO N c) k) < n := by rw [HG.out.2.2.1]; exact ixN_lt hpk (by omega)
              have hgr := HG.out.2.2.2 _ hr
              have hcr := HC.out.below hq hgw _ hr
              have hl0 := lft_bd hob k (by omega)
              have hs0 := fun i (hi : i < 3) => smV_bd (A := lkA N c) (g := g) hN (fun i _ => (lk_bd hN hN' c i).1) hob (HG.out.2.2.1 ▸ HG.out.2.2.2) hi k (by omega)
              have hX3 := axo_lt (lkO N c) hlt
              have hle := lft_le hob k hlt
              have hl1 := lft_bd hob (k + 1) (by omega)
              obtain ⟨X, hX⟩ : ∃ X, axo (lkO N c) k = X := ⟨_, rfl⟩
              obtain ⟨O, hO⟩ : ∃ O, lkO N c X = O := ⟨_, rfl⟩
              have HLF : lft (lkO N c) (k + 1) = O := by simp only [lft]; rw [hX, hO]
              rw [HLF] at hl1 hle
              have HPS : Hid (∀ i, psn (lkA N c) (lkO N c) (k + 1) i = if i = X then psn (lkA N c) (lkO N c) k i + 1 else psn (lkA N c) (lkO N c) k i) := Lib.hid (fun i => by simp only [psn]; rw [hX])
              have cx : wr0.cell? ⟨wo.heap.size, k, none⟩ = some (.int .i64 ((axo (lkO N c) k : Nat) : Int)) := tx.cell k hlt
              rw [hX] at cx hX3
              have c5 := t5.cell X hX3
              rw [hO] at c5
              have i2 : 0 ≤ (X : Int) ∧ (X : Int) < 3 := by omega
              have e13 : lft (lkO N c) (min k 3) = lft (lkO N c) k := by rw [Nat.min_eq_left (by omega)]
              have e13p : psn (lkA N c) (lkO N c) (min k 3) = psn (lkA N c) (lkO N c) k := by rw [Nat.min_eq_left (by omega)]
              have HLF' := Lib.hid (show lft (lkO N c) (min (k + 1) 3) = O by rw [Nat.min_eq_left (by omega)]; exact HLF)
              have HP4 := Lib.hid (show psn (lkA N c) (lkO N c) (min (k + 1) 3) = psn (lkA N c) (lkO N c) (k + 1) by rw [Nat.min_eq_left (by omega)])
              rw [e13]
              rw [e13p] at t4
              obtain ⟨L, hL⟩ : ∃ L, lft (lkO N c) k = L := ⟨_, rfl⟩
              have HSX : Hid (∀ i, sx N g c (k + 1) i = sx N g c k i + (L - O) * g (ixN N (psn (lkA N c) (lkO N c) k)) i) := Lib.hid (fun i => by unfold sx; rw [if_neg (by omega), if_neg (by omega)]; simp only [smV]; rw [hX, hL, hO])
              have HSB : Hid (∀ i, i < 3 → 0 ≤ sx N g c k i ∧ sx N g c k i ≤ 4294836225) := Lib.hid (fun i hi => by unfold sx; rw [if_neg (by omega)]; have := hs0 i hi; omega)
              rw [hL] at hl0 hle
              rw [hL]
              have i1 : 0 ≤ (k : Int) ∧ (k : Int) < 4 := by omega
              have z0 : wr0.cell? ⟨w1.heap.size, 0, none⟩ = some (.int .i64 ((psn (lkA N c) (lkO N c) k 0 : Nat) : Int)) := t4.c0
              have z1 : wr0.cell? ⟨w1.heap.size, 1, none⟩ = some (.int .i64 ((psn (lkA N c) (lkO N c) k 1 : Nat) : Int)) := t4.c1
              have z2 : wr0.cell? ⟨w1.heap.size, 2, none⟩ = some (.int .i64 ((psn (lkA N c) (lkO N c) k 2 : Nat) : Int)) := t4.c2
              have b0 := hpk 0 (by omega)
              have b1 := hpk 1 (by omega)
              have b2 := hpk 2 (by omega)
              have eix : ((psn (lkA N c) (lkO N c) k 0 : Int) * (N : Int) + (psn (lkA N c) (lkO N c) k 1 : Int)) * (N : Int) + (psn (lkA N c) (lkO N c) k 2 : Int) = ((ixN N (psn (lkA N c) (lkO N c) k) : Nat) : Int) := by unfold ixN; simp
              have u0 := t1.c0
              have u1 := t1.c1
              have s0 := hcr 0 (by omega)
              have s1 := hcr 1 (by omega)
              have s2 := hcr 2 (by omega)
              rw [Nat.add_zero] at s0
              have Q1 := Lib.hid t1
              have Q3 := Lib.hid t3
              have Q4 := Lib.hid t4
              have Q5 := Lib.hid t5
              have QX := Lib.hid tx
              have ls : wp.heap.size < wr0.heap.size := t6.lt
              obtain ⟨r, hre⟩ : ∃ r, ixN N (psn (lkA N c) (lkO N c) k) = r := ⟨_, rfl⟩
              rw [hre] at hr hgr s0 s1 s2 eix HSX
              have HGR := Lib.hid hgr
              obtain ⟨w8, h8⟩ : ∃ w8, wr0.alloc (.cells #[.int .i64 (g r 0), .int .i64 (g r 1), .int .i64 (g r 2)] 28) = w8 := ⟨_, rfl⟩
              have tv : Tri 28 w8 wr0.heap.size (g r) := by rw [← h8]; exact Tri.new wr0 (g r) _
              have hb8 : Below wr0.heap.size wr0 w8 := by rw [← h8]; exact (Below.refl _ _).alloc (Nat.le_refl _) _
              have TV := Lib.hid tv
              have T6 : Hid (Tri 27 w8 wp.heap.size (mixf (sx N g c k) (sx N g c (k + 1)) 0)) := Lib.hid ((t6.on hb8).congr rfl rfl rfl)
              have hq8 := hq.trans (hb8.mono hq.size)
              have i3 : 0 ≤ (r : Int) ∧ (r : Int) < n := by omega
              obtain ⟨P0, hP0⟩ : ∃ P : Nat, psn (lkA N c) (lkO N c) k 0 = P := ⟨_, rfl⟩
              obtain ⟨P1', hP1⟩ : ∃ P : Nat, psn (lkA N c) (lkO N c) k 1 = P := ⟨_, rfl⟩
              obtain ⟨P2', hP2⟩ : ∃ P : Nat, psn (lkA N c) (lkO N c) k 2 = P := ⟨_, rfl⟩
              rw [hP0] at z0 b0 eix
              rw [hP1] at z1 b1 eix
              rw [hP2] at z2 b2 eix
              obtain ⟨p1, p2⟩ := mul_bd (a := (P0 : Int)) (A := 16) (b := (N : Int)) (B := 17) (by omega) (by omega) (by omega) (by omega)
              obtain ⟨p3, p4⟩ := mul_bd (a := (P0 : Int) * (N : Int) + (P1' : Int)) (A := 288) (b := (N : Int)) (B := 17) (by omega) (by omega) (by omega) (by omega)
              have R1 := Lib.hid (Q1.out.on hb8)
              have R3 := Lib.hid (Q3.out.on hb8)
              have R4 := Lib.hid (Q4.out.on hb8)
              have R5 := Lib.hid (Q5.out.on hb8)
              have RX := Lib.hid (QX.out.on hb8)
              have HOO := Lib.hid hO
              have HXX := Lib.hid hX
              clear hX hO HLF e13 e13p
              clear t1 t3 t4 t5 tx t6 tv hr hgr hcr hs0 hpk hre hb8 hL hP0 hP1 hP2
              go_wp2
              clear h8 s0 s1 s2 z0 z1 z2 u0 u1 p1 p2 p3 p4 eix cx c5
              go_loopw [17] (fun i wr => ∃ q : Nat, q ≤ 3 ∧ i = .int .i64 q ∧ Tri 27 wr wp.heap.size (mixf (sx N g c k) (sx N g c (k + 1)) q) ∧ Tri 28 wr wr0.heap.size (g r) ∧ Below wp.heap.size w8 wr) (fun i _ => 3 - (intOf i).toNat)
              case atStart => exact ⟨0, by omega, rfl, T6.out, TV.out, Below.refl _ _⟩
              case round =>
                obtain ⟨q, hq3, rfl, t6, tv, hb9⟩ := hrel
                by_cases hlq : q < 3
                · have hS := HSB.out q hlq
                  have hSX := HSX.out q
                  have hV := HGR.out q hlq
                  have c6 : wr.cell? ⟨wp.heap.size, q, none⟩ = some (.int .i64 (sx N g c k q)) := by have := t6.cell q hlq; rw [show mixf (sx N g c k) (sx N g c (k + 1)) q q = sx N g c k q from if_neg (by omega)] at this; exact this
                  have cv := tv.cell q hlq
                  generalize sx N g c k q = S at hS hSX c6
                  obtain ⟨V, hVe⟩ : ∃ V, g r q = V := ⟨_, rfl⟩
                  rw [hVe] at hV hSX cv
                  obtain ⟨m1, m2⟩ := mul_bd (a := (L - O)) (A := 65535) (b := V) (B := 65535) (by omega) (by omega) hV.1 hV.2
                  have e6 := cell_regrown c6
                  have ev := cell_regrown cv
                  have j1 : 0 ≤ (q : Int) ∧ (q : Int) < 3 := by omega
                  have U6 := Lib.hid t6
                  have UV := Lib.hid tv
                  have HX6 := Lib.hid hSX
                  have lw : wp.heap.size < wr.heap.size := t6.lt
                  clear t6 tv hSX hVe c6 cv
                  go_wp2
                  refine region_below_tail 11 (by kernel_rfl) (by kernel_rfl) ?_
                  simp only [List.take_succ_cons, List.take_zero, List.drop_succ_cons, List.drop_zero]
                  repeat (go_big_quiet_step (fail))
                  refine wpQuiet_nil ?_
                  intro w9 hw9
                  replace hw9 := below_of_regrown hw9
                  have t6 := U6.out.on hw9
                  have c6 := t6.cell q hlq
                  have f6 := t6.free q
                  have V6 := Lib.hid (mixf_step t6 hlq HX6.out)
                  have VV := Lib.hid (UV.out.on hw9)
                  have hb10 := hb9.trans (hw9.mono (by omega))
                  clear t6 e6 ev
                  go_wp2
                  go_roundw
                  case rel => exact ⟨q + 1, by omega, by go_num, V6.out, VV.out.keep (by omega), hb10.setCell (p := ⟨wp.heap.size, q, none⟩) (Nat.le_refl _) _⟩
                  case measure => simp [intOf]; omega
                · obtain rfl : q = 3 := by omega
                  have T6' : Hid (Tri 27 wr wp.heap.size (sx N g c (k + 1))) := Lib.hid (t6.congr rfl rfl rfl)
                  have hq9 := hq8.trans (hb9.mono (by have := hq8.size; omega))
                  have S1' := Lib.hid (R1.out.below hb9 (by omega))
                  have S3' := Lib.hid (R3.out.below hb9 (by omega))
                  have S5' := Lib.hid (R5.out.below hb9 (by omega))
                  have SX' := Lib.hid (RX.out.below hb9 (by omega))
                  have t4 := R4.out.below hb9 (by omega)
                  have tx := SX'.out
                  have cx : wr.cell? ⟨wo.heap.size, k, none⟩ = some (.int .i64 ((axo (lkO N c) k : Nat) : Int)) := tx.cell k hlt
                  rw [HXX.out] at cx
                  have c4 : wr.cell? ⟨w1.heap.size, X, none⟩ = some (.int .i64 ((psn (lkA N c) (lkO N c) k X : Nat) : Int)) := t4.cell X hX3
                  have f4 := t4.free X
                  have hpX : psn (lkA N c) (lkO N c) k X ≤ N - 1 := by have h1 := psn_le (lkA N c) (lkO N c) k X (by omega); have h2 := (lk_bd hN hN' c X).1; omega
                  have S4' := Lib.hid (t4.set (j := X) (d := axs (psn (lkA N c) (lkO N c) (k + 1))) (v := (psn (lkA N c) (lkO N c) k X : Nat) + 1) hX3 (by unfold axs; rw [HPS.out, if_pos rfl]; simp) (fun i hi => by unfold axs; rw [HPS.out, if_neg hi]))
                  generalize psn (lkA N c) (lkO N c) k X = PX' at *
                  clear t6 tv t4 tx
                  go_wp2
                  go_roundw
                  case rel => exact ⟨k + 1, by omega, by go_num, by rw [HLF'.out], S1'.out.keep (by omega), S3'.out.keep (by omega), by rw [HP4.out]; exact S4'.out, S5'.out.keep (by omega), SX'.out.keep (by omega), T6'.out.keep (by omega), hq9.setCell (by simp; omega) _⟩
                  case measure => simp [intOf]; omega
            · by_cases hlt3 : k = 3
              · subst hlt3
                have hpk : ∀ i, i < 3 → psn (lkA N c) (lkO N c) 3 i ≤ N - 1 := fun i _ => by
                  have h1 := psn_le (lkA N c) (lkO N c) 3 i (by omega)
                  have h2 := (lk_bd hN hN' c i).1
                  omega
                have hr : ixN N (psn (lkA N c) (lkO N c) 3) < n := by rw [HG.out.2.2.1]; exact ixN_lt hpk (by omega)
                have hgr := HG.out.2.2.2 _ hr
                have hcr := HC.out.below hq hgw _ hr
                have hl0 := lft_bd hob 3 (by omega)
                have hs0 := fun i (hi : i < 3) => smV_bd (A := lkA N c) (g := g) hN (fun i _ => (lk_bd hN hN' c i).1) hob (HG.out.2.2.1 ▸ HG.out.2.2.2) hi 3 (by omega)
                have e13 : lft (lkO N c) (min 3 3) = lft (lkO N c) 3 := rfl
                rw [e13]
                replace t4 : Tri 27 wr0 w1.heap.size (axs (psn (lkA N c) (lkO N c) 3)) := t4
                obtain ⟨L, hL⟩ : ∃ L, lft (lkO N c) 3 = L := ⟨_, rfl⟩
                have HSX : Hid (∀ i, sx N g c (3 + 1) i = sx N g c 3 i + L * g (ixN N (psn (lkA N c) (lkO N c) 3)) i) := Lib.hid (fun i => by unfold sx; rw [if_pos rfl, if_neg (by omega)]; unfold lkS; rw [hL])
                have HSB : Hid (∀ i, i < 3 → 0 ≤ sx N g c 3 i ∧ sx N g c 3 i ≤ 4294836225) := Lib.hid (fun i hi => by unfold sx; rw [if_neg (by omega)]; have := hs0 i hi; omega)
                have HLL := Lib.hid (show lft (lkO N c) (min (3 + 1) 3) = L from hL)
                rw [hL] at hl0
                rw [hL]
                have z0 : wr0.cell? ⟨w1.heap.size, 0, none⟩ = some (.int .i64 ((psn (lkA N c) (lkO N c) 3 0 : Nat) : Int)) := t4.c0
                have z1 : wr0.cell? ⟨w1.heap.size, 1, none⟩ = some (.int .i64 ((psn (lkA N c) (lkO N c) 3 1 : Nat) : Int)) := t4.c1
                have z2 : wr0.cell? ⟨w1.heap.size, 2, none⟩ = some (.int .i64 ((psn (lkA N c) (lkO N c) 3 2 : Nat) : Int)) := t4.c2
                have b0 := hpk 0 (by omega)
                have b1 := hpk 1 (by omega)
                have b2 := hpk 2 (by omega)
                have eix : ((psn (lkA N c) (lkO N c) 3 0 : Int) * (N : Int) + (psn (lkA N c) (lkO N c) 3 1 : Int)) * (N : Int) + (psn (lkA N c) (lkO N c) 3 2 : Int) = ((ixN N (psn (lkA N c) (lkO N c) 3) : Nat) : Int) := by unfold ixN; simp
                have u0 := t1.c0
                have u1 := t1.c1
                have s0 := hcr 0 (by omega)
                have s1 := hcr 1 (by omega)
                have s2 := hcr 2 (by omega)
                rw [Nat.add_zero] at s0
                have Q1 := Lib.hid t1
                have Q3 := Lib.hid t3
                have Q4 := Lib.hid t4
                have Q5 := Lib.hid t5
                have QX := Lib.hid tx
                have ls : wp.heap.size < wr0.heap.size := t6.lt
                obtain ⟨r, hre⟩ : ∃ r, ixN N (psn (lkA N c) (lkO N c) 3) = r := ⟨_, rfl⟩
                rw [hre] at hr hgr s0 s1 s2 eix HSX
                have HGR := Lib.hid hgr
                obtain ⟨w8, h8⟩ : ∃ w8, wr0.alloc (.cells #[.int .i64 (g r 0), .int .i64 (g r 1), .int .i64 (g r 2)] 28) = w8 := ⟨_, rfl⟩
                have tv : Tri 28 w8 wr0.heap.size (g r) := by rw [← h8]; exact Tri.new wr0 (g r) _
                have hb8 : Below wr0.heap.size wr0 w8 := by rw [← h8]; exact (Below.refl _ _).alloc (Nat.le_refl _) _
                have TV := Lib.hid tv
                have T6 : Hid (Tri 27 w8 wp.heap.size (mixf (sx N g c 3) (sx N g c (3 + 1)) 0)) := Lib.hid ((t6.on hb8).congr rfl rfl rfl)
                have hq8 := hq.trans (hb8.mono hq.size)
                have i3 : 0 ≤ (r : Int) ∧ (r : Int) < n := by omega
                obtain ⟨P0, hP0⟩ : ∃ P : Nat, psn (lkA N c) (lkO N c) 3 0 = P := ⟨_, rfl⟩
                obtain ⟨P1', hP1⟩ : ∃ P : Nat, psn (lkA N c) (lkO N c) 3 1 = P := ⟨_, rfl⟩
                obtain ⟨P2', hP2⟩ : ∃ P : Nat, psn (lkA N c) (lkO N c) 3 2 = P := ⟨_, rfl⟩
                rw [hP0] at z0 b0 eix
                rw [hP1] at z1 b1 eix
                rw [hP2] at z2 b2 eix
                obtain ⟨p1, p2⟩ := mul_bd (a := (P0 : Int)) (A := 16) (b := (N : Int)) (B := 17) (by omega) (by omega) (by omega) (by omega)
                obtain ⟨p3, p4⟩ := mul_bd (a := (P0 : Int) * (N : Int) + (P1' : Int)) (A := 288) (b := (N : Int)) (B := 17) (by omega) (by omega) (by omega) (by omega)
                have R1 := Lib.hid (Q1.out.on hb8)
                have R3 := Lib.hid (Q3.out.on hb8)
                have R4 := Lib.hid (Q4.out.on hb8)
                have R5 := Lib.hid (Q5.out.on hb8)
                have RX := Lib.hid (QX.out.on hb8)
                clear e13
                clear t1 t3 t4 t5 tx t6 tv hr hgr hcr hs0 hpk hre hb8 hL hP0 hP1 hP2
                go_wp2
                clear h8 s0 s1 s2 z0 z1 z2 u0 u1 p1 p2 p3 p4 eix
                go_loopw [17] (fun i wr => ∃ q : Nat, q ≤ 3 ∧ i = .int .i64 q ∧ Tri 27 wr wp.heap.size (mixf (sx N g c 3) (sx N g c (3 + 1)) q) ∧ Tri 28 wr wr0.heap.size (g r) ∧ Below wp.heap.size w8 wr) (fun i _ => 3 - (intOf i).toNat)
                case atStart => exact ⟨0, by omega, rfl, T6.out, TV.out, Below.refl _ _⟩
                case round =>
                  obtain ⟨q, hq3, rfl, t6, tv, hb9⟩ := hrel
                  by_cases hlq : q < 3
                  · have hS := HSB.out q hlq
                    have hSX := HSX.out q
                    have hV := HGR.out q hlq
                    have c6 : wr.cell? ⟨wp.heap.size, q, none⟩ = some (.int .i64 (sx N g c 3 q)) := by have := t6.cell q hlq; rw [show mixf (sx N g c 3) (sx N g c (3 + 1)) q q = sx N g c 3 q from if_neg (by omega)] at this; exact this
                    have cv := tv.cell q hlq
                    generalize sx N g c 3 q = S at hS hSX c6
                    obtain ⟨V, hVe⟩ : ∃ V, g r q = V := ⟨_, rfl⟩
                    rw [hVe] at hV hSX cv
                    obtain ⟨m1, m2⟩ := mul_bd (a := L) (A := 65535) (b := V) (B := 65535) (by omega) (by omega) hV.1 hV.2
                    have e6 := cell_regrown c6
                    have ev := cell_regrown cv
                    have j1 : 0 ≤ (q : Int) ∧ (q : Int) < 3 := by omega
                    have U6 := Lib.hid t6
                    have UV := Lib.hid tv
                    have HX6 := Lib.hid hSX
                    have lw : wp.heap.size < wr.heap.size := t6.lt
                    clear t6 tv hSX hVe c6 cv
                    go_wp2
                    refine region_below_tail 11 (by kernel_rfl) (by kernel_rfl) ?_
                    simp only [List.take_succ_cons, List.take_zero, List.drop_succ_cons, List.drop_zero]
                    repeat (go_big_quiet_step (fail))
                    refine wpQuiet_nil ?_
                    intro w9 hw9
                    replace hw9 := below_of_regrown hw9
                    have t6 := U6.out.on hw9
                    have c6 := t6.cell q hlq
                    have f6 := t6.free q
                    have V6 := Lib.hid (mixf_step t6 hlq HX6.out)
                    have VV := Lib.hid (UV.out.on hw9)
                    have hb10 := hb9.trans (hw9.mono (by omega))
                    clear t6 e6 ev
                    go_wp2
                    go_roundw
                    case rel => exact ⟨q + 1, by omega, by go_num, V6.out, VV.out.keep (by omega), hb10.setCell (p := ⟨wp.heap.size, q, none⟩) (Nat.le_refl _) _⟩
                    case measure => simp [intOf]; omega
                  · obtain rfl : q = 3 := by omega
                    have T6' : Hid (Tri 27 wr wp.heap.size (sx N g c (3 + 1))) := Lib.hid (t6.congr rfl rfl rfl)
                    have hq9 := hq8.trans (hb9.mono (by have := hq8.size; omega))
                    have S1' := Lib.hid (R1.out.below hb9 (by omega))
                    have S3' := Lib.hid (R3.out.below hb9 (by omega))
                    have S5' := Lib.hid (R5.out.below hb9 (by omega))
                    have SX' := Lib.hid (RX.out.below hb9 (by omega))
                    have t4 := R4.out.below hb9 (by omega)
                    have S4' := Lib.hid t4
                    clear t6 tv t4
                    go_wp2
                    go_roundw
                    case rel => exact ⟨4, by omega, by go_num, by rw [HLL.out], S1'.out, S3'.out, S4'.out, S5'.out, SX'.out, T6'.out, hq9⟩
                    case measure => simp [intOf]
              · obtain rfl : k = 4 := by omega
                have hb0 := lkS_bd HG.out c (i := 0) (by omega)
                have hb1 := lkS_bd HG.out c (i := 1) (by omega)
                have hb2 := lkS_bd HG.out c (i := 2) (by omega)
                have e0 : sx N g c 4 0 = lkS N g c 0 := rfl
                have e1 : sx N g c 4 1 = lkS N g c 1 := rfl
                have e2 : sx N g c 4 2 = lkS N g c 2 := rfl
                have z0 := t6.c0
                have z1 := t6.c1
                have z2 := t6.c2
                rw [e0] at z0
                rw [e1] at z1
                rw [e2] at z2
                have v0 : lkV N g c 0 = (lkS N g c 0 + 32767) / 65535 := rfl
                have v1 : lkV N g c 1 = (lkS N g c 1 + 32767) / 65535 := rfl
                have v2 : lkV N g c 2 = (lkS N g c 2 + 32767) / 65535 := rfl
                have x0 := t3.c0
                have x1 := t3.c1
                have x2 := t3.c2
                have y0 := t3.free 0
                have y1 := t3.free 1
                have y2 := t3.free 2
                generalize lkS N g c 0 = S0 at *
                generalize lkS N g c 1 = S1 at *
                generalize lkS N g c 2 = S2 at *
                have H0 := Lib.hid v0
                have H1 := Lib.hid v1
                have H2 := Lib.hid v2
                clear t1 t3 t4 t5 tx t6 v0 v1 v2 e0 e1 e2
                go_wp2
                refine bodyPost_ret (v := .agg #[.int .i64 ((S0 + 32767) / 65535), .int .i64 ((S1 + 32767) / 65535), .int .i64 ((S2 + 32767) / 65535)]) (by simp [results, Try.results54, go_sem, *]) rfl ?_
                exact ⟨by rw [H0.out, H1.out, H2.out], set3_below hq (by omega) _ _ _⟩


/-- What the reference returns, as cells. -/
def gotC (c : Nat → Int) (e : Int) : Array Value := #[.int .i64 (c 0), .int .i64 (c 1), .int .i64 (c 2), .int .i64 0, .slice none 0 0, .int .i64 0, .int .u8 0, .int .u8 0, .int .u8 0, .int .u8 0, .int .i64 e]
def Gotb (w : World) (b : Nat) (c : Nat → Int) (e : Int) : Prop := w.heap[b]? = some (.cells (gotC c e) 36 (0, 0))
theorem Gotb.on {w w' : World} {b : Nat} {c : Nat → Int} {e : Int} (h : Gotb w b c e) (hb : Below w.heap.size w w') : Gotb w' b c e := (hb.block b (Array.getElem?_eq_some_iff.1 h).1).trans h
theorem Gotb.lt {w : World} {b : Nat} {c : Nat → Int} {e : Int} (h : Gotb w b c e) : b < w.heap.size := (Array.getElem?_eq_some_iff.1 h).1
theorem info_got : (Try.prog.info? 36).map (·.size) = some 11 := by kernel_rfl

theorem lookG_new (w : World) (n : Int) (v : Value) (c : Nat → Int) (tg t : TypeId) : ∃ w0, ((w.alloc (.cells #[.int .i64 n, v] tg)).alloc (.cells #[.int .i64 (c 0), .int .i64 (c 1), .int .i64 (c 2)] t)).alloc (.cells #[.int .i64 0, .int .i64 0, .int .i64 0, .int .i64 0, .slice none 0 0, .int .i64 0, .int .u8 0, .int .u8 0, .int .u8 0, .int .u8 0, .int .i64 0] 36) = w0 ∧
    Below w.heap.size w w0 ∧ w0.heap.size = w.heap.size + 3 ∧ Two tg w0 w.heap.size (.int .i64 n) v ∧ Tri t w0 (w.heap.size + 1) c ∧ Gotb w0 (w.heap.size + 1 + 1) (fun _ => 0) 0 := by
  refine ⟨_, rfl, (((Below.refl _ w).alloc (Nat.le_refl _) _).alloc (by simp) _).alloc (by simp <;> omega) _, by simp, ((Two.new w _ v tg).alloc _).alloc _, ?_, ?_⟩
  · have h := Tri.new (w.alloc (.cells #[.int .i64 n, v] tg)) c t
    simp only [World.size_alloc] at h
    exact h.alloc _
  · have h := heap_alloc_new ((w.alloc (.cells #[.int .i64 n, v] tg)).alloc (.cells #[.int .i64 (c 0), .int .i64 (c 1), .int .i64 (c 2)] t)) (.cells (gotC (fun _ => 0) 0) 36)
    simp only [World.size_alloc] at h
    exact h

theorem got_one (c : Nat → Int) (e : Int) : (gotC c e).all (·.oneCell') = true := by simp [gotC, Value.oneCell']

set_option maxRecDepth 100000 in
set_option maxHeartbeats 2000000 in
theorem refLook_no {N n B : Nat} {v : Value} {g : Nat → Nat → Int} {c : Nat → Int} {w : World} (hN : N ≤ 1000000) (hB : B ≤ w.heap.size) (hv : Cls w B v n g) (hG : ¬ GrV N n g) :
    Calls Try.prog 24 #[.agg #[.int .i64 N, v], col c] w fun e w' => e = .returned (.agg (gotC (fun _ => 0) 1)) ∧ Below w.heap.size w w' := by
  obtain ⟨w0, h0, hb0, hz, t1, t2, t3⟩ := lookG_new w N v c 31 28
  have kv := Lib.hid (refGrid_any (g := g) (N := N) (w := w0) hN (Nat.le_trans hB hb0.size) (hv.below hb0 hB))
  rw [grB_f hG] at kv
  have T3 := Lib.hid t3
  have g0 := t1.c0
  have g1 := t1.c1
  have hsh := hv.shape
  obtain ⟨a, cap, rfl⟩ := hsh
  clear t1 t2 t3 hv hG
  unfold col
  go_enter Try.func24, Try.ntmps24
  go_wp2_with fail
  refine kv.out.mono ?_
  rintro e w1 ⟨rfl, hb1⟩
  have T3' := Lib.hid (T3.out.on hb1)
  have hq := hb0.trans (hb1.mono hb0.size)
  clear h0 g0 g1
  go_wp2_with (refine list_store (cs := gotC (fun _ => 0) 1) rfl 36 (.tmp 4) (.tmp 10) (by rfl) (by rfl) (by rfl) T3'.out info_got rfl (got_one _ _) ?_; intro W4 h4 hx; have h4' := Lib.hid h4; clear h4)
  refine bodyPost_ret (v := .agg (gotC (fun _ => 0) 1)) (results_cell_row rfl _ _ (w.heap.size + 1 + 1) _ _ _ _ rfl h4'.out Try.underlying36 rfl info_got) rfl ?_
  exact ⟨rfl, Exc.below hq hx (by omega) hq.size⟩

set_option maxRecDepth 100000 in
set_option maxHeartbeats 2000000 in
theorem refLook_yes {N n B : Nat} {v : Value} {g : Nat → Nat → Int} {c : Nat → Int} {w : World} (hB : B ≤ w.heap.size) (hv : Cls w B v n g) (hG : GrV N n g) :
    Calls Try.prog 24 #[.agg #[.int .i64 N, v], col c] w fun e w' => e = .returned (.agg (gotC (lkV N g c) 0)) ∧ Below w.heap.size w w' := by
  obtain ⟨w0, h0, hb0, hz, t1, t2, t3⟩ := lookG_new w N v c 31 28
  have kv := Lib.hid (refGrid_any (g := g) (N := N) (w := w0) (by have := hG.2.1; omega) (Nat.le_trans hB hb0.size) (hv.below hb0 hB))
  rw [grB_t hG] at kv
  have T1 := Lib.hid t1
  have T2 := Lib.hid t2
  have T3 := Lib.hid t3
  have g0 := t1.c0
  have g1 := t1.c1
  have HV := Lib.hid hv
  have HG := Lib.hid hG
  have hsh := hv.shape
  obtain ⟨a, cap, rfl⟩ := hsh
  clear t1 t2 t3 hv hG
  unfold col
  go_enter Try.func24, Try.ntmps24
  go_wp2_with fail
  refine kv.out.mono ?_
  rintro e w1 ⟨rfl, hb1⟩
  have hq := hb0.trans (hb1.mono hb0.size)
  have t1 := T1.out.on hb1
  have t2 := T2.out.on hb1
  have T3' := Lib.hid (T3.out.on hb1)
  have kl := Lib.hid (refLook1_any (c := c) (w := w1) HG.out (Nat.le_trans hB hq.size) (HV.out.below hq hB))
  unfold col at kl
  have d0 := t2.c0
  have d1 := t2.c1
  have d2 := t2.c2
  clear h0 g0 g1 hb1
  have g0 := t1.c0
  have g1 := t1.c1
  clear t1 t2
  go_wp2_with fail
  refine kl.out.mono ?_
  rintro e w2 ⟨rfl, hb2⟩
  have T4 := Lib.hid (T3'.out.on hb2)
  have hq2 := hq.trans (hb2.mono hq.size)
  clear g0 g1 d0 d1 d2
  go_wp2_with (refine list_store (cs := gotC (lkV N g c) 0) rfl 36 (.tmp 4) (.tmp 14) (by rfl) (by rfl) (by rfl) T4.out info_got rfl (got_one _ _) ?_; intro W4 h4 hx; have h4' := Lib.hid h4; clear h4)
  refine bodyPost_ret (v := .agg (gotC (lkV N g c) 0)) (results_cell_row rfl _ _ (w.heap.size + 1 + 1) _ _ _ _ rfl h4'.out Try.underlying36 rfl info_got) rfl ?_
  exact ⟨rfl, Exc.below hq2 hx (by omega) hq2.size⟩

end Go.Proofs.Ytmilljlkcbljpaa
