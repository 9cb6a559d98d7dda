/- sample: the table of a chain. -/
import Derived.Test.YtmilljlkcbljpaaSb
namespace Go.Proofs.Ytmilljlkcbljpaa
open Go.RowKit Go.Sort

set_option maxRecDepth 100000 in
set_option maxHeartbeats 4000000 in
theorem sample_any {n m B : Nat} {v : Value} {S : Nat → Sp} {w : World} (hn1 : 1 ≤ n) (hn : n ≤ 4096) (hm : 2 ≤ m) (hm' : m ≤ 17) (hB : B ≤ w.heap.size) (hc : Chn w B v n S) (hv : ∀ k, k < n → (S k).val = true) :
    Calls Try.prog 51 #[v, .int .i64 m] w fun e w' => ∃ x, e = .returned (.agg #[.int .i64 m, x]) ∧ w'.ownsRow w.heap.size 28 3 x (m * m * m) (vals3 (tabV S n m) (m * m * m)) ∧ Below w.heap.size w w' := by
  obtain ⟨w0, h0, hb0, hz, o1, t1, t2⟩ := sample_new w m 3 31
  obtain ⟨i0, hi, hz0, hz1, hz2⟩ := info_parts Try.info3
  have hmf : ∀ (fn : Fn) (first cap : Array Value) (w : World), (Instr.makeFunc fn first cap).run Try.prog w = .ok (.func fn first cap) w := fun _ _ _ _ => rfl
  obtain ⟨q1, q2, q3, q4⟩ := cube_bd hm hm'
  obtain ⟨M, hM⟩ : ∃ M, M = m * m * m := ⟨_, rfl⟩
  have HM := Lib.hid hM
  obtain ⟨w1, h1⟩ : ∃ w1, w0.setCell ⟨w.heap.size + 1 + 1, 1, none⟩ (.slice none 0 0) = w1 := ⟨_, rfl⟩
  have x0 := t2.c0
  have x1 := t2.c1
  have y0 := t2.free 0
  have y1 := t2.free 1
  have c1 := o1.cell
  have hb1 : Below w.heap.size w w1 := by rw [← h1]; exact hb0.setCell (by simp; omega) _
  have O1 : Hid (One 3 w1 w.heap.size (.int .i64 m)) := Lib.hid (by rw [← h1]; exact o1.keep (by omega))
  have T1 : Hid (Two 31 w1 (w.heap.size + 1) (.int .i64 0) (.slice none 0 0)) := Lib.hid (by rw [← h1]; exact t1.keep (by omega))
  have T2 : Hid (Two 31 w1 (w.heap.size + 1 + 1) (.int .i64 m) (.slice none 0 0)) := Lib.hid (by rw [← h1]; exact t2.set1 _)
  have c2 := O1.out.cell
  have Z := Lib.hid (show w1.heap.size = w.heap.size + 3 by rw [← h1]; simpa using hz)
  have HC := Lib.hid hc
  have HV := Lib.hid hv
  have n1 : (m : Int) * (m : Int) * (m : Int) = (M : Int) := by rw [hM]; simp
  have n2 : 4 ≤ (m : Int) * (m : Int) ∧ (m : Int) * (m : Int) ≤ 289 := by
    have : (m : Int) * (m : Int) = ((m * m : Nat) : Int) := by simp
    omega
  rw [← hM] at q1 q2
  clear o1 t1 t2 hz hc hv hM
  go_enter Try.func51, Try.ntmps51
  go_wp2
  clear h0 h1 x0 x1 y0 y1 c1 c2
  go_loopw [16] (fun i wr => ∃ (k : Nat) (x : Value), k ≤ M ∧ i = .int .i64 k ∧ One 3 wr w.heap.size (.int .i64 m) ∧ Two 31 wr (w.heap.size + 1) (.int .i64 0) (.slice none 0 0) ∧ Two 31 wr (w.heap.size + 1 + 1) (.int .i64 m) x ∧ wr.ownsRow (w.heap.size + 3) 28 3 x k (vals3 (tabV S n m) k) ∧ Below w.heap.size w wr) (fun i _ => M - (intOf i).toNat)
  case atStart => exact ⟨0, _, by omega, rfl, O1.out, T1.out, T2.out, World.ownsRow_nil _ _ _ _, hb1⟩
  case round =>
    obtain ⟨k, x, hk, rfl, o1, t1, t2, hown, hq⟩ := hrel
    by_cases hlt : k < M
    · obtain ⟨p0, p1, p2⟩ := place hm (by rw [← HM.out]; exact hlt)
      have kg0 := Lib.hid (Calls.grown_of (w := wr) (f := 83) fun W hW => (sample1_any hm hm' p0 (o1.on hW)).mono fun e w' ⟨he, hd⟩ => ⟨he, hd.below _⟩)
      have kg1 := Lib.hid (Calls.grown_of (w := wr) (f := 83) fun W hW => (sample1_any hm hm' p1 (o1.on hW)).mono fun e w' ⟨he, hd⟩ => ⟨he, hd.below _⟩)
      have kg2 := Lib.hid (Calls.grown_of (w := wr) (f := 83) fun W hW => (sample1_any hm hm' p2 (o1.on hW)).mono fun e w' ⟨he, hd⟩ => ⟨he, hd.below _⟩)
      have kc := Lib.hid (Calls.grown_of (w := wr) (f := 52) fun W hW => convert_any (c := crd m k) (w := W) hn1 hn (Nat.le_trans hB (Nat.le_trans hq.size hW.size)) (HC.out.below (hq.trans (hW.mono hq.size)) hB) HV.out)
      have kgm := Lib.hid (Calls.grown_of (w := wr) (f := 56) fun W hW => gamut_any (c := cnv S (crd m k) (n - 1)) (w := W))
      rw [← crd_0] at kg0
      rw [← crd_1] at kg1
      rw [← crd_2] at kg2
      obtain ⟨j0, hj0⟩ : ∃ j, j = k / (m * m) := ⟨_, rfl⟩
      obtain ⟨j1, hj1⟩ : ∃ j, j = k / m % m := ⟨_, rfl⟩
      obtain ⟨j2, hj2⟩ : ∃ j, j = k % m := ⟨_, rfl⟩
      have e0 : (k : Int) / ((m : Int) * (m : Int)) = (j0 : Int) := by rw [hj0]; simp
      obtain ⟨jj, hjj⟩ : ∃ j, j = k / m := ⟨_, rfl⟩
      have e1 : (k : Int) / (m : Int) = (jj : Int) := by rw [hjj]; simp
      have e3 : (jj : Int) % (m : Int) = (j1 : Int) := by rw [hj1, ← hjj]; simp
      have l3 : jj ≤ k := by rw [hjj]; exact Nat.div_le_self _ _
      have l0 : j0 < m := by rw [hj0]; exact p0
      have l1 : j1 < m := by rw [hj1]; exact p1
      have l2 : j2 < m := by rw [hj2]; exact p2
      have w1 : IntKind.i64.wrap (j0 : Int) = j0 := IntWalk.i64_in _ (by omega)
      have w2' : IntKind.i64.wrap (jj : Int) = jj := IntWalk.i64_in _ (by omega)
      have i3 : 0 ≤ (jj : Int) ∧ (jj : Int) ≤ 4913 := by omega
      have e2 : (k : Int) % (m : Int) = (j2 : Int) := by rw [hj2]; simp
      rw [← hj0] at kg0
      rw [← hj1] at kg1
      rw [← hj2] at kg2
      unfold col at kc kgm
      have d0 := cell_regrown o1.cell
      have d1 := cell_regrown t2.c1
      have P1 := Lib.hid o1
      have P2 := Lib.hid t1
      have P3 := Lib.hid t2
      have HO := Lib.hid hown
      clear o1 t1 t2 hown hj0 hj1 hj2 hjj p0 p1 p2
      go_wp2
      refine region_act3 2 23 2 (by kernel_rfl) (by kernel_rfl) (by kernel_rfl) rfl rfl (by kernel_rfl) (by kernel_rfl) (by kernel_rfl) (fun _ _ d _ _ h => by cases d <;> exact h) (fun a w' => build_mid rfl rfl a w') ?_
      simp only [List.take_succ_cons, List.take_zero, List.drop_succ_cons, List.drop_zero]
      refine pureW_step (.pointer (some ⟨w.heap.size + 1 + 1, 1, none⟩)) rfl (fun w' hw' => ?_) (fun K' hK' => ?_)
      · obtain ⟨p, rfl⟩ := hw'
        go_simp
      go_simp
      refine hK' _ ?_
      clear hK' K'
      refine pureW_step x rfl (fun w' hw' => ?_) (fun K' hK' => ?_)
      · obtain ⟨p, rfl⟩ := hw'
        go_simp
      go_simp
      refine hK' _ ?_
      clear hK' K'
      refine pureW_nil ?_
      change wpQuiet _ _ _ _ _ _
      repeat (go_big_quiet_step ((first | with_reducible exact kg0.out _ _ | with_reducible exact kg1.out _ _ | with_reducible exact kg2.out _ _ | with_reducible exact kc.out _ _ | with_reducible exact kgm.out _ _)))
      refine wpQuiet_nil ?_
      intro w5 hw2
      replace hw2 := below_of_regrown hw2
      have o1 := P1.out.on hw2
      have t1 := P2.out.on hw2
      have t2 := P3.out.on hw2
      have ho := own_below HO.out hw2
      have hq2 := hq.trans (hw2.mono hq.size)
      have hz := t2.lt
      have Q1 := Lib.hid (o1.alloc (.cells #[.int .i64 (gam (cnv S (crd m k) (n - 1)) 0), .int .i64 (gam (cnv S (crd m k) (n - 1)) 1), .int .i64 (gam (cnv S (crd m k) (n - 1)) 2)] 28))
      have Q2 := Lib.hid (t1.alloc (.cells #[.int .i64 (gam (cnv S (crd m k) (n - 1)) 0), .int .i64 (gam (cnv S (crd m k) (n - 1)) 1), .int .i64 (gam (cnv S (crd m k) (n - 1)) 2)] 28))
      have Q3 := Lib.hid (t2.alloc (.cells #[.int .i64 (gam (cnv S (crd m k) (n - 1)) 0), .int .i64 (gam (cnv S (crd m k) (n - 1)) 1), .int .i64 (gam (cnv S (crd m k) (n - 1)) 2)] 28))
      have HO2 := Lib.hid ho
      clear o1 t1 t2 ho e0 e1 e2 e3 w1
      go_wp2_with (at_builtin; refine wpList_append_own _ rfl _ _ 29 rfl (w.heap.size + 3) 28 i0 (.agg #[.int .i64 0, .int .i64 0, .int .i64 0]) 3 24 Try.underlying29 hi hz0 hz1 hz2 rfl (by decide) _ k (vals3 (tabV S n m) k) rfl (HO2.out.alloc _) ⟨w5.heap.size, 0, none⟩ 1 1 [.int .i64 (gam (cnv S (crd m k) (n - 1)) 0), .int .i64 (gam (cnv S (crd m k) (n - 1)) 1), .int .i64 (gam (cnv S (crd m k) (n - 1)) 2)] rfl rfl (cells_new3 _ _ _ _ _) (by simp [Value.oneCell']) (by unfold maxLen; omega) (by omega) (by simp; omega) ?_; intro x' w6 hown' hgrow _; obtain ⟨gb, cap', rfl⟩ := own_succ hown'; have hB6 := (Below.refl (w.heap.size + 3) _).grown hgrow (by simp; omega) (fun j hj => (HO2.out.lt j hj).1); have R1 := Lib.hid (Q1.out.below hB6 (by omega)); have R2 := Lib.hid (Q2.out.below hB6 (by omega)); have r3 := Q3.out.below hB6 (by omega); have c1 := r3.c1; have f1 := r3.free 1; have R3 := Lib.hid r3; have HO3 := Lib.hid hown'; clear r3 hown' hgrow)
      have hq6 := (hq2.alloc hq2.size (.cells #[.int .i64 (gam (cnv S (crd m k) (n - 1)) 0), .int .i64 (gam (cnv S (crd m k) (n - 1)) 1), .int .i64 (gam (cnv S (crd m k) (n - 1)) 2)] 28)).trans (below_le hB6 (by omega))
      go_roundw
      case rel => exact ⟨k + 1, _, by omega, by go_num, R1.out.keep (by omega), R2.out.keep (by omega), R3.out.set1 _, by rw [vals3_snoc]; exact own_keep HO3.out (by omega), hq6.setCell (by simp; omega) _⟩
      case measure => simp [intOf]; omega
    · obtain rfl : k = M := by omega
      have x0 := t2.c0
      have x1 := t2.c1
      have z0 := t1.c0
      have z1 := t1.c1
      have y0 := t1.free 0
      have y1 := t1.free 1
      have HO := Lib.hid hown
      obtain ⟨gb, cap', rfl⟩ := own_pos hown (by omega)
      clear t1 t2 o1 hown
      go_wp2
      refine bodyPost_ret (v := .agg #[.int .i64 m, .slice (some ⟨gb, 0, none⟩) k cap']) (by simp [results, Try.results51, go_sem, *]) rfl ?_
      exact ⟨_, rfl, by rw [← HM.out]; exact own_le (own_keep (own_keep HO.out (by omega)) (by omega)) (by omega), (hq.setCell (p := ⟨w.heap.size + 1, 0, none⟩) (by simp) _).setCell (p := ⟨w.heap.size + 1, 1, none⟩) (by simp) _⟩

end Go.Proofs.Ytmilljlkcbljpaa
